/- A part of the proof of the last text of this claim, without conditions. -/
import Derived.Test.YtjbigbaipmiihaaGreatB
import Derived.LaidEql
import Derived.Defers
import Derived.Recover
import Derived.ProofKit
import Derived.OpenShut
set_option maxRecDepth 4000
set_option linter.all false
namespace Go.Mt.ep
variable{Te:Array Oper}{X:bW}{st OG:St}
inductive Rh where
 |no
 |ix (l:List Nat)
 |all
structure Ef where
 d:Option Nat
 v:V
 rb:List Nat
 wb:List (Nat×List M)
 nw:Option Nat
 rh:Rh
 wh:List (Nat×Ob)
 tl:Option Hp
variable{es:List Ef}
def front(N:Nat)(H:Hp)(a:List (Nat×Ob)):Hp:=(List.range N).map λi=>match get a i with|some a=>a|none=>H.getD i .dead
def Ef.app(N:Nat)(e:Ef)(st:St):St:=
 ⟨match e.d with|some d=>(d,e.v)::st.sl|none=>st.sl,e.wb++st.bx,front N st.H e.wh++(match e.tl with|some t=>t|none=>st.H.drop N)⟩
def jL(N:Nat)(H:Hp)(a:List (Nat×Ob)):(front N H a).length=N:=by simp[front]
def ri(N:Nat)(H:Hp)(a:List (Nat×Ob))(t:Hp)(i:Nat)(hi:i<N):(front N H a++t).getD i .dead=match get a i with|some ob=>ob|none=>H.getD i .dead:=by
 have b:i<(front N H a).length:=by rw[jL];exact hi
 rw[atK,asl b];simp[front,hi]
def pN(N:Nat)(H:Hp)(a:List (Nat×Ob))(t:Hp):(front N H a++t).drop N=t:=by
 have h:=jL N H a;rw[auB (by omega)];simp[h]
structure Ag(N:Nat)(ops:Array Oper)(o:Oper)(e:Ef)(st a:St):Prop where
 sl:∀t∈o.looksAt ops,get a.sl t=get st.sl t
 bx:∀t∈e.rb++e.wb.map (·.1),get a.bx t=get st.bx t
 ix:∀l,e.rh=.ix l->∀i∈l,a.H.getD i .dead=st.H.getD i .dead
 all:e.rh=.all->(∀i,i<N->a.H.getD i .dead=st.H.getD i .dead)/\a.H.drop N=st.H.drop N
 len:N<=a.H.length
 nw:∀d,e.nw=some d->∀t o,get a.sl t≠some (.loc d o)
def lB(N:Nat)(X:bW)(ops:Array Oper)(o:Oper)(e:Ef)(st:St):Prop:=∀a,Ag N ops o e st a->IQ X ops o a (e.app N a)
inductive pK(N:Nat)(X:bW)(ops:Array Oper):List Oper->St->List Ef->St->Prop where
 |nil (st:St):pK N X ops [] st [] st
 |cons {o:Oper} {a:List Oper} {st b:St} {e:Ef} {c:List Ef} (h:lB N X ops o e st) (d:e.d=o.dst) (k:pK N X ops a (e.app N st) c b):pK N X ops (o::a) st (e::c) b
def iY(e f:Ef):Bool:=match f.rh with
 |.no=>false
 |.ix l=>e.wh.any λp=>has l p.1
 |.all=>(e.wh.any λp=>Nat.ble 0 p.1)||e.tl.isSome
def Am(N:Nat)(e:Ef):Bool:=
 (match e.rh with
 |.no=>(match e.wh with|[]=>true|_=>false)&&e.tl.isNone
 |.ix l=>(e.wh.all λp=>has l p.1)&&(l.all λi=>Nat.blt i N)&&e.tl.isNone
 |.all=>e.wh.all λp=>Nat.blt p.1 N)
def dH(ops:Array Oper)(x y:Oper)(e f:Ef):Bool:=
 (match x.dst with|some d=>has (slotsOf ops y) d|none=>false)||(match y.dst with|some d=>has (slotsOf ops x) d|none=>false)||
 (e.wb.any λp=>has (f.rb++f.wb.map (·.1)) p.1)||(f.wb.any λp=>has (e.rb++e.wb.map (·.1)) p.1)||
 iY e f||iY f e||
 (match e.nw,f.v with|some d,.loc u _=>Nat.beq u d|_,_=>false)
def q9(e f:Ef):Bool:=match f.nw,e.v with
 |some d,.loc u _=>Nat.beq u d
 |_,_=>false
def iH(ops:Array Oper)(x:Oper)(e:Ef)(i:Nat):List Oper->List Ef->List (List Nat)->Bool
 |y::a,f::c,b::d=>(!dH ops x y e f||has b i)&& !q9 e f&&iH ops x e i a c d
 |_,_,_=>true
def jB(ops:Array Oper):Nat->List Oper->List Ef->List (List Nat)->Bool
 |i,x::a,e::c,b::d=>iH ops x e i a c d&&jB ops (i+1) a c d
 |_,_,_,_=>true
def jC(sl:List (Nat×V)):List Ef->Bool
 |[]=>true
 |e::a=>(match e.nw with|some d=>iq d sl|none=>true)&&jC sl a
def gO(N:Nat)(ops:List Oper)(sl:List (Nat×V))(es:List Ef):Bool:=
 sN 0 ops&&jB ops.toArray 0 ops es (jA ops)&&jC sl es&&es.all (Am N)
def S(N:Nat)(st:St)(es:List Ef)(a:Nat->Bool):Nat->St
 |0=>st
 |k+1=>match es[k]? with
  |some e=>bif a k then e.app N (S N st es a k)else S N st es a k
  |none=>S N st es a k
structure Part(N:Nat)(a:Type)(es:List Ef)where
 r:St->a
 W:Nat->Bool
 c:Nat->a
 cH:∀k e s,es[k]?=some e->W k=false->r (e.app N s)=r s
 write:∀k e s,es[k]?=some e->W k=true->r (e.app N s)=c k
section parts
variable{N:Nat}{α:Type}{es:List Ef}(p:Part N α es){st:St}
def mF(L a:Nat->Bool):∀n,(∀k,k<n->p.W k=true->L k=a k)->p.r (S N st es L n)=p.r (S N st es a n)
 |0,_=>rfl
 |n+1,h=>by
  have d:=mF L a n (λk a=>h k (by omega));simp only[S];cases c:es[n]? with
  |none=>exact d
  |some e=>
   simp only;cases b:p.W n with
   |false=>
    cases f:L n<;>cases g:a n<;>simp only[as3,atV]<;>(try rw[p.cH n e _ c b])<;>(try rw[p.cH n e _ c b])<;>exact d
   |true=>
    have:=h n (by omega) b;rw[this];cases f:a n<;>simp only[as3,atV]
    .exact d
    .rw[p.write n e _ c b,p.write n e _ c b]
theorem q_(L:Nat->Bool)(i:Nat):∀n,i<=n->(∀k,i<=k->k<n->p.W k=true->L k=false)->p.r (S N st es L n)=p.r (S N st es L i)
 |0,a,_=>by
  grind
 |n+1,f,h=>by
  by_cases e:i=n+1
  .subst e;rfl
  .have a:=q_ L i n (by omega) (λk a b=>h k a (by omega));simp only[S];cases d:es[n]? with
   |none=>exact a
   |some e=>
    simp only;cases b:L n with
    |false=>exact a
    |true=>
     simp only[as3];cases c:p.W n with
     |false=>rw[p.cH n e _ d c];exact a
     |true=>rw[h n (by omega) (by omega) c]at b;cases b
def mg(L:Nat->Bool)(i m:Nat)(hi:i<=m)(a:∀k,k<i->p.W k=true->L k=true)(b:∀k,i<=k->k<m->p.W k=true->L k=false):
  p.r (S N st es L m)=p.r (S N st es (λ_=>true) i):=
 (q_ p L i m hi b).trans (mF p L _ i λk b c=>a k b c)
theorem sO(L:Nat->Bool)(i m:Nat)(hi:i<m)(e:Ef)(a:es[i]?=some e)(c:L i=false)(d:p.W i=true->∀k,i<k->k<m->p.W k=true->L k=false):
  p.r (S N st es (λk=>if k=i then true else L k) m)=p.r (e.app N (S N st es L m)):=by
 cases b:p.W i with
 |true=>
  rw[p.write i e _ a b];have:=q_ p (st:=st) (λk=>if k=i then true else L k) (i+1) m (by omega) (λk a a a=>by
   grind)
  rw[this];simp only[S,a,auz,as3];exact p.write i e _ a b
 |false=>
  rw[p.cH i e _ a b];exact mF p _ _ m λk a a=>by
   grind
end parts
section aeh
variable{N:Nat}
def kE(es:List Ef)(t:Nat):Part N (Option V) es where
 r s:=get s.sl t
 W k:=match es[k]? with
  |some e=>match e.d with|some d=>Nat.beq d t|none=>false
  |none=>false
 c k:=match es[k]? with|some e=>some e.v|none=>none
 cH k e s he hw:=by
  simp only[he]at hw;unfold Ef.app;cases hd:e.d with
  |none=>rfl
  |some d=>
   simp only[hd]at hw;have:d≠t:=by rintro rfl;simp at hw
   simp[bM,this]
 write k e s he hw:=by
  simp only[he]at hw⊢;unfold Ef.app;cases hd:e.d with
  |none=>simp[hd]at hw
  |some d=>
   simp only[hd]at hw;have:=asy hw;subst this;simp[bM]
def mh(es:List Ef)(t:Nat):Part N (Option (List M)) es where
 r s:=get s.bx t
 W k:=match es[k]? with
  |some e=>has (e.wb.map (·.1)) t
  |none=>false
 c k:=match es[k]? with|some e=>get e.wb t|none=>none
 cH k e s he hw:=by
  simp only[he]at hw;have h:=jJ e.wb t;rw[hw]at h;show get (e.wb++s.bx) t=_;rw[get_append];cases hg:get e.wb t with
  |none=>rfl
  |some v=>rw[hg]at h;cases h
 write k e s he hw:=by
  simp only[he]at hw⊢;have h:=jJ e.wb t;rw[hw]at h;show get (e.wb++s.bx) t=_;rw[get_append];cases hg:get e.wb t with
  |none=>rw[hg]at h;cases h
  |some v=>rfl
def vr(es:List Ef)(i:Nat)(hi:i<N):Part N Ob es where
 r s:=s.H.getD i .dead
 W k:=match es[k]? with
  |some e=>has (e.wh.map (·.1)) i
  |none=>false
 c k:=match es[k]? with|some e=>(get e.wh i).getD .dead|none=>.dead
 cH k e s he hw:=by
  simp only[he]at hw;have h:=jJ e.wh i;rw[hw]at h;unfold Ef.app;rw[ri _ _ _ _ _ hi];cases hg:get e.wh i with
  |none=>rfl
  |some v=>rw[hg]at h;cases h
 write k e s he hw:=by
  simp only[he]at hw⊢;have h:=jJ e.wh i;rw[hw]at h;unfold Ef.app;rw[ri _ _ _ _ _ hi];cases hg:get e.wh i with
  |none=>rw[hg]at h;cases h
  |some v=>rfl
def xF(es:List Ef):Part N Hp es where
 r s:=s.H.drop N
 W k:=match es[k]? with
  |some e=>e.tl.isSome
  |none=>false
 c k:=match es[k]? with|some e=>e.tl.getD []|none=>[]
 cH k e s he hw:=by
  simp only[he]at hw;unfold Ef.app;rw[pN];cases hh:e.tl with
  |none=>rfl
  |some h=>rw[hh]at hw;cases hw
 write k e s he hw:=by
  simp only[he]at hw⊢;unfold Ef.app;rw[pN];cases hh:e.tl with
  |none=>rw[hh]at hw;cases hw
  |some h=>rfl
def BW(st:St)(es:List Ef)(L:Nat->Bool)(h:N<=st.H.length):∀n,N<=(S N st es L n).H.length
 |0=>h
 |n+1=>by
  simp only[S];cases a:es[n]? with
  |none=>exact BW st es L h n
  |some e=>
   cases b:L n with
   |false=>exact BW st es L h n
   |true=>simp[Ef.app,jL]
def BX{A B:Hp}(b:N<=A.length)(c:N<=B.length)(d:∀i,i<N->A.getD i .dead=B.getD i .dead)(a:A.drop N=B.drop N):A=B:=by
 rw[<-as9 N A,<-as9 N B,a]
 congr 1
 apply List.ext_getElem
 .simp;omega
 .grind
def kh{x:Oper}{e:Ef}{i:Nat} :∀{g:List Oper} {k:List Ef} {l:List (List Nat)},iH Te x e i g k l=true->
  ∀(j:Nat) y f b,g[j]?=some y->k[j]?=some f->l[j]?=some b->(dH Te x y e f=true->i∈b)/\q9 e f=false
 |[],_,_,_,j,y,f,b,a,_,_=>by simp at a
 |_::_,[],_,_,j,y,f,b,_,a,_=>by simp at a
 |_::_,_::_,[],_,j,y,f,b,_,_,a=>by simp at a
 |n::g,o::k,p::l,h,j,y,f,b,a,c,d=>by
  simp only[iH,asH,at8,ats]at h;cases j with
  |zero=>
   simp at a c d;subst a;subst c;subst d;refine⟨λq=>?_,h.1.2⟩;rcases h.1.1 with m|m
   .grind
   .exact fU.1 m
  |succ j=>simp at a c d;exact kh h.2 j y f b a c d
def k9:∀{xs:List Oper} {es:List Ef} {l:List (List Nat)} {n:Nat},jB Te n xs es l=true->
  ∀(i j:Nat) x e y f b,i<j->xs[i]?=some x->es[i]?=some e->xs[j]?=some y->es[j]?=some f->l[j]?=some b->(dH Te x y e f=true->n+i∈b)/\q9 e f=false
 |[],_,_,n,_,i,j,x,e,y,f,b,_,a,_,_,_,_=>by simp at a
 |_::_,[],_,n,_,i,j,x,e,y,f,b,_,_,a,_,_,_=>by simp at a
 |_::_,_::_,[],n,_,i,j,x,e,y,f,b,_,_,_,_,_,a=>by simp at a
 |m::xs,o::es,p::l,n,k,i,j,x,e,y,f,b,q,a,c,g,h,d=>by
  simp only[jB,asH]at k;cases j with
  |zero=>omega
  |succ j=>
   cases i with
   |zero=>
    simp at a c g h d;subst a;subst c;exact kh k.1 j y f b g h d
   |succ i=>
    simp at a c g h d;have:=k9 k.2 i j x e y f b (by omega) a c g h d;rw[show n+(i+1)=n+1+i by omega];exact this
theorem gb(st:St)(es:List Ef):∀k,S N st es (λ_=>true) k=(es.take k).foldl (λs e=>e.app N s) st
 |0=>rfl
 |k+1=>by
  simp only[S];cases b:es[k]? with
  |none=>
   have a:es.length<=k:=by grind
   rw[gb st es k,ath a,ath (by omega)]
  |some e=>
   simp only[as3];rw[gb st es k];have a:k<es.length:=by grind
   rw[asA a,auM];have:es[k]=e:=by grind
   rw[this];rfl
def pK.spec{l:List Oper}(h:pK N X Te l st es OG):
  es.length=l.length/\OG=es.foldl (λs e=>e.app N s) st/\∀(i:Nat) o e,l[i]?=some o->es[i]?=some e->lB N X Te o e ((es.take i).foldl (λs e=>e.app N s) st)/\e.d=o.dst:=by
 induction h with
 |nil st=>exact⟨W,W,by simp⟩
 |cons h c k d=>
  obtain⟨f,g,j⟩:=d;refine⟨by simp[f],g,λi o e a b=>?_⟩;cases i with
  |zero=>simp at a b;subst a;subst b;exact⟨h,c⟩
  |succ i=>simp at a b;exact j i o e a b
def draw{id:Nat}{ops:List Oper}{post:Exit->St->Prop}(hm:X.P.follows .mixedOrders=true)(hN:N<=st.H.length)
  (Sx:pK N X ops.toArray ops st es OG) (OI:gO N ops st.sl es=true) (Px:post .normal OG):TC X (.region id ops.toArray true) st post:=by
 obtain⟨pm,d6,SC⟩:=Sx.spec;simp only[gO,asH]at OI;obtain⟨⟨⟨ZR,X2⟩,X3⟩,d7⟩:=OI;have hE:=p9 ZR;have R:=k9 X2;have YN:OG=S N st es (λ_=>true) ops.length:=by rw[gb,ath (by omega),d6]
 have A:∀(k:Nat) e,es[k]?=some e->∃o b,ops[k]?=some o/\(jA ops)[k]?=some b/\e.d=o.dst/\k<ops.length:=by
  intro k e a;have i:k<es.length:=by rcases asp k es.length with h|h;exact h;simp[asr h]at a
  have c:ops[k]?=some ops[k]:=by simp[show k<ops.length by omega]
  have g:k<(jA ops).length:=by rw[ov];omega
  exact⟨ops[k],(jA ops)[k],c,by simp[g],(SC k _ e c a).2,by omega⟩
 have X4:∀(k:Nat) e d,es[k]?=some e->e.nw=some d->iq d st.sl=true:=by
  have:∀(l:List Ef),jC st.sl l=true->∀(k:Nat) e d,l[k]?=some e->e.nw=some d->iq d st.sl=true:=by
   intro l
   induction l with
   |nil=>intro _ k e d h;simp at h
   |cons x l h=>
    intro c k e d a g;simp only[jC,asH]at c;cases k with
    |zero=>simp at a;subst a;simpa [g] using c.1
    |succ k=>simp at a;exact h c.2 k e d a g
  exact this es X3
 intro u z B;refine wp_region_any hm ?_;have i8:∀(y:Nat) (c:Array Bool) (u:Act) (z:World),c.size=ops.length->pF ops.length (λk=>c.getD k false)=y->
   (∀j b,c.getD j false=true->(jA ops)[j]?=some b->∀i∈b,c.getD i false=true)->
   Inv X (S N st es (λk=>c.getD k false) ops.length) u z->
   wpAny X.P .any ops.toArray (λe a g=>∃OG,post e OG/\Inv X OG a g) y c u z:=by
  intro y
  induction y with
  |zero=>
   intro c u z p j q l;have a:=tQ j;refine⟨?_,OG,Px,?_⟩
   .unfold Region.ready;rw[auV];intro i B;simp at B;have g:=a i B;have h:i<c.size:=by omega
    simp[h]at g;simp[h,g]
   .have e:S N st es (λk=>c.getD k false) ops.length=OG:=by
     rw[YN];have:∀n,n<=ops.length->S N st es (λk=>c.getD k false) n=S N st es (λ_=>true) n:=by
      intro n
      induction n with
      |zero=>intro _;rfl
      |succ n g=>
       intro h;simp only[S,g (by omega),a n (by omega)]
     exact this _ (asj _)
    rw[<-e];exact l
  |succ y ih=>
   intro c u z PV I U i9;have co:∀i,i∈Region.ready .any ops.toArray c↔i<ops.length/\c.getD i true=false/\∃o,ops[i]?=some o/\∀e∈o.after.toList,Region.binds .any e=true->c.getD e.on false=true:=by
    intro i;unfold Region.ready;rw[aum];simp only[atW,List.size_toArray,asH,ats,au1];constructor
    .rintro⟨a,p,j⟩;refine⟨a,p,ops[i],by simp[a],?_⟩;simp[a]at j;intro e l h;have r:e∈ops[i].after:=by simpa using l
     obtain⟨n,q,rfl⟩:=au2.1 r;rcases j n q with g|g
     .rw[g]at h;cases h
     .simpa using g
    .rintro⟨a,h,o,j,l⟩;refine⟨a,h,?_⟩;have:ops[i]=o:=by simpa [a] using j
     simp[a,this];intro n p;cases g:Region.binds .any o.after[n]with
     |false=>exact .inl rfl
     |true=>right;simpa using l o.after[n] (by simp) g
   refine⟨?_,?_⟩
   .intro n;obtain⟨i,a,g,l⟩:=yl (m:=ops.length) (f:= λk=>c.getD k false) (by omega);have:i∈Region.ready .any ops.toArray c:=by
     rw[co];have p:i<c.size:=by omega
     refine⟨a,by simp[p]at g⊢;exact g,ops[i],by simp[a],?_⟩;intro e h j;have:=hE i ops[i] (by simp[a]) e h j;exact l e.on (by omega)
    rw[n]at this;cases this
   .intro i d8;obtain⟨C,RT,o,w,X5⟩:=(co i).1 d8;have Rq:i<c.size:=by omega
    have n:c.getD i false=false:=by simp[Rq]at RT⊢;exact RT
    have YO:i<es.length:=by omega
    obtain⟨e,h⟩:∃e,es[i]?=some e:=⟨es[i],by simp[YO]⟩;have VB:i<(jA ops).length:=by rw[ov];exact C
    obtain⟨V,K⟩:∃b,(jA ops)[i]?=some b:=⟨(jA ops)[i],by simp[VB]⟩;have ah:∀k,k∈V->c.getD k false=true:=by
     intro k E;obtain⟨P,F,J,g⟩:=AG w K E;have q:=X5 P F J;rcases g with g|⟨T,h5,_,h6⟩
     .rw[<-g];exact q
     .exact U _ T q h5 k h6
    have G:∀(k:Nat) f,k<i->es[k]?=some f->∀x,ops[k]?=some x->dH ops.toArray x o f e=true->c.getD k false=true:=by
     intro k f g a x q I;have:=(R k i x f o e V g q a w h K).1 I;simp at this;exact ah k this
    have r:∀(k:Nat) f,i<k->es[k]?=some f->∀x,ops[k]?=some x->dH ops.toArray o x e f=true->c.getD k false=false:=by
     intro k f q a x F I;obtain⟨_,b,_,g,_,_⟩:=A k f a;have:=(R i k o e x f b q w h F a g).1 I;simp at this;cases E:c.getD k false with
     |false=>rfl
     |true=>rw[U k b E g i this]at n;cases n
    obtain⟨U2,mt⟩:=SC i o e w h;have d9:(es.take i).foldl (λs e=>e.app N s) st=S N st es (λ_=>true) i:=(gb st es i).symm;rw[d9]at U2;have L:∀t k,(kE (N:=N) es t).W k=true->∃f x,es[k]?=some f/\ops[k]?=some x/\f.d=some t/\x.dst=some t:=by
     intro t k g;simp only[kE]at g;split at g
     .rename_i f a;split at g
      .rename_i d q;have:=asy g;subst this;obtain⟨x,b,E,_,F,_⟩:=A k f a;exact⟨f,x,a,E,q,by rw[<-F];exact q⟩
      .cases g
     .cases g
    have O:∀t k,(mh (N:=N) es t).W k=true->∃f x,es[k]?=some f/\ops[k]?=some x/\t∈f.wb.map (·.1):=by
     intro t k g;simp only[mh]at g;split at g
     .rename_i f a;obtain⟨x,b,q,_,_,_⟩:=A k f a;exact⟨f,x,a,q,fU.1 g⟩
     .cases g
    have D:∀(j:Nat) (s:j<N) k,(vr es j s).W k=true->∃f x,es[k]?=some f/\ops[k]?=some x/\j∈f.wh.map (·.1):=by
     intro j s k g;simp only[vr]at g;split at g
     .rename_i f a;obtain⟨x,b,q,_,_,_⟩:=A k f a;exact⟨f,x,a,q,fU.1 g⟩
     .cases g
    have Q:∀k,(xF (N:=N) es).W k=true->∃f x,es[k]?=some f/\ops[k]?=some x/\f.tl.isSome=true:=by
     intro k g;simp only[xF]at g;split at g
     .rename_i f a;obtain⟨x,b,q,_,_,_⟩:=A k f a;exact⟨f,x,a,q,g⟩
     .cases g
    have ac:∀(k:Nat) f,es[k]?=some f->Am N f=true:= λk f a=>atC.1 d7 f (asn a)
    have Y:∀(l:List (Nat×Ob)) (g:List Nat) (t:Nat),t∈l.map (·.1)->t∈g->(l.any λp=>has g p.1)=true:=by
     intro l g t q E;rw[auc];obtain⟨p,F,rfl⟩:=asK.1 q;exact⟨p,F,fU.2 E⟩
    have Z:∀(l:List (Nat×Ob)) (t:Nat),t∈l.map (·.1)->(l.any λp=>Nat.ble 0 p.1)=true:=by
     intro l t g;rw[auc];obtain⟨p,q,rfl⟩:=asK.1 g;exact⟨p,q,by simp⟩
    have f4:∀(j:Nat) (f q:Ef),Am N q=true->j∈f.wh.map (·.1)->j∈q.wh.map (·.1)->iY f q=true:=by
     intro j f q g F T;unfold Am at g;unfold iY;obtain⟨p,E,rfl⟩:=asK.1 T;cases J:q.rh with
     |no=>rw[J]at g;simp at g;cases P:q.wh with
      |nil=>rw[P]at E;cases E
      |cons=>rw[P]at g;simp at g
     |ix l=>
      rw[J]at g;simp only[asH,atC]at g;exact Y f.wh l _ F (fU.1 (g.1.1 p E))
     |all=>simp only;rw[Z f.wh _ F];rfl
    have f8:∀(f g:Ef),Am N g=true->f.tl.isSome=true->g.tl.isSome=true->iY f g=true:=by
     intro f g q P E;unfold Am at q;unfold iY;cases F:g.rh with
     |no=>rw[F]at q;cases J:g.tl with
      |none=>rw[J]at E;cases E
      |some t=>rw[J]at q;simp at q
     |ix l=>rw[F]at q;cases J:g.tl with
      |none=>rw[J]at E;cases E
      |some t=>rw[J]at q;simp at q
     |all=>simp only;rw[P];simp
    have TA:∀(l:List (Nat×List M)) (g:List Nat) (t:Nat),t∈l.map (·.1)->t∈g->(l.any λp=>has g p.1)=true:=by
     intro l g t q E;rw[auc];obtain⟨p,F,rfl⟩:=asK.1 q;exact⟨p,F,fU.2 E⟩
    have f9:Ag N ops.toArray o e (S N st es (λ_=>true) i) (S N st es (λk=>c.getD k false) ops.length):=by
     refine⟨?_,?_,?_,?_,BW _ _ _ hN _,?_⟩
     .intro t g;refine mg (kE es t) _ i ops.length (by omega) ?_ ?_
      .intro k q F;obtain⟨f,x,a,E,_,J⟩:=L t k F;refine G k f q a x E ?_;have:has (slotsOf ops.toArray o) t=true:=fU.2 (by simp[slotsOf,g]);simp[dH,J,this]
      .intro k P T E;by_cases J:k=i
       .rw[J];exact n
       .obtain⟨f,x,a,q,_,F⟩:=L t k E;refine r k f (by omega) a x q ?_;have:has (slotsOf ops.toArray o) t=true:=fU.2 (by simp[slotsOf,g]);simp[dH,F,this]
     .intro t g;refine mg (mh es t) _ i ops.length (by omega) ?_ ?_
      .intro k q F;obtain⟨f,x,a,E,J⟩:=O t k F;refine G k f q a x E ?_;have:=TA f.wb _ t J g;simp[dH,this]
      .intro k P T E;by_cases F:k=i
       .rw[F];exact n
       .obtain⟨f,x,a,q,J⟩:=O t k E;refine r k f (by omega) a x q ?_;have:=TA f.wb _ t J g;simp[dH,this]
     .intro l g j s;have q:j<N:=by
       have:=ac i e h;unfold Am at this;rw[g]at this;simp only[asH,atC]at this;exact bN (this.1.2 j s)
      refine mg (vr es j q) _ i ops.length (by omega) ?_ ?_
      .intro k E J;obtain⟨f,x,a,F,P⟩:=D j q k J;refine G k f E a x F ?_;have:iY f e=true:=by unfold iY;rw[g];exact Y f.wh l j P s
       simp[dH,this]
      .intro k T O4 F;by_cases J:k=i
       .rw[J];exact n
       .obtain⟨f,x,a,E,P⟩:=D j q k F;refine r k f (by omega) a x E ?_;have:iY f e=true:=by unfold iY;rw[g];exact Y f.wh l j P s
        simp[dH,this]
     .intro g;refine⟨λj q=>?_,?_⟩
      .refine mg (vr es j q) _ i ops.length (by omega) ?_ ?_
       .intro k E J;obtain⟨f,x,a,F,P⟩:=D j q k J;refine G k f E a x F ?_;have:iY f e=true:=by unfold iY;rw[g];simp only;rw[Z f.wh j P];rfl
        simp[dH,this]
       .intro k T O4 F;by_cases J:k=i
        .rw[J];exact n
        .obtain⟨f,x,a,E,P⟩:=D j q k F;refine r k f (by omega) a x E ?_;have:iY f e=true:=by unfold iY;rw[g];simp only;rw[Z f.wh j P];rfl
         simp[dH,this]
      .refine mg (xF es) _ i ops.length (by omega) ?_ ?_
       .intro k E J;obtain⟨f,x,a,F,P⟩:=Q k J;refine G k f E a x F ?_;have:iY f e=true:=by unfold iY;rw[g];simp[P]
        simp[dH,this]
       .intro k T O4 F;by_cases J:k=i
        .rw[J];exact n
        .obtain⟨f,x,a,E,P⟩:=Q k F;refine r k f (by omega) a x E ?_;have:iY f e=true:=by unfold iY;rw[g];simp[P]
         simp[dH,this]
     .intro d T t oo g;have gc:∀q,q<=ops.length->get (S N st es (λk=>c.getD k false) q).sl t=some (.loc d oo)->False:=by
       intro q
       induction q with
       |zero=>
        intro _ g;exact yf (X4 i e d h T) g
       |succ q P=>
        intro hn g;simp only[S]at g;cases F:es[q]? with
        |none=>simp only[F]at g;exact P (by omega) g
        |some f=>
         simp only[F]at g;cases E:c.getD q false with
         |false=>rw[E]at g;exact P (by omega) g
         |true=>
          rw[E]at g;simp only[as3,Ef.app]at g;obtain⟨x,b,hx,hb,SD,_⟩:=A q f F;cases Qd:f.d with
          |none=>simp only[Qd]at g;exact P (by omega) g
          |some d'=>
           simp only[Qd]at g;rcases bO g with⟨_,J⟩|⟨_,J⟩
           .have OP:q≠i:=by rintro rfl;rw[E]at n;cases n
            rcases Nat.lt_or_gt_of_ne OP with OO|ge
            .have:=(R q i x f o e V OO hx F w h K).2;simp[q9,T,<-J]at this
            .have:=r q f ge F x hx (by simp[dH,T,<-J]);rw[this]at E;cases E
           .exact P (by omega) J
      exact gc _ (asj _) g
    have i6:=U2 _ f9;have ZS:∀g q,Inv X (e.app N (S N st es (λk=>c.getD k false) ops.length)) g q->wpAny X.P .any ops.toArray (λe g q=>∃OG,post e OG/\Inv X OG g q) y (c.setIfInBounds i true) g q:=by
     intro g q Rx;have F:(λk=>(c.setIfInBounds i true).getD k false)= λk=>if k=i then true else c.getD k false:=by
      funext k
      by_cases E:k=i
      .subst E;simp[Rq]
      .simp[E,atj (atf E)]
     refine ih _ g q (by simp[PV]) ?_ ?_ ?_
     .rw[F];have:=ym (m:=ops.length) (f:= λk=>c.getD k false) C n;omega
     .intro j b s E k J;have T:(if j=i then true else c.getD j false)=true:=by rw[<-congrFun F j];exact s
      have YP:(if k=i then true else c.getD k false)=true:=by
       by_cases P:k=i
       .simp[P]
       .rw[asu P];by_cases YQ:j=i
        .subst YQ;rw[K]at E;injection E with E;subst E
         exact ah k J
        .rw[asu YQ]at T;exact U j b T E k J
      rw[<-congrFun F k]at YP;exact YP
     .rw[F];have g1:∀t,get (S N st es (λk=>if k=i then true else c.getD k false) ops.length).sl t=get (e.app N (S N st es (λk=>c.getD k false) ops.length)).sl t:=by
       intro t;refine sO (kE es t) _ i ops.length C e h n ?_;intro VH k J O4 S7;obtain⟨f,x,a,P,_,T⟩:=L t k S7;obtain⟨f',x',PC,E,_,gc⟩:=L t i VH;rw[w]at E;injection E with E;subst E
       refine r k f J a x P ?_;have:has (slotsOf ops.toArray o) t=true:=fU.2 (by simp[slotsOf,gc]);simp[dH,T,this]
      have g2:∀t,get (S N st es (λk=>if k=i then true else c.getD k false) ops.length).bx t=get (e.app N (S N st es (λk=>c.getD k false) ops.length)).bx t:=by
       intro t;refine sO (mh es t) _ i ops.length C e h n ?_;intro VH k J O4 S7;obtain⟨f,x,a,P,T⟩:=O t k S7;obtain⟨f',x',E,PF,WI⟩:=O t i VH;rw[h]at E;injection E with E;subst E
       refine r k f J a x P ?_;have:=TA f.wb (e.rb++e.wb.map (·.1)) t T (ast.2 (.inr WI));simp[dH,this]
      have g3:(S N st es (λk=>if k=i then true else c.getD k false) ops.length).H=(e.app N (S N st es (λk=>c.getD k false) ops.length)).H:=by
       refine BX (N:=N) (BW _ _ _ hN _) (by simp[Ef.app,jL]) ?_ ?_
       .intro j J;refine sO (vr es j J) _ i ops.length C e h n ?_;intro VH k P O4 S7;obtain⟨f,x,a,T,RU⟩:=D j J k S7;obtain⟨f',x',E,PF,WI⟩:=D j J i VH;rw[h]at E;injection E with E;subst E
        refine r k f P a x T ?_;have:=f4 j f e (ac i e h) RU WI;simp[dH,this]
       .refine sO (xF es) _ i ops.length C e h n ?_;intro VH k J O4 S7;obtain⟨f,x,a,P,T⟩:=Q k S7;obtain⟨f',x',E,PF,WI⟩:=Q i VH;rw[h]at E;injection E with E;subst E
        refine r k f J a x P ?_;have:=f8 f e (ac i e h) T WI;simp[dH,this]
      have:=Inv.oh (X:=X) (sl:=(e.app N (S N st es (λk=>c.getD k false) ops.length)).sl) (bx:=(e.app N (S N st es (λk=>c.getD k false) ops.length)).bx) (H:=(e.app N (S N st es (λk=>c.getD k false) ops.length)).H)
       (O5:=(S N st es (λk=>if k=i then true else c.getD k false) ops.length).sl) (Po:=(S N st es (λk=>if k=i then true else c.getD k false) ops.length).bx) Rx
       (λt v a=>by rw[<-g1];exact a) g2
      rw[<-g3]at this;exact this
    have:=i6 u z i9 (wpAny X.P .any ops.toArray (λe a g=>∃OG,post e OG/\Inv X OG a g) y (c.setIfInBounds i true)) (λe a g=>∃OG,post e OG/\Inv X OG a g) ZS;unfold wpOp;have i7:ops.toArray[i]?=some o:=by simpa using w
    simp only[i7];split
    .rename_i g;rw[asB g]at this;exact .inl this
    .rename_i g;rw[asu g]at this;exact this
 refine i8 _ _ u _ (by simp) ?_ ?_ ?_
 .have:∀n,pF n (λk=>(Array.replicate ops.toArray.size false).getD k false)=n:=by
   intro n
   induction n with
   |zero=>rfl
   |succ n a=>
    simp only[pF,a];have:(Array.replicate ops.toArray.size false).getD n false=false:=by simp[atF];split<;>rfl
    rw[this];rfl
  simpa using this ops.length
 .intro j b a;have:(Array.replicate ops.toArray.size false).getD j false=false:=by simp[atF];split<;>rfl
  rw[this]at a;cases a
 .have h:∀a,S N st es (λk=>(Array.replicate ops.toArray.size false).getD k false) a=st:=by
   intro a
   induction a with
   |zero=>rfl
   |succ a g=>
    have:(Array.replicate ops.toArray.size false).getD a false=false:=by simp[atF];split<;>rfl
    simp only[S,g,this];cases es[a]?<;>rfl
  rw[h];obtain⟨g,i,rfl,B⟩:=B;exact⟨{g with w:={g.w with drawn:=g.w.drawn+1} },i,rfl,B.ext (gg.drew _)⟩
end aeh
end Go.Mt.ep
namespace Go.Mt
variable{X:bW}{σ:Sg}{OC:Nat->Nat}{st:St}{a:Act}
def Place(H:Hp)(ob:Ob)(n:Nat)(H':Hp):Prop:=(n=H.length/\H'=H++[ob])\/(H[n]?=some .free/\H'=H.set n ob)
def cC.IV(hi:cC X σ OC st a)(ob:Ob)(x:Obj)(j:Nat)(H:st.H[j]?=some .free)
  (I:∀τ:Sg,dI σ τ->τ.w={σ.w with heap:=σ.w.heap.push x} ->gM τ σ.w.heap.size ob):
  ∃τ:Sg,τ.w={σ.w with heap:=σ.w.heap.push x} /\τ.l j=σ.w.heap.size/\τ.H=st.H.set j ob/\dI σ τ/\cC X τ OC ⟨st.sl,st.bx,st.H.set j ob⟩ a:=by
 have u:σ.H[j]?=some .free:=by rw[hi.hH];exact H
 have J:j<σ.H.length:=by rcases asp j σ.H.length with h|h;exact h;simp[asr h]at u
 let b:=σ.w.heap.size
 let w:World:={σ.w with heap:=σ.w.heap.push x}
 let g:Nat->Nat:= λi=>if i=j then b else σ.l i
 let τ:Sg:=⟨w,λc o=>σ.O c o\/(c=b/\ob.jX o),g,σ.H.set j ob⟩
 have n:gg σ.w w:=gg.alloc _ _;have k:∀(i:Nat) o,σ.H[i]?=some o->o≠.free->(σ.H.set j ob)[i]?=some o/\g i=σ.l i:=by
  intro i o h r;have q:i≠j:=by rintro rfl;rw[u]at h;injection h with h;exact r h.symm
  exact⟨by rw[asv (atf q)];exact h,by simp[g,q]⟩
 have t:(σ.H.set j ob)[j]?=some ob:=by simp[J]
 have p:∀(i:Nat) o,(σ.H.set j ob)[i]?=some o->(σ.H[i]?=some o/\g i=σ.l i/\i≠j)\/(i=j/\o=ob):=by
  intro i o h;by_cases e:i=j
  .subst e;rw[t]at h;injection h with h;exact .inr ⟨W,h.symm⟩
  .rw[asv (atf e)]at h;exact .inl ⟨h,by simp[g,e],e⟩
 have s:dI σ τ:=by
  refine⟨λc o v f d=>⟨n.cell f,?_⟩,λi l h=>⟨⟨l,(k i _ h (by simp)).1⟩,(k i _ h (by simp)).2⟩,λi l h=>⟨⟨l,(k i _ h (by simp)).1⟩,(k i _ h (by simp)).2⟩,λi l h=>⟨⟨l,(k i _ h (by simp)).1⟩,(k i _ h (by simp)).2⟩,λi h=>(k i _ h (by simp)).1,
   λi r y q l h=>.inr ⟨r,q,l,(k i _ h (by simp)).1,asj _,λ_=>⟨(k i _ h (by simp)).2,rfl,λd T f=>⟨d,n.heap f,rfl⟩⟩⟩,λi h=>?_⟩
  .rintro(q|⟨q,_⟩)
   .exact d q
   .have:=l9 f;omega
  .by_cases e:i=j
   .subst e;exact⟨_,t⟩
   .exact⟨.free,by show(σ.H.set j ob)[i]?=_;rw[asv (atf e)];exact h⟩
 have A:∀(i:Nat) o,σ.H[i]?=some o->o.live->σ.l i<b:= λi o f d=>(hi.hinv.obj i o f).lt d
 have K:gM τ b ob:=I τ s W;have m:g j=b:=by simp[g]
 have M:kQ τ (ou X.j_ OC st.bx):=by
  refine⟨?_,?_,?_,?_,λc o h=>atm (hi.hinv.mE c o h) n.size⟩
  .intro i o h;rcases p i o h with⟨f,d,_⟩|⟨rfl,rfl⟩
   .show gM τ (g i) o;rw[d];exact(hi.hinv.obj i o f).cH s λx d=>n.heap d
   .show gM τ (g _) o;rw[m];exact K
  .intro i r x y f d z B q;change g i=g r at q;rcases p i x f with⟨C,D,_⟩|⟨rfl,rfl⟩<;>rcases p r y d with⟨E,F,_⟩|⟨rfl,rfl⟩
   .rw[D,F]at q;exact hi.hinv.inj i r x y C E z B q
   .rw[D,m]at q;have:=A i x C z;omega
   .rw[F,m]at q;have:=A r y E B;omega
   .rfl
  .intro c o;show(σ.O c o\/(c=b/\ob.jX o))↔_;rw[hi.hinv.own];constructor
   .rintro((h|⟨i,x,f,d,r⟩)|⟨rfl,d⟩)
    .exact .inl h
    .have q:x≠.free:=by rintro rfl;exact r
     exact .inr ⟨i,x,(k i x f q).1,(by show g i=c;rw[(k i x f q).2];exact d),r⟩
    .exact .inr ⟨j,ob,t,m,d⟩
   .rintro(h|⟨i,x,f,d,q⟩)
    .exact .inl (.inl h)
    .rcases p i x f with⟨r,y,_⟩|⟨rfl,rfl⟩
     .exact .inl (.inr ⟨i,x,r,by rw[<-y];exact d,q⟩)
     .exact .inr ⟨by rw[<-d];exact m,q⟩
  .intro i o f d r q;rcases p i o f with⟨z,B,_⟩|⟨rfl,rfl⟩
   .exact hi.hinv.sep i o z d r (by rw[<-B];exact q)
   .have y:ou X.j_ OC st.bx b r:=by rw[<-m];exact q
    have:=hi.hinv.mE _ _ y;exact Nat.lt_irrefl _ this
 have L:bF σ τ:=by
  refine⟨W,W,W,n.size,λc y _=>n.cy c y,?_⟩;intro i o f d;rcases p i o f with⟨q,r,_⟩|⟨rfl,rfl⟩
  .exact .inr ⟨o,q,d,r⟩
  .exact .inl (by show _<=g _;rw[m];exact asj _)
 have G:τ.H=st.H.set j ob:=by show σ.H.set j ob=_;rw[hi.hH]
 refine⟨τ,W,m,G,s,?_⟩;have:=hi.heap s M (λt l h=>n.cy _ ((hi.box t l h).lt trivial)) L;rw[G]at this;exact this
def cC.place(hi:cC X σ OC st a){ob:Ob}{n:Nat}{H':Hp}(d:Place st.H ob n H')(x:Obj)
  (b:∀τ:Sg,dI σ τ->τ.w={σ.w with heap:=σ.w.heap.push x} ->gM τ σ.w.heap.size ob):
  ∃τ:Sg,τ.w={σ.w with heap:=σ.w.heap.push x} /\τ.l n=σ.w.heap.size/\τ.H[n]?=some ob/\dI σ τ/\cC X τ OC ⟨st.sl,st.bx,H'⟩ a:=by
 rcases d with⟨rfl,rfl⟩|⟨c,rfl⟩
 .obtain⟨τ,e,f,g,h,i⟩:=hi.newObj ob x b;exact⟨τ,e,by rw[<-hi.hH];exact f,by rw[g];simp,h,i⟩
 .obtain⟨τ,e,f,g,i,j⟩:=hi.IV ob x n c b;have k:n<st.H.length:=by rcases asp n st.H.length with h|h;exact h;simp[asr h]at c
  exact⟨τ,e,f,by rw[g];simp[k],i,j⟩
section ops
variable{X:bW}{st:St}{dst:Option Nat}{ty:Nat}{pos:String}{af:Array Edge}{g:Option (Nat×Bool)}{pn:Nat}{H':Hp}
end ops
end Go.Mt
namespace Go.Mt
variable{n T e nb len j aK k2:Nat}{x y:Operand}{z:D}{rows:List (List D)}{cs Pb:List M}{acc:Bool}{σ:Sg}{m my:M}
def BY(f:M->Option D):List M->Option (List D)
 |[]=>some []
 |m::r=>match f m with
  |some d=>match BY f r with
   |some a=>some (d::a)
   |none=>none
  |none=>none
def Gd(ec:Nat):Nat->List D->Option (List (List D))
 |0,l=>match l with
  |[]=>some []
  |_=>none
 |n+1,l=>match sub l 0 ec with
  |some r=>match Gd ec n (l.drop ec)with
   |some a=>some (r::a)
   |none=>none
  |none=>none
def EO(H:Hp):Nat->M->Option D
 |0,m=>match m with
  |.d x=>some x
  |_=>none
 |n+1,m=>match m with
  |.d x=>some x
  |.bC i c b=>bif Nat.beq b 0 then some .pD else
   match H[i]? with
   |some (.row true a v d)=>bif (Nat.beq v c&&Nat.blt 0 a)then
     (match BY (EO H n) d with
     |some c=>match Gd a b c with
      |some a=>some (.sl a)
      |none=>none
     |none=>none)else none
   |_=>none
  |.agg a=>match BY (EO H n) a with|some a=>some (.agg a)|none=>none
  |.fn f a=>match BY (EO H n) a with|some a=>some (.fn f a)|none=>none
  |_=>none
def Src(P:Program)(σ:Sg)(n:Nat)(v:Value)(cs:List M)(len:Nat):Prop:=
 (∀a:World,(Builtin.lenOf v).run P a=.ok len a)/\cs.length=len*n/\len<=140737488355328/\∃b:Array Value,(∀a:World,a.heap=σ.w.heap->(Builtin.firstCells n len v).run P a=.ok b a)/\b.size=len*n/\
  ∀(k:Nat) (m:M),cs[k]?=some m->∃u,b[k]?=some u/\RM σ m u/\flat u=true
def o5(H:Hp)(n:Nat):M->Option (List M×Nat)
 |.d (.sl a)=>bif l_ n a then some (aY a,a.length)else none
 |.d .pD=>some ([],0)
 |.bC i a e=>match H[i]? with
  |some (.row _ b c d)=>bif (Nat.beq n b&&Nat.beq a c)then some (d,e)else none
  |_=>none
 |_=>none
def BZ{P:Program}{x:Nat->Nat->Prop}(hi:kQ σ x)(o:0<n){v:Value}(h:RM σ m v)(a:o5 σ.H n m=some (cs,len)):Src P σ n v cs len:=by
 unfold o5 at a;split at a
 .rename_i i;cases c:l_ n i with
  |false=>simp[c]at a
  |true=>
   simp only[c,as3]at a;injection a with a;injection a with l e
   subst l;subst e;have f:=uC c;cases h with
   |d h=>
    obtain⟨p,q,s,t,y⟩:=h.firstCells (P:=P) o f;have g:i.length<=140737488355328:=by
     cases h with
     |slnil E=>simp
     |sl i b E N G val H I g J K L M=>exact g
    refine⟨q,uh f,g,p,s,t,λF m z=>?_⟩;obtain⟨j,k,r,d,rfl,e,A,rfl⟩:=yq o f z;obtain⟨u,B,C,D⟩:=y j k r d e A;exact⟨u,B,.d C,D⟩
 .injection a with a;injection a with e f
  subst e;subst f;cases h with
  |d h=>cases h with
   |pD c g=>
    cases c with
    |none=>exact⟨λ_=>by simp[Builtin.lenOf],by simp,by simp,#[],λ_ _=>by simp[Builtin.firstCells],by simp,by simp⟩
    |some c=>exact⟨λ_=>by simp[Builtin.lenOf],by simp,by simp,#[],λ_ _=>by simp[Builtin.firstCells,loadCells,loadCellsFrom],by simp,by simp⟩
 .rename_i l r M;split at a
  .rename_i N y z i s;cases c:(Nat.beq n y&&Nat.beq r z)with
   |false=>simp[c]at a
   |true=>
    simp only[c,as3]at a;injection a with a;injection a with g f
    subst g;subst f;simp only[asH]at c;have q:=asy c.1;have t:=asy c.2;subst q;subst t;cases h with
    |bC l r len O V X A=>
     obtain⟨g,f,Q,R,q,t⟩:=A N n i s;subst g;obtain⟨B,e,S,T,j,C,D,E,⟨F,G⟩,H⟩:=hi.obj l _ s;have I:j=M:=atv B (by rw[<-F,<-f]);subst I;have J:j*n<=e.size:=by rw[D];exact as5 _ E
     refine⟨λ_=>by simp[Builtin.lenOf],f,G,e.extract 0 (j*n),λK L=>?_,by simp;omega,λk m p=>?_⟩
     .simp only[Builtin.firstCells];exact vq (w:=K) (by rw[L];exact C) J
     .have U:k<i.length:=by rcases asp k i.length with h|h;exact h;simp[asr h]at p
      have u:k<e.size:=by omega
      refine⟨e[k],?_,H k m e[k] p (by simp[u])⟩;rw[atI,asB (by omega)];simp[u]
  .cases a
 .cases a
def cC.src{X:bW}{st:St}{OC:Nat->Nat}{a:Act}(h:cC X σ OC st a)(c:0<n)(d:st.ev x=some (.m m))(e:o5 st.H n m=some (cs,len)):Src X.P σ n (a.eval x) cs len:=by
 have b:=h.ev d;cases b with
 |m b=>exact BZ h.hinv c b (by rw[h.hH];exact e)
section ops
variable{X:bW}{st:St}{dst:Option Nat}{ty:Nat}{pos:String}{af:Array Edge}{g:Option (Nat×Bool)}{pn:Nat}{H':Hp}
def rj(acc:Bool)[ht:aU X.P T e][r:bY X.P e n][J:jR X.P e nb][K:gN X.P e z](L:Nat.blt 0 n=true)(PB:(bg z).length=n)
  (M:st.ev x=some (.m (.d (.sl [])))) (N:st.ev y=some (.m my)) (d:o5 st.H n my=some (Pb,k2)) (P:0<k2) (Pc:k2*nb<=140737488355328) (Q:Place st.H (.row acc n 0 Pb) pn H'):
  cL X ⟨dst,.call ⟨.builtin .append,#[x,y],#[T,T]⟩,ty,pos,af,g⟩ st (du (.m (.bC pn 0 k2)) ⟨st.sl,st.bx,H'⟩):=by
 intro h a s l;have t:=bN L;have f:=l.pE M;obtain⟨q,R,i2,S⟩:=rc r.size J.bytes;obtain⟨A,U,V⟩:=(gF K.zero).run;have ac:A.cells.size=n:=by have:=(ff (O:=a.O) (w:=a.w) V).cells.1;omega
 obtain⟨B,C,ah,o,D,Y,Z⟩:=l.src t N d;have d9:=P;generalize hu:h.eval x=u at f;generalize p:h.eval y=wv at B D;cases f with
 |slnil E=>
  let cap:=k2+a.w.tape a.w.drawn (.appendCap k2 0 e)%(2^63-k2)
  let c:=o++Builtin.zeroCells A.cells (cap-k2)
  have QT:k2<=cap:=at0 _ _;have F:c.size=cap*n:=by
   simp only[c,auN,lr,Y,ac];rw[<-at3];congr 1;omega
  have hd:cC X {a with w:=a.w.drew} s st h:=l.ext (gg.drew _);have VC:dI a {a with w:=a.w.drew} :=dI.ext (gg.drew _);obtain⟨i,G,g2,H,g4,g5⟩:=hd.place Q (.cells c e (0,0)) (by
   intro i hm p;refine⟨t,c,e,cap,k2,by rw[p];exact iW _ _,F,QT,⟨C,ah⟩,?_⟩;intro k m v Qy d;obtain⟨u,I,u2,u3⟩:=Z k m Qy;have OO:k<o.size:=by rcases asp k o.size with j|j;exact j;simp[asZ j]at I
   have:c[k]?=some u:=by simp only[c];rw[atJ OO];exact I
   rw[this]at d;injection d with d;subst d
   exact⟨(u2.mono VC).mono hm,u3⟩)
  refine dG.value (u:=.slice (some ⟨a.w.heap.size,0,none⟩) k2 cap) (w':=i.w) ?_ ⟨_,_,i,s,⟨W,W⟩,W,g5,?_⟩
  .have c1:¬k2<=0:=by omega
   have j:¬(((k2:Nat):Int)>IntKind.i64.max/\nb=0):=by
    rintro⟨f,h2⟩;have:((k2:Nat):Int)<=140737488355328:=by omega
    have h3:IntKind.i64.max=9223372036854775807:=by decide
    omega
   have c3:¬(Builtin.nextslicecap k2 0*nb>2^48):=by
    have f:=sP (R3:=k2) (cap:=0) (by omega);have:=as5 nb f;rw[au9]at this;omega
   have d8:(Builtin.firstCells n 0 (.slice E 0 0)).run X.P a.w.drew=.ok #[] a.w.drew:=by
    cases E<;>simp[Builtin.firstCells,loadCells,loadCellsFrom]
   have k:∀w:World,(typeInfo e).run X.P w=.ok q w:= λw=>by simp[typeInfo,program,Sem.run,R]
   have I:∀w:World,(underlying T).run X.P w=.ok (.slice e) w:= λw=>by simp[underlying,program,Sem.run,ht.u]
   simp only[execOp,resolve,invoke,builtin,Builtin.append_];simp only[Sem.run_bind,Sem.run_pure,Result.andThen_ok,aud,asT,atu,hu,p];simp[I,k,dt r.size];have YR:(Question.appendCap k2 0 e).cut (a.w.tape a.w.drawn (Question.appendCap k2 0 e))=cap:=rfl;have Ua:(Question.appendCap k2 0 e).forced=false:=rfl;have Ti:=D a.w.drew W;have co:¬k2=0:=by omega
   have d6:¬(9223372036854775807<((k2:Nat):Int)/\q.bytes=0):=by
    rintro⟨f,h2⟩;have h3:IntKind.i64.max=9223372036854775807:=by decide
    exact j ⟨by omega,by omega⟩
   have d7:¬(281474976710656<Builtin.nextslicecap k2 0*q.bytes):=by rw[S];omega
   simp only[B,co,d6,d7,Ua,Result.andThen_ok,aup,at7];rw[d8];simp only[Result.andThen_ok];rw[Ti];simp only[Result.andThen_ok,U,YR];simp[newRow,newObj,Sem.run,G,c]
  .have k:=g2;refine .m (.bC _ 0 k2 _ cap (.inr ⟨acc,n,0,Pb,H,asj _⟩) ?_);intro Q8 X7 OS j;rw[H]at j;simp at j;obtain⟨I,e2,e3⟩:=j;subst I;subst e2;subst e3;exact⟨by rw[k];rfl,C,c,e,by rw[k,G];exact iW _ _,F⟩
 |sl co b i cap k val c j E F G H I=>exact absurd W c
def yx{D E:IntKind}[ht:aU X.P T e][d:bY X.P e n][F:jR X.P e nb][G:gN X.P e z](H:Nat.blt 0 n=true)(l:(bg z).length=n)
  (I:st.ev x=some (.m (.d (.int D len)))) (J:st.ev y=some (.m (.d (.int E len)))) (Pc:len*nb<=140737488355328) (K:len<=140737488355328) (L:Place st.H (.row false n 0 (ey n len (bg z))) pn H'):
  cL X ⟨dst,.makeSlice T x y,ty,pos,af,g⟩ st (du (.m (.bC pn 0 len)) ⟨st.sl,st.bx,H'⟩):=by
 intro co a M f;have o:=bN H;have p:=f.kW I;have q:=f.kW J;obtain⟨k,N,i2,r⟩:=rc d.size F.bytes;obtain⟨v,O,P⟩:=(gF G.zero).run;have s:kV a ((bg z).map .d) v.cells:=(RM.d (ff P):RM a (.d z) v).cells W;have Q:v.cells.size=n:=by rw[s.1];simpa using l
 have t:kV a (ey n len (bg z)) ((Array.range (len*n)).map λi=>v.cells[i%v.cells.size]!):=by
  refine⟨by simp[ey],λi m u w b=>?_⟩;have A:i<len*n:=by
   rcases asp i (len*n)with h|h
   .exact h
   .rw[asZ (by simpa using h)]at b;cases b
  have V:i%n<n:=atY _ o;have C:i%n<(bg z).length:=by omega
  simp[ey,A,l]at w;simp[A,Q]at b;have R:i%n<v.cells.size:=by omega
  subst w;subst b;refine s.2 (i%n) _ _ ?_ ?_
  .simp[aso C]
  .simp[R]
 obtain⟨c,j,S,B,g4,U⟩:=f.place L (.cells ((Array.range (len*n)).map λi=>v.cells[i%v.cells.size]!) e (0,0)) (by
  intro c A C;refine⟨o,_,e,len,len,by rw[C];exact iW _ _,by simp,asj _,⟨by simp[ey],K⟩,?_⟩;intro b m u w h;exact⟨(t.2 b m u w h).1.mono A,(t.2 b m u w h).2⟩)
 refine dG.value (u:=.slice (some ⟨a.w.heap.size,0,none⟩) len len) (w':=c.w) ?_ ⟨_,_,c,M,⟨W,W⟩,W,U,?_⟩
 .have b:∀w:World,(typeInfo e).run X.P w=.ok k w:= λw=>by simp[typeInfo,program,Sem.run,N]
  have A:∀w:World,(underlying T).run X.P w=.ok (.slice e) w:= λw=>by simp[underlying,program,Sem.run,ht.u]
  have R:IntKind.i64.wrap (len:Int)=len:=IntWalk.i64_in _ ⟨by omega,by omega⟩;have ac:¬((k.bytes:Int)*(len:Int)>2^48):=by
   rw[r];have:((len*nb:Nat):Int)<=140737488355328:=by omega
   rw[Int.natCast_mul,Int.mul_comm]at this;omega
  have V:¬((len:Int)<0):=by omega
  have ah:¬(len*k.bytes>roomBytes):=by rw[r];unfold roomBytes;omega
  by_cases C:len*n=0
  .have Y:len=0:=by
    rcases aul.1 C with h|h
    .exact h
    .omega
   subst Y;have h:Array.range 0=(#[]:Array Nat):=by decide
   have Z:IntKind.i64.wrap 0=0:=by decide
   simp only[execOp,Instr.makeSlice,p,q,asInt,asIntOf];simp[A,b,Z,dt d.size,askRoom,roomBytes,newRow,newObj,Sem.run,j,h]
  .simp only[execOp,Instr.makeSlice,p,q,asInt,asIntOf];simp[A,b,R,dt d.size,askRoom,newRow,newObj,Sem.run,j,ac,V,ah,C,O]
   first|done|omega|(split<;>first|rfl|omega)
 .have h:=S;refine .m (.bC _ 0 len _ len (.inr ⟨false,n,0,ey n len (bg z),B,asj _⟩) ?_);intro V Y Z b;rw[B]at b;simp at b;obtain⟨A,C,R⟩:=b;subst A;subst C;subst R;exact⟨by rw[h],by simp[ey],_,e,by rw[h,j];exact iW _ _,by simp⟩
def rl[ht:aU X.P T e][K:bY X.P e n][hb:jR X.P e nb][hz:gN X.P e z](PB:(bg z).length=n)
  (hx:st.ev x=some (.m (.bC j aK len))) (hy:st.ev y=some (.m my)) (d:o5 st.H n my=some (Pb,k2)) (o:st.H[j]?=some (.row acc n aK cs)) (Pc:(len+k2)*nb<=140737488355328) (V:len+k2<=140737488355328):
  cL X ⟨dst,.call ⟨.builtin .append,#[x,y],#[T,T]⟩,ty,pos,af,g⟩ st (du (.m (.bC j (aK+1) (len+k2))) ⟨st.sl,st.bx,st.H.set j (.row acc n (aK+1) (cs++Pb))⟩):=by
 intro H a L q;have r:=q.ev hx;have Y:a.H[j]?=some (.row acc n aK cs):=by rw[q.hH];exact o
 obtain⟨G,i1,i2,i3⟩:=rc K.size hb.bytes;obtain⟨Z,SO,SP⟩:=(gF hz.zero).run;have co:Z.cells.size=n:=by have:=(ff (O:=a.O) (w:=a.w) SP).cells.1;omega
 obtain⟨t,i,N,h,b,s,A,h5,⟨h6,WK⟩,C⟩:=q.hinv.obj j _ Y;obtain⟨Q,UC,f9,f,R,v3,v4⟩:=q.src t hy d;generalize hu:H.eval x=u at r;generalize hw:H.eval y=wv at Q R;have Ya:∀w:World,(typeInfo e).run X.P w=.ok G w:= λw=>by simp[typeInfo,program,Sem.run,i1]
 have P3:∀w:World,(underlying T).run X.P w=.ok (.slice e) w:= λw=>by simp[underlying,program,Sem.run,ht.u]
 cases r with
 |m r=>cases r with
  |bC j aK len ad cap gc P4=>
   obtain⟨e1,D,YI,T1,E,e4⟩:=P4 acc n cs Y;subst e1;rw[s]at E;injection E with E;injection E with e5 e6
   subst e5;subst e6;have QT:h=cap:=atv t (by rw[<-A,<-e4]);subst QT;have Sl:b=len:=atv t (by rw[<-h6,<-D]);subst Sl;have B:(cs++Pb).length=(b+k2)*n:=by rw[asq,D,UC,at3]
   have YV:∀(k:Nat) (m:M),(cs++Pb)[k]?=some m->(k<cs.length/\cs[k]?=some m)\/(cs.length<=k/\∃u,f[k-cs.length]?=some u/\RM a m u/\flat u=true):=by
    intro k m p;rcases asp k cs.length with l|l
    .rw[asl l]at p;exact .inl ⟨l,p⟩
    .rw[ass l]at p;obtain⟨u,I,J,S⟩:=v4 _ m p;exact .inr ⟨l,u,I,J,S⟩
   have d6:∀v∈f.toList,flat v=true:=by
    intro v d;obtain⟨k,p⟩:=asJ.1 d;have RX:k<f.size:=by rcases asp k f.size with l|l;exact l;simp[asZ l]at p
    have S:k<Pb.length:=by omega
    obtain⟨u,I,U,J⟩:=v4 k Pb[k] (by simp[S]);have:f[k]?=some v:=by simpa using p
    rw[I]at this;injection this with this;subst this;exact J
   by_cases F:b+k2<=h
   .
    have V8:b*n+f.toList.length<=i.size:=by
     rw[A];simp[v3];rw[<-at3];exact as5 _ F
    have Pm:=nT (P:=X.P) (off:=b*n) f.toList 0 a.w i s (by simpa using V8) d6;simp only[auq]at Pm;have S:=gj s;have Ox:∀k,(eu i (b*n) f.toList)[k]?=if b*n<=k/\k<b*n+f.toList.length then f.toList[k-b*n]? else i[k]?:= λk=>ng _ _ _ _ V8
    obtain⟨J,g1,g2,g3,g4,g5⟩:=q.ra (j:=j) (b':=a.l j) (ob:=.row acc n aK cs) (PA:=.row acc n (aK+1) (cs++Pb)) (w':=c8 a.w (a.l j) (.cells (eu i (b*n) f.toList) N (0,0))) o trivial W W W (by rw[kB];exact asj _)
     (λc _ l=>jv l) (.inl W) (by
      intro ac v U l;have ah:acc=true/\ac<cs.length:=by
       simp only[Ob.jX,not_or,Nat.not_le]at U;refine⟨?_,U.2⟩;cases acc
       .exact absurd W U.1
       .rfl
      refine⟨?_,λ_ p=>?_⟩
      .simp only[dZ,World.cell?,gm S];simp only[dZ,World.cell?,s]at l;simp at l⊢;rw[Ox,asu (by omega)];exact l
      .simp only[Ob.jX]at p;rcases p with p|p
       .rw[ah.1]at p;cases p
       .rw[B,at3]at p;omega) ⟨rfl,.inl (by omega)⟩ (by
      intro J hm SQ _ _;refine⟨t,_,N,h,b+k2,by rw[SQ];exact gm S,by rw[gr];exact A,F,⟨B,V⟩,?_⟩;intro k m v Qy d;rw[Ox]at d;rcases YV k m Qy with⟨hk,l⟩|⟨hk,u,u1,u2,u3⟩
      .rw[asu (by omega)]at d;exact⟨(C k m v l d).1.mono hm,(C k m v l d).2⟩
      .have RX:k-cs.length<f.size:=by rcases asp (k-cs.length) f.size with I|I;exact I;simp[asZ I]at u1
       rw[asB (by simp;omega)]at d;have:f.toList[k-b*n]?=some u:=by rw[<-D];simpa using u1
       rw[this]at d;injection d with d;subst d
       exact⟨u2.mono hm,u3⟩)
    refine dG.value (u:=.slice (some ⟨a.l j,0,none⟩) (b+k2) h) (w':=J.w) ?_ ⟨_,_,J,L,⟨W,W⟩,W,g5,?_⟩
    .simp only[execOp,resolve,invoke,builtin,Builtin.append_];simp only[Sem.run_bind,Sem.run_pure,Result.andThen_ok,aud,asT,atu,hu,hw];simp[P3,Ya,dt K.size,Q,F,R a.w W,lO,Pm,g1]
    .refine .m (.bC j (aK+1) (b+k2) _ h (.inr ⟨acc,n,aK+1,cs++Pb,by rw[g3];exact vo o,asj _⟩) ?_);intro Q8 X7 ac p;rw[g3]at p;have I:j<st.H.length:=by rcases asp j st.H.length with l|l;exact l;simp[asr l]at o
     simp[I]at p;obtain⟨U,f2,f3⟩:=p;subst U;subst f2;subst f3;exact⟨by rw[g2],B,_,N,by rw[g2,g1];exact gm S,by rw[gr];exact A⟩
   .
    let R3:=b+k2
    let cap:=R3+a.w.tape a.w.drawn (.appendCap R3 h e)%(2^63-R3)
    let l:=i.extract 0 (b*n)++f++Builtin.zeroCells Z.cells (cap-R3)
    have d7:R3<=cap:=at0 _ _;have U1:b*n<=i.size:=by rw[A];exact as5 _ h5
    have ac:(i.extract 0 (b*n)).size=b*n:=by simp;omega
    have ah:l.size=cap*n:=by
     simp only[l,auN,lr,v3,co,ac];rw[<-at3,<-at3];congr 1;omega
    have hd:cC X {a with w:=a.w.drew} L st H:=q.ext (gg.drew _);have VC:dI a {a with w:=a.w.drew} :=dI.ext (gg.drew _)
    let w':World:={a.w.drew with heap:=a.w.drew.heap.push (.cells l e (0,0))}
    have U:gg a.w.drew w':=gg.alloc _ _;have ZT:∀k,k<cs.length->l[k]?=i[k]?:=by
     intro k p;simp only[l];rw[Array.append_assoc,atJ (by omega),atI,asB (by omega)];simp
    have d8:∀k,cs.length<=k->k-cs.length<f.size->l[k]?=f[k-cs.length]?:=by
     intro k p I;simp only[l];rw[Array.append_assoc,at9 (by omega),atJ (by omega),ac,D]
    obtain⟨J,g1,g2,g3,g4,g5⟩:=hd.ra (j:=j) (b':=a.w.heap.size) (ob:=.row acc n aK cs) (PA:=.row acc n (aK+1) (cs++Pb)) (w':=w') o trivial W W W U.size
     (λc p _=>U.cy c p) (.inr (asj _)) (by
      intro f4 v ho p;exact⟨U.cell p,λb=>by have:=gj s;exact absurd b (by show ¬a.w.heap.size=a.l j;omega)⟩) ⟨rfl,.inl (by omega)⟩ (by
      intro J hm d9 _ _;refine⟨t,l,e,cap,R3,by rw[d9];exact iW _ _,ah,d7,⟨B,V⟩,?_⟩;intro k m v Qy d;rcases YV k m Qy with⟨S,p⟩|⟨S,u,u1,u2,u3⟩
      .rw[ZT k S]at d;exact⟨((C k m v p d).1.mono VC).mono hm,(C k m v p d).2⟩
      .have RX:k-cs.length<f.size:=by rcases asp (k-cs.length) f.size with I|I;exact I;simp[asZ I]at u1
       rw[d8 k S RX,u1]at d;injection d with d;subst d
       exact⟨(u2.mono VC).mono hm,u3⟩)
    refine dG.value (u:=.slice (some ⟨a.w.heap.size,0,none⟩) R3 cap) (w':=J.w) ?_ ⟨_,_,J,L,⟨W,W⟩,W,g5,?_⟩
    .have ge:¬(9223372036854775807<(((b+k2:Nat):Nat):Int)/\G.bytes=0):=by rintro⟨p,_⟩;omega
     have d9:¬(281474976710656<Builtin.nextslicecap (b+k2) h*G.bytes):=by
      rw[i3];have r:=sP (R3:=b+k2) (cap:=h) (by omega);have:=as5 nb r;rw[au9]at this;omega
     have I:(Question.appendCap (b+k2) h e).cut (a.w.tape a.w.drawn (Question.appendCap (b+k2) h e))=cap:=rfl;have S:(Question.appendCap (b+k2) h e).forced=false:=rfl;have Ti:=R a.w.drew W;have f8:(Builtin.firstCells n b (.slice (some ⟨a.l j,0,none⟩) b h)).run X.P a.w.drew=.ok (i.extract 0 (b*n)) a.w.drew:=by
      simp only[Builtin.firstCells];exact vq (w:=a.w.drew) s U1
     simp only[execOp,resolve,invoke,builtin,Builtin.append_];simp only[Sem.run_bind,Sem.run_pure,Result.andThen_ok,aud,asT,atu,hu,hw];simp[P3,Ya,dt K.size];simp only[Q,Result.andThen_ok];rw[asu F];have f4:¬(9223372036854775807<(b:Int)+(k2:Int)/\G.bytes=0):=by rintro⟨p,_⟩;omega
     simp only[f4,d9,S,aup,at7];rw[f8];simp only[Result.andThen_ok];rw[Ti];simp only[Result.andThen_ok,SO,I];simp[newRow,newObj,Sem.run,g1,l,w',R3];rfl
    .refine .m (.bC j (aK+1) R3 _ cap (.inr ⟨acc,n,aK+1,cs++Pb,by rw[g3];exact vo o,asj _⟩) ?_);intro Q8 X7 d9 I;rw[g3]at I;have S:j<st.H.length:=by rcases asp j st.H.length with p|p;exact p;simp[asr p]at o
     simp[S]at I;obtain⟨f1,f2,f3⟩:=I;subst f1;subst f2;subst f3;exact⟨by rw[g2],B,l,e,by rw[g2,g1];exact iW _ _,ah⟩
end ops
def Ge{H:Hp} :∀{rows:List (List D)},(∀r∈rows,r.length=n)->o5 H n (.d (.sl rows))=some (aY rows,rows.length):=by
 intro rows h;have:l_ n rows=true:=by
  induction rows with
  |nil=>rfl
  |cons r b a=>simp only[l_,asH];exact⟨by rw[h r asV];exact auH n,a λq a=>h q (asI _ a)⟩
 show(bif l_ n rows then some (aY rows,rows.length)else none)=_;rw[this];rfl
section ops
variable{X:bW}{st:St}{dst:Option Nat}{ty:Nat}{pos:String}{af:Array Edge}{g:Option (Nat×Bool)}
def w8(acc:Bool)[ht:aU X.P T e][c:bY X.P e n][d:jR X.P e nb][f:gN X.P e z](a:Nat.blt 0 n=true)(b:(bg z).length=n)
  (c:st.ev x=some (.m (.d (.sl [])))) (d:st.ev y=some (.m (.d (.sl rows)))) (f:rows≠[]) (h:∀r∈rows,r.length=n) (i:rows.length*nb<=140737488355328):
  cL X ⟨dst,.call ⟨.builtin .append,#[x,y],#[T,T]⟩,ty,pos,af,g⟩ st (du (.m (.bC st.H.length 0 rows.length)) ⟨st.sl,st.bx,st.H++[.row acc n 0 (aY rows)]⟩):=
 rj acc a b c d (Ge h) (auE.2 f) i (.inl ⟨rfl,rfl⟩)
def w9[ht:aU X.P T e][b:bY X.P e n][c:jR X.P e nb][d:gN X.P e z](a:(bg z).length=n)
  (b:st.ev x=some (.m (.bC j aK len))) (c:st.ev y=some (.m (.d (.sl rows)))) (d:st.H[j]?=some (.row acc n aK cs)) (f:∀r∈rows,r.length=n) (h:(len+rows.length)*nb<=140737488355328) (i:len+rows.length<=140737488355328):
  cL X ⟨dst,.call ⟨.builtin .append,#[x,y],#[T,T]⟩,ty,pos,af,g⟩ st (du (.m (.bC j (aK+1) (len+rows.length))) ⟨st.sl,st.bx,st.H.set j (.row acc n (aK+1) (cs++aY rows))⟩):=
 rl a b c (Ge f) d h i
end ops
section rules
variable{X:bW}{ops:Array Oper}{rest:List Oper}{post:St->Prop}{OZ:List Ef->St->Prop}{sl:List (Nat×V)}{bx:List (Nat×List M)}{H:Hp}{d ty:Nat}{pos:String}{af:Array Edge}
def iZ(acc:Bool)[ht:aU X.P T e][l:bY X.P e n][m:jR X.P e nb][o:gN X.P e z](a:Nat.blt d X.n=true)(b:bh sl x=some (.m (.d (.sl []))))(c:bh sl y=some (.m (.d (.sl rows))))(f:Nat.blt 0 n=true)(g:(bg z).length=n)(h:rows≠[])(i:∀r∈rows,r.length=n)(j:rows.length*nb<=140737488355328)(k:TL X ops rest ⟨(d,(.m (.bC H.length 0 rows.length)))::sl,bx,H++[Ob.row acc n 0 (aY rows)]⟩ post):TL X ops (⟨some d,.call ⟨.builtin .append,#[x,y],#[T,T]⟩,ty,pos,af,none⟩::rest) ⟨sl,bx,H⟩ post:=
 Pf W W a (w8 acc f g b c h i j) k
def yy(acc:Bool)[ht:aU X.P T e][b:bY X.P e n][o:jR X.P e nb][p:gN X.P e z](a:Nat.blt d X.n=true)(c:bh sl x=some (.m (.d (.sl []))))(f:bh sl y=some (.m (.d (.sl rows))))(h:Nat.blt 0 n=true)(i:(bg z).length=n)(j:rows≠[])(l:∀r∈rows,r.length=n)(m:rows.length*nb<=140737488355328)(k:TF X ops rest ⟨(d,(.m (.bC H.length 0 rows.length)))::sl,bx,H++[Ob.row acc n 0 (aY rows)]⟩ λa b=>OZ (⟨some d,(.m (.bC H.length 0 rows.length)),[],[],none,true,some (H++[Ob.row acc n 0 (aY rows)])⟩::a) b):TF X ops (⟨some d,.call ⟨.builtin .append,#[x,y],#[T,T]⟩,ty,pos,af,none⟩::rest) ⟨sl,bx,H⟩ OZ:=
 TF.cons (e:=⟨some d,(.m (.bC H.length 0 rows.length)),[],[],none,true,some (H++[Ob.row acc n 0 (aY rows)])⟩) (Qf W W (bN a) λo a=>(by have b:=a.H W;simp only at b;have:=(w8 (X:=X) (st:=o) (dst:=some d) (ty:=ty) (pos:=pos) (af:=af) (g:=none) (T:=T) acc h i ((a.ev (x:=x) (by simp[Op.operands,Call.operands])).trans c) ((a.ev (x:=y) (by simp[Op.operands,Call.operands])).trans f) j l m);rw[b]at this;exact this)) W k
def fW[ht:aU X.P T e][m:bY X.P e n][o:jR X.P e nb][p:gN X.P e z](a:Nat.blt d X.n=true)(b:bh sl x=some (.m (.bC j aK len)))(c:bh sl y=some (.m (.d (.sl rows))))(f:H[j]?=some (.row acc n aK cs))(g:(bg z).length=n)(h:∀r∈rows,r.length=n)(i:(len+rows.length)*nb<=140737488355328)(l:len+rows.length<=140737488355328)(k:TL X ops rest ⟨(d,(.m (.bC j (aK+1) (len+rows.length))))::sl,bx,H.set j (Ob.row acc n (aK+1) (cs++aY rows))⟩ post):TL X ops (⟨some d,.call ⟨.builtin .append,#[x,y],#[T,T]⟩,ty,pos,af,none⟩::rest) ⟨sl,bx,H⟩ post:=
 Pf W W a (w9 g b c f h i l) k
def yz[ht:aU X.P T e][b:bY X.P e n][p:jR X.P e nb][q:gN X.P e z](a:Nat.blt d X.n=true)(c:bh sl x=some (.m (.bC j aK len)))(f:bh sl y=some (.m (.d (.sl rows))))(h:H[j]?=some (.row acc n aK cs))(i:(bg z).length=n)(l:∀r∈rows,r.length=n)(m:(len+rows.length)*nb<=140737488355328)(o:len+rows.length<=140737488355328)(k:TF X ops rest ⟨(d,(.m (.bC j (aK+1) (len+rows.length))))::sl,bx,H.set j (Ob.row acc n (aK+1) (cs++aY rows))⟩ λa b=>OZ (⟨some d,(.m (.bC j (aK+1) (len+rows.length))),[],[],none,true,some (H.set j (Ob.row acc n (aK+1) (cs++aY rows)))⟩::a) b):TF X ops (⟨some d,.call ⟨.builtin .append,#[x,y],#[T,T]⟩,ty,pos,af,none⟩::rest) ⟨sl,bx,H⟩ OZ:=
 TF.cons (e:=⟨some d,(.m (.bC j (aK+1) (len+rows.length))),[],[],none,true,some (H.set j (Ob.row acc n (aK+1) (cs++aY rows)))⟩) (Qf W W (bN a) λp a=>(by have b:=a.H W;simp only at b;have:=(w9 (X:=X) (st:=p) (dst:=some d) (ty:=ty) (pos:=pos) (af:=af) (g:=none) (T:=T) i ((a.ev (x:=x) (by simp[Op.operands,Call.operands])).trans c) ((a.ev (x:=y) (by simp[Op.operands,Call.operands])).trans f) (by rw[a.H W];exact h) l m o);rw[b]at this;exact this)) W k
end rules
section walk
variable{X:bW}{ops:Array Oper}{rest:List Oper}{post:St->Prop}{sl:List (Nat×V)}{bx:List (Nat×List M)}{H:Hp}{d:Nat}{ty:Nat}{pos:String}{af:Array Edge}
def Gf[ht:aU X.P T e][j:bY X.P e n][l:jR X.P e nb][m:gN X.P e z](a:Nat.blt d X.n=true)(b:bh sl x=some (.m (.d (.sl []))))(c:bh sl y=some (.m (.d (.sl rows))))(f:Nat.blt 0 n=true)(g:(bg z).length=n)
  (h:∀r∈rows,r.length=n) (i:rows.length*nb<=140737488355328) (k:TL X ops rest ⟨(d,.m (uF H rows))::sl,bx,jS H n rows⟩ post):
  TL X ops (⟨some d,.call ⟨.builtin .append,#[x,y],#[T,T]⟩,ty,pos,af,none⟩::rest) ⟨sl,bx,H⟩ post:=by
 cases rows with
 |nil=>exact pL a b c k
 |cons q r=>exact iZ true a b c f g (by simp) h i k
def KL{r1 r2:List (List D)}[ht:aU X.P T e][B:bY X.P e n][C:jR X.P e nb][E:gN X.P e z](c:Nat.blt d X.n=true)(a:bh sl x=some (.m (uF H r1)))(f:bh sl y=some (.m (.d (.sl r2))))(p:Nat.blt 0 n=true)(j:(bg z).length=n)
  (s:∀r∈r1,r.length=n) (b:∀r∈r2,r.length=n) (l:(r1.length+r2.length)*nb<=140737488355328) (A:r1.length+r2.length<=140737488355328) (k:TL X ops rest ⟨(d,.m (.d (.sl (r1++r2))))::sl,bx,BV H n r1 r2⟩ post):
  TL X ops (⟨some d,.call ⟨.builtin .append,#[x,y],#[T,T]⟩,ty,pos,af,none⟩::rest) ⟨sl,bx,jS H n r1⟩ post:=by
 have o:∀(u v:V) (g:Hp),TL X ops rest ⟨(d,v)::sl,bx,g⟩ post->TL X ops rest ⟨(d,v)::(d,u)::sl,bx,g⟩ post:=by
  intro u v g h m w q;refine h m w (q.oh ?_ (λ_=>rfl));intro t x a;rw[bM]at a⊢;by_cases e:d=t
  .rw[asB e]at a⊢;exact a
  .rw[asu e]at a⊢;rw[bM,asu e];exact a
 cases r1 with
 |nil=>
  cases r2 with
  |nil=>exact pL c a f k
  |cons q r=>
   refine iZ true c a f p j (by simp) b (by simpa using l) ?_;refine TL.cq d (by rw[bM,asB W];rfl) (Acc.view (n:=n) (i:=H.length) (rs:=q::r) (.inr ⟨by simp,0,rfl,by simp[jS]⟩) b) ?_;exact o _ _ _ k
 |cons q r=>
  refine fW (acc:=true) (cs:=aY (q::r)) c a f (by simp[jS]) j b l A ?_;have e:(jS H n (q::r)).set H.length (.row true n (0+1) (aY (q::r)++aY r2))=BV H n (q::r) r2:=by simp[jS,BV]
  rw[e];refine TL.cq d (by rw[bM,asB W]) (Acc.view (n:=n) (i:=H.length) (rs:=q::r++r2) (.inr ⟨by simp,1,by simp;omega,by simp[BV,aY]⟩) (by
   intro m t;rcases ast.1 t with h|h
   .exact s m h
   .exact b m h)) ?_
  exact o _ _ _ k
end walk
end Go.Mt
namespace Go.Mt
namespace ep
end ep
inductive R(α:Type)where
 |ok (a:α)
 |no (why:List Nat)
 deriving Inhabited
inductive Dn where
 |val (v:V)
 |ld (t:Nat) (k:List M->R V)
 |st (t:Nat) (k:List M->R (List M))
 |nw (a:List M)
 |rd (i:Nat) (k:Ob->R V)
 |N8 (k:Hp->R V)
 |up (all:Bool) (i:Nat) (k:Hp->Ob->R (V×Ob))
 |al (all:Bool) (k:Hp->R Ob) (mk:Nat->V)
 |cl (k:Hp->R (V×Hp×List Nat))
structure EP where
 P:Program
 call:Nat->List M->Hp->R (M×Hp×List Nat)
 pure:Nat->List D->R (List D)
 N9:Nat->Bool
 Nu:Nat->Nat
 sum:Nat->List D->Option (List D)
def N_{a:Type}(w:Nat):Option a->R a
 |some a=>.ok a
 |none=>.no [w]
def C7:List UInt8->List UInt8->Bool
 |[],[]=>true
 |a::r,b::s=>bif Nat.beq a.toNat b.toNat then C7 r s else false
 |_,_=>false
def B0(s u:ByteArray):Bool:=C7 s.data.toList u.data.toList
def Nv(s u:ByteArray):ByteArray:=⟨⟨s.data.toList++u.data.toList⟩⟩
def IW(k:ByteArray):List (D×M)->Option M
 |[]=>none
 |(.str s,m)::r=>bif B0 s k then some m else IW k r
 |_::r=>IW k r
def gQ:List (D×M)->Bool
 |[]=>true
 |(.bU,.di [.ref _ _,_])::r=>gQ r
 |_=>false
def gT(i o:Nat):List (D×M)->Option M
 |[]=>none
 |(.bU,.di [.ref j u,m])::r=>bif Nat.beq i j&&Nat.beq o u then some m else gT i o r
 |_::r=>gT i o r
def jh(i o:Nat)(v:M):List (D×M)->List (D×M)
 |[]=>[(.bU,.di [.ref i o,v])]
 |(.bU,.di [.ref j u,m])::r=>bif Nat.beq i j&&Nat.beq o u then(.bU,.di [.ref i o,v])::r else(.bU,.di [.ref j u,m])::jh i o v r
 |x::r=>x::jh i o v r
def o7(a b:IntKind):Bool:=decide (a=b)
def Nw(op:BinOp):D->D->R D
 |.int k m,.int a n=>
  match op with
  |.shl=>bif decide (n<0)then .no [101]else .ok (.int k (k.wrap (m*2^(min n.toNat k.bits))))
  |.shr=>bif decide (n<0)then .no [102]else .ok (.int k (m.fdiv (2^(min n.toNat k.bits))))
  |.quo=>bif o7 k a then(bif n==0 then .no [103]else .ok (.int k (k.wrap (m.tdiv n))))else .no [104]
  |.rem=>bif o7 k a then(bif n==0 then .no [105]else .ok (.int k (m.tmod n)))else .no [106]
  |.and=>bif o7 k a then .ok (.int k (k.wrap (BitVec.ofInt k.bits m&&&BitVec.ofInt k.bits n).toNat))else .no [107]
  |.or=>bif o7 k a then .ok (.int k (k.wrap (BitVec.ofInt k.bits m|||BitVec.ofInt k.bits n).toNat))else .no [107]
  |.xor=>bif o7 k a then .ok (.int k (k.wrap (BitVec.ofInt k.bits m^^^BitVec.ofInt k.bits n).toNat))else .no [107]
  |op=>bif o7 k a then N_ 108 (lZ op k m n)else .no [109]
 |.str s,.str u=>
  match op with
  |.eql=>.ok (.bool (B0 s u))
  |.neq=>.ok (.bool (!B0 s u))
  |.add=>bif Nat.ble (s.size+u.size) 9223372036854775807 then .ok (.str (Nv s u))else .no [110]
  |.lss=>.ok (.bool (Op.bytesLess s.toList u.toList))
  |_=>.no [111]
 |_,_=>.no [113]
def lE(P:Program)(t:Nat):Nat:=match P.underlying t with
 |some (.pointer _)=>1
 |some (.map _ _)=>2
 |some (.func _ _ _)=>3
 |some .bool=>4
 |some (.interface _)=>5
 |some (.slice _)=>6
 |_=>0
def ki(P:Program)(t:Nat):Bool:=match P.underlying t with
 |some (.pointer e)=>(match fT P e with
  |some n=>Nat.blt 0 n
  |none=>false)
 |_=>false
def gU:Nat->V->Option Bool
 |1,.loc _ _=>some false
 |1,.m (.ref _ _)=>some false
 |1,.m (.et _ _ _)=>some false
 |1,.m (.d (.aZ _ _))=>some false
 |1,.m (.d .bU)=>some true
 |2,.m (.mp _)=>some false
 |2,.m (.d .oU)=>some true
 |3,.m (.d (.fn _ _))=>some false
 |3,.m (.fn _ _)=>some false
 |3,.m (.d .qn)=>some true
 |5,.m (.d .xT)=>some true
 |5,.m (.d (.Hb _ _))=>some false
 |_,_=>none
def N5(P:Program)(op:BinOp)(c:Nat)(a d:Bool)(v u:V):R Dn:=
 match lE P c with
 |0=>(match v,u with
  |.m (.d a),.m (.d b)=>(match a,b with
   |.bool _,_=>.no [118]
   |_,_=>(match Nw op a b with|.ok r=>.ok (.val (.m (.d r)))|.no w=>.no w))
  |_,_=>.no [117])
 |4=>(match v,u with
  |.m (.d (.bool a)),.m (.d (.bool b))=>(match op with
   |.eql=>.ok (.val (.m (.d (.bool (a==b)))))
   |.neq=>.ok (.val (.m (.d (.bool (!(a==b))))))
   |_=>.no [119])
  |_,_=>.no [116])
 |5=>bif a then(match gU 5 v with
  |some z=>(match op with
   |.eql=>.ok (.val (.m (.d (.bool z))))
   |.neq=>.ok (.val (.m (.d (.bool (!z)))))
   |_=>.no [120])
  |none=>.no [121])else .no [122]
 |6=>bif d then(match v with
  |.m (.d (.sl (_::_)))=>(match op with
   |.eql=>.ok (.val (.m (.d (.bool false))))
   |.neq=>.ok (.val (.m (.d (.bool true))))
   |_=>.no [123])
  |.m (.bC j a _)=>.ok (.rd j λc=>match c with
   |.row _ _ c _=>bif Nat.beq a c then(match op with
    |.eql=>.ok (.m (.d (.bool false)))
    |.neq=>.ok (.m (.d (.bool true)))
    |_=>.no [123])else .no [124]
   |_=>.no [125])
  |_=>.no [126])else .no [127]
 |k=>(match gU k v,gU k u with
  |some z,some true=>(match op with
   |.eql=>.ok (.val (.m (.d (.bool z))))
   |.neq=>.ok (.val (.m (.d (.bool (!z)))))
   |_=>.no [114])
  |_,_=>(match v,u with
   |.m (.ref i a),.m (.ref j b)=>bif ki P c then(match op with
    |.eql=>.ok (.val (.m (.d (.bool (Nat.beq i j&&Nat.beq a b)))))
    |.neq=>.ok (.val (.m (.d (.bool (!(Nat.beq i j&&Nat.beq a b))))))
    |_=>.no [128])else .no [129]
   |_,_=>.no [115]))
def IX(P:Program)(f:Nat):Bool:=match P.funcs[f]? with
 |some fn=> !(fn.name== "runtime.NumGoroutine")&&fn.body.isSome
 |none=>false
def Hk(P:Program)(t:Nat):Option Nat:=match P.underlying t with
 |some (.slice e)=>some e
 |_=>none
def KM(P:Program)(t:Nat):Option IntKind:=match P.underlying t with
 |some (.int k)=>some k
 |_=>none
def Nx:M->Bool
 |.d _=>true
 |_=>false
def KN:M->Option Nat
 |.d (.sl a)=>some a.length
 |.d .pD=>some 0
 |.bC _ _ a=>some a
 |_=>none
def MA(P:Program)(C:EP)(d:Nat)(T U:Nat)(x y:M):R Dn:=
 match Hk P T with
 |none=>.no [301]
 |some e=>match fT P e,u9 P e,tK P e with
  |some n,some a,some z=>
   bif (Nat.blt 0 n&&Nat.beq (bg z).length n&&Nat.ble a 1000000)then
    (bif Nat.beq T U then
     (match x,KN y with
     |.d (.sl []),some 0=>.ok (.N8 λH=>match o5 H n y with
       |some (_,0)=>.ok (.m (.d (.sl [])))
       |_=>.no [302])
     |.d (.sl []),some (a+1)=>.ok (.al (!Nx y) (λH=>match o5 H n y with
       |some (b,k)=>bif (Nat.beq k (a+1)&&Nat.ble k 100000000)then .ok (.row (!Nat.beq (C.Nu d) 1) n 0 b)else .no [303]
       |none=>.no [304]) λi=>.m (.bC i 0 (a+1)))
     |.bC j a b,some c=>.ok (.up (!Nx y) j λH c=>match o5 H n y,c with
       |some (f,k),.row i g h c=>bif (Nat.beq n g&&Nat.beq a h&&Nat.ble (b+k) 100000000)then .ok (.m (.bC j (a+1) (b+k)),.row i n (a+1) (c++f))else .no [306]
       |_,_=>.no [307])
     |_,_=>.no [308,d])
    else match KM P U,x,y with
     |some b,.d (.sl []),.d (.int c (.ofNat a))=>bif (o7 b c&&Nat.blt 0 a&&Nat.ble a 100000000)then
       .ok (.al false (λ_=>.ok (.row false n 0 (List.replicate (a*n) .undef))) λi=>.m (.bC i 0 a))else .no [309]
     |_,_,_=>.no [310])
   else .no [311]
  |_,_,_=>.no [312]
def uG(a:Operand->Option V):Option Operand->Option (Option Nat)
 |none=>some none
 |some y=>match a y with
  |some (.m (.d (.int _ (.ofNat i))))=>some (some i)
  |_=>none
variable{ms cs:List M}{f T e n len:Nat}{parts:List (Nat×Operand)}{z:D}
section ops
variable{X:bW}{st:St}{dst:Option Nat}{ty:Nat}{pos:String}{af:Array Edge}{g:Option (Nat×Bool)}{pn:Nat}{H':Hp}
def IY(σ:Sg)(a:Act)(xs:List (Nat×Operand))(ms:List (Nat×M)):Prop:=
 ms.length=(xs.map λp=>(p.1,a.eval p.2)).length/\∀(k:Nat) p q,ms[k]?=some p->(xs.map λp=>(p.1,a.eval p.2))[k]?=some q->p.1=q.1/\RM σ p.2 q.2
def IG{ms:List (Nat×M)}{rows:List (List D)}[ht:aU X.P T e][q:bY X.P e n][B:gN X.P e z]
  (C:Nat.blt 0 n=true) (r:(bg z).length=n) (R:Nat.ble (len*n) 16777216=true) (S:∀a c k,cC X c k st a->IY c a parts ms)
  (hf:gu (λi=>some (i*n,n)) (ey n len (bg z)) ms=some cs) (U:chunk n len cs=some rows):
  cL X ⟨dst,.buildSlice T len parts.toArray,ty,pos,af,g⟩ st (du (.m (.d (.sl rows))) st):=by
 refine cL.grow λa c k s=>?_
 have l:=bN C;have Y:=atc R;obtain⟨E,F⟩:=S a c k s;obtain⟨v,G,H⟩:=(gF B.zero).run;have t:kV c ((bg z).map .d) v.cells:=(RM.d (ff H):RM c (.d z) v).cells W;have I:v.cells.size=n:=by rw[t.1];simpa using r
 have J:kV c (ey n len (bg z)) ((Array.range (len*n)).map λi=>v.cells[i%v.cells.size]!):=by
  refine⟨by simp[ey],λi m K j f=>?_⟩;have p:i<len*n:=by
   rcases asp i (len*n)with h|h
   .exact h
   .rw[asZ (by simpa using h)]at f;cases f
  have L:i%n<n:=atY _ l;have x:i%n<(bg z).length:=by omega
  simp[ey,p,r]at j;simp[p,I]at f;have A:i%n<v.cells.size:=by omega
  subst j;subst f;refine t.2 (i%n) _ _ ?_ ?_
  .simp[aso x]
  .simp[A]
 obtain⟨u,o,w⟩:=qp J E F hf;have y:cs.length=len*n:=by
  have K:∀{f:List (Nat×M)} {a b:List M},gu (λi=>some (i*n,n)) a f=some b->b.length=a.length:=by
   intro f
   induction f with
   |nil=>intro a b h;simp[gu]at h;subst h;rfl
   |cons A f L=>
    intro a b h;obtain⟨i,m⟩:=A;unfold gu at h;simp only at h;cases x:(Nat.beq (cellsOf m).length n&&m.iK)with
    |false=>simp[x]at h
    |true=>
     simp only[x,as3]at h;split at h
     .rename_i V j;rw[L h];unfold dV at j;cases p:Nat.ble (i*n+(cellsOf m).length) a.length with
      |false=>simp[p]at j
      |true=>
       simp only[p,as3,atx]at j;subst j;have:=atc p;simp;omega
     .cases h
  rw[K hf];simp[ey]
 obtain⟨N,O,P⟩:=pJ U y;have Q:u.size=len*n:=by rw[w.1,y]
 refine⟨.slice (some ⟨c.w.heap.size,0,none⟩) len len,{c.w with heap:=c.w.heap.push (.cells u e (0,0))},?_,gg.alloc _ _,.m (.d (gL.IM l s.hinv.CV N O Q (by have:=atU len l;omega) ?_))⟩
 .have:(Array.map (λx:Nat×Operand=>match x with|(i,x)=>(i,a.eval x)) parts.toArray).toList=parts.map λp=>(p.1,a.eval p.2):=by simp
  have j:¬(len*n>2^24):=by omega
  by_cases f:len*n=0
  .have x:len=0:=by
    rcases aul.1 f with h|h
    .exact h
    .omega
   subst x;have h:((Array.range (0*n)).map λi=>v.cells[i%v.cells.size]!)= #[]:=by simp
   rw[h]at o;simp only[execOp,Instr.buildSlice,Sem.run_bind,underlying,program,Sem.run,ht.u,Sem.run_pure,Result.andThen_ok,dt q.size,Sem.run_ite,f,auz,this];have A:Array.range 0=(#[]:Array Nat):=by decide
   simp only[A,auY];rw[o];simp[newRow,newObj,Sem.run]
  .simp only[execOp,Instr.buildSlice,Sem.run_bind,underlying,program,Sem.run,ht.u,Sem.run_pure,Result.andThen_ok,dt q.size,Sem.run_ite,j,aup,f,G,this];rw[o];simp[newRow,newObj,Sem.run]
 .intro i j p d f A K x;have:=w.2 _ _ f (P i j p d A K) x;refine⟨?_,this.2⟩;cases this.1 with
  |d h=>exact h
def nU{ms:List (Nat×M)}[ht:aU X.P T e][t:bY X.P e n][F:gN X.P e z]
  (G:Nat.blt 0 n=true) (w:(bg z).length=n) (V:Nat.ble (len*n) 16777216=true) (H:ej st parts=some ms)
  (hf:gu (λi=>some (i*n,n)) (ey n len (bg z)) ms=some cs) (I:Place st.H (.row false n 0 cs) pn H'):
  cL X ⟨dst,.buildSlice T len parts.toArray,ty,pos,af,g⟩ st (du (.m (.bC pn 0 len)) ⟨st.sl,st.bx,H'⟩):=by
 intro a c J x;have k:=bN G;have ac:=atc V;obtain⟨K,L⟩:=x.ej H;obtain⟨v,N,O⟩:=(gF F.zero).run;have y:kV c ((bg z).map .d) v.cells:=(RM.d (ff O):RM c (.d z) v).cells W;have P:v.cells.size=n:=by rw[y.1];simpa using w
 have Q:kV c (ey n len (bg z)) ((Array.range (len*n)).map λi=>v.cells[i%v.cells.size]!):=by
  refine⟨by simp[ey],λi m u f d=>?_⟩;have q:i<len*n:=by
   rcases asp i (len*n)with h|h
   .exact h
   .rw[asZ (by simpa using h)]at d;cases d
  have R:i%n<n:=atY _ k;have A:i%n<(bg z).length:=by omega
  simp[ey,q,w]at f;simp[q,P]at d;have E:i%n<v.cells.size:=by omega
  subst f;subst d;refine y.2 (i%n) _ _ ?_ ?_
  .simp[aso A]
  .simp[E]
 obtain⟨l,o,p⟩:=qp Q K L hf;have s:cs.length=len*n:=by
  have R:∀{d:List (Nat×M)} {a b:List M},gu (λi=>some (i*n,n)) a d=some b->b.length=a.length:=by
   intro d
   induction d with
   |nil=>intro a b h;simp[gu]at h;subst h;rfl
   |cons E d S=>
    intro a b h;obtain⟨i,m⟩:=E;unfold gu at h;simp only at h;cases A:(Nat.beq (cellsOf m).length n&&m.iK)with
    |false=>simp[A]at h
    |true=>
     simp only[A,as3]at h;split at h
     .rename_i Z f;rw[S h];unfold dV at f;cases q:Nat.ble (i*n+(cellsOf m).length) a.length with
      |false=>simp[q]at f
      |true=>
       simp only[q,as3,atx]at f;subst f;have:=atc q;simp;omega
     .cases h
  rw[R hf];simp[ey]
 have B:l.size=len*n:=by rw[p.1,s]
 have Y:len<=140737488355328:=by have:=atU len k;omega
 obtain⟨j,r,C,D,g4,U⟩:=x.place I (.cells l e (0,0)) (by
  intro j q A;refine⟨k,l,e,len,len,by rw[A];exact iW _ _,B,asj _,⟨s,Y⟩,?_⟩;intro d m u h f;exact⟨(p.2 d m u h f).1.mono q,(p.2 d m u h f).2⟩)
 refine dG.value (u:=.slice (some ⟨c.w.heap.size,0,none⟩) len len) (w':=j.w) ?_ ⟨_,_,j,J,⟨W,W⟩,W,U,?_⟩
 .have:(Array.map (λx:Nat×Operand=>match x with|(i,x)=>(i,a.eval x)) parts.toArray).toList=parts.map λf=>(f.1,a.eval f.2):=by simp
  have q:¬(len*n>2^24):=by omega
  by_cases d:len*n=0
  .have A:len=0:=by
    rcases aul.1 d with h|h
    .exact h
    .omega
   subst A;have h:((Array.range (0*n)).map λi=>v.cells[i%v.cells.size]!)= #[]:=by simp
   rw[h]at o;simp only[execOp,Instr.buildSlice,Sem.run_bind,underlying,program,Sem.run,ht.u,Sem.run_pure,Result.andThen_ok,dt t.size,Sem.run_ite,d,auz,this];have E:Array.range 0=(#[]:Array Nat):=by decide
   simp only[E,auY];rw[o];simp[newRow,newObj,Sem.run,r]
  .simp only[execOp,Instr.buildSlice,Sem.run_bind,underlying,program,Sem.run,ht.u,Sem.run_pure,Result.andThen_ok,dt t.size,Sem.run_ite,q,aup,d,N,this];rw[o];simp[newRow,newObj,Sem.run,r]
 .refine .m (.bC _ 0 len _ len (.inr ⟨false,n,0,cs,D,asj _⟩) ?_);intro A E R d;rw[D]at d;simp at d;obtain⟨f,h,q⟩:=d;subst f;subst h;subst q;exact⟨by rw[C],s,_,e,by rw[C,r];exact iW _ _,B⟩
def uj{a:List Operand}(c:st.ga a=some ms):
  cL X ⟨dst,.makeFunc (.func f) #[] a.toArray,ty,pos,af,g⟩ st (du (.m (.fn f ms)) st):=by
 refine OM λb e h d=>?_
 have h:=d.ga c;exact⟨.func (.func f) #[] (a.map b.eval).toArray,by simp[execOp,Instr.makeFunc],.m (.fn f ms _ h.1 h.2)⟩
def C8{σ:Sg}{c:List M}{d us:Array Value}(h:u_ σ ms d)(k:u_ σ c us):u_ σ (ms++c) (d++us):=by
 refine⟨by simp[h.1,k.1],λi m v a b=>?_⟩;have e:=h.1;rcases asp i ms.length with f|g
 .rw[asl f]at a;rw[atJ (by omega)]at b;exact h.2 i m v a b
 .rw[ass g]at a;rw[at9 (by omega),e]at b;exact k.2 _ m v a b
def Gg(X:bW)(st:St)(c:Call)(f:Nat)(ms:List M):Prop:=
 ∀(h:Option Nat) (e:Nat) (i:String) (af:Array Edge) (g:Option (Nat×Bool)) (b:Act) (a:Sg) (d:Nat->Nat),cC X a d st b->∃d,(execOp b.eval ⟨h,.call c,e,i,af,g⟩).run X.P a.w=.ok (.enter f d) a.w/\u_ a ms d
def w_{x:Operand}{c:List M}{args:List Operand}{RE:Array Nat}[hf:bw X.P f](e:st.ev x=some (.m (.fn f c)))(g:st.ga args=some ms):Gg X st ⟨.value x,args.toArray,RE⟩ f (ms++c):=by
 intro s p t af n b o q d;have a:=d.ev e;have h:=d.ga g;generalize i:b.eval x=u at a;cases a with
 |m a=>cases a with
  |fn f r j k l=>
   refine⟨(args.map b.eval).toArray++j,?_,C8 h ⟨k,l⟩⟩;simp only[execOp,resolve,i,Deferred.ofValue,invoke];simp[hf.run]
def cL.weaken{o:Oper}{p q:V->St->Prop}(h:cL X o st p)(c:∀v s,p v s->q v s):cL X o st q:=by
 intro a b d f;have:=h a b d f;unfold dG at this⊢;generalize (execOp a.eval o).run X.P b.w=z at*;cases z with
 |ok x m=>
  cases x<;>simp only at this⊢ <;>first
   |(obtain⟨v,s,g,i,j,k⟩:=this;exact⟨v,s,g,i,c _ _ j,k⟩)
   |exact this.mono λe n ⟨u,l,v,s,g,i,j,k⟩=>⟨u,l,v,s,g,i,c _ _ j,k⟩
   |exact this
 |halt x g=>exact this
def yA{c:Call}{r:M}{a:Hp}(d:Gg X st c f ms)(h:CT X.P f ms st.H λd b=>d=r/\b=a):
  cL X ⟨dst,.call c,ty,pos,af,g⟩ st (du (.m r) ⟨st.sl,st.bx,a⟩):=
 (cL.IK h (d dst ty pos af g)).weaken (by rintro v s ⟨e,i,rfl,⟨rfl,rfl⟩,rfl⟩;exact⟨W,W⟩)
end ops
end Go.Mt
namespace Go.Mt
variable{z:Bool}{σ:Sg}{OC:Nat->Nat}{v:V}{P:Program}{w:World}{t e xt yt k n:Nat}{x y:Operand}{u:Value}{op:BinOp}{a:Act}{l:Option Nat}
section ops
variable{X:bW}{st:St}{dst:Option Nat}{ty:Nat}{pos:String}{af:Array Edge}{g:Option (Nat×Bool)}{pn:Nat}{H':Hp}
def C9(h:RV σ OC v u)(a:gU 1 v=some z):∃p,u=.pointer p/\p.isNone=z:=by
 unfold gU at a;cases h with
 |loc t c=>simp at a;subst a;exact⟨_,W,W⟩
 |tl _ _ _ _ _ _ _ _=>simp at a
 |m h=>cases h with
  |ref i e c h=>simp at a;subst a;exact⟨_,W,W⟩
  |et i c g b e f=>simp at a;subst a;exact⟨_,W,W⟩
  |d h=>cases h with
   |aZ c i b o val e f g=>simp at a;subst a;exact⟨_,W,W⟩
   |bU=>simp at a;subst a;exact⟨_,W,W⟩
   |_=>simp at a
  |_=>simp at a
def C_(h:RV σ OC v u)(a:gU 2 v=some z):∃p,u=.map p/\p.isNone=z:=by
 unfold gU at a;cases h with
 |loc t b=>simp at a
 |tl _ _ _ _ _ _ _ _=>simp at a
 |m h=>cases h with
  |mp i b h=>simp at a;subst a;exact⟨_,W,W⟩
  |d h=>cases h with
   |oU=>simp at a;subst a;exact⟨_,W,W⟩
   |_=>simp at a
  |_=>simp at a
def C'(h:RV σ OC v u)(c:gU 3 v=some z):(z=true/\u=.nilFunc)\/(z=false/\∃f a b,u=.func f a b):=by
 unfold gU at c;cases h with
 |loc t e=>simp at c
 |tl _ _ _ _ _ _ _ _=>simp at c
 |m h=>cases h with
  |fn f e g i j=>simp at c;subst c;exact .inr ⟨W,_,_,_,W⟩
  |d h=>cases h with
   |qn=>simp at c;subst c;exact .inl ⟨W,W⟩
   |fn f e g i j=>simp at c;subst c;exact .inr ⟨W,_,_,_,W⟩
   |_=>simp at c
  |_=>simp at c
def EQ(h:P.underlying t=some (.pointer e))(p:Option Addr):(Op.equal t (.pointer p) (.pointer none)).run P w=.ok p.isNone w:=by
 have a:(underlying t).run P w=.ok (.pointer e) w:=by simp[underlying,program,Sem.run,h]
 simp only[Op.equal,Op.maxDepth];rw[Op.equalIn];cases p<;>simp[a]
def ES{a:Nat}(h:P.underlying t=some (.map e a))(p:Option Nat):(Op.equal t (.map p) (.map none)).run P w=.ok p.isNone w:=by
 have b:(underlying t).run P w=.ok (.map e a) w:=by simp[underlying,program,Sem.run,h]
 simp only[Op.equal,Op.maxDepth];rw[Op.equalIn];cases p<;>simp[b]
def yB{e1 e2 e3}(h:P.underlying t=some (.func e1 e2 e3))(x:Value)(a:x=.nilFunc\/∃f c d,x=.func f c d):(Op.equal t x .nilFunc).run P w=.ok (match x with|.nilFunc=>true|_=>false) w:=by
 have b:(underlying t).run P w=.ok (.func e1 e2 e3) w:=by simp[underlying,program,Sem.run,h]
 simp only[Op.equal,Op.maxDepth];rw[Op.equalIn];rcases a with rfl|⟨f,c,d,rfl⟩<;>simp[b]
def eq_nil{u:V}{a b:Value}(f:lE P xt=k)(A:k=1\/k=2\/k=3)(j:RV σ OC v a)(l:RV σ OC u b)(m:gU k v=some z)(n:gU k u=some true):
  (Op.equal xt a b).run P w=.ok z w/\(∀op x y,(eqGuard op xt x y a b).run P w=.ok () w)/\(binOp .eql xt a b).run P w=.ok (.bool z) w/\(binOp .neq xt a b).run P w=.ok (.bool (!z)) w:=by
 have i:(Op.equal xt a b).run P w=.ok z w->(∃p q,a=.pointer p/\b=.pointer q)\/(∃p q,a=.map p/\b=.map q)\/((a=.nilFunc\/∃g c d,a=.func g c d)/\b=.nilFunc)->
   (Op.equal xt a b).run P w=.ok z w/\(∀op x y,(eqGuard op xt x y a b).run P w=.ok () w)/\(binOp .eql xt a b).run P w=.ok (.bool z) w/\(binOp .neq xt a b).run P w=.ok (.bool (!z)) w:=by
  rintro h (⟨p,q,rfl,rfl⟩|⟨p,q,rfl,rfl⟩|⟨rfl|⟨g,c,d,rfl⟩,rfl⟩)<;>
   exact⟨h,λop x y=>by cases op<;>simp[eqGuard],by simp[binOp,h],by simp[binOp,h]⟩
 rcases A with rfl|rfl|rfl
 .obtain⟨p,rfl,o⟩:=C9 j m;obtain⟨q,rfl,r⟩:=C9 l n;have h:∃e,P.underlying xt=some (.pointer e):=by
   unfold lE at f;split at f<;>first|exact⟨_,by assumption⟩|cases f
  obtain⟨e,h⟩:=h;refine i ?_ (.inl ⟨p,q,W,W⟩);have:q=none:=by simpa using r
  subst this;rw[EQ h,o]
 .obtain⟨p,rfl,r⟩:=C_ j m;obtain⟨q,rfl,s⟩:=C_ l n;have h:∃e o,P.underlying xt=some (.map e o):=by
   unfold lE at f;split at f<;>first|exact⟨_,_,by assumption⟩|cases f
  obtain⟨e,o,h⟩:=h;refine i ?_ (.inr (.inl ⟨p,q,W,W⟩));have:q=none:=by simpa using s
  subst this;rw[ES h,r]
 .have h:∃e r s,P.underlying xt=some (.func e r s):=by
   unfold lE at f;split at f<;>first|exact⟨_,_,_,by assumption⟩|cases f
  obtain⟨B,r,s,h⟩:=h;rcases C' l n with⟨_,rfl⟩|⟨t,_⟩
  .rcases C' j m with⟨rfl,rfl⟩|⟨rfl,g,c,d,rfl⟩
   .exact i (by rw[yB h _ (.inl W)]) (.inr (.inr ⟨.inl W,rfl⟩))
   .exact i (by rw[yB h _ (.inr ⟨g,c,d,rfl⟩)]) (.inr (.inr ⟨.inr ⟨g,c,d,rfl⟩,rfl⟩))
  .cases t
def IZ(h:RV σ OC v u)(a:gU 5 v=some z):(z=true/\u=.nilIface)\/(z=false/\∃t x,u=.iface t x):=by
 unfold gU at a;cases h with
 |loc t b=>simp at a
 |tl _ _ _ _ _ _ _ _=>simp at a
 |m h=>cases h with
  |d h=>cases h with
   |xT=>simp at a;subst a;exact .inl ⟨W,W⟩
   |Hb t d v h=>simp at a;subst a;exact .inr ⟨W,_,_,W⟩
   |_=>simp at a
  |_=>simp at a
def yC{ms}(h:P.underlying t=some (.interface ms))(x:Value)(a:x=.nilIface\/∃f c,x=.iface f c):(Op.equal t x .nilIface).run P w=.ok (match x with|.nilIface=>true|_=>false) w:=by
 have b:(underlying t).run P w=.ok (.interface ms) w:=by simp[underlying,program,Sem.run,h]
 simp only[Op.equal,Op.maxDepth];rw[Op.equalIn];rcases a with rfl|⟨f,c,rfl⟩<;>simp[b]
def Ny(h:op=.eql\/op=.neq)(e:lE X.P xt=5)(l:st.ev x=some v)(m:gU 5 v=some z):
  cL X ⟨dst,.binOp op xt x (.const .nilIface) yt,ty,pos,af,g⟩ st (du (.m (.d (.bool (match op with|.eql=>z|_=> !z)))) st):=by
 refine OM λk f o n=>?_
 have b:∃i,X.P.underlying xt=some (.interface i):=by
  unfold lE at e;split at e<;>first|exact⟨_,by assumption⟩|cases e
 obtain⟨i,b⟩:=b;have d:k.eval (.const .nilIface)=.nilIface:=rfl;rcases IZ (n.ev l) m with⟨rfl,a⟩|⟨rfl,t,c,a⟩
 .have j:=yC (w:=f.w) b .nilIface (.inl W);rcases h with rfl|rfl
  .exact⟨.bool true,by simp[execOp,a,d,eqGuard,binOp,j],.m (.d (.bool _))⟩
  .exact⟨.bool false,by simp[execOp,a,d,eqGuard,binOp,j],.m (.d (.bool _))⟩
 .have j:=yC (w:=f.w) b (.iface t c) (.inr ⟨t,c,rfl⟩);rcases h with rfl|rfl
  .exact⟨.bool false,by simp[execOp,a,d,eqGuard,binOp,j],.m (.d (.bool _))⟩
  .exact⟨.bool true,by simp[execOp,a,d,eqGuard,binOp,j],.m (.d (.bool _))⟩
def Hl(h:P.underlying t=some (.slice e))(a:Addr)(l c:Nat):(Op.equal t (.slice (some a) l c) (.slice none 0 0)).run P w=.ok false w:=by
 have b:(underlying t).run P w=.ok (.slice e) w:=by simp[underlying,program,Sem.run,h]
 simp only[Op.equal,Op.maxDepth];rw[Op.equalIn];simp[b]
def I0(n:op=.eql\/op=.neq)(d:lE X.P xt=6)(o:∀a b f,cC X b f st a->∃h l c,a.eval x=.slice (some h) l c):
  cL X ⟨dst,.binOp op xt x (.const (.slice none 0 0)) yt,ty,pos,af,g⟩ st (du (.m (.d (.bool (match op with|.eql=>false|_=>true)))) st):=by
 refine OM λa b f p=>?_
 have i:∃e,X.P.underlying xt=some (.slice e):=by
  unfold lE at d;split at d<;>first|exact⟨_,by assumption⟩|cases d
 obtain⟨e,i⟩:=i;obtain⟨h,l,c,j⟩:=o a b f p;have k:a.eval (.const (.slice none 0 0))=.slice none 0 0:=rfl;have m:=Hl (w:=b.w) i h l c;rcases n with rfl|rfl
 .exact⟨.bool false,by simp[execOp,j,k,eqGuard,binOp,m],.m (.d (.bool _))⟩
 .exact⟨.bool true,by simp[execOp,j,k,eqGuard,binOp,m],.m (.d (.bool _))⟩
def I1(hi:cC X σ OC st a){r:List D}{rs:List (List D)}(d:st.ev x=some (.m (.d (.sl (r::rs))))):∃ad l c,a.eval x=.slice (some ad) l c:=by
 have h:=hi.pE d;generalize a.eval x=u at h;cases h with
 |sl q b o p e val f g i j k m n=>exact⟨_,_,_,W⟩
def yD(h:P.underlying t=some (.pointer e))(c:fT P e=some n)(f:0<n)(a b:Addr)(d:(sameAddr a b).run P w=.ok z w):(Op.equal t (.pointer (some a)) (.pointer (some b))).run P w=.ok z w:=by
 have f:(underlying t).run P w=.ok (.pointer e) w:=by simp[underlying,program,Sem.run,h]
 have g:¬n=0:=by omega
 simp only[Op.equal,Op.maxDepth];rw[Op.equalIn];simp[f,dt c,g,d]
def Hm{i j oi oj:Nat}(v:op=.eql\/op=.neq)(b:ki X.P xt=true)(w:st.ev x=some (.m (.ref i oi)))(z:st.ev y=some (.m (.ref j oj))):
  cL X ⟨dst,.binOp op xt x y yt,ty,pos,af,g⟩ st (du (.m (.d (.bool (match op with|.eql=>(Nat.beq i j&&Nat.beq oi oj)|_=> !(Nat.beq i j&&Nat.beq oi oj))))) st):=by
 refine OM λq a I c=>?_
 have d:∃e n,X.P.underlying xt=some (.pointer e)/\fT X.P e=some n/\0<n:=by
  unfold ki at b;split at b
  .rename_i e d;split at b
   .rename_i n o;exact⟨e,n,d,o,bN b⟩
   .cases b
  .cases b
 obtain⟨e,n,d,A,o⟩:=d;have f:=c.ev w;have h:=c.ev z;generalize r:q.eval x=G at f;generalize s:q.eval y=H at h;cases f with
 |m f=>cases f with
  |ref i oi J t=>cases h with
   |m h=>cases h with
    |ref j oj K u=>
     obtain⟨L,T,B,_⟩:=c.hinv.obj i _ t;obtain⟨M,N,C,_⟩:=c.hinv.obj j _ u;have D:(sameAddr ⟨a.l i,oi,none⟩ ⟨a.l j,oj,none⟩).run X.P a.w=.ok (Nat.beq i j&&Nat.beq oi oj) a.w:=by
      by_cases p:i=j/\oi=oj
      .obtain⟨rfl,rfl⟩:=p;have:=run_sameAddr_same (P:=X.P) a.w ⟨a.l i,oi,none⟩;simpa using this
      .have E:(⟨a.l i,oi,none⟩:Addr)≠⟨a.l j,oj,none⟩:=by
        intro k;injection k with l F
        exact p ⟨c.hinv.inj i j _ _ t u trivial trivial l,F⟩
       have F:(Nat.beq i j&&Nat.beq oi oj)=false:=by
        rw[<-atr];intro l;rw[asH]at l;exact p ⟨asy l.1,asy l.2⟩
       rw[F];exact run_sameAddr_other (P:=X.P) a.w E B C
     have k:=yD d A o _ _ D;rcases v with rfl|rfl
     .exact⟨.bool (Nat.beq i j&&Nat.beq oi oj),by simp[execOp,r,s,eqGuard,binOp,k],.m (.d (.bool _))⟩
     .exact⟨.bool (!(Nat.beq i j&&Nat.beq oi oj)),by simp[execOp,r,s,eqGuard,binOp,k],.m (.d (.bool _))⟩
def xG{u:V}(d:op=.eql\/op=.neq)(e:lE X.P xt=k)(f:k=1\/k=2\/k=3)(h:st.ev x=some v)(i:st.ev y=some u)(j:gU k v=some z)(l:gU k u=some true):
  cL X ⟨dst,.binOp op xt x y yt,ty,pos,af,g⟩ st (du (.m (.d (.bool (match op with|.eql=>z|_=> !z)))) st):=by
 refine OM λo c p a=>?_
 obtain⟨q,b,m,n⟩:=eq_nil (w:=c.w) e f (a.ev h) (a.ev i) j l;rcases d with rfl|rfl
 .exact⟨.bool z,by simp[execOp,b,m],.m (.d (.bool z))⟩
 .exact⟨.bool (!z),by simp[execOp,b,n],.m (.d (.bool (!z)))⟩
def yE(hi:cC X σ OC st a){o:Option Operand}(h:uG st.ev o=some l):(l=none/\o.map a.eval=none)\/∃n k,l=some n/\o.map a.eval=some (.int k (n:Int)):=by
 unfold uG at h;cases o with
 |none=>simp at h;subst h;exact .inl ⟨W,W⟩
 |some y=>
  simp only at h;split at h
  .rename_i k i b;injection h with h;subst h
   right;exact⟨i,k,W,by simp[hi.kW b]⟩
  .cases h
def uH{lo hi:Option Operand}{h:Option Nat}{rows:List (List D)}[ht:aU X.P t e][H:bY X.P e n](I:st.ev x=some (.m (.d (.sl rows))))(Y:uG st.ev lo=some l)(Z:uG st.ev hi=some h)
  (a:rows≠[]) (y:l.getD 0<=h.getD rows.length) (h2:h.getD rows.length<=rows.length) (J:∀r∈rows,r.length=n):
  cL X ⟨dst,.slice t x lo hi none,ty,pos,af,g⟩ st (du (.m (.d (match(rows.drop (l.getD 0)).take (h.getD rows.length-l.getD 0)with|[]=>.pD|r=>.sl r))) st):=by
 refine OM λm v OC p=>?_
 have z:=p.pE I;have K:=yE p Y;have M:=yE p Z;generalize N:m.eval x=ah at z;have O:∀w:World,(underlying t).run X.P w=.ok (.slice e) w:= λw=>by simp[underlying,program,Sem.run,ht.u]
 cases z with
 |slnil c=>exact absurd W a
 |sl rows b o c f val P QT Pl A Q R S=>
  have ac:f=n:=by
   cases rows with
   |nil=>exact absurd W P
   |cons r i=>rw[<-A r (by simp)];exact J r (by simp)
  subst ac;generalize s:l.getD 0=L at*;generalize u:h.getD rows.length=G at*;refine⟨.slice (if c=L then some ⟨b,o,none⟩else some ⟨b,o+L*f,none⟩) (G-L) (c-L),?_,?_⟩
  .have q:((G:Nat):Int)<=c:=by omega
   have j:∀lv i:Option Value,(lv=none/\L=0\/∃k,lv=some (.int k (L:Int)))->(i=none/\G=rows.length\/∃k,i=some (.int k (G:Int)))->
     (Instr.sliceBounds true rows.length c lv i none).run X.P v.w=.ok (L,G,c) v.w:=by
    rintro lv i (⟨rfl,rfl⟩|⟨k,rfl⟩) (⟨rfl,rfl⟩|⟨B,rfl⟩)
    .simp[Instr.sliceBounds]
    .simp[Instr.sliceBounds,Instr.sliceBound,asIntOf,show G<=c by omega]
    .simp[Instr.sliceBounds,Instr.sliceBound,asIntOf,y]
    .simp[Instr.sliceBounds,Instr.sliceBound,asIntOf,show G<=c by omega,y]
   have a:=j (lo.map m.eval) (hi.map m.eval)
    (by
      rcases K with⟨rfl,e⟩|⟨n,k,rfl,e⟩
      .left;exact⟨e,by simpa using s.symm⟩
      .right;exact⟨k,by rw[e];simp at s;subst s;rfl⟩)
    (by
      rcases M with⟨rfl,e⟩|⟨n,k,rfl,e⟩
      .left;exact⟨e,by simpa using u.symm⟩
      .right;exact⟨k,by rw[e];simp at u;subst u;rfl⟩)
   simp only[execOp,Instr.sliceAt,Instr.slice,N,Option.map_none];simp only[Sem.run_bind,O,Result.andThen_ok,a,dt H.size,Sem.run_pure];by_cases i:c=L
   .simp[i]
   .simp[i,lO]
  .generalize B:(rows.drop L).take (G-L)=q;have k:q.length=G-L:=by rw[<-B];simp;omega
   cases q with
   |nil=>
    simp at k;rw[show G-L=0 by omega];exact .m (.d (.pD _ _))
   |cons T U=>
    simp only;generalize C:T::U=q at*;have U7:0<G-L:=by rw[<-k,<-C];simp
    rw[asu (by omega),<-k];have E:∀i r,q[i]?=some r->rows[L+i]?=some r:=by
     intro i r a;rw[<-B,at6]at a;split at a
     .rw[at5]at a;exact a
     .cases a
    have F:∀i,i<q.length->L+i<rows.length:=by intro i hi;omega
    refine .m (.d (gL.sl q b (o+L*f) (c-L) f (λi j=>val (L+i) j) (by rw[<-C];simp) (by omega) (by omega) ?_ ?_ ?_ ?_))
    .intro r a;obtain⟨i,hi⟩:=asJ.1 a;exact A r (asn (E i r hi))
    .intro i j hi V;have:=Q (L+i) j (F i hi) V;rw[show o+L*f+(i*f+j)=o+((L+i)*f+j) by rw[at3];omega];exact this
    .intro i j hi V;exact R (L+i) j (F i hi) V
    .intro i j r d a V;exact S (L+i) j r d (E i r a) V
end ops
end Go.Mt
namespace Go.Mt
variable{P:Program}{kt i j e0 o T e:Nat}{σ:Sg}{a b:M}{x y:Value}{Oo:Nat->Nat->Prop}{cs:List M}{w:World}{es:List (D×M)}
def xa{t:Nat}(h:ki P t=true):∃e n,P.underlying t=some (.pointer e)/\fT P e=some n/\0<n:=by
 unfold ki at h;split at h
 .rename_i e a;split at h
  .rename_i n b;exact⟨e,n,a,b,bN h⟩
  .cases h
 .cases h
def RM.Nz(h:RM σ (.di [a,b]) (.tuple #[x,y])):RM σ a x/\RM σ b y:=by
 cases h with
 |di c d e h=>exact⟨h 0 a x W W,h 1 b y W W⟩
def RM.Gh(e:RM σ a x)(f:RM σ b y):RM σ (.di [a,b]) (.tuple #[x,y]):=by
 refine .di _ _ W λn m v c d=>?_
 match n with
 |0=>simp at c d;subst c;subst d;exact e
 |1=>simp at c d;subst c;subst d;exact f
 |n+2=>simp at c
def An(hi:kQ σ Oo){oi oj:Nat}{ds:List M}(b:σ.H[i]?=some (.box cs))(c:σ.H[j]?=some (.box ds)):
  (sameAddr ⟨σ.l i,oi,none⟩ ⟨σ.l j,oj,none⟩).run P σ.w=.ok (Nat.beq i j&&Nat.beq oi oj) σ.w:=by
 obtain⟨l,T,d,_⟩:=hi.obj i _ b;obtain⟨m,n,e,_⟩:=hi.obj j _ c;by_cases a:i=j/\oi=oj
 .obtain⟨rfl,rfl⟩:=a;have:=run_sameAddr_same (P:=P) σ.w ⟨σ.l i,oi,none⟩;simpa using this
 .have f:(⟨σ.l i,oi,none⟩:Addr)≠⟨σ.l j,oj,none⟩:=by
   intro g;injection g with h k
   exact a ⟨hi.inj i j _ _ b c trivial trivial h,k⟩
  have g:(Nat.beq i j&&Nat.beq oi oj)=false:=by
   rw[<-atr];intro h;rw[asH]at h;exact a ⟨asy h.1,asy h.2⟩
  rw[g];exact run_sameAddr_other (P:=P) σ.w f d e
def mJ{P:Program}(hi:kQ σ Oo){x:Nat}(y:P.underlying kt=some (.pointer e0))(z:fT P e0=some x)(A:0<x){o:Nat}(B:σ.H[i]?=some (.box cs)):
  ∀{es:List (D×M)} {us:List MapEntry} {n:Nat},gQ es=true->us.length=es.length->(∀(k:Nat) e u,es[k]?=some e->us[k]?=some u->wj σ e u)->
  (gT i o es=none/\(Instr.findAsking kt (.pointer (some ⟨σ.l i,o,none⟩)) us n).run P σ.w=.ok none σ.w/\(∀v,jh i o v es=es++[(.bU,.di [.ref i o,v])]))\/
  ∃k m u,gT i o es=some m/\us[k]?=some u/\es[k]?=some (.bU,.di [.ref i o,m])/\(Instr.findAsking kt (.pointer (some ⟨σ.l i,o,none⟩)) us n).run P σ.w=.ok (some (n+k,u.val)) σ.w/\
   u.key=.pointer (some ⟨σ.l i,o,none⟩)/\RM σ m u.val/\(∀v,jh i o v es=es.set k (.bU,.di [.ref i o,v]))
 |[],us,n,_,a,_=>by
  have:us=[]:=by simpa using a
  subst this;exact .inl ⟨W,by simp[Instr.findAsking,Sem.run],λv=>rfl⟩
 |(V,X)::r,us,n,d,C,t=>by
  unfold gQ at d;split at d
  .rename_i a;cases a
  .rename_i j u m Y I;injection I with a U;injection a with J K;subst J;subst K;subst U
   cases us with
   |nil=>simp at C
   |cons w us=>
    obtain⟨E,L⟩:RM σ (.ref j u) w.key/\RM σ m w.val:=by
     rcases t 0 _ _ rfl rfl with⟨a,_⟩|⟨_,a⟩
     .simp[FY]at a
     .exact a.Nz
    obtain⟨f,h,l⟩:∃f,σ.H[j]?=some (.box f)/\w.key=.pointer (some ⟨σ.l j,u,none⟩):=by
     generalize w.key=q at E;cases E with
     |ref j u f h=>exact⟨f,h,W⟩
    have g:=yD (w:=σ.w) y z A ⟨σ.l i,o,none⟩ ⟨σ.l j,u,none⟩ (An (P:=P) hi (oi:=o) (oj:=u) B h);cases c:(Nat.beq i j&&Nat.beq o u)with
    |true=>
     have p:=c;rw[asH]at p;have q:=asy p.1;have s:=asy p.2;subst q;subst s;refine .inr ⟨0,m,w,by simp[gT],rfl,rfl,?_,l,L,λv=>by simp[jh]⟩;rw[c]at g;simp only[Instr.findAsking,l];simp[g]
    |false=>
     rw[c]at g;have F:(Instr.findAsking kt (.pointer (some ⟨σ.l i,o,none⟩)) (w::us) n).run P σ.w=(Instr.findAsking kt (.pointer (some ⟨σ.l i,o,none⟩)) us (n+1)).run P σ.w:=by
      simp only[Instr.findAsking,l];simp[g]
     have G:gT i o ((.bU,.di [.ref j u,m])::r)=gT i o r:=by simp only[gT,c,atV]
     have H:∀v,jh i o v ((.bU,.di [.ref j u,m])::r)=(.bU,.di [.ref j u,m])::jh i o v r:= λv=>by simp only[jh,c,atV]
     rcases mJ hi y z A (o:=o) B (n:=n+1) (es:=r) (us:=us) d (by simpa using C) (λk e u a b=>t (k+1) e u (by simpa using a) (by simpa using b))with⟨p,q,s⟩|⟨k,N,O,p,q,s,Q,R,S,T⟩
     .exact .inl ⟨by rw[G];exact p,by rw[F];exact q,λv=>by rw[H,s];rfl⟩
     .exact .inr ⟨k+1,N,O,by rw[G];exact p,by simpa using q,by simpa using s,by rw[F,Q];congr 3;omega,R,S,λv=>by rw[H,T];rfl⟩
  .cases d
def vt(b:P.underlying kt=some (.pointer e0))(p:Option Addr)(us:List MapEntry):
  (Instr.findKey kt (.pointer p) us).run P w=(Instr.findAsking kt (.pointer p) us).run P w:=by
 have a:(underlying kt).run P w=.ok (.pointer e0) w:=by simp[underlying,program,Sem.run,b]
 cases us with
 |nil=>simp[Instr.findKey,Instr.findNow,Instr.findAsking,a]
 |cons u us=>simp[Instr.findKey,Instr.findNow,Instr.sameNow,a]
def uk{b:Bool}{n:Nat}{v:Value}(h:P.underlying kt=some (.pointer e0)):(Instr.checkKey b (n+1) kt v).run P w=.ok () w:=by
 simp[Instr.checkKey,underlying,program,Sem.run,h]
section ops
variable{X:bW}{st:St}{dst:Option Nat}{ty:Nat}{pos:String}{af:Array Edge}{g:Option (Nat×Bool)}
def xb{x y:Operand}{z:D}(ht:X.P.underlying T=some (.map kt e))(I:ki X.P kt=true)[J:gN X.P e z]{ok:Bool}(K:st.ev x=some (.m (.mp i)))(L:st.ev y=some (.m (.ref j o)))(M:st.H[i]?=some (.map es))(N:gQ es=true):
  cL X ⟨dst,.lookup T x y ok,ty,pos,af,g⟩ st (du (bif ok then .m (match gT j o es with|some m=>.di [m,.d (.bool true)]|none=>.di [.d z,.d (.bool false)])else .m (match gT j o es with|some m=>m|none=>.d z)) st):=by
 refine OM λh k Y d=>?_
 have l:=d.ev K;have p:=d.ev L;obtain⟨Z,n0,A,O,P⟩:=xa I;obtain⟨C,q,E⟩:=(gF J.zero).run;generalize r:h.eval x=u at l;generalize a:h.eval y=V at p;cases p with
 |m p=>cases p with
  |ref j o cs Q=>
   cases l with
   |m l=>cases l with
    |mp i ac hh=>
     obtain⟨F,ah,s,R,S⟩:=d.hinv.obj i (.map es) (by rw[d.hH];exact M);have t:∀b v,(Instr.checkKey b 10000 kt v).run X.P k.w=.ok () k.w:= λb v=>uk (n:=9999) A
     have c:=vt (w:=k.w) A (some ⟨k.l j,o,none⟩) F.toList;rcases mJ d.hinv A O P (o:=o) Q (n:=0) (es:=es) (us:=F.toList) N (by simpa using R) (λi e u h b=>S i e u h (by simpa using b))with⟨B,G,_⟩|⟨n,m,u,B,G,h8,U,Ry,H,_⟩
     .rw[B];rw[G]at c;cases ok with
      |true=>
       refine⟨.tuple #[C,.bool false],?_,.m (.di _ _ W ?_)⟩
       .simp only[execOp,r,a,Instr.lookup];simp[underlying,program,Sem.run,ht,getObj,s,t,q];simp[c,q]
       .intro n m v f a
        match n with
        |0=>simp at f a;subst f;subst a;exact .d (ff E)
        |1=>simp at f a;subst f;subst a;exact .d (.bool _)
        |n+2=>simp at f
      |false=>
       refine⟨C,?_,.m (.d (ff E))⟩;simp only[execOp,r,a,Instr.lookup];simp[underlying,program,Sem.run,ht,getObj,s,t,q];simp[c,q]
     .rw[B];rw[U]at c;cases ok with
      |true=>
       refine⟨.tuple #[u.val,.bool true],?_,.m (.di _ _ W ?_)⟩
       .simp only[execOp,r,a,Instr.lookup];simp[underlying,program,Sem.run,ht,getObj,s,t];simp[c]
       .intro n m' v f a
        match n with
        |0=>simp at f a;subst f;subst a;exact H
        |1=>simp at f a;subst f;subst a;exact .d (.bool _)
        |n+2=>simp at f
      |false=>
       refine⟨u.val,?_,.m H⟩;simp only[execOp,r,a,Instr.lookup];simp[underlying,program,Sem.run,ht,getObj,s,t];simp[c]
def yF{x y z:Operand}{m:M}(ht:X.P.underlying T=some (.map kt e))(U:ki X.P kt=true)(V:st.ev x=some (.m (.mp i)))(Y:st.ev y=some (.m (.ref j o)))(Z:st.ev z=some (.m m))(K:st.H[i]?=some (.map es))(hk:gQ es=true):
  cL X ⟨dst,.mapUpdate T x y z,ty,pos,af,g⟩ st (du (.m .undef) ⟨st.sl,st.bx,st.H.set i (.map (jh j o m es))⟩):=by
 intro f a E p;have h:=p.ev V;have s:=p.ev Y;have t:=p.ev Z;obtain⟨e0,n0,F,hs,q⟩:=xa U;generalize d:f.eval x=u at h;generalize A:f.eval y=ah at s;cases t with
 |m t=>
 cases s with
 |m s=>cases s with
  |ref j o cs L=>
  have N:RM a (.ref j o) (.pointer (some ⟨a.l j,o,none⟩)):=.ref j o cs L;cases h with
  |m h=>cases h with
   |mp i co hh=>
    have Sd:a.H[i]?=some (.map es):=by rw[p.hH];exact K
    obtain⟨l,J,r,G,H⟩:=p.hinv.obj i (.map es) Sd;have OO:=gj r;have O:∀b v,(Instr.checkKey b 10000 kt v).run X.P a.w=.ok () a.w:= λb v=>uk (n:=9999) F
    have B:=vt (w:=a.w) F (some ⟨a.l j,o,none⟩) l.toList;have P:∀(k:Array MapEntry) (C:Nat),k.size=(jh j o m es).length->(∀(n:Nat) e u,(jh j o m es)[n]?=some e->k[n]?=some u->wj a e u)->
      ∃D:Sg,D.w=c8 a.w (a.l i) (.map k C)/\cC X D E ⟨st.sl,st.bx,st.H.set i (.map (jh j o m es))⟩ f:=by
     intro k C R S;obtain⟨I,k1,k2,k3,k4,k5⟩:=p.ra (j:=i) (b':=a.l i) (ob:=.map es) (PA:=.map (jh j o m es)) (w':=c8 a.w (a.l i) (.map k C)) K trivial W W W (by rw[kB];exact asj _)
      (λc _ a=>jv a) (.inl W) (λo v a=>(a trivial).elim) W (by
       intro I Ub hw _ _;exact⟨k,C,by rw[hw];exact gm OO,R,λn e u f b=>(S n e u f b).up λv A=>A.mono Ub⟩)
     exact⟨I,k1,k5⟩
    rcases mJ p.hinv F hs q (o:=o) L (n:=0) (es:=es) (us:=l.toList) hk (by simpa using G) (λi e u f b=>H i e u f (by simpa using b))with⟨h6,C,D⟩|⟨n,m',u,h6,C,D,h9,Ry,TD,Q⟩
    .rw[C]at B;obtain⟨I,R,S⟩:=P (l.push {key:=.pointer (some ⟨a.l j,o,none⟩),val:=f.eval z,born:=J}) (J+1) (by rw[D];simp[G]) (by
      intro n e u k d;rw[D]at k;rcases asp n es.length with q|q
      .rw[asl q]at k;rw[aue,asu (by omega)]at d;exact H n e u k d
      .rw[ass q]at k;have Sf:n-es.length=0:=by
        rcases asR (n-es.length)with h|h
        .exact h
        .rw[asr (by simp;omega)]at k;cases k
       rw[Sf]at k;simp at k;subst k;rw[aue,asB (by omega)]at d;injection d with d;subst d
       exact .inr ⟨W,RM.Gh N t⟩)
     refine dG.skip ?_ ⟨.m .undef,_,I,E,⟨W,W⟩,R,S,.m (.undef _)⟩;simp only[execOp,d,A,Instr.mapUpdate];simp[underlying,program,Sem.run,ht,getObj,r,O];simp[B];simp[Sem.run,setObj,c8,r]
    .rw[h9]at B;have Sl:n<l.size:=by
      have:=C;simp at this;rcases asp n l.size with h|h
      .exact h
      .simp[asZ h]at this
     obtain⟨S,k1,k2⟩:=P (l.modify n λe=>{e with key:=.pointer (some ⟨a.l j,o,none⟩),val:=f.eval z}) J (by rw[Q];simp[G]) (by
      intro R e u' k d;rw[Q]at k;rw[auv]at d;by_cases I:n=R
      .subst I;rw[vo D]at k;injection k with k;subst k
       simp[Sl]at d;subst d;exact .inr ⟨W,RM.Gh N t⟩
      .rw[asv I]at k;rw[asu I]at d;exact H R e u' k d)
     refine dG.skip ?_ ⟨.m .undef,_,S,E,⟨W,W⟩,k1,k2,.m (.undef _)⟩;have ac:l[n]?.map (·.key)=some (.pointer (some ⟨a.l j,o,none⟩)):=by
      have:l[n]?=some u:=by simpa using C
      rw[this];simp[Ry]
     have Pm:(Instr.keyThatStays (.pointer (some ⟨a.l j,o,none⟩)) (.pointer (some ⟨a.l j,o,none⟩))).run X.P a.w=.ok (.pointer (some ⟨a.l j,o,none⟩)) a.w:=by simp[Instr.keyThatStays,Instr.sameBits]
     simp only[execOp,d,A,Instr.mapUpdate];simp[underlying,program,Sem.run,ht,getObj,r,O];simp[B,ac,Pm];simp[Sem.run,setObj,c8,r]
end ops
end Go.Mt
namespace Go.Mt
section
variable{X:bW}{st:St}{dst:Option Nat}{ty:Nat}{pos:String}{af:Array Edge}{g:Option (Nat×Bool)}{pn:Nat}{H':Hp}
end
theorem cR{P:Program}{f:Nat}(h:IX P f=true):bw P f:=by
 unfold IX at h;split at h
 .rename_i fn c;simp only[asH,ats]at h;refine⟨λi w=>?_⟩;unfold callFunc;have a:fn.body.isNone=false:=by cases a:fn.body with
   |none=>rw[a]at h;simp at h
   |some b=>rfl
  have d:¬fn.name= "runtime.NumGoroutine" :=by simpa using h.1
  have g:¬fn.body=none:=by intro e;rw[e]at a;cases a
  simp[program,Sem.run,c,d,g]
 .cases h
section
variable{X:bW}{st:St}{dst:Option Nat}{ty:Nat}{pos:String}{af:Array Edge}{g:Option (Nat×Bool)}{C:EP}
end
section
variable{X:bW}{st:St}{dst:Option Nat}{ty:Nat}{pos:String}{af:Array Edge}{g:Option (Nat×Bool)}{C:EP}
end
variable{st:St}{N:Nat}{H:Hp}
section
variable{X:bW}{ops:Array Oper}{C:EP}
def L7(d:Option Nat)(v:V)(s:St):St:=match d with
 |some t=>⟨(t,v)::s.sl,s.bx,s.H⟩
 |none=>s
def cC.pad{σ:Sg}{OC:Nat->Nat}{a:Act}(hi:cC X σ OC st a)(k:Nat):∃τ:Sg,τ.w=σ.w/\cC X τ OC ⟨st.sl,st.bx,st.H++List.replicate k .free⟩ a:=by
 let m:=σ.H++List.replicate k Ob.free
 let τ:Sg:=⟨σ.w,σ.O,σ.l,m⟩
 have g:∀(i:Nat) c,σ.H[i]?=some c->m[i]?=some c:=by
  intro i c h;have f:i<σ.H.length:=fE h;show(σ.H++List.replicate k Ob.free)[i]?=_;rw[asl f];exact h
 have l:∀(i:Nat) c,m[i]?=some c->c.live->σ.H[i]?=some c:=by
  intro i c h j;have f:(σ.H++List.replicate k Ob.free)[i]?=some c:=h;rcases asp i σ.H.length with p|q
  .rw[asl p]at f;exact f
  .rw[ass q,auQ]at f;split at f
   .injection f with f;subst f;exact j.elim
   .cases f
 have n:dI σ τ:=⟨λb o v e d=>⟨e,d⟩,λi c h=>⟨⟨c,g i _ h⟩,rfl⟩,λi c h=>⟨⟨c,g i _ h⟩,rfl⟩,λi c h=>⟨⟨c,g i _ h⟩,rfl⟩,λi h=>g i _ h,
  λi e d d c h=>.inr ⟨e,d,c,g i _ h,asj _,λ_=>⟨rfl,rfl,λc T d=>⟨c,d,rfl⟩⟩⟩,λi h=>⟨_,g i _ h⟩⟩
 have u:kQ τ (ou X.j_ OC st.bx):=by
  refine⟨?_,?_,?_,?_,hi.hinv.mE⟩
  .intro i c h;by_cases j:c.live
   .exact(hi.hinv.obj i c (l i c h j)).cH n λx c=>c
   .cases c<;>first|trivial|exact absurd trivial j
  .intro i f x y e d p q r;exact hi.hinv.inj i f x y (l i x e p) (l f y d q) p q r
  .intro b o;show σ.O b o↔_;rw[hi.hinv.own];constructor
   .rintro(h|⟨i,x,e,d,f⟩)
    .exact .inl h
    .exact .inr ⟨i,x,g i x e,d,f⟩
   .rintro(h|⟨i,x,e,d,f⟩)
    .exact .inl h
    .exact .inr ⟨i,x,l i x e (Ob.jI f),d,f⟩
  .intro i c e d o f;exact hi.hinv.sep i c (l i c e d) d o f
 have s:bF σ τ:=⟨rfl,rfl,rfl,asj _,λ_ _ _=>rfl,λi c h j=>.inr ⟨c,l i c h j,j,rfl⟩⟩;have:=hi.heap n u (λt c h=>rfl) s;refine⟨τ,W,?_⟩;have t:τ.H=st.H++List.replicate k .free:=by show σ.H++_=_;rw[hi.hH]
 rw[t]at this;exact this
def TC.pad{c:Code}{post:Exit->St->Prop}(k:Nat)(h:TC X c ⟨st.sl,st.bx,st.H++List.replicate k .free⟩ post):TC X c st post:=by
 rintro a w ⟨i,d,rfl,e⟩;obtain⟨b,f,g⟩:=e.pad k;rw[<-f];exact h a _ ⟨b,d,W,g⟩
def ET(h:N<=H.length):ep.front N H []++H.drop N=H:=by
 refine ep.BX (N:=N) (by simp[ep.jL]) h ?_ (ep.pN _ _ _ _);intro i a;rw[ep.ri _ _ _ _ _ a];rfl
def rm{i:Nat}{ob:Ob}(h:N<=H.length)(hi:i<N):ep.front N H [(i,ob)]++H.drop N=H.set i ob:=by
 refine ep.BX (N:=N) (by simp[ep.jL]) (by simp;exact h) ?_ ?_
 .intro j a;rw[ep.ri _ _ _ _ _ a];by_cases e:i=j
  .subst e;simp[bM,atK,show i<H.length by omega]
  .have b:get [(i,ob)] j=none:=by rw[bM,asu e];rfl
   rw[b];simp[atK,asv e]
 .rw[ep.pN,List.drop_set_of_lt hi]
end
end Go.Mt
namespace Go.Mt
variable{o:Oper}{x:Operand}{N:Nat}{st:St}
section
variable{X:bW}{ops:Array Oper}{C:EP}
def Hn{t:Nat}(a:x∈o.op.operands.toList)(ht:x=.tmp t):t∈o.looksAt ops:=by
 unfold Oper.looksAt;refine ast.2 (.inl ?_);rw[List.mem_filterMap];exact⟨x,a,by subst ht;rfl⟩
def S2{e:ep.Ef}{a:St}(h:ep.Ag N ops o e st a)(b:x∈o.op.operands.toList):a.ev x=bh st.sl x:=by
 cases x with
 |tmp t=>exact h.sl t (Hn b W)
 |_=>rfl
def Da{d:Option Nat}{v:V}{a:List Nat}{rh:ep.Rh}(h:N<=st.H.length):ep.Ef.app N ⟨d,v,a,[],none,rh,[],none⟩ st=L7 d v st:=by
 unfold ep.Ef.app L7;simp only[asW,ET h];cases d<;>rfl
end
end Go.Mt
namespace Go.Mt
section
variable{X:bW}{C:EP}
end
section
variable{X:bW}{C:EP}
end
variable{X:bW}{sl O5:List (Nat×V)}{bx:List (Nat×List M)}{H H':Hp}
def again{I:Nat->St->Prop}{k k':Nat}(b:k'<k)(c:I k' ⟨O5,bx,H'⟩)(d:H=H')(e:keeps sl O5):
  ∃k' b,k'<k/\I k' b/\∀a w,Inv X ⟨sl,bx,H⟩ a w->Inv X b a w:=
 ⟨k',_,b,c,λ_ _ f=>by subst d;exact f.oh (ir e) (λ_=>rfl)⟩
def Qm{c:Code}{q:Exit->St->Prop}(O5:List (Nat×V))(H':Hp)(a:keeps sl O5)(b:H=H')(k:TC X c ⟨O5,bx,H'⟩ q):TC X c ⟨sl,bx,H⟩ q:=by
 subst b;exact TC.oh k a
def down(b:H=H')(c:keeps sl O5):∀a w,Inv X ⟨sl,bx,H⟩ a w->Inv X ⟨O5,bx,H'⟩ a w:=
 λ_ _ d=>by subst b;exact d.oh (ir c) (λ_=>rfl)
def kj(k:IntKind)(a:List Int):List (List D):=a.map λz=>[.int k z]
def pG(k:IntKind)(a:List Int)(v:D):Prop:=oV v=some a.length/\(a=[]\/v=.sl (kj k a))/\∀z∈a,(Lit.int k z).wf=true
def yG{k:IntKind}{a:List Int}{i:Nat}{z:Int}(h:a[i]?=some z):(kj k a)[((i:Nat):Int).toNat]?=some [.int k z]:=by simp[kj,h]
def vu(k:IntKind)(w:World)(a:Option Addr)(len cap:Nat)(b:List Int):Prop:=
 (a=none/\len=0/\cap=0/\b=[])\/
 ∃x,a=some x/\len<=cap/\cap<=maxLen/\b.length=cap/\(∀i,i<b.length->w.cell? (x.add i)=some (.int k (b.getD i 0)))/\∀n∈b,(Lit.int k n).wf=true
def Db(k:IntKind)(m:Option Addr)(a f:Nat)(c:List Int)(w:World)(q:vu k w m a f c)(C:a<=140737488355328):
  ∃(c:List Int) (v:D),pG k c v/\gL (λ_ _=>False) w v (.slice m a f):=by
 rcases q with⟨rfl,rfl,rfl,rfl⟩|⟨x,rfl,E,F,n,o,y⟩
 .exact⟨[],.sl [],⟨W,.inl W,by simp⟩,.slnil none⟩
 .by_cases s:a=0
  .subst s;exact⟨[],.pD,⟨W,.inl W,by simp⟩,.pD _ _⟩
  .obtain⟨b,z,B⟩:=x;have t:=o 0 (by omega);have A:B=none:=by simpa [Addr.add] using World.cell?_spot t
   subst A;have g:(kj k (c.take a)).length=a:=by simp[kj];omega
   refine⟨c.take a,.sl (kj k (c.take a)),⟨by simp[oV,kj],.inr W,λz n=>y z (aua n)⟩,?_⟩;have:=gL.sl (O:= λ_ _=>False) (w:=w) (kj k (c.take a)) b z f 1 (λi _=>.int k (c.getD i 0)) (by intro h;rw[h]at g;simp at g;omega) (by omega) (by omega)
     (by intro r e;rw[kj]at e;obtain⟨_,_,rfl⟩:=asK.1 e;rfl)
     (by
      intro i j p u;obtain rfl:j=0:=by omega
      refine⟨?_,λh=>h⟩;have:=o i (by omega);rcases asR i with rfl|l
      .simpa [dZ,Addr.add] using this
      .simpa [dZ,Addr.add,Nat.ne_of_gt l] using this)
     (by intro i j _ _;rfl)
     (by
      intro i j r d e l;have u:i<a:=by
       rcases asp i a with h|h
       .exact h
       .rw[asr (by omega)]at e;cases e
      have p:i<c.length:=by omega
      simp[kj,u,p]at e;subst e;cases j with
      |zero=>simp at l;subst l;simp[p];exact .int _ _
      |succ j=>simp at l)
   rw[g]at this;exact this
end Go.Mt
namespace Go.Mt
variable{e xt yt:Nat}{x:Operand}
section
variable{X:bW}{ops:Array Oper}{rest:List Oper}{sl:List (Nat×V)}{bx:List (Nat×List M)}{H:Hp}{post:St->Prop}{d ty:Nat}{pos:String}{af:Array Edge}{st:St}{dst:Option Nat}{g:Option (Nat×Bool)}
def EU{P:Program}{w:World}{t:Nat}(h:P.underlying t=some (.slice e))(a:Option Addr)(l c:Nat):(Op.equal t (.slice a l c) (.slice none 0 0)).run P w=.ok a.isNone w:=by
 have b:(underlying t).run P w=.ok (.slice e) w:=by simp[underlying,program,Sem.run,h]
 simp only[Op.equal,Op.maxDepth];rw[Op.equalIn];cases a<;>simp[b]
def I2[ht:aU X.P xt e](i:st.ev x=some (.m (.d (.sl [])))):
  cL X ⟨dst,.binOp .eql xt x (.const (.slice none 0 0)) yt,ty,pos,af,g⟩ st (λv s=>∃b,v=.m (.d (.bool b))/\s=st):=by
 intro c a j d;have h:=d.pE i;generalize k:c.eval x=u at h;cases h with
 |slnil f=>
  have l:c.eval (.const (.slice none 0 0))=.slice none 0 0:=rfl;have m:=EU (w:=a.w) ht.u f 0 0;refine dG.value (u:=.bool f.isNone) (w':=a.w) (by simp[execOp,k,l,eqGuard,binOp,m]) ⟨_,_,a,j,⟨_,rfl,rfl⟩,rfl,d,.m (.d (.bool _))⟩
 |sl z b o y l val f m n p q r t=>exact absurd W f
def KO[ht:aU X.P xt e](a:Nat.blt d X.n=true)(c:bh sl x=some (.m (.d (.sl []))))(k:∀b,TL X ops rest ⟨(d,.m (.d (.bool b)))::sl,bx,H⟩ post):
  TL X ops (⟨some d,.binOp .eql xt x (.const (.slice none 0 0)) yt,ty,pos,af,none⟩::rest) ⟨sl,bx,H⟩ post:=
 TL.op W W a (I2 (by exact c)) (by rintro v s ⟨b,rfl,rfl⟩;exact k b)
end
end Go.Mt
namespace Go.Mt
section
variable{X:bW}{ops:Array Oper}{rest:List Oper}{sl:List (Nat×V)}{bx:List (Nat×List M)}{H:Hp}{post:St->Prop}{d ty:Nat}{pos:String}{af:Array Edge}
end
variable{n f:Nat}{x:Operand}{H:Hp}{ms:List M}
def gw(b:Nat)(rs:List (List D)):M:=match rs with
 |[]=>.d (.sl [])
 |_::r=>.bC b r.length (r.length+1)
def dK(H0:Hp)(n:Nat)(rs:List (List D)):Hp:=match rs with
 |[]=>H0
 |q::r=>H0++[.row true n r.length (aY (q::r))]
def ji(H0:Hp)(n:Nat)(rs:List (List D))(a:∀r∈rs,r.length=n):jg (dK H0 n rs) (gw H0.length rs)=some (.sl rs):=by
 cases rs with
 |nil=>rfl
 |cons q r=>
  have h:=Acc.view (n:=n) (i:=H0.length) (rs:=q::r) (m:=gw H0.length (q::r)) (H:=dK H0 n (q::r)) (.inr ⟨by simp,r.length,by simp[gw],by simp[dK]⟩) a;exact h
def mK(b:Nat)(rs:List (List D)):iB (gw b rs)=some [gw b rs]:=by cases rs<;>rfl
def wz(H0:Hp)(n:Nat)(rs:List (List D))(j:Nat)(a:j<H0.length):(dK H0 n rs)[j]?=H0[j]?:=by
 cases rs with
 |nil=>rfl
 |cons q r=>simp only[dK];rw[asl a]
def EV(H0:Hp)(n:Nat)(rs:List (List D)):(dK H0 n rs).take H0.length=H0:=by cases rs<;>simp[dK]
def Ho(H0:Hp)(n:Nat)(rs:List (List D)):H0.length<=(dK H0 n rs).length:=by cases rs<;>simp[dK]
section
variable{X:bW}{ops:Array Oper}{rest:List Oper}{sl:List (Nat×V)}{bx:List (Nat×List M)}{post:St->Prop}{d ty:Nat}{pos:String}{af:Array Edge}
def rq{T e a:Nat}{y:Operand}{H0:Hp}{rs:List (List D)}{r:List D}{z:D}[ht:aU X.P T e][p:bY X.P e n][s:jR X.P e a][t:gN X.P e z](b:Nat.blt d X.n=true)
  (c:bh sl x=some (.m (gw H0.length rs))) (f:bh sl y=some (.m (.d (.sl [r])))) (l:Nat.blt 0 n=true) (g:(bg z).length=n) (h:r.length=n) (i:(rs.length+1)*a<=140737488355328) (m:rs.length+1<=140737488355328)
  (k:TL X ops rest ⟨(d,.m (gw H0.length (rs++[r])))::sl,bx,dK H0 n (rs++[r])⟩ post):
  TL X ops (⟨some d,.call ⟨.builtin .append,#[x,y],#[T,T]⟩,ty,pos,af,none⟩::rest) ⟨sl,bx,dK H0 n rs⟩ post:=by
 cases rs with
 |nil=>exact iZ true b c f l g (by simp) (by intro q j;rw[asx]at j;rw[j];exact h) (by simpa using i) k
 |cons q rs=>
  refine fW (acc:=true) (cs:=aY (q::rs)) b c f (by simp[dK]) g (by intro q j;rw[asx]at j;rw[j];exact h) (by simpa using i) (by simpa using m) ?_;have e:(dK H0 n (q::rs)).set H0.length (.row true n (rs.length+1) (aY (q::rs)++aY [r]))=dK H0 n (q::rs++[r]):=by simp[dK,aY]
  have o:M.bC H0.length (rs.length+1) (rs.length+1+1)=gw H0.length (q::rs++[r]):=by simp[gw]
  rw[<-e,<-o]at k;exact k
def ez{a:List Operand}(b:Nat.blt d X.n=true)(c:ga sl a=some ms)(k:TL X ops rest ⟨(d,.m (.fn f ms))::sl,bx,H⟩ post):
  TL X ops (⟨some d,.makeFunc (.func f) #[] a.toArray,ty,pos,af,none⟩::rest) ⟨sl,bx,H⟩ post:=
 Pf W W b (uj (by rw[nA];exact c)) k
def Hq{H':Hp}{a:List M}{args:List Operand}{RE:Array Nat}{r:M}[hf:bw X.P f](h:CT X.P f (ms++a) H λa b=>a=r/\b=H')(c:Nat.blt d X.n=true)(e:bh sl x=some (.m (.fn f a)))(a:ga sl args=some ms)
  (k:TL X ops rest ⟨(d,.m r)::sl,bx,H'⟩ post):TL X ops (⟨some d,.call ⟨.value x,args.toArray,RE⟩,ty,pos,af,none⟩::rest) ⟨sl,bx,H⟩ post:=
 Pf W W c (yA (w_ (by exact e) (by rw[nA];exact a)) h) k
end
def mi{x:List D}(h:x.length=n):∀r∈[x],r.length=n:=by intro r a;rw[asx]at a;rw[a];exact h
def pO{a b:Nat}(h:Nat.ble a b=true):a<=b:=atc h
def TC.MC{X:bW}{st:St}{post:Exit->St->Prop}{x y:Code}(b:St)(a:TC X x st (after post λs=>∀a w,Inv X s a w->Inv X b a w))(c:TC X y b post):TC X x st (after post λs=>TC X y s post):=
 a.mono λe s h=>by
  cases e with
  |normal=>exactλa w b=>c a w (h a w b)
  |_=>exact h
end Go.Mt
namespace Go.Mt
section ops
variable{X:bW}{st:St}{dst:Option Nat}{ty:Nat}{pos:String}{af:Array Edge}{g:Option (Nat×Bool)}
end ops
section rules
variable{X:bW}{ops:Array Oper}{rest:List Oper}{post:St->Prop}{sl:List (Nat×V)}{bx:List (Nat×List M)}{H:Hp}{d ty:Nat}{pos:String}{af:Array Edge}
end rules
variable{c x y:Code}{H H':Hp}{sl O5:List (Nat×V)}{bx:List (Nat×List M)}{id f k:Nat}{ms:List M}{P:Program}{ops:List Oper}{s sE:St}{p:M->Hp->Prop}{e:Exit}
def DT(P:Program)(f:Nat)(ms:List M)(H:Hp)(post:M->Hp->Prop):Prop:=∃r K,post r K/\CT P f ms H λa b=>a=r/\b=K
def DC(P:Program)(n B:Nat)(c:Code)(st:St)(post:Exit->St->Prop):Prop:=
 ∃e s,post e s/\∀a b,a.H.length<=B->TC ⟨P,n,a,b,[]⟩ c st λa b=>a=e/\b=s
def DT.mono{q:M->Hp->Prop}(h:DT P f ms H p)(k:∀r K,p r K->q r K):DT P f ms H q:=by
 obtain⟨r,K,a,b⟩:=h;exact⟨r,K,k _ _ a,b⟩
def DT.ct(h:DT P f ms H p):CT P f ms H p:=by
 obtain⟨r,K,c,d⟩:=h;exact d.mono λ_ _ ⟨a,b⟩=>by subst a;subst b;exact c
section
variable{P:Program}{n B:Nat}{st:St}{post:Exit->St->Prop}
def DC.mono{q:Exit->St->Prop}(h:DC P n B c st post)(k:∀e s,post e s->q e s):DC P n B c st q:=by
 obtain⟨e,s,a,b⟩:=h;exact⟨e,s,k _ _ a,b⟩
def DC.seq(h:DC P n B x st (after post λs=>DC P n B y s post)):DC P n B (.seq x y) st post:=by
 obtain⟨e,s,a,c⟩:=h;cases e with
 |normal=>
  obtain⟨j,k,l,m⟩:=a;exact⟨j,k,l,λd f g=>TC.seq ((c d f g).mono λo p ⟨i,b⟩=>by subst i;subst b;exact m d f g)⟩
 |_=>exact⟨_,s,a,λf g i=>TC.seq ((c f g i).mono λj k ⟨d,b⟩=>by subst d;subst b;exact⟨W,W⟩)⟩
def DC.skip(h:post .normal st):DC P n B .skip st post:=⟨_,_,h,λ_ _ _=>TC.skip ⟨rfl,rfl⟩⟩
def DC.exit(h:post (.exit id) st):DC P n B (.exit id) st post:=⟨_,_,h,λ_ _ _=>TC.exit ⟨rfl,rfl⟩⟩
def DC.ret(h:post .ret st):DC P n B .ret st post:=⟨_,_,h,λ_ _ _=>TC.ret ⟨rfl,rfl⟩⟩
def DC.block(h:DC P n B c st (sF id post)):DC P n B (.block id c) st post:=by
 obtain⟨e,s,a,f⟩:=h;by_cases d:e=.exit id
 .subst d;simp only[sF,auz]at a;refine⟨.normal,s,a,λi j k=>TC.block ((f i j k).mono λl m ⟨g,b⟩=>?_)⟩;subst g;subst b;simp[sF]
 .refine⟨e,s,?_,λj k l=>TC.block ((f j k l).mono λm o ⟨g,b⟩=>?_)⟩
  .cases e with
   |exit i=>simp only[sF]at a;rw[asu (by rintro rfl;exact d W)]at a;exact a
   |_=>exact a
  .subst g;subst b;cases m with
   |exit i=>show(if i=id then _ else _);rw[asu (by rintro rfl;exact d W)];exact⟨W,W⟩
   |_=>exact⟨W,W⟩
def DC.cond{c:Operand}{b:Bool}(a:st.ev c=some (.m (.d (.bool b))))(ht:b=true->DC P n B x st post)(hf:b=false->DC P n B y st post):DC P n B (.cond c x y) st post:=by
 cases b with
 |true=>
  obtain⟨e,s,d,f⟩:=ht W;exact⟨e,s,d,λg i j=>TC.cond a (λ_=>f g i j) (λh=>by cases h)⟩
 |false=>
  obtain⟨e,s,d,f⟩:=hf W;exact⟨e,s,d,λg i j=>TC.cond a (λh=>by cases h) (λ_=>f g i j)⟩
def DC.region(h:∃s,(∀a b,TL ⟨P,n,a,b,[]⟩ ops.toArray ops st λa=>a=s)/\post .normal s):DC P n B (.region id ops.toArray false) st post:=by
 obtain⟨s,c,d⟩:=h;refine⟨.normal,s,d,λa b _=>TC.region ?_⟩;show TL _ _ _ _ (λa=>Exit.normal=Exit.normal/\a=s);rw[show(λa:St=>Exit.normal=Exit.normal/\a=s)=(λa=>a=s)from funext λa=>by simp];exact c a b
def DC.draw(e:P.follows .mixedOrders=true)(h:∃s,(∀a b,TF ⟨P,n,a,b,[]⟩ ops.toArray ops st λc d=>gO ops st.sl c=true/\d=s)/\post .normal s):DC P n B (.region id ops.toArray true) st post:=by
 obtain⟨s,f,g⟩:=h;refine⟨.normal,s,g,λa b _=>TC.draw e ?_⟩;obtain⟨c,d,i,j,k⟩:=f a b;exact⟨c,d,i,j,W,k⟩
def Ow(a:P.follows .mixedOrders=true)(b:∀a b,TF ⟨P,n,a,b,[]⟩ ops.toArray ops st λa b=>gO ops st.sl a=true/\b=s)(c:post .normal s):DC P n B (.region id ops.toArray true) st post:=DC.draw a ⟨s,b,c⟩
def Qg(d:St)(g:∀a f,a.H.length<=B->∀b w,Inv ⟨P,n,a,f,[]⟩ st b w->Inv ⟨P,n,a,f,[]⟩ d b w)(k:DC P n B c d post):DC P n B c st post:=by
 obtain⟨e,s,a,h⟩:=k;exact⟨e,s,a,λb d f a w i=>h b d f a w (g b d f a w i)⟩
inductive rr(P:Program)(n B:Nat)(c:Code):Nat->St->Exit->St->Prop where
 |stop {s a:St} {e:Exit} (b:e≠.normal) (h:∀b d,b.H.length<=B->TC ⟨P,n,b,d,[]⟩ c s λb d=>b=e/\d=a):rr P n B c 0 s e a
 |more {k:Nat} {s d g a:St} {e:Exit} (h:∀a b,a.H.length<=B->TC ⟨P,n,a,b,[]⟩ c s λa b=>a=.normal/\b=d)
   (hw:∀a f,a.H.length<=B->∀b w,Inv ⟨P,n,a,f,[]⟩ d b w->Inv ⟨P,n,a,f,[]⟩ g b w) (hk:rr P n B c k g e a):rr P n B c (k+1) s e a
def rr.ne(h:rr P n B c k s e sE):e≠.normal:=by
 induction h with
 |stop a _=>exact a
 |more _ _ _ a=>exact a
def rr.run(h:rr P n B c k s e sE)(a:Sg)(d:Nat->Nat->Prop)(g:a.H.length<=B):TC ⟨P,n,a,d,[]⟩ (.loop c) s λf i=>f=e/\i=sE:=by
 have o:=h.ne;refine TC.IP (λk s=>rr P n B c k s e sE) k s h (λ_ _ a=>a) ?_;intro k s l;cases l with
 |stop m h=>
  refine(h a d g).mono λf i ⟨j,b⟩=>?_
  subst j;subst b;cases f with
  |normal=>exact absurd W m
  |_=>exact⟨W,W⟩
 |more h m k=>
  refine(h a d g).mono λf i ⟨j,b⟩=>?_
  subst j;subst b;exact⟨_,_,Nat.lt_succ_self _,k,m a d g⟩
def yH(P:Program)(n B:Nat)(I:Nat->St->Prop)(k:Nat)(s:St):Prop:=
 ∃a c,a<k/\I a c/\∀a d,a.H.length<=B->∀b w,Inv ⟨P,n,a,d,[]⟩ s b w->Inv ⟨P,n,a,d,[]⟩ c b w
def DC.MD(I:Nat->St->Prop)(f:Nat)(g:I f st)(w:∀k s,I k s->DC P n B c s (after post λa=>yH P n B I k a)):DC P n B (.loop c) st post:=by
 have v:∀k s,I k s->∃m e a,rr P n B c m s e a/\post e a:=by
  intro k
  induction k using Nat.strongRecOn with
  |ind k h=>
   intro s i;obtain⟨e,j,b,d⟩:=w k s i;cases e with
   |normal=>
    obtain⟨l,o,p,q,r⟩:=b;obtain⟨m,e,a,t,u⟩:=h l p o q;exact⟨m+1,e,a,.more d r t,u⟩
   |_=>exact⟨0,_,j,.stop (by simp) d,b⟩
 obtain⟨m,e,a,b,d⟩:=v f st g;exact⟨e,a,d,λa d f=>b.run a d f⟩
def DC.loop(I:Nat->St->Prop)(a:Nat)(O5:List (Nat×V))(b:I a ⟨O5,bx,H⟩)(d:keeps sl O5)
  (e:∀k s,I k s->DC P n B c s (after post λa=>yH P n B I k a)):DC P n B (.loop c) ⟨sl,bx,H⟩ post:=
 Qg ⟨O5,bx,H⟩ (λ_ _ _ a w a=>a.oh (ir d) λ_=>rfl) (DC.MD I a b e)
def bG{I:Nat->St->Prop}{k':Nat}(a:k'<k)(b:I k' ⟨O5,bx,H'⟩)(c:H=H')(d:keeps sl O5):yH P n B I k ⟨sl,bx,H⟩:=
 ⟨k',_,a,b,λ_ _ _ _ _ e=>by subst c;exact e.oh (ir d) (λ_=>rfl)⟩
def OB(O5:List (Nat×V))(H':Hp)(a:keeps sl O5)(b:H=H')(k:DC P n B c ⟨O5,bx,H'⟩ post):DC P n B c ⟨sl,bx,H⟩ post:=by
 subst b;exact Qg _ (λ_ _ _ b w b=>b.oh (ir a) λ_=>rfl) k
def DC.vw(O5:List (Nat×V))(Po:List (Nat×List M))(H':Hp)(a:keeps sl O5)(d:∀t,get Po t=get bx t)(b:H=H')(k:DC P n B c ⟨O5,Po,H'⟩ post):DC P n B c ⟨sl,bx,H⟩ post:=by
 subst b;exact Qg _ (λ_ _ _ b w b=>b.oh (ir a) d) k
def DC.cq(t:Nat){m:M}{x:D}(a:get sl t=some (.m m))(b:jg H m=some x)(k:DC P n B c ⟨(t,.m (.d x))::sl,bx,H⟩ post):DC P n B c ⟨sl,bx,H⟩ post:=
 Qg _ (λ_ _ _ d w d=>d.cq a b) k
def DC.gP(t:Nat){cs OS:List M}(a:get bx t=some cs)(b:iv H cs=some OS)(k:DC P n B c ⟨sl,(t,OS)::bx,H⟩ post):DC P n B c ⟨sl,bx,H⟩ post:=
 Qg _ (λ_ _ _ d w d=>d.gP a b) k
def DC.MC(c:St)(a:DC P n B x st (after post λs=>∀a d,a.H.length<=B->∀b w,Inv ⟨P,n,a,d,[]⟩ s b w->Inv ⟨P,n,a,d,[]⟩ c b w))(b:DC P n B y c post):DC P n B x st (after post λs=>DC P n B y s post):=
 a.mono λe s h=>by
  cases e with
  |normal=>exact Qg _ h b
  |_=>exact h
def cN(b:H=H')(c:keeps sl O5):∀b c,b.H.length<=B->∀a w,Inv ⟨P,n,b,c,[]⟩ ⟨sl,bx,H⟩ a w->Inv ⟨P,n,b,c,[]⟩ ⟨O5,bx,H'⟩ a w:=
 λ_ _ _ _ _ d=>by subst b;exact d.oh (ir c) (λ_=>rfl)
end
def DT.vj{fn:Func}{post:M->Hp->Prop}(hf:P.funcs[f]?=some fn)(k:fn.body=some c)
  {n:Nat} (l:fn.ntmps=n) (o:Nat.ble ms.length n=true) (h:DC P n H.length c ⟨qX 0 ms,[],H⟩ (sI P fn post)):DT P f ms H post:=by
 obtain⟨e,s,g,p⟩:=h;have j:∀m,lP P fn s=some m->(∀a,a=e->∀d,d=s->sI P fn (λa d=>a=m/\d=s.H) a d)->CT P f ms H λq r=>q=m/\r=s.H:= λm v t=>
  CT.vj hf k l o λg i=>TC.base λj=>(p g i j).mono λa d ⟨i,b⟩=>t a i d b
 cases e with
 |normal=>
  obtain⟨m,i,u⟩:=g;exact⟨m,s.H,u,j m i (by rintro _ rfl _ rfl;exact⟨m,i,W,W⟩)⟩
 |ret=>
  obtain⟨m,i,u⟩:=g;exact⟨m,s.H,u,j m i (by rintro _ rfl _ rfl;exact⟨m,i,W,W⟩)⟩
 |_=>exact g.elim
section
variable{X:bW}{ops:Array Oper}{rest:List Oper}{sl:List (Nat×V)}{bx:List (Nat×List M)}{H:Hp}{post:St->Prop}{d ty:Nat}{pos:String}{af:Array Edge}
def au{args:List Operand}{RE:Array Nat}{r:M}{K:Hp}[hf:bw X.P f](h:CT X.P f ms H λa b=>a=r/\b=K)(a:Nat.blt d X.n=true)(b:ga sl args=some ms)
  (k:TL X ops rest ⟨(d,.m r)::sl,bx,K⟩ post):TL X ops (⟨some d,.call ⟨.value (.func f),args.toArray,RE⟩,ty,pos,af,none⟩::rest) ⟨sl,bx,H⟩ post:=
 yi h a b (by rintro _ _ ⟨rfl,rfl⟩;exact k)
end
end Go.Mt
namespace Go.Mt
variable{P:Program}{t xt yt:Nat}{w:World}{x y:Operand}{k1 k2:Int}{s1 s2:ByteArray}
def L8(P:Program)(t:Nat):Bool:=match P.underlying t with
 |some (.int .u8)=>true
 |_=>false
def I3(P:Program)(t:Nat):Bool:=match P.underlying t with
 |some .string=>true
 |_=>false
def NA(P:Program)(t:Nat):Bool:=match P.underlying t with
 |some (.struct a)=>match a.toList with
  |[a,b]=> !decide (a.name= "_")&& !decide (b.name= "_")&&Nat.beq a.offset 0&&Nat.beq b.offset 1&&L8 P a.type&&I3 P b.type&& !P.stoodInHeld t&& !P.eqGuardType P.depth t
  |_=>false
 |_=>false
class AK(P:Program)(t:Nat):Prop where
 b:NA P t=true
def AK.u(h:AK P t):(∃a b:Field,P.underlying t=some (.struct #[a,b])/\(a.name= "_")=False/\(b.name= "_")=False/\a.offset=0/\b.offset=1/\P.underlying a.type=some (.int .u8)/\P.underlying b.type=some .string)/\P.stoodInHeld t=false/\P.eqGuardType P.depth t=false:=by
 have c:=h.b;unfold NA at c;split at c
 .rename_i g i;split at c
  .rename_i a b j;simp only[asH,ats,decide_eq_false_iff_not]at c;obtain⟨⟨⟨⟨⟨⟨⟨k,l⟩,m⟩,n⟩,d⟩,f⟩,o⟩,p⟩:=c;have e:g= #[a,b]:=by rw[<-j]
   refine⟨⟨a,b,by rw[i,e],eq_false k,eq_false l,asy m,asy n,?_,?_⟩,o,p⟩
   .unfold L8 at d;split at d
    .assumption
    .cases d
   .unfold I3 at f;split at f
    .assumption
    .cases f
  .cases c
 .cases c
def Hr(h:AK P t)(e f:Int)(g i:ByteArray):
  (Op.equal t (.agg #[.int .u8 e,.string g]) (.agg #[.int .u8 f,.string i])).run P w=.ok (decide (e=f)&&decide (g=i)) w:=by
 obtain⟨⟨c,d,a,j,k,r,u,s,v⟩,x,D⟩:=h.u;have y:(underlying t).run P w=.ok (.struct #[c,d]) w:=by simp[underlying,program,Sem.run,a]
 have q:(underlying c.type).run P w=.ok (.int .u8) w:=by simp[underlying,program,Sem.run,s]
 have l:(underlying d.type).run P w=.ok .string w:=by simp[underlying,program,Sem.run,v]
 have z:(program).run P w=.ok P w:=by simp[program,Sem.run]
 have m:∀a b:Int,(Op.equalIn 9999 c.type (.int .u8 a) (.int .u8 b)).run P w=.ok (decide (a=b)) w:=by
  intro a b;rw[Op.equalIn];simp[q];by_cases A:a=b<;>simp[A]
 have n:∀a b:ByteArray,(Op.equalIn 9999 d.type (.string a) (.string b)).run P w=.ok (decide (a=b)) w:=by
  intro a b;rw[Op.equalIn];simp[l,KI]
 have o:∀a:Int,∀s:ByteArray,(part c.type #[.int .u8 a,.string s] c.offset).run P w=.ok (.int .u8 a) w:=by
  intro a s;simp[part,isAgg,q,r]
 have p:∀a:Int,∀s:ByteArray,(part d.type #[.int .u8 a,.string s] d.offset).run P w=.ok (.string s) w:=by
  intro a s;simp[part,isAgg,l,u]
 simp only[Op.equal,Op.maxDepth];rw[Op.equalIn];simp[y,z,x,j,k,o,p,m,n];by_cases B:e=f<;>by_cases C:g=i<;>simp[B,C,o,p,m,n,j,k]
def Gi{O:Nat->Nat->Prop}{k:Int}{s:ByteArray}{v:Value}(h:gL O w (.agg [.int .u8 k,.str s]) v):v=.agg #[.int .u8 k,.string s]:=by
 cases h with
 |agg _ d e i a=>
  obtain⟨l⟩:=d
  match l,e with
  |[c,b],_=>
   have f:=a 0 _ c W W;have g:=a 1 _ b W W;cases f;cases g;rfl
section
variable{X:bW}{st:St}{dst:Option Nat}{ty:Nat}{pos:String}{af:Array Edge}{g:Option (Nat×Bool)}
def I4[ht:AK X.P xt](c:st.ev x=some (.m (.d (.agg [.int .u8 k1,.str s1]))))(d:st.ev y=some (.m (.d (.agg [.int .u8 k2,.str s2])))):
  cL X ⟨dst,.binOp .eql xt x y yt,ty,pos,af,g⟩ st (du (.m (.d (.bool (decide (k1=k2)&&decide (s1=s2))))) st):=by
 refine OM λe a f b=>?_
 have e:=Gi (b.pE c);have c:=Gi (b.pE d);have b:(program).run X.P a.w=.ok X.P a.w:=by simp[program,Sem.run]
 have d:=Hr (w:=a.w) ht k1 k2 s1 s2;exact⟨_,by simp[execOp,e,c,eqGuard,b,ht.u.2.2,binOp,d],.m (.d (.bool _))⟩
end
section
variable{X:bW}{ops:Array Oper}{rest:List Oper}{post:St->Prop}{sl:List (Nat×V)}{bx:List (Nat×List M)}{H:Hp}{d ty:Nat}{pos:String}{af:Array Edge}
def Gj[ht:AK X.P xt](a:Nat.blt d X.n=true)(b:bh sl x=some (.m (.d (.agg [.int .u8 k1,.str s1]))))(c:bh sl y=some (.m (.d (.agg [.int .u8 k2,.str s2]))))
  (k:TL X ops rest ⟨(d,.m (.d (.bool (decide (k1=k2)&&decide (s1=s2)))))::sl,bx,H⟩ post):TL X ops (⟨some d,.binOp .eql xt x y yt,ty,pos,af,none⟩::rest) ⟨sl,bx,H⟩ post:=
 Pf W W a (I4 b c) k
end
end Go.Mt
namespace Go.Mt
variable{X:bW}{I:Hp->Prop}{ops:Array Oper}{st:St}{post:List Ef->St->Prop}{rest:List Oper}{id:Nat}
def jr.nil(h:post [] st):jr X I ops [] st post:=⟨[],st,.nil st,h⟩
def jr.cons{X:bW}{I:Hp->Prop}{ops:Array Oper}{o:Oper}{rest:List Oper}{st:St}{e:Ef}{post:List Ef->St->Prop}(h:BQ X I ops o e st)(b:e.d=o.dst)
  (k:jr X I ops rest (e.app st) λa s=>post (e::a) s):jr X I ops (o::rest) st post:=by
 obtain⟨a,c,d,f⟩:=k;exact⟨e::a,c,.cons h b d,f⟩
def OA{o:Oper}{b:St}{e:Ef}(h:TF X ops [o] st λa s=>a=[e]/\s=b)
  (k:jr X I ops rest b λa s=>post (e::a) s):jr X I ops (o::rest) st post:=by
 obtain⟨a,g,c,rfl,rfl⟩:=h;cases c with
 |cons h d f=>
  cases f;exact jr.cons (λa b _=>h a b) d k
def OH{sl:List (Nat×V)}{bx:List (Nat×List M)}{H:Hp}{d ty:Nat}{pos:String}{af:Array Edge}{T:Nat}{x:Operand}{i off:Nat}{m:M}[ht:cA X.P T](b:Nat.blt d X.n=true)
  (c:bh sl x=some (.m (.ref i off))) (f:∀H,I H->∃a,H[i]?=some (.box a)/\a[off]?=some m) (k:jr X I ops rest ⟨(d,.m m)::sl,bx,H⟩ λa s=>post (⟨some d,.m m,[],[],none,false,none⟩::a) s):
  jr X I ops (⟨some d,.load T x,ty,pos,af,none⟩::rest) ⟨sl,bx,H⟩ post:=by
 refine jr.cons (e:=⟨some d,.m m,[],[],none,false,none⟩) (λg h j=>?_) W k;obtain⟨a,l,n⟩:=f _ j;have o:=(h.ev (x:=x) (by simp[Op.operands])).trans c;exact(lQ (X:=X) (st:=g) (dst:=some d) o l (by simp[gS,ht.cell,n])).Hg W W (bN b)
def yI(I:Hp->Prop):List Ef->Prop
 |[]=>True
 |e::r=>(match e.wh with|none=>True|some h=>I h)/\yI I r
def yI.mem:∀{es:List Ef},yI I es->∀e∈es,∀h,e.wh=some h->I h
 |[],_,e,a,_,_=>by cases a
 |f::r,⟨b,d⟩,e,a,h,c=>by
  rcases asQ.1 a with rfl|a
  .rw[c]at b;exact b
  .exact yI.mem d e a h c
def TC.EW{ops:List Oper}{post:Exit->St->Prop}(I:Hp->Prop)(c:I st.H)(d:X.P.follows .mixedOrders=true)
  (h:jr X I ops.toArray ops st λa b=>gO ops st.sl a=true/\(∀e∈a,∀h,e.wh=some h->I h)/\post .normal b):TC X (.region id ops.toArray true) st post:=by
 obtain⟨a,b,f,g,i,j⟩:=h;exact TC.EH I c d ⟨a,b,f,g,.all i,j⟩
section
variable{P:Program}{n B:Nat}{st:St}{post:Exit->St->Prop}
def DC.EW{ops:List Oper}{s:St}(I:Hp->Prop)(e:I st.H)(f:P.follows .mixedOrders=true)(g:∀b c,jr ⟨P,n,b,c,[]⟩ I ops.toArray ops st λa d=>gO ops st.sl a=true/\yI I a/\d=s)(h:post .normal s):DC P n B (.region id ops.toArray true) st post:=by
 refine⟨.normal,s,h,λb c _=>TC.EW I e f ?_⟩;obtain⟨a,d,i,j,k,l⟩:=g b c;exact⟨a,d,i,j,k.mem,W,l⟩
end
end Go.Mt
namespace Go.Mt
variable{n i e T nb t h:Nat}{m:M}{H H':Hp}{x y:Operand}{rs rows:List (List D)}{z:D}{kk:IntKind}
def CT.I5{P:Program}{f:Nat}{d:D}{rest:List M}{post:M->Hp->Prop}(k:jg H m=some d)(h:CT P f (.d d::rest) H post):CT P f (m::rest) H post:=by
 intro j l n c e a;refine h j l n c e ⟨a.1,λi x v b g=>?_⟩;cases i with
 |zero=>
  simp at b;subst b;exact RM.view c (a.2 0 m v W g) (by rw[e];exact k)
 |succ i=>exact a.2 (i+1) x v b g
def h_(m:M)(H:Hp)(rows:List (List D)):M:=match m with
 |.bC i a b=>.bC i (a+1) (b+rows.length)
 |_=>uF H rows
def eQ(n:Nat)(m:M)(H:Hp)(rows:List (List D)):Hp:=match m with
 |.bC i b a=>match H[i]? with
  |some (.row a _ _ c)=>H.set i (.row a n (b+1) (c++aY rows))
  |_=>H
 |_=>jS H n rows
def fX(m:M)(H:Hp)(rows:List (List D)):iB (h_ m H rows)=some [h_ m H rows]:=by
 cases m<;>cases rows<;>rfl
section
variable{X:bW}{ops:Array Oper}{rest:List Oper}{sl:List (Nat×V)}{bx:List (Nat×List M)}{H:Hp}{post:St->Prop}{OZ:List Ef->St->Prop}{d ty:Nat}{pos:String}{af:Array Edge}
def mj[ht:aU X.P T e][q:bY X.P e n][r:jR X.P e nb][s:gN X.P e z](l:Acc n i rs m H)(a:Nat.blt d X.n=true)(b:bh sl x=some (.m m))(c:bh sl y=some (.m (.d (.sl rows))))
  (o:Nat.blt 0 n=true) (f:(bg z).length=n) (g:∀r∈rows,r.length=n) (h:(rs.length+rows.length)*nb<=140737488355328) (p:rs.length+rows.length<=140737488355328)
  (k:TL X ops rest ⟨(d,.m (h_ m H rows))::sl,bx,eQ n m H rows⟩ post):TL X ops (⟨some d,.call ⟨.builtin .append,#[x,y],#[T,T]⟩,ty,pos,af,none⟩::rest) ⟨sl,bx,H⟩ post:=by
 rcases l with⟨rfl,rfl⟩|⟨t,u,rfl,j⟩
 .exact Gf a b c o f g (by simpa using h) k
 .refine fW a b c j f g h p ?_;simp only[h_,eQ,j]at k;exact k
def xH{r:List D}[ht:aU X.P T e][q:bY X.P e n][s:jR X.P e nb][t:gN X.P e z](l:Acc n i rs m H)(a:Nat.blt d X.n=true)(b:bh sl x=some (.m m))(c:bh sl y=some (.m (.d (.sl [r]))))
  (o:Nat.blt 0 n=true) (f:(bg z).length=n) (g:r.length=n) (h:(rs.length+1)*nb<=140737488355328) (p:rs.length+1<=140737488355328)
  (k:TF X ops rest ⟨(d,.m (h_ m H [r]))::sl,bx,eQ n m H [r]⟩ λa b=>OZ (⟨some d,.m (h_ m H [r]),[],[],none,true,some (eQ n m H [r])⟩::a) b):TF X ops (⟨some d,.call ⟨.builtin .append,#[x,y],#[T,T]⟩,ty,pos,af,none⟩::rest) ⟨sl,bx,H⟩ OZ:=by
 rcases l with⟨rfl,rfl⟩|⟨u,v,rfl,j⟩
 .exact yy true a b c o f (by simp) (mi g) (by simpa using h) k
 .refine yz a b c j f (mi g) h p ?_;simp only[h_,eQ,j]at k;exact k
def iM{len:Nat}{parts:List (Nat×Operand)}{ms:List (Nat×M)}{cs:List M}[ht:aU X.P T e][f:bY X.P e n][g:gN X.P e z](a:Nat.blt d X.n=true)(b:Nat.blt 0 n=true)(c:(bg z).length=n)
  (g:Nat.ble (len*n) 16777216=true) (f:ij sl parts=some ms) (hf:gu (λi=>some (i*n,n)) (ey n len (bg z)) ms=some cs)
  (k:TL X ops rest ⟨(d,.m (.bC H.length 0 len))::sl,bx,H++[.row false n 0 cs]⟩ post):TL X ops (⟨some d,.buildSlice T len parts.toArray,ty,pos,af,none⟩::rest) ⟨sl,bx,H⟩ post:=
 Pf W W a (nU b c g (by rw[iL];exact f) hf (.inl ⟨W,W⟩)) k
def B1(rows:List (List D)):D:=match rows with
 |[]=>.pD
 |r=>.sl r
def Hs(rows:List (List D)):oV (B1 rows)=some rows.length:=by cases rows<;>rfl
def EX[ht:aU X.P t e][q:bY X.P e n](b:Nat.blt d X.n=true)(c:bh sl x=some (.m (.d (.sl rows))))(f:bh sl y=some (.m (.d (.int kk ((h:Nat):Int)))))(i:rows≠[])(o:h<=rows.length)(j:∀r∈rows,r.length=n)
  (k:TL X ops rest ⟨(d,.m (.d (B1 (rows.drop h))))::sl,bx,H⟩ post):TL X ops (⟨some d,.slice t x (some y) none none,ty,pos,af,none⟩::rest) ⟨sl,bx,H⟩ post:=by
 refine Pf (v:=.m (.d (B1 (rows.drop h)))) (O5:=sl) (Po:=bx) (H':=H) W W b ?_ k;have this:=uH (X:=X) (st:=⟨sl,bx,H⟩) (dst:=some d) (ty:=ty) (pos:=pos) (af:=af) (g:=none) (t:=t) (lo:=some y) (hi:=none) (l:=some h) (h:=none) c (by simp only[uG,St.ev,f]) W i o (asj _) j;have m:(rows.drop ((some h).getD 0)).take (((none:Option Nat).getD rows.length)-(some h).getD 0)=rows.drop h:=by
  show(rows.drop h).take (rows.length-h)=rows.drop h;exact ath (by simp)
 rw[m]at this;cases a:rows.drop h with
 |nil=>rw[a]at this;exact this
 |cons p r=>rw[a]at this;exact this
def yJ[ht:aU X.P t e][z:bY X.P e n](i:Nat.blt d X.n=true)(j:bh sl x=some (.m (.d (.sl rows))))(m:bh sl y=some (.m (.d (.int kk ((h:Nat):Int)))))(a:rows≠[])(A:0<h)(s:h<=rows.length)(o:∀r∈rows,r.length=n)
  (k:TF X ops rest ⟨(d,.m (.d (.sl (rows.take h))))::sl,bx,H⟩ λa b=>OZ (⟨some d,.m (.d (.sl (rows.take h))),[],[],none,false,none⟩::a) b):TF X ops (⟨some d,.slice t x none (some y) none,ty,pos,af,none⟩::rest) ⟨sl,bx,H⟩ OZ:=by
 refine TF.cons (e:=⟨some d,.m (.d (.sl (rows.take h))),[],[],none,false,none⟩) (OU W W (bN i) λp b=>?_) W k;have u:=(b.ev (x:=x) (by simp[Op.operands])).trans j;have v:=(b.ev (x:=y) (by simp[Op.operands])).trans m;have this:=uH (X:=X) (st:=p) (dst:=some d) (ty:=ty) (pos:=pos) (af:=af) (g:=none) (t:=t) (lo:=none) (hi:=some y) (l:=none) (h:=some h) u W (by simp only[uG,v]) a (as2 _) s o;have q:(rows.drop ((none:Option Nat).getD 0)).take (((some h:Option Nat).getD rows.length)-(none:Option Nat).getD 0)=rows.take h:=by simp
 rw[q]at this;cases c:rows.take h with
 |nil=>
  cases rows with
  |nil=>exact absurd W a
  |cons w r=>obtain⟨f,rfl⟩:∃f,h=f+1:=⟨h-1,by omega⟩;simp at c
 |cons f r=>rw[c]at this;exact this
end
def rV{ob:Ob}(h:H[i]?=some ob):i<H.length:=by
 rcases asp i H.length with a|a
 .exact a
 .simp[asr a]at h
def Acc.other(h:Acc n i rs m H)(a:∀a,H[i]?=some a->H'[i]?=some a):Acc n i rs m H':=by
 rcases h with h|⟨b,c,d,e⟩
 .exact .inl h
 .exact .inr ⟨b,c,d,a _ e⟩
def Acc.any{j:Nat}(h:Acc n i [] m H):Acc n j [] m H':=by
 rcases h with h|⟨a,_⟩
 .exact .inl h
 .exact absurd W a
def Acc.lt(h:Acc n i rs m H)(a:rs≠[]):i<H.length:=by
 rcases h with⟨h,_⟩|⟨_,c,_,b⟩
 .exact absurd h a
 .exact rV b
end Go.Mt
