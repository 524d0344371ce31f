/- A part of the proof of the last text of this claim, without conditions. -/
import Derived.Test.YtbafhpblecdbbaaGreatDoorC
set_option maxRecDepth 4000
set_option linter.all false
namespace Go.Mt.bR
inductive Rh where
 |no
 |ix (l:List Nat)
 |all
structure Ef where
 d:Option Nat
 v:V
 rb:List Nat
 wb:List (Nat×List M)
 nw:Option Nat
 rh:Rh
 wh:List (Nat×Ob)
 tl:Option Hp
def front(N:Nat)(H:Hp)(wh:List (Nat×Ob)):Hp:=(List.range N).map λi=>match get wh i with|some ob=>ob|none=>H.getD i .dead
def Ef.app(N:Nat)(e:Ef)(st:St):St:=
 ⟨match e.d with|some d=>(d,e.v)::st.sl|none=>st.sl,e.wb++st.bx,front N st.H e.wh++(match e.tl with|some t=>t|none=>st.H.drop N)⟩
theorem dr(N:Nat)(H:Hp)(wh:List (Nat×Ob)):(front N H wh).length=N:=by simp[front]
theorem gC(N:Nat)(H:Hp)(wh:List (Nat×Ob))(t:Hp)(i:Nat)(hi:i<N):(front N H wh++t).getD i .dead=match get wh i with|some ob=>ob|none=>H.getD i .dead:=by
 have h1:i<(front N H wh).length:=by rw[dr];exact hi
 have h2:i<(front N H wh++t).length:=by rw[List.length_append];omega
 rw[List.getD_eq_getElem?_getD,List.getElem?_append_left h1];simp[front,hi]
theorem gL(N:Nat)(H:Hp)(wh:List (Nat×Ob))(t:Hp):(front N H wh++t).drop N=t:=by
 have h:=dr N H wh;rw[List.drop_append_of_le_length (by omega)];simp[h]
structure Ag(N:Nat)(ops:Array Oper)(o:Oper)(e:Ef)(st FE:St):Prop where
 sl:∀t∈o.looksAt ops,get FE.sl t=get st.sl t
 bx:∀t∈e.rb++e.wb.map (·.1),get FE.bx t=get st.bx t
 ix:∀l,e.rh=.ix l->∀i∈l,FE.H.getD i .dead=st.H.getD i .dead
 all:e.rh=.all->(∀i,i<N->FE.H.getD i .dead=st.H.getD i .dead)/\FE.H.drop N=st.H.drop N
 len:N<=FE.H.length
 nw:∀d,e.nw=some d->∀t o,get FE.sl t≠some (.loc d o)
def bK(N:Nat)(X:bq)(ops:Array Oper)(o:Oper)(e:Ef)(st:St):Prop:=∀FE,Ag N ops o e st FE->jE X ops o FE (e.app N FE)
inductive ka(N:Nat)(X:bq)(ops:Array Oper):List Oper->St->List Ef->St->Prop where
 |nil (st:St):ka N X ops [] st [] st
 |cons {o:Oper} {os:List Oper} {st FM:St} {e:Ef} {es:List Ef} (h:bK N X ops o e st) (hd:e.d=o.dst) (k:ka N X ops os (e.app N st) es FM):ka N X ops (o::os) st (e::es) FM
def ey(e f:Ef):Bool:=match f.rh with
 |.no=>false
 |.ix l=>e.wh.any λp=>has l p.1
 |.all=>(e.wh.any λp=>Nat.ble 0 p.1)||e.tl.isSome
def vv(N:Nat)(e:Ef):Bool:=
 (match e.rh with
 |.no=>(match e.wh with|[]=>true|_=>false)&&e.tl.isNone
 |.ix l=>(e.wh.all λp=>has l p.1)&&(l.all λi=>Nat.blt i N)&&e.tl.isNone
 |.all=>e.wh.all λp=>Nat.blt p.1 N)
def bU(ops:Array Oper)(x y:Oper)(e f:Ef):Bool:=
 (match x.dst with|some d=>has (slotsOf ops y) d|none=>false)||(match y.dst with|some d=>has (slotsOf ops x) d|none=>false)||
 (e.wb.any λp=>has (f.rb++f.wb.map (·.1)) p.1)||(f.wb.any λp=>has (e.rb++e.wb.map (·.1)) p.1)||
 ey e f||ey f e||
 (match e.nw,f.v with|some d,.loc u _=>Nat.beq u d|_,_=>false)
def f_(e f:Ef):Bool:=match f.nw,e.v with
 |some d,.loc u _=>Nat.beq u d
 |_,_=>false
def dS(ops:Array Oper)(x:Oper)(e:Ef)(i:Nat):List Oper->List Ef->List (List Nat)->Bool
 |y::ys,f::fs,b::bs=>(!bU ops x y e f||has b i)&& !f_ e f&&dS ops x e i ys fs bs
 |_,_,_=>true
def ei(ops:Array Oper):Nat->List Oper->List Ef->List (List Nat)->Bool
 |i,x::xs,e::es,b::bs=>dS ops x e i xs es bs&&ei ops (i+1) xs es bs
 |_,_,_,_=>true
def eH(sl:List (Nat×V)):List Ef->Bool
 |[]=>true
 |e::es=>(match e.nw with|some d=>dv d sl|none=>true)&&eH sl es
def gk(N:Nat)(ops:List Oper)(sl:List (Nat×V))(es:List Ef):Bool:=
 jF 0 ops&&ei ops.toArray 0 ops es (dH ops)&&eH sl es&&es.all (vv N)
def S(N:Nat)(st:St)(es:List Ef)(listed:Nat->Bool):Nat->St
 |0=>st
 |k+1=>match es[k]? with
  |some e=>bif listed k then e.app N (S N st es listed k)else S N st es listed k
  |none=>S N st es listed k
structure Part(N:Nat)(α:Type)(es:List Ef)where
 r:St->α
 W:Nat->Bool
 c:Nat->α
 dR:∀k e s,es[k]?=some e->W k=false->r (e.app N s)=r s
 write:∀k e s,es[k]?=some e->W k=true->r (e.app N s)=c k
section parts
variable{N:Nat}{α:Type}{es:List Ef}(p:Part N α es){st:St}
theorem ij(L L':Nat->Bool):∀n,(∀k,k<n->p.W k=true->L k=L' k)->p.r (S N st es L n)=p.r (S N st es L' n)
 |0,_=>rfl
 |n+1,h=>by
  have ih:=ij L L' n (λk hk=>h k (by omega));simp only[S];cases he:es[n]? with
  |none=>exact ih
  |some e=>
   simp only;cases hw:p.W n with
   |false=>
    cases hl:L n<;>cases GC:L' n<;>simp only[cond_true,cond_false]<;>(try rw[p.dR n e _ he hw])<;>(try rw[p.dR n e _ he hw])<;>exact ih
   |true=>
    have:=h n (by omega) hw;rw[this];cases GC:L' n<;>simp only[cond_true,cond_false]
    ·exact ih
    ·rw[p.write n e _ he hw,p.write n e _ he hw]
theorem kZ(L:Nat->Bool)(i:Nat):∀n,i<=n->(∀k,i<=k->k<n->p.W k=true->L k=false)->p.r (S N st es L n)=p.r (S N st es L i)
 |0,h0,_=>by
  have:i=0:=by omega
  subst this;rfl
 |n+1,h0,h=>by
  by_cases e:i=n+1
  ·subst e;rfl
  ·have ih:=kZ L i n (by omega) (λk h1 h2=>h k h1 (by omega));simp only[S];cases he:es[n]? with
   |none=>exact ih
   |some e=>
    simp only;cases hl:L n with
    |false=>exact ih
    |true=>
     simp only[cond_true];cases hw:p.W n with
     |false=>rw[p.dR n e _ he hw];exact ih
     |true=>rw[h n (by omega) (by omega) hw]at hl;cases hl
theorem fk(L:Nat->Bool)(i m:Nat)(hi:i<=m)(h1:∀k,k<i->p.W k=true->L k=true)(h2:∀k,i<=k->k<m->p.W k=true->L k=false):
  p.r (S N st es L m)=p.r (S N st es (λ_=>true) i):=
 (kZ p L i m hi h2).trans (ij p L _ i λk hk hw=>h1 k hk hw)
theorem jG(L:Nat->Bool)(i m:Nat)(hi:i<m)(e:Ef)(he:es[i]?=some e)(hL:L i=false)(h2:p.W i=true->∀k,i<k->k<m->p.W k=true->L k=false):
  p.r (S N st es (λk=>if k=i then true else L k) m)=p.r (e.app N (S N st es L m)):=by
 cases hw:p.W i with
 |true=>
  rw[p.write i e _ he hw];have:=kZ p (st:=st) (λk=>if k=i then true else L k) (i+1) m (by omega) (λk h3 h4 h5=>by
   have:k≠i:=by omega
   simp[this];exact h2 hw k (by omega) h4 h5)
  rw[this];simp only[S,he,if_true,cond_true];exact p.write i e _ he hw
 |false=>
  rw[p.dR i e _ he hw];exact ij p _ _ m λk hk Hi=>by
   have:k≠i:=by rintro rfl;rw[hw]at Hi;cases Hi
   simp[this]
end parts
section NC
variable{N:Nat}
def eh(es:List Ef)(t:Nat):Part N (Option V) es where
 r s:=get s.sl t
 W k:=match es[k]? with
  |some e=>match e.d with|some d=>Nat.beq d t|none=>false
  |none=>false
 c k:=match es[k]? with|some e=>some e.v|none=>none
 dR k e s he hw:=by
  simp only[he]at hw;unfold Ef.app;cases hd:e.d with
  |none=>rfl
  |some d=>
   simp only[hd]at hw;have:d≠t:=by rintro rfl;simp at hw
   simp[aX,this]
 write k e s he hw:=by
  simp only[he]at hw⊢;unfold Ef.app;cases hd:e.d with
  |none=>simp[hd]at hw
  |some d=>
   simp only[hd]at hw;have:=Nat.eq_of_beq_eq_true hw;subst this;simp[aX]
def eX(es:List Ef)(t:Nat):Part N (Option (List M)) es where
 r s:=get s.bx t
 W k:=match es[k]? with
  |some e=>has (e.wb.map (·.1)) t
  |none=>false
 c k:=match es[k]? with|some e=>get e.wb t|none=>none
 dR k e s he hw:=by
  simp only[he]at hw;have h:=eO e.wb t;rw[hw]at h;show get (e.wb++s.bx) t=_;rw[get_append];cases hg:get e.wb t with
  |none=>rfl
  |some v=>rw[hg]at h;cases h
 write k e s he hw:=by
  simp only[he]at hw⊢;have h:=eO e.wb t;rw[hw]at h;show get (e.wb++s.bx) t=_;rw[get_append];cases hg:get e.wb t with
  |none=>rw[hg]at h;cases h
  |some v=>rfl
def oS(es:List Ef)(i:Nat)(hi:i<N):Part N Ob es where
 r s:=s.H.getD i .dead
 W k:=match es[k]? with
  |some e=>has (e.wh.map (·.1)) i
  |none=>false
 c k:=match es[k]? with|some e=>(get e.wh i).getD .dead|none=>.dead
 dR k e s he hw:=by
  simp only[he]at hw;have h:=eO e.wh i;rw[hw]at h;unfold Ef.app;rw[gC _ _ _ _ _ hi];cases hg:get e.wh i with
  |none=>rfl
  |some v=>rw[hg]at h;cases h
 write k e s he hw:=by
  simp only[he]at hw⊢;have h:=eO e.wh i;rw[hw]at h;unfold Ef.app;rw[gC _ _ _ _ _ hi];cases hg:get e.wh i with
  |none=>rw[hg]at h;cases h
  |some v=>rfl
def rN(es:List Ef):Part N Hp es where
 r s:=s.H.drop N
 W k:=match es[k]? with
  |some e=>e.tl.isSome
  |none=>false
 c k:=match es[k]? with|some e=>e.tl.getD []|none=>[]
 dR k e s he hw:=by
  simp only[he]at hw;unfold Ef.app;rw[gL];cases hh:e.tl with
  |none=>rfl
  |some h=>rw[hh]at hw;cases hw
 write k e s he hw:=by
  simp only[he]at hw⊢;unfold Ef.app;rw[gL];cases hh:e.tl with
  |none=>rw[hh]at hw;cases hw
  |some h=>rfl
theorem vw(st:St)(es:List Ef)(L:Nat->Bool)(h:N<=st.H.length):∀n,N<=(S N st es L n).H.length
 |0=>h
 |n+1=>by
  simp only[S];cases he:es[n]? with
  |none=>exact vw st es L h n
  |some e=>
   cases hl:L n with
   |false=>exact vw st es L h n
   |true=>simp[Ef.app,dr]
theorem mM{A B:Hp}(ha:N<=A.length)(hb:N<=B.length)(h1:∀i,i<N->A.getD i .dead=B.getD i .dead)(h2:A.drop N=B.drop N):A=B:=by
 rw[<-List.take_append_drop N A,<-List.take_append_drop N B,h2]
 congr 1
 apply List.ext_getElem
 ·simp;omega
 ·intro i h3 h4;simp at h3 h4;have:=h1 i (by omega);rw[List.getD_eq_getElem?_getD,List.getD_eq_getElem?_getD,List.getElem?_eq_getElem (by omega),List.getElem?_eq_getElem (by omega)]at this;simpa using this
theorem fK{HC:Array Oper}{x:Oper}{e:Ef}{i:Nat} :∀{ys:List Oper} {fs:List Ef} {bs:List (List Nat)},dS HC x e i ys fs bs=true->
  ∀(j:Nat) y f b,ys[j]?=some y->fs[j]?=some f->bs[j]?=some b->(bU HC x y e f=true->i∈b)/\f_ e f=false
 |[],_,_,_,j,y,f,b,hy,_,_=>by simp at hy
 |_::_,[],_,_,j,y,f,b,_,hf,_=>by simp at hf
 |_::_,_::_,[],_,j,y,f,b,_,_,hb=>by simp at hb
 |y0::ys,f0::fs,b0::bs,h,j,y,f,b,hy,hf,hb=>by
  simp only[dS,Bool.and_eq_true,Bool.or_eq_true,Bool.not_eq_true']at h;cases j with
  |zero=>
   simp at hy hf hb;subst hy;subst hf;subst hb;refine⟨λhc=>?_,h.1.2⟩;rcases h.1.1 with h1|h1
   ·rw[h1]at hc;cases hc
   ·exact cJ.1 h1
  |succ j=>simp at hy hf hb;exact fK h.2 j y f b hy hf hb
theorem fu{HC:Array Oper} :∀{xs:List Oper} {es:List Ef} {bs:List (List Nat)} {n:Nat},ei HC n xs es bs=true->
  ∀(i j:Nat) x e y f b,i<j->xs[i]?=some x->es[i]?=some e->xs[j]?=some y->es[j]?=some f->bs[j]?=some b->(bU HC x y e f=true->n+i∈b)/\f_ e f=false
 |[],_,_,n,_,i,j,x,e,y,f,b,_,hx,_,_,_,_=>by simp at hx
 |_::_,[],_,n,_,i,j,x,e,y,f,b,_,_,he,_,_,_=>by simp at he
 |_::_,_::_,[],n,_,i,j,x,e,y,f,b,_,_,_,_,_,hb=>by simp at hb
 |x0::xs,e0::es,b0::bs,n,h,i,j,x,e,y,f,b,Lx,hx,he,hy,hf,hb=>by
  simp only[ei,Bool.and_eq_true]at h;cases j with
  |zero=>omega
  |succ j=>
   cases i with
   |zero=>
    simp at hx he hy hf hb;subst hx;subst he;exact fK h.1 j y f b hy hf hb
   |succ i=>
    simp at hx he hy hf hb;have:=fu h.2 i j x e y f b (by omega) hx he hy hf hb;rw[show n+(i+1)=n+1+i by omega];exact this
theorem c8(st:St)(es:List Ef):∀k,S N st es (λ_=>true) k=(es.take k).foldl (λs e=>e.app N s) st
 |0=>rfl
 |k+1=>by
  simp only[S];cases he:es[k]? with
  |none=>
   have hle:es.length<=k:=by rcases Nat.lt_or_ge k es.length with h|h;simp[List.getElem?_eq_getElem h]at he;exact h
   rw[c8 st es k,List.take_of_length_le hle,List.take_of_length_le (by omega)]
  |some e=>
   simp only[cond_true];rw[c8 st es k];have FJ:k<es.length:=by rcases Nat.lt_or_ge k es.length with h|h;exact h;simp[List.getElem?_eq_none h]at he
   rw[List.take_succ_eq_append_getElem FJ,List.foldl_append];have:es[k]=e:=by simpa [List.getElem?_eq_getElem FJ] using he
   rw[this];rfl
theorem ka.spec{X:bq}{HC:Array Oper}{l:List Oper}{st FM:St}{es:List Ef}(h:ka N X HC l st es FM):
  es.length=l.length/\FM=es.foldl (λs e=>e.app N s) st/\∀(i:Nat) o e,l[i]?=some o->es[i]?=some e->bK N X HC o e ((es.take i).foldl (λs e=>e.app N s) st)/\e.d=o.dst:=by
 induction h with
 |nil st=>exact⟨rfl,rfl,by simp⟩
 |cons h hd k ih=>
  obtain⟨h1,h2,h3⟩:=ih;refine⟨by simp[h1],h2,λi o e ho he=>?_⟩;cases i with
  |zero=>simp at ho he;subst ho;subst he;exact⟨h,hd⟩
  |succ i=>simp at ho he;exact h3 i o e ho he
theorem draw{X:bq}{id:Nat}{ops:List Oper}{st FM:St}{es:List Ef}{post:Exit->St->Prop}(hm:X.P.follows .mixedOrders=true)(hN:N<=st.H.length)
  (GJ:ka N X ops.toArray ops st es FM) (Gl:gk N ops st.sl es=true) (HX:post .normal FM):TC X (.region id ops.toArray true) st post:=by
 obtain⟨hlen,K0,HJ⟩:=GJ.spec;simp only[gk,Bool.and_eq_true]at Gl;obtain⟨⟨⟨JY,Je⟩,Jf⟩,PK⟩:=Gl;have hE:=iN JY;have hP:=fu Je;have Hj:FM=S N st es (λ_=>true) ops.length:=by rw[c8,List.take_of_length_le (by omega),K0]
 have Ht:∀(k:Nat) e,es[k]?=some e->∃o b,ops[k]?=some o/\(dH ops)[k]?=some b/\e.d=o.dst/\k<ops.length:=by
  intro k e he;have hk:k<es.length:=by rcases Nat.lt_or_ge k es.length with h|h;exact h;simp[List.getElem?_eq_none h]at he
  have ho:ops[k]?=some ops[k]:=by simp[show k<ops.length by omega]
  have hb:k<(dH ops).length:=by rw[fg];omega
  exact⟨ops[k],(dH ops)[k],ho,by simp[hb],(HJ k _ e ho he).2,by omega⟩
 have Jx:∀(k:Nat) e d,es[k]?=some e->e.nw=some d->dv d st.sl=true:=by
  have:∀(l:List Ef),eH st.sl l=true->∀(k:Nat) e d,l[k]?=some e->e.nw=some d->dv d st.sl=true:=by
   intro l
   induction l with
   |nil=>intro _ k e d h;simp at h
   |cons x l ih=>
    intro hl k e d he hd;simp only[eH,Bool.and_eq_true]at hl;cases k with
    |zero=>simp at he;subst he;simpa [hd] using hl.1
    |succ k=>simp at he;exact ih hl.2 k e d he hd
  exact this es Jf
 intro a w hi;refine wp_region_any hm ?_;have main:∀(GL:Nat) (listed:Array Bool) (a:Act) (w:World),listed.size=ops.length->i_ ops.length (λk=>listed.getD k false)=GL->
   (∀j b,listed.getD j false=true->(dH ops)[j]?=some b->∀i∈b,listed.getD i false=true)->
   Inv X (S N st es (λk=>listed.getD k false) ops.length) a w->
   wpAny X.P .any ops.toArray (λe a' w'=>∃FM,post e FM/\Inv X FM a' w') GL listed a w:=by
  intro GL
  induction GL with
  |zero=>
   intro listed a w Gd hc FX hinv;have hz:=kH hc;refine⟨?_,FM,HX,?_⟩
   ·unfold Region.ready;rw[List.filter_eq_nil_iff];intro i hi;simp at hi;have h1:=hz i hi;have h2:i<listed.size:=by omega
    simp[h2]at h1;simp[h2,h1]
   ·have e:S N st es (λk=>listed.getD k false) ops.length=FM:=by
     rw[Hj];have:∀n,n<=ops.length->S N st es (λk=>listed.getD k false) n=S N st es (λ_=>true) n:=by
      intro n
      induction n with
      |zero=>intro _;rfl
      |succ n ih=>
       intro hn;simp only[S,ih (by omega),hz n (by omega)]
     exact this _ (Nat.le_refl _)
    rw[<-e];exact hinv
  |succ GL ih=>
   intro listed a w Gd hc FX hinv;have mem_ready:∀i,i∈Region.ready .any ops.toArray listed↔i<ops.length/\listed.getD i true=false/\∃o,ops[i]?=some o/\∀e∈o.after.toList,Region.binds .any e=true->listed.getD e.on false=true:=by
    intro i;unfold Region.ready;rw[List.mem_filter];simp only[List.mem_range,List.size_toArray,Bool.and_eq_true,Bool.not_eq_true',List.getElem?_toArray];constructor
    ·rintro⟨h1,h2,h3⟩;refine⟨h1,h2,ops[i],by simp[h1],?_⟩;simp[h1]at h3;intro e he hb;have Mu:e∈ops[i].after:=by simpa using he
     obtain⟨n,hn,rfl⟩:=Array.mem_iff_getElem.1 Mu;rcases h3 n hn with h4|h4
     ·rw[h4]at hb;cases hb
     ·simpa using h4
    ·rintro⟨h1,h2,o,h3,h4⟩;refine⟨h1,h2,?_⟩;have:ops[i]=o:=by simpa [h1] using h3
     simp[h1,this];intro n hn;cases hb:Region.binds .any o.after[n]with
     |false=>exact .inl rfl
     |true=>right;simpa using h4 o.after[n] (by simp) hb
   refine⟨?_,?_⟩
   ·intro hr;obtain⟨i,h1,h2,h3⟩:=lR (m:=ops.length) (f:= λk=>listed.getD k false) (by omega);have:i∈Region.ready .any ops.toArray listed:=by
     rw[mem_ready];have Jg:i<listed.size:=by omega
     refine⟨h1,by simp[Jg]at h2⊢;exact h2,ops[i],by simp[h1],?_⟩;intro e he hb;have:=hE i ops[i] (by simp[h1]) e he hb;exact h3 e.on (by omega)
    rw[hr]at this;cases this
   ·intro i I6;obtain⟨HK,Jh,o,ho,Ji⟩:=(mem_ready i).1 I6;have Jg:i<listed.size:=by omega
    have GH:listed.getD i false=false:=by simp[Jg]at Jh⊢;exact Jh
    have KH:i<es.length:=by omega
    obtain⟨e,he⟩:∃e,es[i]?=some e:=⟨es[i],by simp[KH]⟩;have GW:i<(dH ops).length:=by rw[fg];exact HK
    obtain⟨bi,Io⟩:∃b,(dH ops)[i]?=some b:=⟨(dH ops)[i],by simp[GW]⟩;have ahead:∀k,k∈bi->listed.getD k false=true:=by
     intro k hk;obtain⟨ed,h1,h2,h3⟩:=pH ho Io hk;have h4:=Ji ed h1 h2;rcases h3 with h3|⟨b',h5,_,h6⟩
     ·rw[<-h3];exact h4
     ·exact FX _ b' h4 h5 k h6
    have early:∀(k:Nat) f,k<i->es[k]?=some f->∀x,ops[k]?=some x->bU ops.toArray x o f e=true->listed.getD k false=true:=by
     intro k f hk hf x hx hc;have:=(hP k i x f o e bi hk hx hf ho he Io).1 hc;simp at this;exact ahead k this
    have late:∀(k:Nat) f,i<k->es[k]?=some f->∀x,ops[k]?=some x->bU ops.toArray o x e f=true->listed.getD k false=false:=by
     intro k f hk hf x hx hc;obtain⟨_,b,_,hb,_,_⟩:=Ht k f hf;have:=(hP i k o e x f b hk ho he hx hf hb).1 hc;simp at this;cases hl:listed.getD k false with
     |false=>rfl
     |true=>rw[FX k b hl hb i this]at GH;cases GH
    obtain⟨Ig,NZ⟩:=HJ i o e ho he;have Mv:(es.take i).foldl (λs e=>e.app N s) st=S N st es (λ_=>true) i:=(c8 st es i).symm;rw[Mv]at Ig;have GY:∀t k,(eh (N:=N) es t).W k=true->∃f x,es[k]?=some f/\ops[k]?=some x/\f.d=some t/\x.dst=some t:=by
     intro t k hw;simp only[eh]at hw;split at hw
     ·rename_i f hf;split at hw
      ·rename_i d hd;have:=Nat.eq_of_beq_eq_true hw;subst this;obtain⟨x,b,hx,_,HD,_⟩:=Ht k f hf;exact⟨f,x,hf,hx,hd,by rw[<-HD];exact hd⟩
      ·cases hw
     ·cases hw
    have Hl:∀t k,(eX (N:=N) es t).W k=true->∃f x,es[k]?=some f/\ops[k]?=some x/\t∈f.wb.map (·.1):=by
     intro t k hw;simp only[eX]at hw;split at hw
     ·rename_i f hf;obtain⟨x,b,hx,_,_,_⟩:=Ht k f hf;exact⟨f,x,hf,hx,cJ.1 hw⟩
     ·cases hw
    have Kx:∀(j:Nat) (hj:j<N) k,(oS es j hj).W k=true->∃f x,es[k]?=some f/\ops[k]?=some x/\j∈f.wh.map (·.1):=by
     intro j hj k hw;simp only[oS]at hw;split at hw
     ·rename_i f hf;obtain⟨x,b,hx,_,_,_⟩:=Ht k f hf;exact⟨f,x,hf,hx,cJ.1 hw⟩
     ·cases hw
    have LY:∀k,(rN (N:=N) es).W k=true->∃f x,es[k]?=some f/\ops[k]?=some x/\f.tl.isSome=true:=by
     intro k hw;simp only[rN]at hw;split at hw
     ·rename_i f hf;obtain⟨x,b,hx,_,_,_⟩:=Ht k f hf;exact⟨f,x,hf,hx,hw⟩
     ·cases hw
    have MF:∀(k:Nat) f,es[k]?=some f->vv N f=true:= λk f hf=>List.all_eq_true.1 PK f (List.mem_of_getElem? hf)
    have LF:∀(l:List (Nat×Ob)) (r:List Nat) (t:Nat),t∈l.map (·.1)->t∈r->(l.any λp=>has r p.1)=true:=by
     intro l r t h1 h2;rw[List.any_eq_true];obtain⟨p,hp,rfl⟩:=List.mem_map.1 h1;exact⟨p,hp,cJ.2 h2⟩
    have KL:∀(l:List (Nat×Ob)) (t:Nat),t∈l.map (·.1)->(l.any λp=>Nat.ble 0 p.1)=true:=by
     intro l t h1;rw[List.any_eq_true];obtain⟨p,hp,rfl⟩:=List.mem_map.1 h1;exact⟨p,hp,by simp⟩
    have RA:∀(j:Nat) (f g:Ef),vv N g=true->j∈f.wh.map (·.1)->j∈g.wh.map (·.1)->ey f g=true:=by
     intro j f g hg h1 h2;unfold vv at hg;unfold ey;obtain⟨p,hp,rfl⟩:=List.mem_map.1 h2;cases hr:g.rh with
     |no=>rw[hr]at hg;simp at hg;cases hw:g.wh with
      |nil=>rw[hw]at hp;cases hp
      |cons=>rw[hw]at hg;simp at hg
     |ix l=>
      rw[hr]at hg;simp only[Bool.and_eq_true,List.all_eq_true]at hg;exact LF f.wh l _ h1 (cJ.1 (hg.1.1 p hp))
     |all=>simp only;rw[KL f.wh _ h1];rfl
    have RB:∀(f g:Ef),vv N g=true->f.tl.isSome=true->g.tl.isSome=true->ey f g=true:=by
     intro f g hg h1 h2;unfold vv at hg;unfold ey;cases hr:g.rh with
     |no=>rw[hr]at hg;cases ht:g.tl with
      |none=>rw[ht]at h2;cases h2
      |some t=>rw[ht]at hg;simp at hg
     |ix l=>rw[hr]at hg;cases ht:g.tl with
      |none=>rw[ht]at h2;cases h2
      |some t=>rw[ht]at hg;simp at hg
     |all=>simp only;rw[h1];simp
    have Hm:∀(l:List (Nat×List M)) (r:List Nat) (t:Nat),t∈l.map (·.1)->t∈r->(l.any λp=>has r p.1)=true:=by
     intro l r t h1 h2;rw[List.any_eq_true];obtain⟨p,hp,rfl⟩:=List.mem_map.1 h1;exact⟨p,hp,cJ.2 h2⟩
    have Ly:Ag N ops.toArray o e (S N st es (λ_=>true) i) (S N st es (λk=>listed.getD k false) ops.length):=by
     refine⟨?_,?_,?_,?_,vw _ _ _ hN _,?_⟩
     ·intro t ht;refine fk (eh es t) _ i ops.length (by omega) ?_ ?_
      ·intro k hk hw;obtain⟨f,x,hf,hx,_,HD⟩:=GY t k hw;refine early k f hk hf x hx ?_;have:has (slotsOf ops.toArray o) t=true:=cJ.2 (by simp[slotsOf,ht]);simp[bU,HD,this]
      ·intro k hk Gi hw;by_cases G6:k=i
       ·rw[G6];exact GH
       ·obtain⟨f,x,hf,hx,_,HD⟩:=GY t k hw;refine late k f (by omega) hf x hx ?_;have:has (slotsOf ops.toArray o) t=true:=cJ.2 (by simp[slotsOf,ht]);simp[bU,HD,this]
     ·intro t ht;refine fk (eX es t) _ i ops.length (by omega) ?_ ?_
      ·intro k hk hw;obtain⟨f,x,hf,hx,G0⟩:=Hl t k hw;refine early k f hk hf x hx ?_;have:=Hm f.wb _ t G0 ht;simp[bU,this]
      ·intro k hk Gi hw;by_cases G6:k=i
       ·rw[G6];exact GH
       ·obtain⟨f,x,hf,hx,G0⟩:=Hl t k hw;refine late k f (by omega) hf x hx ?_;have:=Hm f.wb _ t G0 ht;simp[bU,this]
     ·intro l hl j hj;have J6:j<N:=by
       have:=MF i e he;unfold vv at this;rw[hl]at this;simp only[Bool.and_eq_true,List.all_eq_true]at this;exact aQ (this.1.2 j hj)
      refine fk (oS es j J6) _ i ops.length (by omega) ?_ ?_
      ·intro k hk hw;obtain⟨f,x,hf,hx,G0⟩:=Kx j J6 k hw;refine early k f hk hf x hx ?_;have:ey f e=true:=by unfold ey;rw[hl];exact LF f.wh l j G0 hj
       simp[bU,this]
      ·intro k hk Gi hw;by_cases G6:k=i
       ·rw[G6];exact GH
       ·obtain⟨f,x,hf,hx,G0⟩:=Kx j J6 k hw;refine late k f (by omega) hf x hx ?_;have:ey f e=true:=by unfold ey;rw[hl];exact LF f.wh l j G0 hj
        simp[bU,this]
     ·intro hl;refine⟨λj J6=>?_,?_⟩
      ·refine fk (oS es j J6) _ i ops.length (by omega) ?_ ?_
       ·intro k hk hw;obtain⟨f,x,hf,hx,G0⟩:=Kx j J6 k hw;refine early k f hk hf x hx ?_;have:ey f e=true:=by unfold ey;rw[hl];simp only;rw[KL f.wh j G0];rfl
        simp[bU,this]
       ·intro k hk Gi hw;by_cases G6:k=i
        ·rw[G6];exact GH
        ·obtain⟨f,x,hf,hx,G0⟩:=Kx j J6 k hw;refine late k f (by omega) hf x hx ?_;have:ey f e=true:=by unfold ey;rw[hl];simp only;rw[KL f.wh j G0];rfl
         simp[bU,this]
      ·refine fk (rN es) _ i ops.length (by omega) ?_ ?_
       ·intro k hk hw;obtain⟨f,x,hf,hx,G0⟩:=LY k hw;refine early k f hk hf x hx ?_;have:ey f e=true:=by unfold ey;rw[hl];simp[G0]
        simp[bU,this]
       ·intro k hk Gi hw;by_cases G6:k=i
        ·rw[G6];exact GH
        ·obtain⟨f,x,hf,hx,G0⟩:=LY k hw;refine late k f (by omega) hf x hx ?_;have:ey f e=true:=by unfold ey;rw[hl];simp[G0]
         simp[bU,this]
     ·intro d hd t oo hg;have key:∀n,n<=ops.length->get (S N st es (λk=>listed.getD k false) n).sl t=some (.loc d oo)->False:=by
       intro n
       induction n with
       |zero=>
        intro _ hg;exact nO (Jx i e d he hd) hg
       |succ n Jj=>
        intro hn hg;simp only[S]at hg;cases G7:es[n]? with
        |none=>simp only[G7]at hg;exact Jj (by omega) hg
        |some f=>
         simp only[G7]at hg;cases hl:listed.getD n false with
         |false=>rw[hl]at hg;exact Jj (by omega) hg
         |true=>
          rw[hl]at hg;simp only[cond_true,Ef.app]at hg;obtain⟨x,b,hx,hb,HD,_⟩:=Ht n f G7;cases IU:f.d with
          |none=>simp only[IU]at hg;exact Jj (by omega) hg
          |some d'=>
           simp only[IU]at hg;rcases bf hg with⟨_,h2⟩|⟨_,h2⟩
           ·have FV:n≠i:=by rintro rfl;rw[hl]at GH;cases GH
            rcases Nat.lt_or_gt_of_ne FV with FJ|Mw
            ·have:=(hP n i x f o e bi FJ hx G7 ho he Io).2;simp[f_,hd,<-h2]at this
            ·have:=late n f Mw G7 x hx (by simp[bU,hd,<-h2]);rw[this]at hl;cases hl
           ·exact Jj (by omega) h2
      exact key _ (Nat.le_refl _) hg
    have IG:=Ig _ Ly;have JZ:∀a' w',Inv X (e.app N (S N st es (λk=>listed.getD k false) ops.length)) a' w'->wpAny X.P .any ops.toArray (λe a' w'=>∃FM,post e FM/\Inv X FM a' w') GL (listed.setIfInBounds i true) a' w':=by
     intro a' w' Hn;have H4:(λk=>(listed.setIfInBounds i true).getD k false)= λk=>if k=i then true else listed.getD k false:=by
      funext k
      by_cases hk:k=i
      ·subst hk;simp[Jg]
      ·simp[hk,Array.getElem?_setIfInBounds_ne (Ne.symm hk)]
     refine ih _ a' w' (by simp[Gd]) ?_ ?_ ?_
     ·rw[H4];have:=oJ (m:=ops.length) (f:= λk=>listed.getD k false) HK GH;omega
     ·intro j b hj hb k hk;have Hs:(if j=i then true else listed.getD j false)=true:=by rw[<-congrFun H4 j];exact hj
      have JC:(if k=i then true else listed.getD k false)=true:=by
       by_cases G6:k=i
       ·simp[G6]
       ·rw[if_neg G6];by_cases Kj:j=i
        ·subst Kj;rw[Io]at hb;injection hb with hb;subst hb
         exact ahead k hk
        ·rw[if_neg Kj]at Hs;exact FX j b Hs hb k hk
      rw[<-congrFun H4 k]at JC;exact JC
     ·rw[H4];have g1:∀t,get (S N st es (λk=>if k=i then true else listed.getD k false) ops.length).sl t=get (e.app N (S N st es (λk=>listed.getD k false) ops.length)).sl t:=by
       intro t;refine jG (eh es t) _ i ops.length HK e he GH ?_;intro Is k hk Gi Hi;obtain⟨f,x,hf,hx,_,HD⟩:=GY t k Hi;obtain⟨f',x',GX,HT,_,K8⟩:=GY t i Is;rw[ho]at HT;injection HT with HT;subst HT
       refine late k f hk hf x hx ?_;have:has (slotsOf ops.toArray o) t=true:=cJ.2 (by simp[slotsOf,K8]);simp[bU,HD,this]
      have g2:∀t,get (S N st es (λk=>if k=i then true else listed.getD k false) ops.length).bx t=get (e.app N (S N st es (λk=>listed.getD k false) ops.length)).bx t:=by
       intro t;refine jG (eX es t) _ i ops.length HK e he GH ?_;intro Is k hk Gi Hi;obtain⟨f,x,hf,hx,G0⟩:=Hl t k Hi;obtain⟨f',x',GX,HT,Jk⟩:=Hl t i Is;rw[he]at GX;injection GX with GX;subst GX
       refine late k f hk hf x hx ?_;have:=Hm f.wb (e.rb++e.wb.map (·.1)) t G0 (List.mem_append.2 (.inr Jk));simp[bU,this]
      have g3:(S N st es (λk=>if k=i then true else listed.getD k false) ops.length).H=(e.app N (S N st es (λk=>listed.getD k false) ops.length)).H:=by
       refine mM (N:=N) (vw _ _ _ hN _) (by simp[Ef.app,dr]) ?_ ?_
       ·intro j J6;refine jG (oS es j J6) _ i ops.length HK e he GH ?_;intro Is k hk Gi Hi;obtain⟨f,x,hf,hx,G0⟩:=Kx j J6 k Hi;obtain⟨f',x',GX,HT,Jk⟩:=Kx j J6 i Is;rw[he]at GX;injection GX with GX;subst GX
        refine late k f hk hf x hx ?_;have:=RA j f e (MF i e he) G0 Jk;simp[bU,this]
       ·refine jG (rN es) _ i ops.length HK e he GH ?_;intro Is k hk Gi Hi;obtain⟨f,x,hf,hx,G0⟩:=LY k Hi;obtain⟨f',x',GX,HT,Jk⟩:=LY i Is;rw[he]at GX;injection GX with GX;subst GX
        refine late k f hk hf x hx ?_;have:=RB f e (MF i e he) G0 Jk;simp[bU,this]
      have:=Inv.fJ (X:=X) (sl:=(e.app N (S N st es (λk=>listed.getD k false) ops.length)).sl) (bx:=(e.app N (S N st es (λk=>listed.getD k false) ops.length)).bx) (H:=(e.app N (S N st es (λk=>listed.getD k false) ops.length)).H)
       (Gy:=(S N st es (λk=>if k=i then true else listed.getD k false) ops.length).sl) (Jv:=(S N st es (λk=>if k=i then true else listed.getD k false) ops.length).bx) Hn
       (λt v hv=>by rw[<-g1];exact hv) g2
      rw[<-g3]at this;exact this
    have:=IG a w hinv (wpAny X.P .any ops.toArray (λe a' w'=>∃FM,post e FM/\Inv X FM a' w') GL (listed.setIfInBounds i true)) (λe a' w'=>∃FM,post e FM/\Inv X FM a' w') JZ;unfold wpOp;have K9:ops.toArray[i]?=some o:=by simpa using ho
    simp only[K9];split
    ·rename_i hw;rw[if_pos hw]at this;exact .inl this
    ·rename_i hw;rw[if_neg hw]at this;exact this
 refine main _ _ a _ (by simp) ?_ ?_ ?_
 ·have:∀n,i_ n (λk=>(Array.replicate ops.toArray.size false).getD k false)=n:=by
   intro n
   induction n with
   |zero=>rfl
   |succ n ih=>
    simp only[i_,ih];have:(Array.replicate ops.toArray.size false).getD n false=false:=by simp[Array.getElem?_replicate];split<;>rfl
    rw[this];rfl
  simpa using this ops.length
 ·intro j b hj;have:(Array.replicate ops.toArray.size false).getD j false=false:=by simp[Array.getElem?_replicate];split<;>rfl
  rw[this]at hj;cases hj
 ·have hz:∀n,S N st es (λk=>(Array.replicate ops.toArray.size false).getD k false) n=st:=by
   intro n
   induction n with
   |zero=>rfl
   |succ n ih=>
    have:(Array.replicate ops.toArray.size false).getD n false=false:=by simp[Array.getElem?_replicate];split<;>rfl
    simp only[S,ih,this];cases es[n]?<;>rfl
  rw[hz];obtain⟨σ,FC,rfl,hi⟩:=hi;exact⟨{σ with w:={σ.w with drawn:=σ.w.drawn+1} },FC,rfl,hi.ext (dq.drew _)⟩
end NC
end Go.Mt.bR
namespace Go.Mt
def Place(H:Hp)(ob:Ob)(n:Nat)(H':Hp):Prop:=(n=H.length/\H'=H++[ob])\/(H[n]?=some .free/\H'=H.set n ob)
theorem bb.By{X:bq}{σ:Sg}{FC:Nat->Nat}{st:St}{a:Act}(hi:bb X σ FC st a)(ob:Ob)(x:Obj)(j:Nat)(hj:st.H[j]?=some .free)
  (Gl:∀τ:Sg,bO σ τ->τ.w={σ.w with heap:=σ.w.heap.push x} ->eE τ σ.w.heap.size ob):
  ∃τ:Sg,τ.w={σ.w with heap:=σ.w.heap.push x} /\τ.l j=σ.w.heap.size/\τ.H=st.H.set j ob/\bO σ τ/\bb X τ FC ⟨st.sl,st.bx,st.H.set j ob⟩ a:=by
 have Hs:σ.H[j]?=some .free:=by rw[hi.hH];exact hj
 have I7:j<σ.H.length:=by rcases Nat.lt_or_ge j σ.H.length with h|h;exact h;simp[List.getElem?_eq_none h]at Hs
 let b:=σ.w.heap.size
 let w':World:={σ.w with heap:=σ.w.heap.push x}
 let l':Nat->Nat:= λi=>if i=j then b else σ.l i
 let τ:Sg:=⟨w',λc o=>σ.O c o\/(c=b/\ob.e_ o),l',σ.H.set j ob⟩
 have GA:dq σ.w w':=dq.alloc _ _;have GS:∀(i:Nat) o,σ.H[i]?=some o->o≠.free->(σ.H.set j ob)[i]?=some o/\l' i=σ.l i:=by
  intro i o h FV;have Lx:i≠j:=by rintro rfl;rw[Hs]at h;injection h with h;exact FV h.symm
  exact⟨by rw[List.getElem?_set_ne (Ne.symm Lx)];exact h,by simp[l',Lx]⟩
 have Gv:(σ.H.set j ob)[j]?=some ob:=by simp[I7]
 have Hw:∀(i:Nat) o,(σ.H.set j ob)[i]?=some o->(σ.H[i]?=some o/\l' i=σ.l i/\i≠j)\/(i=j/\o=ob):=by
  intro i o h;by_cases e:i=j
  ·subst e;rw[Gv]at h;injection h with h;exact .inr ⟨rfl,h.symm⟩
  ·rw[List.getElem?_set_ne (Ne.symm e)]at h;exact .inl ⟨h,by simp[l',e],e⟩
 have FY:bO σ τ:=by
  refine⟨λc o v h1 h2=>⟨GA.cell h1,?_⟩,λi cs h=>⟨⟨cs,(GS i _ h (by simp)).1⟩,(GS i _ h (by simp)).2⟩,λi cs h=>⟨⟨cs,(GS i _ h (by simp)).1⟩,(GS i _ h (by simp)).2⟩,λi cs h=>⟨⟨cs,(GS i _ h (by simp)).1⟩,(GS i _ h (by simp)).2⟩,λi h=>(GS i _ h (by simp)).1,
   λi acc ec FD cs h=>.inr ⟨acc,FD,cs,(GS i _ h (by simp)).1,Nat.le_refl _,λ_=>⟨(GS i _ h (by simp)).2,rfl,λarr T ha=>⟨arr,GA.heap ha,rfl⟩⟩⟩,λi h=>?_⟩
  ·rintro(h3|⟨h3,_⟩)
   ·exact h2 h3
   ·have:=gS h1;omega
  ·by_cases e:i=j
   ·subst e;exact⟨_,Gv⟩
   ·exact⟨.free,by show(σ.H.set j ob)[i]?=_;rw[List.getElem?_set_ne (Ne.symm e)];exact h⟩
 have FJ:∀(i:Nat) o,σ.H[i]?=some o->o.live->σ.l i<b:= λi o h1 h2=>(hi.hinv.obj i o h1).lt h2
 have Iz:eE τ b ob:=Gl τ FY rfl;have Ib:l' j=b:=by simp[l']
 have hinv:cY τ (iT X.fa FC st.bx):=by
  refine⟨?_,?_,?_,?_,λc o h=>Nat.lt_of_lt_of_le (hi.hinv.fj c o h) GA.size⟩
  ·intro i o h;rcases Hw i o h with⟨h1,h2,_⟩|⟨rfl,rfl⟩
   ·show eE τ (l' i) o;rw[h2];exact(hi.hinv.obj i o h1).dR FY λx hx=>GA.heap hx
   ·show eE τ (l' _) o;rw[Ib];exact Iz
  ·intro i k x y h1 h2 h3 h4 h5;change l' i=l' k at h5;rcases Hw i x h1 with⟨h6,h7,_⟩|⟨rfl,rfl⟩<;>rcases Hw k y h2 with⟨h8,h9,_⟩|⟨rfl,rfl⟩
   ·rw[h7,h9]at h5;exact hi.hinv.inj i k x y h6 h8 h3 h4 h5
   ·rw[h7,Ib]at h5;have:=FJ i x h6 h3;omega
   ·rw[h9,Ib]at h5;have:=FJ k y h8 h4;omega
   ·rfl
  ·intro c o;show(σ.O c o\/(c=b/\ob.e_ o))↔_;rw[hi.hinv.own];constructor
   ·rintro((h|⟨i,x,h1,h2,h3⟩)|⟨rfl,h2⟩)
    ·exact .inl h
    ·have FV:x≠.free:=by rintro rfl;exact h3
     exact .inr ⟨i,x,(GS i x h1 FV).1,(by show l' i=c;rw[(GS i x h1 FV).2];exact h2),h3⟩
    ·exact .inr ⟨j,ob,Gv,Ib,h2⟩
   ·rintro(h|⟨i,x,h1,h2,h3⟩)
    ·exact .inl (.inl h)
    ·rcases Hw i x h1 with⟨h6,h7,_⟩|⟨rfl,rfl⟩
     ·exact .inl (.inr ⟨i,x,h6,by rw[<-h7];exact h2,h3⟩)
     ·exact .inr ⟨by rw[<-h2];exact Ib,h3⟩
  ·intro i o h1 h2 oo h3;rcases Hw i o h1 with⟨h6,h7,_⟩|⟨rfl,rfl⟩
   ·exact hi.hinv.sep i o h6 h2 oo (by rw[<-h7];exact h3)
   ·have h4:iT X.fa FC st.bx b oo:=by rw[<-Ib];exact h3
    have:=hi.hinv.fj _ _ h4;exact Nat.lt_irrefl _ this
 have Hf:bJ σ τ:=by
  refine⟨rfl,rfl,rfl,GA.size,λc hc _=>GA.be c hc,?_⟩;intro i o h1 h2;rcases Hw i o h1 with⟨h6,h7,_⟩|⟨rfl,rfl⟩
  ·exact .inr ⟨o,h6,h2,h7⟩
  ·exact .inl (by show _<=l' _;rw[Ib];exact Nat.le_refl _)
 have hH:τ.H=st.H.set j ob:=by show σ.H.set j ob=_;rw[hi.hH]
 refine⟨τ,rfl,Ib,hH,FY,?_⟩;have:=hi.heap FY hinv (λt cs h=>GA.be _ ((hi.box t cs h).lt trivial)) Hf;rw[hH]at this;exact this
theorem bb.place{X:bq}{σ:Sg}{FC:Nat->Nat}{st:St}{a:Act}(hi:bb X σ FC st a){ob:Ob}{n:Nat}{H':Hp}(hp:Place st.H ob n H')(x:Obj)
  (Gl:∀τ:Sg,bO σ τ->τ.w={σ.w with heap:=σ.w.heap.push x} ->eE τ σ.w.heap.size ob):
  ∃τ:Sg,τ.w={σ.w with heap:=σ.w.heap.push x} /\τ.l n=σ.w.heap.size/\τ.H[n]?=some ob/\bO σ τ/\bb X τ FC ⟨st.sl,st.bx,H'⟩ a:=by
 rcases hp with⟨rfl,rfl⟩|⟨hf,rfl⟩
 ·obtain⟨τ,h1,h2,h3,h4,h5⟩:=hi.newObj ob x Gl;exact⟨τ,h1,by rw[<-hi.hH];exact h2,by rw[h3];simp,h4,h5⟩
 ·obtain⟨τ,h1,h2,h3,h4,h5⟩:=hi.By ob x n hf Gl;have hl:n<st.H.length:=by rcases Nat.lt_or_ge n st.H.length with h|h;exact h;simp[List.getElem?_eq_none h]at hf
  exact⟨τ,h1,h2,by rw[h3];simp[hl],h4,h5⟩
section ops
variable{X:bq}{st:St}{dst:Option Nat}{ty:Nat}{pos:String}{af:Array Edge}{g:Option (Nat×Bool)}{pn:Nat}{H':Hp}
theorem Bz{T:Nat}{x:Operand}{m:M}(hx:st.ev x=some (.m m))(Gl:m.lP=true)(hp:Place st.H (.box (cellsOf m)) pn H'):
  aK X ⟨dst,.box T x,ty,pos,af,g⟩ st (bt (.m (.ref pn 0)) ⟨st.sl,st.bx,H'⟩):=by
 intro a σ FC hi;have h:=hi.ev hx;cases h with
 |m h=>
  have hc:=h.cells Gl;obtain⟨τ,h1,h2,h3,h4,h5⟩:=hi.place hp (.cells (a.eval x).cells T (0,0)) (by
   intro τ hm hw;exact⟨_,T,by rw[hw];simp,hc.mono hm⟩)
  refine bS.value (u:=.pointer (some ⟨σ.w.heap.size,0,none⟩)) (w':={σ.w with heap:=σ.w.heap.push (.cells (a.eval x).cells T (0,0))}) ?_ ⟨_,_,τ,FC,⟨rfl,rfl⟩,h1,h5,?_⟩
  ·simp[execOp,Instr.box,newVar,newRow,newObj,Sem.run]
  ·rw[<-h2];exact .m (.ref _ 0 (cellsOf m) h3)
theorem yf{T:Nat}{z:D}[hz:mH X.P T z](hp:Place st.H (.box ((aN z).map .d)) pn H'):
  aK X ⟨dst,.alloc T,ty,pos,af,g⟩ st (bt (.m (.ref pn 0)) ⟨st.sl,st.bx,H'⟩):=by
 intro a σ FC hi;obtain⟨v,GK,GO⟩:=hz.run;have hr:RM σ (.d z) v:=.d (bW GO);have hc:eN σ ((aN z).map .d) v.cells:=hr.cells rfl;obtain⟨τ,h1,h2,h3,h4,h5⟩:=hi.place hp (.cells v.cells T (0,0)) (by
  intro τ hm hw;exact⟨_,T,by rw[hw];simp,hc.mono hm⟩)
 refine bS.value (u:=.pointer (some ⟨σ.w.heap.size,0,none⟩)) (w':={σ.w with heap:=σ.w.heap.push (.cells v.cells T (0,0))}) ?_ ⟨_,_,τ,FC,⟨rfl,rfl⟩,h1,h5,?_⟩
 ·simp[execOp,Instr.alloc,GK,newVar,newRow,newObj,Sem.run]
 ·rw[<-h2];exact .m (.ref _ 0 ((aN z).map .d) h3)
theorem vx{T:Nat}(hp:Place st.H (.map []) pn H'):
  aK X ⟨dst,.makeMap T none,ty,pos,af,g⟩ st (bt (.m (.mp pn)) ⟨st.sl,st.bx,H'⟩):=by
 intro a σ FC hi;obtain⟨τ,h1,h2,h3,h4,h5⟩:=hi.place hp (.map #[] 0) (by
  intro τ hm hw;exact⟨[],.inl rfl,#[],0,by rw[hw];simp,rfl,by simp,by simp[fQ]⟩)
 refine bS.value (u:=.map (some σ.w.heap.size)) (w':={σ.w with heap:=σ.w.heap.push (.map #[] 0)}) ?_ ⟨_,_,τ,FC,⟨rfl,rfl⟩,h1,h5,?_⟩
 ·simp[execOp,Instr.makeMap,newObj,Sem.run]
 ·rw[<-h2];exact .m (.mp _ [] h3)
end ops
def iw(f:M->Option D):List M->Option (List D)
 |[]=>some []
 |m::r=>match f m with
  |some d=>match iw f r with
   |some ds=>some (d::ds)
   |none=>none
  |none=>none
def oT(ec:Nat):Nat->List D->Option (List (List D))
 |0,l=>match l with
  |[]=>some []
  |_=>none
 |n+1,l=>match sub l 0 ec with
  |some r=>match oT ec n (l.drop ec)with
   |some rs=>some (r::rs)
   |none=>none
  |none=>none
def kv(H:Hp):Nat->M->Option D
 |0,m=>match m with
  |.d x=>some x
  |_=>none
 |n+1,m=>match m with
  |.d x=>some x
  |.bB i FD len=>bif Nat.beq len 0 then some .lH else
   match H[i]? with
   |some (.row true ec v cs)=>bif (Nat.beq v FD&&Nat.blt 0 ec)then
     (match iw (kv H n) cs with
     |some ds=>match oT ec len ds with
      |some rows=>some (.sl rows)
      |none=>none
     |none=>none)else none
   |_=>none
  |.agg cs=>match iw (kv H n) cs with|some ds=>some (.agg ds)|none=>none
  |.fn f cs=>bif Nat.blt f 1024 then(match iw (kv H n) cs with|some ds=>some (.fn f ds)|none=>none)else none
  |_=>none
def ez(H:Hp)(m:M):Option D:=kv H 9 m
theorem gM{f:M->Option D} :∀{ms:List M} {ds:List D},iw f ms=some ds->ds.length=ms.length/\∀(i:Nat) m d,ms[i]?=some m->ds[i]?=some d->f m=some d
 |[],ds,h=>by simp[iw]at h;subst h;simp
 |m::r,ds,h=>by
  simp only[iw]at h;split at h
  ·rename_i d hd;split at h
   ·rename_i I4 Hc;injection h with h;subst h
    obtain⟨h1,h2⟩:=gM Hc;refine⟨by simp[h1],λi m' d' hm Le=>?_⟩;cases i with
    |zero=>simp at hm Le;subst hm;subst Le;exact hd
    |succ i=>simp at hm Le;exact h2 i m' d' hm Le
   ·cases h
  ·cases h
theorem sF{ec:Nat} :∀{n:Nat} {l:List D} {rows:List (List D)},oT ec n l=some rows->chunk ec n (l.map .d)=some rows
 |0,l,rows,h=>by
  unfold oT at h;cases l with
  |nil=>simp at h;subst h;rfl
  |cons=>cases h
 |n+1,l,rows,h=>by
  unfold oT at h;split at h
  ·rename_i r hr;split at h
   ·rename_i rs Km;injection h with h;subst h
    have h1:=sF Km;obtain⟨h2,h3⟩:=sub_eq hr;unfold chunk;rw[List.map_drop]at h1;rw[h1];have:cT ((l.map M.d).take ec)=some r:=by
     rw[<-List.map_take];simp only[List.drop_zero]at h3;rw[h3,Aw]
    rw[this]
   ·cases h
  ·cases h
theorem RM.kv{σ:Sg}{Oo:Nat->Nat->Prop}(hi:cY σ Oo):∀(n:Nat) {m:M} {d:D} {v:Value},RM σ m v->kv σ.H n m=some d->dI σ.O σ.w d v:=by
 intro n
 induction n with
 |zero=>
  intro m d v h hv;unfold Go.Mt.kv at hv;cases h with
  |d h=>simp at hv;subst hv;exact h
  |_=>cases hv
 |succ n ih=>
  intro m d v h hv;unfold Go.Mt.kv at hv;cases h with
  |d h=>simp at hv;subst hv;exact h
  |bB i FD len ad cap hle Gp=>
   simp only at hv;cases h0:Nat.beq len 0 with
   |true=>
    rw[h0]at hv;simp at hv;subst hv;have:=Nat.eq_of_beq_eq_true h0;subst this;exact .lH ad cap
   |false=>
   rw[h0]at hv;simp only[cond_false]at hv;have RC:0<len:=by rcases Nat.eq_zero_or_pos len with h|h;subst h;cases h0;exact h
   split at hv
   ·rename_i ec v cs G3;cases hb:(Nat.beq v FD&&Nat.blt 0 ec)with
    |false=>simp[hb]at hv
    |true=>
     simp only[hb,cond_true]at hv;simp only[Bool.and_eq_true]at hb;have e0:=Nat.eq_of_beq_eq_true hb.1;subst e0;split at hv
     ·rename_i ds Hc;split at hv
      ·rename_i rows Kk;injection hv with hv;subst hv
       have hc:=sF Kk;obtain⟨q1,q2⟩:=gM Hc;obtain⟨e1,e2,arr,T,e3,e4⟩:=Gp true ec cs G3;subst e1;obtain⟨GB,Ku,T1,Ld,n1,h3,h4,h5,⟨h6,FZ⟩,h7⟩:=hi.obj i _ G3;rw[e3]at h3;injection h3 with h3;injection h3 with e5 e6;subst e5;subst e6
       have Gw:Ld=cap:=Nat.eq_of_mul_eq_mul_right GB (by rw[<-h4,<-e4]);subst Gw;have Iv:n1=len:=Nat.eq_of_mul_eq_mul_right GB (by rw[<-h6,<-e2]);subst Iv;obtain⟨k1,k2,k3⟩:=iU hc (by simp[q1,e2]);have FV:rows≠[]:=by rintro rfl;simp at k1;omega
       have J2:∀o,o<cs.length->¬σ.O (σ.l i) o:=by
        intro o ho hO;rcases(hi.own _ _).1 hO with h8|⟨k,ob,h8,h9,H5⟩
        ·exact hi.sep i _ G3 trivial o h8
        ·have:=hi.inj k i ob _ h8 G3 (Ob.iJ H5) trivial h9;subst this;rw[G3]at h8;injection h8 with h8;subst h8
         simp only[Ob.e_]at H5;rcases H5 with H5|H5
         ·cases H5
         ·omega
       have hbound:∀i j,i<rows.length->j<ec->i*ec+j<cs.length:=by
        intro i j hi hj;rw[e2,<-k1]
        calc i*ec+j<i*ec+ec:=by omega
         _=(i+1)*ec:=by rw[Nat.succ_mul]
         _<=rows.length*ec:=Nat.mul_le_mul_right _ hi
       have Gd:cs.length<=arr.size:=by rw[e2,e4];exact Nat.mul_le_mul_right _ h5
       have N2:∀(k:Nat) (d:D),(ds.map M.d)[k]?=some (M.d d)->∃m,cs[k]?=some m/\Go.Mt.kv σ.H n m=some d:=by
        intro k d hk;simp only[List.getElem?_map,Option.map_eq_some_iff]at hk;obtain⟨d',hk,e⟩:=hk;injection e with e;subst e
        have FJ:k<cs.length:=by rw[<-q1];rcases Nat.lt_or_ge k ds.length with h|h;exact h;simp[List.getElem?_eq_none h]at hk
        exact⟨cs[k],by simp[FJ],q2 k _ _ (by simp[FJ]) hk⟩
       have J3:∀i j,i<rows.length->j<ec->∃(r:List D) (d:D),rows[i]?=some r/\r[j]?=some d/\(ds.map M.d)[i*ec+j]?=some (M.d d):=by
        intro i j hi hj;have hr:rows[i].length=ec:=k2 _ (List.getElem_mem hi);have g1:rows[i]?=some rows[i]:=by simp[hi]
        have g2:rows[i][j]?=some ((rows[i])[j]'(by rw[hr];exact hj)):=by simp[hr,hj]
        exact⟨rows[i],_,g1,g2,k3 i j _ _ g1 g2⟩
       have:=dI.sl (O:=σ.O) (w:=σ.w) rows (σ.l i) 0 Ld ec (λi j=>arr.getD (i*ec+j) Go.undef) FV (by omega) (by omega) k2 ?_ ?_ ?_
       ·rw[k1]at this;exact this
       ·intro i' j FL hj;rw[Nat.zero_add];refine⟨?_,J2 _ (hbound i' j FL hj)⟩;have:=hbound i' j FL hj;simp[cB,World.cell?,e3,show i'*ec+j<arr.size by omega]
       ·intro i' j FL hj;obtain⟨r,d,_,_,Kk⟩:=J3 i' j FL hj;obtain⟨m,hm,_⟩:=N2 _ _ Kk;have FJ:=hbound i' j FL hj;exact(h7 _ _ (arr.getD (i'*ec+j) Go.undef) hm (by simp[show i'*ec+j<arr.size by omega])).2
       ·intro i' j r d hr hd;have Kk:=k3 i' j r d hr hd;obtain⟨m,hm,RD⟩:=N2 _ _ Kk;have FJ:i'*ec+j<cs.length:=by rcases Nat.lt_or_ge (i'*ec+j) cs.length with h|h;exact h;simp[List.getElem?_eq_none h]at hm
        have:=(h7 _ _ (arr.getD (i'*ec+j) Go.undef) hm (by simp[show i'*ec+j<arr.size by omega])).1;exact ih this RD
      ·cases hv
     ·cases hv
   ·cases hv
  |agg cs vs hl hf hh=>
   simp only at hv;split at hv
   ·rename_i ds Hc;injection hv with hv;subst hv
    obtain⟨q1,q2⟩:=gM Hc;refine .agg ds vs (by rw[hl,q1]) hf λi d v hd hv=>?_
    have FJ:i<cs.length:=by rw[<-q1];rcases Nat.lt_or_ge i ds.length with h|h;exact h;simp[List.getElem?_eq_none h]at hd
    exact ih (hh i cs[i] v (by simp[FJ]) hv) (q2 i cs[i] d (by simp[FJ]) hd)
   ·cases hv
  |pC f g cs vs hg hl hh=>
   exfalso;have:Nat.blt g 1024=false:=by rw[<-Bool.not_eq_true];intro e;have:=aQ e;omega
   simp[this]at hv
  |fn f cs vs FJ hl hh=>
   simp only at hv;have hb:Nat.blt f 1024=true:=by rw[Nat.blt_eq];exact FJ
   rw[hb]at hv;simp only[cond_true]at hv;split at hv
   ·rename_i ds Hc;injection hv with hv;subst hv
    obtain⟨q1,q2⟩:=gM Hc;refine .fn f ds vs (by rw[hl,q1]) λi d v hd hv=>?_
    have FJ:i<cs.length:=by rw[<-q1];rcases Nat.lt_or_ge i ds.length with h|h;exact h;simp[List.getElem?_eq_none h]at hd
    exact ih (hh i cs[i] v (by simp[FJ]) hv) (q2 i cs[i] d (by simp[FJ]) hd)
   ·cases hv
  |_=>simp at hv
theorem RM.ez{σ:Sg}{Oo:Nat->Nat->Prop}(hi:cY σ Oo){m:M}{d:D}{v:Value}(h:RM σ m v)(hv:ez σ.H m=some d):dI σ.O σ.w d v:=h.kv hi 9 hv
theorem bb.Ey{X:bq}{st:St}{σ:Sg}{FC:Nat->Nat}{a:Act}(h:bb X σ FC st a){x:Operand}{m:M}{d:D}(hx:st.ev x=some (.m m))(hv:ez st.H m=some d):dI σ.O σ.w d (a.eval x):=by
 have h1:=h.ev hx;cases h1 with
 |m h1=>exact h1.ez h.hinv (by rw[h.hH];exact hv)
def fz:Ob->Ob
 |.row _ ec v cs=>.row true ec v cs
 |o=>o
theorem zy(H:Hp)(i:Nat):(H.map fz)[i]?=(H[i]?).map fz:=by simp
theorem sG(ob:Ob):(fz ob).live↔ob.live:=by cases ob<;>simp[fz,Ob.live]
theorem BA(ob:Ob)(o:Nat)(h:(fz ob).e_ o):ob.e_ o:=by
 cases ob with
 |row acc ec v cs=>simp only[fz,Ob.e_]at h⊢;rcases h with h|h;cases h;exact .inr h
 |_=>exact h
theorem cY.fz{σ:Sg}{Oo:Nat->Nat->Prop}(hi:cY σ Oo):∃τ:Sg,τ.w=σ.w/\τ.H=σ.H.map fz/\cY τ Oo/\bO σ τ:=by
 let τ:Sg:=⟨σ.w,λb o=>Oo b o\/∃(i:Nat) (ob:Ob),(σ.H.map Go.Mt.fz)[i]?=some ob/\σ.l i=b/\ob.e_ o,σ.l,σ.H.map Go.Mt.fz⟩
 have GU:∀(i:Nat) ob,(σ.H.map Go.Mt.fz)[i]?=some ob->∃J7,σ.H[i]?=some J7/\ob=Go.Mt.fz J7:=by
  intro i ob h;rw[zy]at h;obtain⟨J7,h1,h2⟩:=Option.map_eq_some_iff.1 h;exact⟨J7,h1,h2.symm⟩
 have HE:∀(i:Nat) ob,σ.H[i]?=some ob->(σ.H.map Go.Mt.fz)[i]?=some (Go.Mt.fz ob):=by intro i ob h;rw[zy,h];rfl
 have hO:∀b o,τ.O b o->σ.O b o:=by
  rintro b o (h|⟨i,ob,h1,h2,h3⟩)
  ·exact(hi.own b o).2 (.inl h)
  ·obtain⟨J7,h4,rfl⟩:=GU i ob h1;exact(hi.own b o).2 (.inr ⟨i,J7,h4,h2,BA _ _ h3⟩)
 have hm:bO σ τ:=by
  refine⟨λb o v h1 h2=>⟨h1,λh3=>h2 (hO b o h3)⟩,λi cs h=>⟨⟨cs,HE i _ h⟩,rfl⟩,λi cs h=>⟨⟨cs,HE i _ h⟩,rfl⟩,λi cs h=>⟨⟨cs,HE i _ h⟩,rfl⟩,λi h=>HE i _ h,?_,λi h=>⟨_,HE i _ h⟩⟩;intro i acc ec FD cs h;exact .inr ⟨true,FD,cs,HE i _ h,Nat.le_refl _,λ_=>⟨rfl,rfl,λarr T ha=>⟨arr,ha,rfl⟩⟩⟩
 refine⟨τ,rfl,rfl,⟨?_,?_,λb o=>Iff.rfl,?_,hi.fj⟩,hm⟩
 ·intro i ob h;obtain⟨J7,h1,rfl⟩:=GU i ob h;have h2:=(hi.obj i J7 h1).dR hm (λx hx=>hx);cases J7 with
  |row acc ec v cs=>exact h2
  |_=>exact h2
 ·intro i j x y h1 h2 h3 h4 h5;obtain⟨x0,g1,rfl⟩:=GU i x h1;obtain⟨y0,g2,rfl⟩:=GU j y h2;exact hi.inj i j x0 y0 g1 g2 ((sG _).1 h3) ((sG _).1 h4) h5
 ·intro i ob h1 h2 o h3;obtain⟨J7,g1,rfl⟩:=GU i ob h1;exact hi.sep i J7 g1 ((sG _).1 h2) o h3
def lV(H:Hp):M->Option (List D)
 |.bz ms=>match ms with
  |[_]=>none
  |_=>iw (ez H) ms
 |m=>match ez H m with
  |some d=>some [d]
  |none=>none
theorem RM.lV{σ:Sg}{Oo:Nat->Nat->Prop}(hi:cY σ Oo){m:M}{ds:List D}{v:Value}(h:RM σ m v)(hv:lV σ.H m=some ds):RM σ (fD (ds.map .d)) v:=by
 have one:∀m,(match Go.Mt.ez σ.H m with|some z=>some [z]|none=>none)=some ds->RM σ m v->RM σ (fD (ds.map .d)) v:=by
  intro m hv h;split at hv
  ·rename_i d hd;injection hv with hv;subst hv
   exact .d (h.ez hi hd)
  ·cases hv
 cases m with
 |bz ms=>
  cases h with
  |bz cs vs hl hh=>
   unfold Go.Mt.lV at hv;simp only at hv;split at hv
   ·cases hv
   ·rename_i FV;obtain⟨q1,q2⟩:=gM hv;have key:RM σ (.bz (ds.map .d)) (.tuple vs):=by
     refine .bz _ _ (by simp[hl,q1]) λi m' v' hm Jy=>?_
     simp only[List.getElem?_map,Option.map_eq_some_iff]at hm;obtain⟨d,hd,rfl⟩:=hm;have FJ:i<ms.length:=by rw[<-q1];rcases Nat.lt_or_ge i ds.length with h|h;exact h;simp[List.getElem?_eq_none h]at hd
     exact .d ((hh i ms[i] v' (by simp[FJ]) Jy).ez hi (q2 i ms[i] d (by simp[FJ]) hd))
    match ds,q1,key with
    |[],_,key=>exact key
    |[x],q1,key=>
     exfalso
     match ms,q1,FV with
     |[a],_,FV=>exact FV a rfl
    |x::y::r,_,key=>exact key
 |_=>exact one _ (by exact hv) h
theorem PT.wI{P:Program}{f:Nat}{ds rs:List D}{m:M}{H1:Hp}(h:CT P f (ds.map .d) [] λr H'=>r=m/\H'=H1)(hv:lV (H1.map fz) m=some rs):PT P f ds (·=rs):=by
 intro O w vs hO GR
 let σ:Sg:=⟨w,O,λ_=>0,[]⟩
 have hinv:cY σ O:=⟨by simp[σ],by simp[σ],by simp[σ],by simp[σ],hO⟩;have Gk:h_ σ (ds.map .d) vs:=by
  refine⟨by simp[GR.1],λi m v h1 h2=>?_⟩;simp only[List.getElem?_map,Option.map_eq_some_iff]at h1;obtain⟨d,hd,rfl⟩:=h1;exact .d (GR.2 i d v hd h2)
 refine(h σ O vs hinv rfl Gk).mono ?_;rintro e w' ⟨v,r,FO,he,hw,⟨Jd,G3⟩,FL,hr,hm,hb⟩;subst hw;subst Jd;obtain⟨τ,t1,t2,t3,t4⟩:=FL.fz;have h1:RM τ (fD (rs.map .d)) v:=(hr.mono t4).lV t3 (by rw[t2,G3];exact hv);refine⟨v,rs,he,rfl,⟨hb.os,hb.output,hb.tape,hb.size,λb h1=>hb.be b h1 (by simp[σ])⟩,?_⟩;refine h1.vm ?_;intro b o v h2 h3;refine⟨by rw[<-t1];exact h2,λh4=>h3 ((t3.own b o).2 (.inl h4))⟩
def Src(P:Program)(σ:Sg)(n:Nat)(v:Value)(cs:List M)(len:Nat):Prop:=
 (∀w':World,(Builtin.lenOf v).run P w'=.ok len w')/\cs.length=len*n/\len<=140737488355328/\∃vs:Array Value,(∀w':World,w'.heap=σ.w.heap->(Builtin.firstCells n len v).run P w'=.ok vs w')/\vs.size=len*n/\
  ∀(k:Nat) (m:M),cs[k]?=some m->∃u,vs[k]?=some u/\RM σ m u/\flat u=true
def kf(H:Hp)(n:Nat):M->Option (List M×Nat)
 |.d (.sl rows)=>bif fe n rows then some (br rows,rows.length)else none
 |.d .lH=>some ([],0)
 |.bB i FD len=>match H[i]? with
  |some (.row _ n' F5 cs)=>bif (Nat.beq n n'&&Nat.beq FD F5)then some (cs,len)else none
  |_=>none
 |_=>none
theorem CX{P:Program}{σ:Sg}{Oo:Nat->Nat->Prop}(hi:cY σ Oo){n:Nat}(hn:0<n){m:M}{v:Value}{cs:List M}{len:Nat}(h:RM σ m v)(hs:kf σ.H n m=some (cs,len)):Src P σ n v cs len:=by
 unfold kf at hs;split at hs
 ·rename_i rows;cases hl:fe n rows with
  |false=>simp[hl]at hs
  |true=>
   simp only[hl,cond_true]at hs;injection hs with hs;injection hs with e1 e2
   subst e1;subst e2;have GC:=jD hl;cases h with
   |d h=>
    obtain⟨vs,v1,v2,v3,v4⟩:=h.firstCells (P:=P) hn GC;have FZ:rows.length<=140737488355328:=by
     cases h with
     |slnil a=>simp
     |sl rows b o cap ec val h0 Gw FZ GB FW Gf Gx=>exact FZ
    refine⟨v1,ku GC,FZ,vs,v2,v3,λk m hm=>?_⟩;obtain⟨i,j,r,d,rfl,e2,e3,rfl⟩:=ss hn GC hm;obtain⟨u,u1,u2,u3⟩:=v4 i j r d e2 e3;exact⟨u,u1,.d u2,u3⟩
 ·injection hs with hs;injection hs with e1 e2
  subst e1;subst e2;cases h with
  |d h=>cases h with
   |lH a cap=>
    cases a with
    |none=>exact⟨λ_=>by simp[Builtin.lenOf],by simp,by simp,#[],λ_ _=>by simp[Builtin.firstCells],by simp,by simp⟩
    |some a=>exact⟨λ_=>by simp[Builtin.lenOf],by simp,by simp,#[],λ_ _=>by simp[Builtin.firstCells,loadCells,loadCellsFrom],by simp,by simp⟩
 ·rename_i i FD PL;split at hs
  ·rename_i acc n' F5 FG hH;cases hb:(Nat.beq n n'&&Nat.beq FD F5)with
   |false=>simp[hb]at hs
   |true=>
    simp only[hb,cond_true]at hs;injection hs with hs;injection hs with e1 e2
    subst e1;subst e2;simp only[Bool.and_eq_true]at hb;have e3:=Nat.eq_of_beq_eq_true hb.1;have e4:=Nat.eq_of_beq_eq_true hb.2;subst e3;subst e4;cases h with
    |bB i FD len ad cap hle Gp=>
     obtain⟨e1,e2,Ku,T1,e3,e4⟩:=Gp acc n FG hH;subst e1;obtain⟨Gt,arr,TT,Gu,nn,h3,h4,h5,⟨h6,J4⟩,h7⟩:=hi.obj i _ hH;have Iv:nn=PL:=Nat.eq_of_mul_eq_mul_right Gt (by rw[<-h6,<-e2]);subst Iv;have Jc:nn*n<=arr.size:=by rw[h4];exact Nat.mul_le_mul_right _ h5
     refine⟨λ_=>by simp[Builtin.lenOf],e2,J4,arr.extract 0 (nn*n),λw' II=>?_,by simp;omega,λk m hm=>?_⟩
     ·simp only[Builtin.firstCells];exact oM (w:=w') (by rw[II];exact h3) Jc
     ·have hk:k<FG.length:=by rcases Nat.lt_or_ge k FG.length with h|h;exact h;simp[List.getElem?_eq_none h]at hm
      have PM:k<arr.size:=by omega
      refine⟨arr[k],?_,h7 k m arr[k] hm (by simp[PM])⟩;rw[Array.getElem?_extract,if_pos (by omega)];simp[PM]
  ·cases hs
 ·cases hs
theorem bb.src{X:bq}{st:St}{σ:Sg}{FC:Nat->Nat}{a:Act}(h:bb X σ FC st a){x:Operand}{m:M}{n:Nat}(hn:0<n){cs:List M}{len:Nat}(hx:st.ev x=some (.m m))(hv:kf st.H n m=some (cs,len)):Src X.P σ n (a.eval x) cs len:=by
 have h1:=h.ev hx;cases h1 with
 |m h1=>exact CX h.hinv hn h1 (by rw[h.hH];exact hv)
section ops
variable{X:bq}{st:St}{dst:Option Nat}{ty:Nat}{pos:String}{af:Array Edge}{g:Option (Nat×Bool)}{pn:Nat}{H':Hp}
theorem oU{T e n nb:Nat}{x y:Operand}{F8:List M}{k2:Nat}{z:D}(acc:Bool)[ht:aL X.P T e][hs:bh X.P e n][hb:gp X.P e nb][hz:dt X.P e z](hn:Nat.blt 0 n=true)(Ga:(aN z).length=n)
  (hx:st.ev x=some (.m (.d (.sl [])))) {my:M} (hy:st.ev y=some (.m my)) (hv:kf st.H n my=some (F8,k2)) (hr:0<k2) (Gh:k2*nb<=140737488355328) (hp:Place st.H (.row acc n 0 F8) pn H'):
  aK X ⟨dst,.call ⟨.builtin .append,#[x,y],#[T,T]⟩,ty,pos,af,g⟩ st (bt (.m (.bB pn 0 k2)) ⟨st.sl,st.bx,H'⟩):=by
 intro a σ FC hi;have Gt:=aQ hn;have h1:=hi.ia hx;obtain⟨inf,i1,i2,i3⟩:=io hs.size hb.bytes;obtain⟨zv,GK,GO⟩:=(bA hz.zero).run;have Kl:zv.cells.size=n:=by have:=(bW (O:=σ.O) (w:=σ.w) GO).cells.1;omega
 obtain⟨v1,HY,LG,vs,v2,v3,v4⟩:=hi.src Gt hy hv;have hlen:=hr;generalize hu:a.eval x=u at h1;generalize hw:a.eval y=wv at v1 v2;cases h1 with
 |slnil ad=>
  let cap:=k2+σ.w.tape σ.w.drawn (.appendCap k2 0 e)%(2^63-k2)
  let arr:=vs++Builtin.zeroCells zv.cells (cap-k2)
  have Gw:k2<=cap:=Nat.le_add_right _ _;have HR:arr.size=cap*n:=by
   simp only[arr,Array.size_append,fl,v3,Kl];rw[<-Nat.add_mul];congr 1;omega
  have hd:bb X {σ with w:=σ.w.drew} FC st a:=hi.ext (dq.drew _);have IW:bO σ {σ with w:=σ.w.drew} :=bO.ext (dq.drew _);obtain⟨τ,g1,g2,g3,g4,g5⟩:=hd.place hp (.cells arr e (0,0)) (by
   intro τ hm hw;refine⟨Gt,arr,e,cap,k2,by rw[hw];exact dx _ _,HR,Gw,⟨HY,LG⟩,?_⟩;intro k m v Ha hv;obtain⟨u,u1,u2,u3⟩:=v4 k m Ha;have FJ:k<vs.size:=by rcases Nat.lt_or_ge k vs.size with h|h;exact h;simp[Array.getElem?_eq_none h]at u1
   have:arr[k]?=some u:=by simp only[arr];rw[Array.getElem?_append_left FJ];exact u1
   rw[this]at hv;injection hv with hv;subst hv
   exact⟨(u2.mono IW).mono hm,u3⟩)
  refine bS.value (u:=.slice (some ⟨σ.w.heap.size,0,none⟩) k2 cap) (w':=τ.w) ?_ ⟨_,_,τ,FC,⟨rfl,rfl⟩,rfl,g5,?_⟩
  ·have c1:¬k2<=0:=by omega
   have c2:¬(((k2:Nat):Int)>IntKind.i64.max/\nb=0):=by
    rintro⟨h1,h2⟩;have:((k2:Nat):Int)<=140737488355328:=by omega
    have h3:IntKind.i64.max=9223372036854775807:=by decide
    omega
   have c3:¬(Builtin.nextslicecap k2 0*nb>2^48):=by
    have h1:=ke (ef:=k2) (cap:=0) (by omega);have:=Nat.mul_le_mul_right nb h1;rw[Nat.mul_assoc]at this;omega
   have hold:(Builtin.firstCells n 0 (.slice ad 0 0)).run X.P σ.w.drew=.ok #[] σ.w.drew:=by
    cases ad<;>simp[Builtin.firstCells,loadCells,loadCellsFrom]
   have Jm:∀w:World,(typeInfo e).run X.P w=.ok inf w:= λw=>by simp[typeInfo,program,Sem.run,i1]
   have F6:∀w:World,(underlying T).run X.P w=.ok (.slice e) w:= λw=>by simp[underlying,program,Sem.run,ht.u]
   simp only[execOp,resolve,invoke,builtin,Builtin.append_];simp only[Sem.run_bind,Sem.run_pure,Result.andThen_ok,List.map_toArray,List.map_cons,List.map_nil,hu,hw];simp[F6,Jm,bF hs.size];have J5:(Question.appendCap k2 0 e).cut (σ.w.tape σ.w.drawn (Question.appendCap k2 0 e))=cap:=rfl;have H6:(Question.appendCap k2 0 e).forced=false:=rfl;have IJ:=v2 σ.w.drew rfl;have RE:¬k2=0:=by omega
   have PN:¬(9223372036854775807<((k2:Nat):Int)/\inf.bytes=0):=by
    rintro⟨h1,h2⟩;have h3:IntKind.i64.max=9223372036854775807:=by decide
    exact c2 ⟨by omega,by omega⟩
   have OE:¬(281474976710656<Builtin.nextslicecap k2 0*inf.bytes):=by rw[i3];omega
   simp only[v1,RE,PN,OE,H6,Result.andThen_ok,if_false,Bool.false_eq_true];rw[hold];simp only[Result.andThen_ok];rw[IJ];simp only[Result.andThen_ok,GK,J5];simp[newRow,newObj,Sem.run,g1,arr]
  ·have Jn:=g2;refine .m (.bB _ 0 k2 _ cap (.inr ⟨acc,n,0,F8,g3,Nat.le_refl _⟩) ?_);intro GP J0 FG hh;rw[g3]at hh;simp at hh;obtain⟨e1,e2,e3⟩:=hh;subst e1;subst e2;subst e3;exact⟨by rw[Jn];rfl,HY,arr,e,by rw[Jn,g1];exact dx _ _,HR⟩
 |sl rows b o cap ec val h0 Gw FZ GB FW Gf Gx=>exact absurd rfl h0
theorem tX{T e n:Nat}{x y:Operand}{F8:List M}{my:M}[ht:aL X.P T e][hs:bh X.P e n](hn:Nat.blt 0 n=true)
  (hx:st.ev x=some (.m (.d (.sl [])))) (hy:st.ev y=some (.m my)) (hv:kf st.H n my=some (F8,0)):
  aK X ⟨dst,.call ⟨.builtin .append,#[x,y],#[T,T]⟩,ty,pos,af,g⟩ st (bt (.m (.d (.sl []))) st):=by
 refine aK.quiet λa σ FC hi=>?_
 have Gt:=aQ hn;have h1:=hi.ia hx;obtain⟨v1,HY,LG,vs,v2,v3,v4⟩:=hi.src Gt hy hv;have F6:∀w:World,(underlying T).run X.P w=.ok (.slice e) w:= λw=>by simp[underlying,program,Sem.run,ht.u]
 generalize hu:a.eval x=u at h1;generalize hw:a.eval y=wv at v1 v2;have GR:vs= #[]:=by
  have:vs.size=0:=by rw[v3];simp
  exact Array.eq_empty_of_size_eq_zero this
 subst GR;cases h1 with
 |slnil ad=>
  refine⟨.slice ad 0 0,?_,.m (.d (.slnil ad))⟩;simp only[execOp,resolve,invoke,builtin,Builtin.append_];simp only[Sem.run_bind,Sem.run_pure,Result.andThen_ok,List.map_toArray,List.map_cons,List.map_nil,hu,hw];cases ad<;>simp[F6,bF hs.size,v1,v2 σ.w rfl,storeCells]
 |sl rows b o cap ec val h0 Gw FZ GB FW Gf Gx=>exact absurd rfl h0
theorem vy{T U e n nb len:Nat}{x y:Operand}{k:IntKind}{z:D}[ht:aL X.P T e][hu:jK X.P U k][hs:bh X.P e n][hb:gp X.P e nb][hz:dt X.P e z](hn:Nat.blt 0 n=true)(Ga:(aN z).length=n)
  (hx:st.ev x=some (.m (.d (.sl [])))) (hy:st.ev y=some (.m (.d (.int k len)))) (hl:0<len) (Gh:len*nb<=140737488355328) (FZ:len<=140737488355328) (hp:Place st.H (.row false n 0 (List.replicate (len*n) .undef)) pn H'):
  aK X ⟨dst,.call ⟨.builtin .append,#[x,y],#[T,U]⟩,ty,pos,af,g⟩ st (bt (.m (.bB pn 0 len)) ⟨st.sl,st.bx,H'⟩):=by
 intro a σ FC hi;have Gt:=aQ hn;have h1:=hi.ia hx;have h2:=hi.cC hy;obtain⟨inf,i1,i2,i3⟩:=io hs.size hb.bytes;obtain⟨zv,GK,GO⟩:=(bA hz.zero).run;have HA:eN σ ((aN z).map .d) zv.cells:=(RM.d (bW GO):RM σ (.d z) zv).cells rfl;have Kl:zv.cells.size=n:=by rw[HA.1];simpa using Ga
 have MD:∀(i:Nat) (v:Value),zv.cells[i]?=some v->flat v=true:=by
  intro i v hv;have FL:i<zv.cells.size:=by rcases Nat.lt_or_ge i zv.cells.size with h|h;exact h;simp[Array.getElem?_eq_none h]at hv
  have hd:i<(aN z).length:=by omega
  exact(HA.2 i (.d (aN z)[i]) v (by simp[hd]) hv).2
 generalize NB:a.eval x=u at h1;cases h1 with
 |sl rows b o cap ec val h0 Gw FZ GB FW Gf Gx=>exact absurd rfl h0
 |slnil ad=>
  let cap:=len+σ.w.tape σ.w.drawn (.appendCap len 0 e)%(2^63-len)
  let arr:=Builtin.zeroCells zv.cells len++Builtin.zeroCells zv.cells (cap-len)
  have Gw:len<=cap:=Nat.le_add_right _ _;have HR:arr.size=cap*n:=by
   simp only[arr,Array.size_append,fl,Kl];rw[<-Nat.add_mul];congr 1;omega
  have hd:bb X {σ with w:=σ.w.drew} FC st a:=hi.ext (dq.drew _);have IW:bO σ {σ with w:=σ.w.drew} :=bO.ext (dq.drew _);have IV:(List.replicate (len*n) M.undef).length=len*n:=by simp
  obtain⟨τ,g1,g2,g3,g4,g5⟩:=hd.place hp (.cells arr e (0,0)) (by
   intro τ hm hw;refine⟨Gt,arr,e,cap,len,by rw[hw];exact dx _ _,HR,Gw,⟨IV,FZ⟩,?_⟩;intro k m v Ha hv;have Lv:m=.undef:=by
    rw[List.getElem?_replicate]at Ha;split at Ha
    ·injection Ha with h;exact h.symm
    ·cases Ha
   subst Lv;refine⟨.undef _,?_⟩;simp only[arr,Array.getElem?_append]at hv;split at hv
   ·exact oP (by omega) MD _ _ hv
   ·exact oP (by omega) MD _ _ hv)
  refine bS.value (u:=.slice (some ⟨σ.w.heap.size,0,none⟩) len cap) (w':=τ.w) ?_ ⟨_,_,τ,FC,⟨rfl,rfl⟩,rfl,g5,?_⟩
  ·have Jm:∀w:World,(typeInfo e).run X.P w=.ok inf w:= λw=>by simp[typeInfo,program,Sem.run,i1]
   have F6:∀w:World,(underlying T).run X.P w=.ok (.slice e) w:= λw=>by simp[underlying,program,Sem.run,ht.u]
   have LC:∀w:World,(underlying U).run X.P w=.ok (.int k) w:= λw=>by simp[underlying,program,Sem.run,hu.u]
   have I8:IntKind.i64.wrap (len:Int)=len:=IntWalk.i64_in _ ⟨by omega,by omega⟩;have Lb:¬((len:Int)*(inf.bytes:Int)>2^48):=by
    rw[i3];have:((len*nb:Nat):Int)<=140737488355328:=by omega
    rw[Int.natCast_mul]at this;omega
   have LD:¬(281474976710656<(len:Int)*(inf.bytes:Int)):=by omega
   have I9:¬((len:Int)<0):=by omega
   have c1:¬len=0:=by omega
   have c2:¬(9223372036854775807<((len:Nat):Int)):=by omega
   have c3:¬(281474976710656<Builtin.nextslicecap len 0*inf.bytes):=by
    rw[i3];have h1:=ke (ef:=len) (cap:=0) (by omega);have:=Nat.mul_le_mul_right nb h1;rw[Nat.mul_assoc]at this;omega
   have c4:¬len*n=0:=by
    intro h;rcases Nat.mul_eq_zero.1 h with h|h<;>omega
   have hold:(Builtin.firstCells n 0 (.slice ad 0 0)).run X.P σ.w.drew=.ok #[] σ.w.drew:=by
    cases ad<;>simp[Builtin.firstCells,loadCells,loadCellsFrom]
   have J5:(Question.appendCap len 0 e).cut (σ.w.tape σ.w.drawn (Question.appendCap len 0 e))=cap:=rfl;have H6:(Question.appendCap len 0 e).forced=false:=rfl;simp only[execOp,resolve,invoke,builtin,Builtin.append_];simp only[Sem.run_bind,Sem.run_pure,Result.andThen_ok,List.map_toArray,List.map_cons,List.map_nil,NB,h2];simp[F6,LC,Jm,bF hs.size,asInt,asIntOf,I8,LD,I9,c1,c2,c3,c4];simp only[H6,if_false,Bool.false_eq_true];rw[hold];simp only[Result.andThen_ok,GK,J5];simp[newRow,newObj,Sem.run,g1,arr]
  ·have Jn:=g2;refine .m (.bB _ 0 len _ cap (.inr ⟨false,n,0,List.replicate (len*n) .undef,g3,Nat.le_refl _⟩) ?_);intro GP J0 FG hh;rw[g3]at hh;simp at hh;obtain⟨e1,e2,e3⟩:=hh;subst e1;subst e2;subst e3;exact⟨by rw[Jn];rfl,IV,arr,e,by rw[Jn,g1];exact dx _ _,HR⟩
theorem sH{T e n nb len:Nat}{x y:Operand}{k1 k2:IntKind}{z:D}[ht:aL X.P T e][hs:bh X.P e n][hb:gp X.P e nb][hz:dt X.P e z](hn:Nat.blt 0 n=true)(Ga:(aN z).length=n)
  (hx:st.ev x=some (.m (.d (.int k1 len)))) (hy:st.ev y=some (.m (.d (.int k2 len)))) (Gh:len*nb<=140737488355328) (FZ:len<=140737488355328) (hp:Place st.H (.row false n 0 (cq n len (aN z))) pn H'):
  aK X ⟨dst,.makeSlice T x y,ty,pos,af,g⟩ st (bt (.m (.bB pn 0 len)) ⟨st.sl,st.bx,H'⟩):=by
 intro a σ FC hi;have Gt:=aQ hn;have h1:=hi.cC hx;have h2:=hi.cC hy;obtain⟨inf,i1,i2,i3⟩:=io hs.size hb.bytes;obtain⟨v,GK,GO⟩:=(bA hz.zero).run;have HA:eN σ ((aN z).map .d) v.cells:=(RM.d (bW GO):RM σ (.d z) v).cells rfl;have GR:v.cells.size=n:=by rw[HA.1];simpa using Ga
 have hc:eN σ (cq n len (aN z)) ((Array.range (len*n)).map λi=>v.cells[i%v.cells.size]!):=by
  refine⟨by simp[cq],λi m u hm hu=>?_⟩;have FL:i<len*n:=by
   rcases Nat.lt_or_ge i (len*n)with h|h
   ·exact h
   ·rw[Array.getElem?_eq_none (by simpa using h)]at hu;cases hu
  have LX:i%n<n:=Nat.mod_lt _ Gt;have IW:i%n<(aN z).length:=by omega
  simp[cq,FL,Ga]at hm;simp[FL,GR]at hu;have FJ:i%n<v.cells.size:=by omega
  subst hm;subst hu;refine HA.2 (i%n) _ _ ?_ ?_
  ·simp[List.getElem?_eq_getElem IW]
  ·simp[FJ]
 obtain⟨τ,g1,g2,g3,g4,g5⟩:=hi.place hp (.cells ((Array.range (len*n)).map λi=>v.cells[i%v.cells.size]!) e (0,0)) (by
  intro τ hm hw;refine⟨Gt,_,e,len,len,by rw[hw];exact dx _ _,by simp,Nat.le_refl _,⟨by simp[cq],FZ⟩,?_⟩;intro k m u Ha hu;exact⟨(hc.2 k m u Ha hu).1.mono hm,(hc.2 k m u Ha hu).2⟩)
 refine bS.value (u:=.slice (some ⟨σ.w.heap.size,0,none⟩) len len) (w':=τ.w) ?_ ⟨_,_,τ,FC,⟨rfl,rfl⟩,rfl,g5,?_⟩
 ·have Jm:∀w:World,(typeInfo e).run X.P w=.ok inf w:= λw=>by simp[typeInfo,program,Sem.run,i1]
  have F6:∀w:World,(underlying T).run X.P w=.ok (.slice e) w:= λw=>by simp[underlying,program,Sem.run,ht.u]
  have I8:IntKind.i64.wrap (len:Int)=len:=IntWalk.i64_in _ ⟨by omega,by omega⟩;have Lb:¬((inf.bytes:Int)*(len:Int)>2^48):=by
   rw[i3];have:((len*nb:Nat):Int)<=140737488355328:=by omega
   rw[Int.natCast_mul,Int.mul_comm]at this;omega
  have I9:¬((len:Int)<0):=by omega
  have KK:¬(len*inf.bytes>roomBytes):=by rw[i3];unfold roomBytes;omega
  by_cases h0:len*n=0
  ·have Lc:len=0:=by
    rcases Nat.mul_eq_zero.1 h0 with h|h
    ·exact h
    ·omega
   subst Lc;have e0:Array.range 0=(#[]:Array Nat):=by decide
   have w0:IntKind.i64.wrap 0=0:=by decide
   simp only[execOp,Instr.makeSlice,h1,h2,asInt,asIntOf];simp[F6,Jm,w0,bF hs.size,askRoom,roomBytes,newRow,newObj,Sem.run,g1,e0]
  ·simp only[execOp,Instr.makeSlice,h1,h2,asInt,asIntOf];simp[F6,Jm,I8,bF hs.size,askRoom,newRow,newObj,Sem.run,g1,Lb,I9,KK,h0,GK]
   first|done|omega|(split<;>first|rfl|omega)
 ·have Jn:=g2;refine .m (.bB _ 0 len _ len (.inr ⟨false,n,0,cq n len (aN z),g3,Nat.le_refl _⟩) ?_);intro GP J0 FG hh;rw[g3]at hh;simp at hh;obtain⟨e1,e2,e3⟩:=hh;subst e1;subst e2;subst e3;exact⟨by rw[Jn],by simp[cq],_,e,by rw[Jn,g1];exact dx _ _,by simp⟩
theorem oV{T e n nb:Nat}{x y:Operand}{F8:List M}{k2:Nat}{z:D}{j FD len:Nat}{acc:Bool}{cs:List M}[ht:aL X.P T e][hs:bh X.P e n][hb:gp X.P e nb][hz:dt X.P e z](Ga:(aN z).length=n)
  (hx:st.ev x=some (.m (.bB j FD len))) {my:M} (hy:st.ev y=some (.m my)) (hv:kf st.H n my=some (F8,k2)) (hH:st.H[j]?=some (.row acc n FD cs)) (Gh:(len+k2)*nb<=140737488355328) (FZ:len+k2<=140737488355328):
  aK X ⟨dst,.call ⟨.builtin .append,#[x,y],#[T,T]⟩,ty,pos,af,g⟩ st (bt (.m (.bB j (FD+1) (len+k2))) ⟨st.sl,st.bx,st.H.set j (.row acc n (FD+1) (cs++F8))⟩):=by
 intro a σ FC hi;have h1:=hi.ev hx;have G3:σ.H[j]?=some (.row acc n FD cs):=by rw[hi.hH];exact hH
 obtain⟨inf,i1,i2,i3⟩:=io hs.size hb.bytes;obtain⟨zv,GK,GO⟩:=(bA hz.zero).run;have Kl:zv.cells.size=n:=by have:=(bW (O:=σ.O) (w:=σ.w) GO).cells.1;omega
 obtain⟨Gt,arr,TT,Gu,nn,h3,h4,h5,⟨h6,J4⟩,h7⟩:=hi.hinv.obj j _ G3;obtain⟨v1,HY,LG,vs,v2,v3,v4⟩:=hi.src Gt hy hv;generalize hu:a.eval x=u at h1;generalize hw:a.eval y=wv at v1 v2;have Jm:∀w:World,(typeInfo e).run X.P w=.ok inf w:= λw=>by simp[typeInfo,program,Sem.run,i1]
 have F6:∀w:World,(underlying T).run X.P w=.ok (.slice e) w:= λw=>by simp[underlying,program,Sem.run,ht.u]
 cases h1 with
 |m h1=>cases h1 with
  |bB j FD len ad cap hle Gp=>
   obtain⟨e1,e2,Ku,T1,e3,e4⟩:=Gp acc n cs G3;subst e1;rw[h3]at e3;injection e3 with e3;injection e3 with e5 e6
   subst e5;subst e6;have Gw:Gu=cap:=Nat.eq_of_mul_eq_mul_right Gt (by rw[<-h4,<-e4]);subst Gw;have Iv:nn=len:=Nat.eq_of_mul_eq_mul_right Gt (by rw[<-h6,<-e2]);subst Iv;have Lf:(cs++F8).length=(nn+k2)*n:=by rw[List.length_append,e2,HY,Nat.add_mul]
   have Lg:∀(k:Nat) (m:M),(cs++F8)[k]?=some m->(k<cs.length/\cs[k]?=some m)\/(cs.length<=k/\∃u,vs[k-cs.length]?=some u/\RM σ m u/\flat u=true):=by
    intro k m hm;rcases Nat.lt_or_ge k cs.length with hk|hk
    ·rw[List.getElem?_append_left hk]at hm;exact .inl ⟨hk,hm⟩
    ·rw[List.getElem?_append_right hk]at hm;obtain⟨u,u1,u2,u3⟩:=v4 _ m hm;exact .inr ⟨hk,u,u1,u2,u3⟩
   have PO:∀v∈vs.toList,flat v=true:=by
    intro v hv;obtain⟨k,hk⟩:=List.mem_iff_getElem?.1 hv;have Ic:k<vs.size:=by rcases Nat.lt_or_ge k vs.size with h|h;exact h;simp[Array.getElem?_eq_none h]at hk
    have Gi:k<F8.length:=by omega
    obtain⟨u,u1,u2,u3⟩:=v4 k F8[k] (by simp[Gi]);have:vs[k]?=some v:=by simpa using hk
    rw[u1]at this;injection this with this;subst this;exact u3
   by_cases IT:nn+k2<=Gu
   ·
    have N3:nn*n+vs.toList.length<=arr.size:=by
     rw[h4];simp[v3];rw[<-Nat.add_mul];exact Nat.mul_le_mul_right _ IT
    have FN:=iY (P:=X.P) (off:=nn*n) vs.toList 0 σ.w arr h3 (by simpa using N3) PO;simp only[Nat.add_zero]at FN;have FJ:=cZ h3;have FF:∀k,(cS arr (nn*n) vs.toList)[k]?=if nn*n<=k/\k<nn*n+vs.toList.length then vs.toList[k-nn*n]? else arr[k]?:= λk=>iM _ _ _ _ N3
    obtain⟨τ,g1,g2,g3,g4,g5⟩:=hi.eU (j:=j) (b':=σ.l j) (ob:=.row acc n FD cs) (F_:=.row acc n (FD+1) (cs++F8)) (w':=bI σ.w (σ.l j) (.cells (cS arr (nn*n) vs.toList) TT (0,0))) hH trivial rfl rfl rfl (by rw[eb];exact Nat.le_refl _)
     (λc _ hc=>dU hc) (.inl rfl) (by
      intro o v ho hc;have RF:acc=true/\o<cs.length:=by
       simp only[Ob.e_,not_or,Nat.not_le]at ho;refine⟨?_,ho.2⟩;cases acc
       ·exact absurd rfl ho.1
       ·rfl
      refine⟨?_,λ_ hh=>?_⟩
      ·simp only[cB,World.cell?,c7 FJ];simp only[cB,World.cell?,h3]at hc;simp at hc⊢;rw[FF,if_neg (by omega)];exact hc
      ·simp only[Ob.e_]at hh;rcases hh with hh|hh
       ·rw[RF.1]at hh;cases hh
       ·rw[Lf,Nat.add_mul]at hh;omega) ⟨rfl,.inl (by omega)⟩ (by
      intro τ hm II _ _;refine⟨Gt,_,TT,Gu,nn+k2,by rw[II];exact c7 FJ,by rw[dK];exact h4,IT,⟨Lf,FZ⟩,?_⟩;intro k m v Ha hv;rw[FF]at hv;rcases Lg k m Ha with⟨hk,hc⟩|⟨hk,u,u1,u2,u3⟩
      ·rw[if_neg (by omega)]at hv;exact⟨(h7 k m v hc hv).1.mono hm,(h7 k m v hc hv).2⟩
      ·have Ic:k-cs.length<vs.size:=by rcases Nat.lt_or_ge (k-cs.length) vs.size with h|h;exact h;simp[Array.getElem?_eq_none h]at u1
       rw[if_pos (by simp;omega)]at hv;have:vs.toList[k-nn*n]?=some u:=by rw[<-e2];simpa using u1
       rw[this]at hv;injection hv with hv;subst hv
       exact⟨u2.mono hm,u3⟩)
    refine bS.value (u:=.slice (some ⟨σ.l j,0,none⟩) (nn+k2) Gu) (w':=τ.w) ?_ ⟨_,_,τ,FC,⟨rfl,rfl⟩,rfl,g5,?_⟩
    ·simp only[execOp,resolve,invoke,builtin,Builtin.append_];simp only[Sem.run_bind,Sem.run_pure,Result.andThen_ok,List.map_toArray,List.map_cons,List.map_nil,hu,hw];simp[F6,Jm,bF hs.size,v1,IT,v2 σ.w rfl,fR,FN,g1]
    ·refine .m (.bB j (FD+1) (nn+k2) _ Gu (.inr ⟨acc,n,FD+1,cs++F8,by rw[g3];exact lT hH,Nat.le_refl _⟩) ?_);intro GP J0 RG hh;rw[g3]at hh;have I7:j<st.H.length:=by rcases Nat.lt_or_ge j st.H.length with h|h;exact h;simp[List.getElem?_eq_none h]at hH
     simp[I7]at hh;obtain⟨f1,f2,f3⟩:=hh;subst f1;subst f2;subst f3;exact⟨by rw[g2],Lf,_,TT,by rw[g2,g1];exact c7 FJ,by rw[dK];exact h4⟩
   ·
    let ef:=nn+k2
    let cap:=ef+σ.w.tape σ.w.drawn (.appendCap ef Gu e)%(2^63-ef)
    let If:=arr.extract 0 (nn*n)++vs++Builtin.zeroCells zv.cells (cap-ef)
    have OF:ef<=cap:=Nat.le_add_right _ _;have Jc:nn*n<=arr.size:=by rw[h4];exact Nat.mul_le_mul_right _ h5
    have N4:(arr.extract 0 (nn*n)).size=nn*n:=by simp;omega
    have MG:If.size=cap*n:=by
     simp only[If,Array.size_append,fl,v3,Kl,N4];rw[<-Nat.add_mul,<-Nat.add_mul];congr 1;omega
    have hd:bb X {σ with w:=σ.w.drew} FC st a:=hi.ext (dq.drew _);have IW:bO σ {σ with w:=σ.w.drew} :=bO.ext (dq.drew _)
    let w':World:={σ.w.drew with heap:=σ.w.drew.heap.push (.cells If e (0,0))}
    have GA:dq σ.w.drew w':=dq.alloc _ _;have Lz:∀k,k<cs.length->If[k]?=arr[k]?:=by
     intro k hk;simp only[If];rw[Array.append_assoc,Array.getElem?_append_left (by omega),Array.getElem?_extract,if_pos (by omega)];simp
    have RH:∀k,cs.length<=k->k-cs.length<vs.size->If[k]?=vs[k-cs.length]?:=by
     intro k hk Gi;simp only[If];rw[Array.append_assoc,Array.getElem?_append_right (by omega),Array.getElem?_append_left (by omega),N4,e2]
    obtain⟨τ,g1,g2,g3,g4,g5⟩:=hd.eU (j:=j) (b':=σ.w.heap.size) (ob:=.row acc n FD cs) (F_:=.row acc n (FD+1) (cs++F8)) (w':=w') hH trivial rfl rfl rfl GA.size
     (λc hc _=>GA.be c hc) (.inr (Nat.le_refl _)) (by
      intro o v ho hc;exact⟨GA.cell hc,λhh=>by have:=cZ h3;exact absurd hh (by show ¬σ.w.heap.size=σ.l j;omega)⟩) ⟨rfl,.inl (by omega)⟩ (by
      intro τ hm KM _ _;refine⟨Gt,If,e,cap,ef,by rw[KM];exact dx _ _,MG,OF,⟨Lf,FZ⟩,?_⟩;intro k m v Ha hv;rcases Lg k m Ha with⟨hk,hc⟩|⟨hk,u,u1,u2,u3⟩
      ·rw[Lz k hk]at hv;exact⟨((h7 k m v hc hv).1.mono IW).mono hm,(h7 k m v hc hv).2⟩
      ·have Ic:k-cs.length<vs.size:=by rcases Nat.lt_or_ge (k-cs.length) vs.size with h|h;exact h;simp[Array.getElem?_eq_none h]at u1
       rw[RH k hk Ic,u1]at hv;injection hv with hv;subst hv
       exact⟨(u2.mono IW).mono hm,u3⟩)
    refine bS.value (u:=.slice (some ⟨σ.w.heap.size,0,none⟩) ef cap) (w':=τ.w) ?_ ⟨_,_,τ,FC,⟨rfl,rfl⟩,rfl,g5,?_⟩
    ·have PN:¬(9223372036854775807<(((nn+k2:Nat):Nat):Int)/\inf.bytes=0):=by rintro⟨h,_⟩;omega
     have OE:¬(281474976710656<Builtin.nextslicecap (nn+k2) Gu*inf.bytes):=by
      rw[i3];have h1:=ke (ef:=nn+k2) (cap:=Gu) (by omega);have:=Nat.mul_le_mul_right nb h1;rw[Nat.mul_assoc]at this;omega
     have J5:(Question.appendCap (nn+k2) Gu e).cut (σ.w.tape σ.w.drawn (Question.appendCap (nn+k2) Gu e))=cap:=rfl;have H6:(Question.appendCap (nn+k2) Gu e).forced=false:=rfl;have IJ:=v2 σ.w.drew rfl;have hold:(Builtin.firstCells n nn (.slice (some ⟨σ.l j,0,none⟩) nn Gu)).run X.P σ.w.drew=.ok (arr.extract 0 (nn*n)) σ.w.drew:=by
      simp only[Builtin.firstCells];exact oM (w:=σ.w.drew) h3 Jc
     simp only[execOp,resolve,invoke,builtin,Builtin.append_];simp only[Sem.run_bind,Sem.run_pure,Result.andThen_ok,List.map_toArray,List.map_cons,List.map_nil,hu,hw];simp[F6,Jm,bF hs.size];simp only[v1,Result.andThen_ok];rw[if_neg IT];have PP:¬(9223372036854775807<(nn:Int)+(k2:Int)/\inf.bytes=0):=by rintro⟨h,_⟩;omega
     simp only[PP,OE,H6,if_false,Bool.false_eq_true];rw[hold];simp only[Result.andThen_ok];rw[IJ];simp only[Result.andThen_ok,GK,J5];simp[newRow,newObj,Sem.run,g1,If,w',ef];rfl
    ·refine .m (.bB j (FD+1) ef _ cap (.inr ⟨acc,n,FD+1,cs++F8,by rw[g3];exact lT hH,Nat.le_refl _⟩) ?_);intro GP J0 RG hh;rw[g3]at hh;have I7:j<st.H.length:=by rcases Nat.lt_or_ge j st.H.length with h|h;exact h;simp[List.getElem?_eq_none h]at hH
     simp[I7]at hh;obtain⟨f1,f2,f3⟩:=hh;subst f1;subst f2;subst f3;exact⟨by rw[g2],Lf,If,e,by rw[g2,g1];exact dx _ _,MG⟩
end ops
theorem zA{H:Hp}{n:Nat} :∀{rows:List (List D)},(∀r∈rows,r.length=n)->kf H n (.d (.sl rows))=some (br rows,rows.length):=by
 intro rows h;have:fe n rows=true:=by
  induction rows with
  |nil=>rfl
  |cons r rs ih=>simp only[fe,Bool.and_eq_true];exact⟨by rw[h r List.mem_cons_self];exact Nat.beq_refl n,ih λq hq=>h q (List.mem_cons_of_mem _ hq)⟩
 show(bif fe n rows then some (br rows,rows.length)else none)=_;rw[this];rfl
section ops
variable{X:bq}{st:St}{dst:Option Nat}{ty:Nat}{pos:String}{af:Array Edge}{g:Option (Nat×Bool)}
theorem qO{T e n nb:Nat}{x y:Operand}{rows:List (List D)}{z:D}(acc:Bool)[ht:aL X.P T e][hs:bh X.P e n][hb:gp X.P e nb][hz:dt X.P e z](hn:Nat.blt 0 n=true)(Ga:(aN z).length=n)
  (hx:st.ev x=some (.m (.d (.sl [])))) (hy:st.ev y=some (.m (.d (.sl rows)))) (hr:rows≠[]) (hl:∀r∈rows,r.length=n) (Gh:rows.length*nb<=140737488355328):
  aK X ⟨dst,.call ⟨.builtin .append,#[x,y],#[T,T]⟩,ty,pos,af,g⟩ st (bt (.m (.bB st.H.length 0 rows.length)) ⟨st.sl,st.bx,st.H++[.row acc n 0 (br rows)]⟩):=
 oU acc hn Ga hx hy (zA hl) (List.length_pos_iff.2 hr) Gh (.inl ⟨rfl,rfl⟩)
theorem qQ{T e n nb:Nat}{x y:Operand}{rows:List (List D)}{z:D}{j FD len:Nat}{acc:Bool}{cs:List M}[ht:aL X.P T e][hs:bh X.P e n][hb:gp X.P e nb][hz:dt X.P e z](Ga:(aN z).length=n)
  (hx:st.ev x=some (.m (.bB j FD len))) (hy:st.ev y=some (.m (.d (.sl rows)))) (hH:st.H[j]?=some (.row acc n FD cs)) (hl:∀r∈rows,r.length=n) (Gh:(len+rows.length)*nb<=140737488355328) (FZ:len+rows.length<=140737488355328):
  aK X ⟨dst,.call ⟨.builtin .append,#[x,y],#[T,T]⟩,ty,pos,af,g⟩ st (bt (.m (.bB j (FD+1) (len+rows.length))) ⟨st.sl,st.bx,st.H.set j (.row acc n (FD+1) (cs++br rows))⟩):=
 oV Ga hx hy (zA hl) hH Gh FZ
end ops
section rules
variable{X:bq}{ops:Array Oper}{rest:List Oper}{post:St->Prop}{FQ:List Ef->St->Prop}{sl:List (Nat×V)}{bx:List (Nat×List M)}{H:Hp}{d ty:Nat}{pos:String}{af:Array Edge}
theorem jL{T e n nb:Nat}{x y:Operand}{rows:List (List D)}{z:D}(acc:Bool)[ht:aL X.P T e][hs:bh X.P e n][hb:gp X.P e nb][hz:dt X.P e z](hn:Nat.blt d X.n=true)(hx:ba sl x=some (.m (.d (.sl []))))(hy:ba sl y=some (.m (.d (.sl rows))))(h0:Nat.blt 0 n=true)(Ga:(aN z).length=n)(hr:rows≠[])(hl:∀r∈rows,r.length=n)(Gh:rows.length*nb<=140737488355328)(k:TL X ops rest ⟨(d,(.m (.bB H.length 0 rows.length)))::sl,bx,H++[Ob.row acc n 0 (br rows)]⟩ post):TL X ops (⟨some d,.call ⟨.builtin .append,#[x,y],#[T,T]⟩,ty,pos,af,none⟩::rest) ⟨sl,bx,H⟩ post:=
 TL.o1 rfl rfl hn (qO acc h0 Ga hx hy hr hl Gh) k
theorem nY{T e n nb:Nat}{x y:Operand}{rows:List (List D)}{z:D}(acc:Bool)[ht:aL X.P T e][hs:bh X.P e n][hb:gp X.P e nb][hz:dt X.P e z](hn:Nat.blt d X.n=true)(hx:ba sl x=some (.m (.d (.sl []))))(hy:ba sl y=some (.m (.d (.sl rows))))(h0:Nat.blt 0 n=true)(Ga:(aN z).length=n)(hr:rows≠[])(hl:∀r∈rows,r.length=n)(Gh:rows.length*nb<=140737488355328)(k:TF X ops rest ⟨(d,(.m (.bB H.length 0 rows.length)))::sl,bx,H++[Ob.row acc n 0 (br rows)]⟩ λIi zz=>FQ (⟨some d,(.m (.bB H.length 0 rows.length)),[],[],none,true,some (H++[Ob.row acc n 0 (br rows)])⟩::Ii) zz):TF X ops (⟨some d,.call ⟨.builtin .append,#[x,y],#[T,T]⟩,ty,pos,af,none⟩::rest) ⟨sl,bx,H⟩ FQ:=
 TF.cons (e:=⟨some d,(.m (.bB H.length 0 rows.length)),[],[],none,true,some (H++[Ob.row acc n 0 (br rows)])⟩) (bK.vq rfl rfl (aQ hn) λFE ag=>(by have FN:=ag.H rfl;simp only at FN;have:=(qO (X:=X) (st:=FE) (dst:=some d) (ty:=ty) (pos:=pos) (af:=af) (g:=none) (T:=T) acc h0 Ga ((ag.ev (x:=x) (by simp[Op.operands,Call.operands])).trans hx) ((ag.ev (x:=y) (by simp[Op.operands,Call.operands])).trans hy) hr hl Gh);rw[FN]at this;exact this)) rfl k
theorem k9{T e n nb:Nat}{x y:Operand}{rows:List (List D)}{z:D}{j FD len:Nat}{acc:Bool}{cs:List M}[ht:aL X.P T e][hs:bh X.P e n][hb:gp X.P e nb][hz:dt X.P e z](hn:Nat.blt d X.n=true)(hx:ba sl x=some (.m (.bB j FD len)))(hy:ba sl y=some (.m (.d (.sl rows))))(hH:H[j]?=some (.row acc n FD cs))(Ga:(aN z).length=n)(hl:∀r∈rows,r.length=n)(Gh:(len+rows.length)*nb<=140737488355328)(FZ:len+rows.length<=140737488355328)(k:TL X ops rest ⟨(d,(.m (.bB j (FD+1) (len+rows.length))))::sl,bx,H.set j (Ob.row acc n (FD+1) (cs++br rows))⟩ post):TL X ops (⟨some d,.call ⟨.builtin .append,#[x,y],#[T,T]⟩,ty,pos,af,none⟩::rest) ⟨sl,bx,H⟩ post:=
 TL.o1 rfl rfl hn (qQ Ga hx hy hH hl Gh FZ) k
theorem k_{T e n nb:Nat}{x y:Operand}{rows:List (List D)}{z:D}{j FD len:Nat}{acc:Bool}{cs:List M}[ht:aL X.P T e][hs:bh X.P e n][hb:gp X.P e nb][hz:dt X.P e z](hn:Nat.blt d X.n=true)(hx:ba sl x=some (.m (.bB j FD len)))(hy:ba sl y=some (.m (.d (.sl rows))))(hH:H[j]?=some (.row acc n FD cs))(Ga:(aN z).length=n)(hl:∀r∈rows,r.length=n)(Gh:(len+rows.length)*nb<=140737488355328)(FZ:len+rows.length<=140737488355328)(k:TF X ops rest ⟨(d,(.m (.bB j (FD+1) (len+rows.length))))::sl,bx,H.set j (Ob.row acc n (FD+1) (cs++br rows))⟩ λIi zz=>FQ (⟨some d,(.m (.bB j (FD+1) (len+rows.length))),[],[],none,true,some (H.set j (Ob.row acc n (FD+1) (cs++br rows)))⟩::Ii) zz):TF X ops (⟨some d,.call ⟨.builtin .append,#[x,y],#[T,T]⟩,ty,pos,af,none⟩::rest) ⟨sl,bx,H⟩ FQ:=
 TF.cons (e:=⟨some d,(.m (.bB j (FD+1) (len+rows.length))),[],[],none,true,some (H.set j (Ob.row acc n (FD+1) (cs++br rows)))⟩) (bK.vq rfl rfl (aQ hn) λFE ag=>(by have FN:=ag.H rfl;simp only at FN;have:=(qQ (X:=X) (st:=FE) (dst:=some d) (ty:=ty) (pos:=pos) (af:=af) (g:=none) (T:=T) Ga ((ag.ev (x:=x) (by simp[Op.operands,Call.operands])).trans hx) ((ag.ev (x:=y) (by simp[Op.operands,Call.operands])).trans hy) (by rw[ag.H rfl];exact hH) hl Gh FZ);rw[FN]at this;exact this)) rfl k
end rules
section walk
variable{X:bq}{ops:Array Oper}{rest:List Oper}{post:St->Prop}{sl:List (Nat×V)}{bx:List (Nat×List M)}{H:Hp}{d:Nat}{ty:Nat}{pos:String}{af:Array Edge}
theorem CY{T e n nb:Nat}{x y:Operand}{rows:List (List D)}{z:D}[ht:aL X.P T e][hs:bh X.P e n][hb:gp X.P e nb][hz:dt X.P e z](hn:Nat.blt d X.n=true)(hx:ba sl x=some (.m (.d (.sl []))))(hy:ba sl y=some (.m (.d (.sl rows))))(h0:Nat.blt 0 n=true)(Ga:(aN z).length=n)
  (hl:∀r∈rows,r.length=n) (Gh:rows.length*nb<=140737488355328) (k:TL X ops rest ⟨(d,.m (vu H rows))::sl,bx,pO H n rows⟩ post):
  TL X ops (⟨some d,.call ⟨.builtin .append,#[x,y],#[T,T]⟩,ty,pos,af,none⟩::rest) ⟨sl,bx,H⟩ post:=by
 cases rows with
 |nil=>exact dC hn hx hy k
 |cons q r=>exact jL true hn hx hy h0 Ga (by simp) hl Gh k
end walk
noncomputable def jM{α:Type}(l:List (Nat×α))(t:Nat):Option α:=List.rec (motive:= λ_=>Option α) none (λp _ ih=>Bool.rec (motive:= λ_=>Option α) ih (some p.2) (Nat.beq p.1 t)) l
noncomputable def lW{α:Type}(l:List α):Nat->Option α:=List.rec (motive:= λ_=>Nat->Option α) (λ_=>none) (λa _ ih n=>Nat.rec (motive:= λ_=>Option α) (some a) (λm _=>ih m) n) l
noncomputable def sI{α:Type}(l:List α)(n:Nat)(x:α):List α:=List.rec (motive:= λ_=>Nat->List α) (λ_=>[]) (λa r ih n=>Nat.rec (motive:= λ_=>List α) (x::r) (λm _=>a::ih m) n) l n
noncomputable def lX{α:Type}(l:List α):Nat:=List.rec (motive:= λ_=>Nat->Nat) (λn=>n) (λ_ _ ih n=>ih (Nat.succ n)) l 0
noncomputable def BB{α:Type}(l r:List α):List α:=List.rec (motive:= λ_=>List α) r (λa _ ih=>a::ih) l
noncomputable def wJ(l:List Nat)(t:Nat):Bool:=List.rec (motive:= λ_=>Bool) false (λp _ ih=>Bool.rec (motive:= λ_=>Bool) ih true (Nat.beq p t)) l
theorem dZ{α:Type}(l:List (Nat×α))(t:Nat):jM l t=get l t:=by
 induction l with
 |nil=>rfl
 |cons p r ih=>
  show Bool.rec (motive:= λ_=>Option α) (jM r t) (some p.2) (Nat.beq p.1 t)=_;rw[ih];simp only[get];cases Nat.beq p.1 t<;>rfl
theorem eo{α:Type}(l:List α)(n:Nat):lW l n=l[n]?:=by
 induction l generalizing n with
 |nil=>rfl
 |cons a r ih=>cases n with
  |zero=>rfl
  |succ n=>exact ih n
theorem fL{α:Type}(l:List α)(n:Nat)(x:α):sI l n x=l.set n x:=by
 unfold sI
 induction l generalizing n with
 |nil=>rfl
 |cons a r ih=>cases n with
  |zero=>rfl
  |succ n=>exact congrArg (a:: ·) (ih n)
theorem Ax{α:Type}(l:List α)(n:Nat):List.rec (motive:= λ_=>Nat->Nat) (λn=>n) (λ_ _ ih n=>ih (Nat.succ n)) l n=n+l.length:=by
 induction l generalizing n with
 |nil=>rfl
 |cons a r ih=>exact(ih (n+1)).trans (by simp;omega)
theorem eL{α:Type}(l:List α):lX l=l.length:=by
 have:=Ax l 0;rw[Nat.zero_add]at this;exact this
theorem fm{α:Type}(l r:List α):BB l r=l++r:=by
 induction l with
 |nil=>rfl
 |cons a l ih=>exact congrArg (a:: ·) ih
theorem wK(l:List Nat)(t:Nat):wJ l t=has l t:=by
 induction l with
 |nil=>rfl
 |cons p r ih=>
  show Bool.rec (motive:= λ_=>Bool) (wJ r t) true (Nat.beq p t)=_;rw[ih];show _=(Nat.beq p t||r.any λx=>Nat.beq x t);cases Nat.beq p t<;>rfl
noncomputable def yg{α:Type}(n:Nat)(l:List α):List α:=Nat.rec (motive:= λ_=>List α->List α) (λ_=>[]) (λ_ ih l=>List.casesOn (motive:= λ_=>List α) l [] (λa r=>a::ih r)) n l
theorem Ay{α:Type}(n:Nat)(l:List α):yg n l=l.take n:=by
 unfold yg
 induction n generalizing l with
 |zero=>rfl
 |succ n ih=>cases l with
  |nil=>rfl
  |cons a r=>exact congrArg (a:: ·) (ih r)
noncomputable def uz(sl:List (Nat×V)):Operand->Option V
 |.tmp t=>jM sl t
 |.const v=>match jZ v with
  |some d=>some (.m (.d d))
  |none=>none
 |.func f=>some (.m (.d (.fn f [])))
 |.global _=>none
theorem lY(sl:List (Nat×V)):uz sl=ba sl:=by
 funext x
 cases x<;>first|rfl|exact dZ _ _
namespace bR
noncomputable def pP(ops:Array Oper)(x y:Oper):Bool:=(match x.dst with|some d=>wJ (slotsOf ops y) d|none=>false)||(match y.dst with|some d=>wJ (slotsOf ops x) d|none=>false)
noncomputable def kN(ops:Array Oper)(x:Oper)(i:Nat):List Oper->List (List Nat)->Bool
 |y::ys,b::bs=>bif pP ops x y then(bif wJ b i then kN ops x i ys bs else false)else kN ops x i ys bs
 |_,_=>true
noncomputable def la(ops:Array Oper):Nat->List Oper->List (List Nat)->Bool
 |i,x::xs,_::bs=>kN ops x i xs bs&&la ops (i+1) xs bs
 |_,_,_=>true
noncomputable def vA(ops:List Oper):Bool:=jF 0 ops&&la ops.toArray 0 ops (dH ops)
def lZ(e:Ef):Bool:=match e with
 |⟨_,.m _,[],[],none,.no,[],none⟩=>true
 |_=>false
def rv:Nat->List Ef->List (List Nat)->List (Nat×Ef×List Nat)
 |i,e::es,b::bs=>bif lZ e then rv (i+1) es bs else(i,e,b)::rv (i+1) es bs
 |_,_,_=>[]
def oW(e f:Ef):Bool:=
 (e.wb.any λp=>has (f.rb++f.wb.map (·.1)) p.1)||(f.wb.any λp=>has (e.rb++e.wb.map (·.1)) p.1)||
 ey e f||ey f e||(match e.nw,f.v with|some d,.loc u _=>Nat.beq u d|_,_=>false)
def oX(i:Nat)(e:Ef):List (Nat×Ef×List Nat)->Bool
 |[]=>true
 |(_,f,b)::r=>(!oW e f||has b i)&& !f_ e f&&oX i e r
def mN:List (Nat×Ef×List Nat)->Bool
 |[]=>true
 |(i,e,_)::r=>oX i e r&&mN r
def mO(sl:List (Nat×V)):List (Nat×Ef×List Nat)->Bool
 |[]=>true
 |(_,e,_)::r=>(match e.nw with|some d=>dv d sl|none=>true)&&mO sl r
def CZ(N:Nat):List (Nat×Ef×List Nat)->Bool
 |[]=>true
 |(_,e,_)::r=>vv N e&&CZ N r
def DF(N:Nat)(sl:List (Nat×V))(ns:List (Nat×Ef×List Nat)):Bool:=mN ns&&(mO sl ns&&CZ N ns)
noncomputable def pQ(N:Nat)(ops:List Oper)(sl:List (Nat×V))(es:List Ef):Bool:=bif vA ops then DF N sl (rv 0 es (dH ops))else false
theorem oY{e:Ef}(h:lZ e=true):∃d m,e=⟨d,.m m,[],[],none,.no,[],none⟩:=by
 unfold lZ at h;split at h
 ·exact⟨_,_,rfl⟩
 ·cases h
theorem Az(ops:Array Oper)(x y:Oper)(e f:Ef):bU ops x y e f=(pP ops x y||oW e f):=by
 unfold bU pP oW;simp only[Bool.or_assoc,wK]<;>rfl
theorem C0{e f:Ef}(h:lZ e=true):oW e f=false/\f_ e f=false:=by
 obtain⟨d,m,rfl⟩:=oY h;unfold oW ey f_;constructor
 ·simp only[List.map_nil,List.append_nil,List.any_nil,Bool.false_or,Option.isSome_none,Bool.or_false];have:∀p:Nat,has [] p=false:= λp=>rfl
  simp only[this];cases f.rh<;>simp[List.any_eq_true]
 ·cases f.nw<;>rfl
theorem C1{e f:Ef}(h:lZ f=true):oW e f=false/\f_ e f=false:=by
 obtain⟨d,m,rfl⟩:=oY h;unfold oW ey f_;constructor
 ·simp only[List.map_nil,List.append_nil,List.any_nil,Bool.false_or,Option.isSome_none,Bool.or_false];have:∀p:Nat,has [] p=false:= λp=>rfl
  simp only[this];cases e.rh<;>cases e.nw<;>simp[List.any_eq_true]
 ·rfl
theorem vB{ops:Array Oper}{x:Oper}{e:Ef}{i:Nat} :∀{ys:List Oper} {fs:List Ef} {bs:List (List Nat)} {j:Nat},kN ops x i ys bs=true->(lZ e=true\/oX i e (rv j fs bs)=true)->dS ops x e i ys fs bs=true
 |[],_,_,_,_,_=>by unfold dS;rfl
 |_::_,[],_,_,_,_=>by unfold dS;rfl
 |_::_,_::_,[],_,_,_=>by unfold dS;rfl
 |y::ys,f::fs,b::bs,j,hs,hd=>by
  have hs:(pP ops x y=true->has b i=true)/\kN ops x i ys bs=true:=by
   simp only[kN,wK]at hs;cases h1:pP ops x y with
   |false=>rw[h1]at hs;exact⟨λh=>(by cases h),hs⟩
   |true=>
    rw[h1]at hs;cases h2:has b i with
    |false=>rw[h2]at hs;cases hs
    |true=>rw[h2]at hs;exact⟨λ_=>rfl,hs⟩
  simp only[dS,Bool.and_eq_true];have key:(oW e f=true->has b i=true)/\f_ e f=false/\(lZ e=true\/oX i e (rv (j+1) fs bs)=true):=by
   rcases hd with hd|hd
   ·obtain⟨h1,h2⟩:=C0 (f:=f) hd;exact⟨λh=>(by rw[h1]at h;cases h),h2,.inl hd⟩
   ·simp only[rv]at hd;cases ht:lZ f with
    |true=>
     rw[ht]at hd;obtain⟨h1,h2⟩:=C1 (e:=e) ht;exact⟨λh=>(by rw[h1]at h;cases h),h2,.inr hd⟩
    |false=>
     rw[ht]at hd;simp only[cond_false,oX,Bool.and_eq_true,Bool.or_eq_true,Bool.not_eq_true']at hd;refine⟨λh=>?_,hd.1.2,.inr hd.2⟩;rcases hd.1.1 with h1|h1
     ·rw[h1]at h;cases h
     ·exact h1
  refine⟨⟨?_,by rw[key.2.1];rfl⟩,vB hs.2 key.2.2⟩;rw[Az];cases h1:pP ops x y with
  |true=>
   simp[hs.1 h1]
  |false=>
   cases h2:oW e f with
   |true=>simp[key.1 h2]
   |false=>rfl
theorem pR{ops:Array Oper} :∀{xs:List Oper} {es:List Ef} {bs:List (List Nat)} {i:Nat},la ops i xs bs=true->mN (rv i es bs)=true->ei ops i xs es bs=true
 |[],_,_,_,_,_=>by unfold ei;rfl
 |_::_,[],_,_,_,_=>by unfold ei;rfl
 |_::_,_::_,[],_,_,_=>by unfold ei;rfl
 |x::xs,e::es,b::bs,i,hs,hd=>by
  simp only[la,Bool.and_eq_true]at hs;simp only[ei,Bool.and_eq_true];simp only[rv]at hd;cases ht:lZ e with
  |true=>
   rw[ht]at hd;exact⟨vB (j:=i+1) hs.1 (.inl ht),pR hs.2 hd⟩
  |false=>
   rw[ht]at hd;simp only[cond_false,mN,Bool.and_eq_true]at hd;exact⟨vB hs.1 (.inr hd.1),pR hs.2 hd.2⟩
theorem lb{sl:List (Nat×V)} :∀{es:List Ef} {bs:List (List Nat)} {i:Nat},es.length=bs.length->mO sl (rv i es bs)=true->eH sl es=true
 |[],_,_,_,_=>rfl
 |e::es,[],_,hl,_=>by simp at hl
 |e::es,b::bs,i,hl,h=>by
  simp only[rv]at h;simp only[eH,Bool.and_eq_true];cases ht:lZ e with
  |true=>
   rw[ht]at h;obtain⟨d,m,rfl⟩:=oY ht;exact⟨rfl,lb (by simpa using hl) h⟩
  |false=>
   rw[ht]at h;simp only[cond_false,mO,Bool.and_eq_true]at h;exact⟨h.1,lb (by simpa using hl) h.2⟩
theorem vC{N:Nat} :∀{es:List Ef} {bs:List (List Nat)} {i:Nat},es.length=bs.length->CZ N (rv i es bs)=true->es.all (vv N)=true
 |[],_,_,_,_=>rfl
 |e::es,[],_,hl,_=>by simp at hl
 |e::es,b::bs,i,hl,h=>by
  simp only[rv]at h;simp only[List.all_cons,Bool.and_eq_true];cases ht:lZ e with
  |true=>
   rw[ht]at h;obtain⟨d,m,rfl⟩:=oY ht;exact⟨rfl,vC (by simpa using hl) h⟩
  |false=>
   rw[ht]at h;simp only[cond_false,CZ,Bool.and_eq_true]at h;exact⟨h.1,vC (by simpa using hl) h.2⟩
theorem vD{N:Nat}{ops:List Oper}{sl:List (Nat×V)}{es:List Ef}(hl:es.length=ops.length)(h:pQ N ops sl es=true):gk N ops sl es=true:=by
 unfold pQ at h;cases hs:vA ops with
 |false=>rw[hs]at h;cases h
 |true=>
  rw[hs]at h;simp only[cond_true,DF,Bool.and_eq_true]at h;simp only[vA,Bool.and_eq_true]at hs;have hb:es.length=(dH ops).length:=by rw[fg,hl]
  simp only[gk,Bool.and_eq_true];exact⟨⟨⟨hs.1,pR hs.2 h.1⟩,lb hb h.2.1⟩,vC hb h.2.2⟩
end bR
def DG(P:Program)(t:Nat):Bool:=match P.underlying t with
 |some (.int .u8)=>true
 |_=>false
def BC(P:Program)(t:Nat):Bool:=match P.underlying t with
 |some .string=>true
 |_=>false
def D4(P:Program)(t:Nat):Bool:=match P.underlying t with
 |some (.struct fs)=>match fs.toList with
  |[f1,f2]=> !decide (f1.name= "_")&& !decide (f2.name= "_")&&Nat.beq f1.offset 0&&Nat.beq f2.offset 1&&DG P f1.type&&BC P f2.type&& !P.stoodInHeld t&& !P.eqGuardType P.depth t
  |_=>false
 |_=>false
class qR(P:Program)(t:Nat):Prop where
 b:D4 P t=true
theorem qR.u{P:Program}{t:Nat}(h:qR P t):(∃f1 f2:Field,P.underlying t=some (.struct #[f1,f2])/\(f1.name= "_")=False/\(f2.name= "_")=False/\f1.offset=0/\f2.offset=1/\P.underlying f1.type=some (.int .u8)/\P.underlying f2.type=some .string)/\P.stoodInHeld t=false/\P.eqGuardType P.depth t=false:=by
 have hb:=h.b;unfold D4 at hb;split at hb
 ·rename_i fs hu;split at hb
  ·rename_i f1 f2 hl;simp only[Bool.and_eq_true,Bool.not_eq_true',decide_eq_false_iff_not]at hb;obtain⟨⟨⟨⟨⟨⟨⟨h1,h2⟩,h3⟩,h4⟩,h5⟩,h6⟩,h7⟩,h8⟩:=hb;have e:fs= #[f1,f2]:=by rw[<-hl]
   refine⟨⟨f1,f2,by rw[hu,e],eq_false h1,eq_false h2,Nat.eq_of_beq_eq_true h3,Nat.eq_of_beq_eq_true h4,?_,?_⟩,h7,h8⟩
   ·unfold DG at h5;split at h5
    ·assumption
    ·cases h5
   ·unfold BC at h6;split at h6
    ·assumption
    ·cases h6
  ·cases hb
 ·cases hb
theorem uA{P:Program}{w:World}{t:Nat}(h:qR P t)(k1 k2:Int)(s1 s2:ByteArray):
  (Op.equal t (.agg #[.int .u8 k1,.string s1]) (.agg #[.int .u8 k2,.string s2])).run P w=.ok (decide (k1=k2)&&decide (s1=s2)) w:=by
 obtain⟨⟨f1,f2,h1,h2,h3,h4,h5,h6,h7⟩,FN,hg⟩:=h.u;have F6:(underlying t).run P w=.ok (.struct #[f1,f2]) w:=by simp[underlying,program,Sem.run,h1]
 have PQ:(underlying f1.type).run P w=.ok (.int .u8) w:=by simp[underlying,program,Sem.run,h6]
 have PR:(underlying f2.type).run P w=.ok .string w:=by simp[underlying,program,Sem.run,h7]
 have hp:(program).run P w=.ok P w:=by simp[program,Sem.run]
 have e1:∀a b:Int,(Op.equalIn 9999 f1.type (.int .u8 a) (.int .u8 b)).run P w=.ok (decide (a=b)) w:=by
  intro a b;rw[Op.equalIn];simp[PQ];by_cases RI:a=b<;>simp[RI]
 have e2:∀a b:ByteArray,(Op.equalIn 9999 f2.type (.string a) (.string b)).run P w=.ok (decide (a=b)) w:=by
  intro a b;rw[Op.equalIn];simp[PR,rL]
 have p1:∀a:Int,∀s:ByteArray,(part f1.type #[.int .u8 a,.string s] f1.offset).run P w=.ok (.int .u8 a) w:=by
  intro a s;simp[part,isAgg,PQ,h4]
 have p2:∀a:Int,∀s:ByteArray,(part f2.type #[.int .u8 a,.string s] f2.offset).run P w=.ok (.string s) w:=by
  intro a s;simp[part,isAgg,PR,h5]
 simp only[Op.equal,Op.maxDepth];rw[Op.equalIn];simp[F6,hp,FN,h2,h3,p1,p2,e1,e2];by_cases hk:k1=k2<;>by_cases hs:s1=s2<;>simp[hk,hs,p1,p2,e1,e2,h2,h3]
theorem rO{O:Nat->Nat->Prop}{w:World}{k:Int}{s:ByteArray}{v:Value}(h:dI O w (.agg [.int .u8 k,.str s]) v):v=.agg #[.int .u8 k,.string s]:=by
 cases h with
 |agg _ vs hl hf hr=>
  obtain⟨l⟩:=vs
  match l,hl with
  |[a,b],_=>
   have h1:=hr 0 _ a rfl rfl;have h2:=hr 1 _ b rfl rfl;cases h1;cases h2;rfl
section
variable{X:bq}{st:St}{dst:Option Nat}{ty:Nat}{pos:String}{af:Array Edge}{g:Option (Nat×Bool)}
theorem BD{x y:Operand}{xt yt:Nat}{k1 k2:Int}{s1 s2:ByteArray}[ht:qR X.P xt](hx:st.ev x=some (.m (.d (.agg [.int .u8 k1,.str s1]))))(hy:st.ev y=some (.m (.d (.agg [.int .u8 k2,.str s2])))):
  aK X ⟨dst,.binOp .eql xt x y yt,ty,pos,af,g⟩ st (bt (.m (.d (.bool (decide (k1=k2)&&decide (s1=s2))))) st):=by
 refine aK.quiet λa σ FC hi=>?_
 have h1:=rO (hi.ia hx);have h2:=rO (hi.ia hy);have hp:(program).run X.P σ.w=.ok X.P σ.w:=by simp[program,Sem.run]
 have he:=uA (w:=σ.w) ht k1 k2 s1 s2;exact⟨_,by simp[execOp,h1,h2,eqGuard,hp,ht.u.2.2,binOp,he],.m (.d (.bool _))⟩
end
section
variable{X:bq}{st:St}{dst:Option Nat}{ty:Nat}{pos:String}{af:Array Edge}{g:Option (Nat×Bool)}
theorem wL{x y:Operand}{xt yt:Nat}{k1 k2:Int}{s1 s2:ByteArray}[ht:qR X.P xt](hx:st.ev x=some (.m (.d (.agg [.int .u8 k1,.str s1]))))(hy:st.ev y=some (.m (.d (.agg [.int .u8 k2,.str s2])))):
  aK X ⟨dst,.binOp .neq xt x y yt,ty,pos,af,g⟩ st (bt (.m (.d (.bool (!(decide (k1=k2)&&decide (s1=s2)))))) st):=by
 refine aK.quiet λa σ FC hi=>?_
 have h1:=rO (hi.ia hx);have h2:=rO (hi.ia hy);have hp:(program).run X.P σ.w=.ok X.P σ.w:=by simp[program,Sem.run]
 have he:=uA (w:=σ.w) ht k1 k2 s1 s2;exact⟨_,by simp[execOp,h1,h2,eqGuard,hp,ht.u.2.2,binOp,he],.m (.d (.bool _))⟩
def nZ(P:Program)(t:Nat):Bool:=match P.underlying t with
 |some (.interface _)=>false
 |some _=>true
 |none=>false
theorem tY{xt:Nat}{x:Operand}{d:D}(ht:nZ X.P xt=true)(hx:st.ev x=some (.m (.d d))):
  aK X ⟨dst,.makeInterface xt x,ty,pos,af,g⟩ st (bt (.m (.d (.vj xt d))) st):=by
 refine aK.quiet λa σ FC hi=>?_
 have h1:=hi.ia hx;refine⟨.iface xt (a.eval x),?_,.m (.d (.vj _ _ _ h1))⟩;unfold nZ at ht;split at ht
 ·cases ht
 ·rename_i u FV hu;have F6:(underlying xt).run X.P σ.w=.ok u σ.w:=by simp[underlying,program,Sem.run,hu]
  simp only[execOp,Instr.makeInterface];simp[F6]
 ·cases ht
def sJ(g T:Nat)(k:IntKind)(ms:List Int):M:=.bz (.d (.int .i64 g):: .d (.int .i64 T)::ms.map λz=>.d (.int k z))
def BE(g:Nat)(k:IntKind)(m:Int)(T:Nat):M:=.bz [.d (.int .i64 g),.d (.int .i64 T),.d (.int k m)]
theorem RM.oZ{σ:Sg}{k:IntKind}{n:Int}{v:Value}(h:RM σ (.d (.int k n)) v):v=.int k n:=by
 cases h with
 |d h=>cases h;rfl
theorem RM.o0{σ:Sg}{k:IntKind}{n m:Nat}(h:RM σ (.d (.int k n)) (.int k (m:Int))):m=n:=by
 have:=h.oZ;injection this with _ h
 omega
theorem l3{σ:Sg}{b gl tt:Nat}{k:IntKind}{ms:List Int}(h:eE σ b (.iter (sJ gl tt k ms))):b=gl/\σ.w.heap[gl]?=some (.cells (ms.map λz=>Value.int k z).toArray tt (0,0)):=by
 rcases h with⟨om,since,seen,last,h1,h2⟩|⟨arr,T',h1,h2⟩
 ·exfalso;rcases h2 with⟨_,h2⟩|⟨h2,_⟩
  ·cases h2
  ·unfold sJ gj at h2;cases h2 with
   |bz cs vs hl h=>
    have hz:(#[Value.map om,.int .i64 since]++seen.map λb=>.int .i64 b)[0]?=some (.map om):=by rw[Array.getElem?_append_left (by simp)];rfl
    have a1:=h 0 (.d (.int .i64 gl)) (.map om) rfl hz;cases a1 with
    |d a1=>cases a1
 ·unfold sJ at h2;cases h2 with
  |bz cs vs hl h=>
   have a1:=h 0 (.d (.int .i64 gl)) (.int .i64 b) rfl (by rw[Array.getElem?_append_left (by simp)];rfl);have a2:=h 1 (.d (.int .i64 tt)) (.int .i64 (T':Nat)) rfl (by rw[Array.getElem?_append_left (by simp)];rfl);have e1:b=gl:=a1.o0;have e2:T'=tt:=a2.o0;subst e1;subst e2;refine⟨rfl,?_⟩;have e3:arr=(ms.map λz=>Value.int k z).toArray:=by
    have hs:arr.size=ms.length:=by simp at hl;omega
    apply Array.ext
    ·simpa using hs
    ·intro i i1 i2;have i3:i<ms.length:=by omega
     have a3:=h (i+2) (.d (.int k ms[i])) arr[i] (by simp[i3]) (by rw[Array.getElem?_append_right (by simp)];simp[i1]);rw[a3.oZ];simp
   rw[h1,e3]
theorem AA{T gl i tt:Nat}{k:IntKind}{m:Int}{r:M}(hH:st.H[i]?=some (.iter (BE gl k m tt)))(hr:ch X.P T [.d (.int k m)] 0=some r):
  aK X ⟨dst,.load T (.global gl),ty,pos,af,g⟩ st (bt (.m r) st):=by
 refine aK.quiet λa σ FC hi=>?_
 have HM:=hi.hinv.obj i (.iter (BE gl k m tt)) (by rw[hi.hH];exact hH);obtain⟨e1,h1⟩:=l3 (ms:=[m]) HM;have hc:eN σ [.d (.int k m)] #[.int k m]:=⟨rfl,λn x v hx hv=>by
  match n with
  |0=>simp at hx hv;subst hx;subst hv;exact⟨.d (.int _ _),rfl⟩
  |n+1=>simp at hx⟩
 obtain⟨v,h5,h6⟩:=ig hr h1 (by simp) hc.2;exact⟨v,by simp[execOp,Act.eval,Instr.loadAt,Instr.sureAddr,h5],.m h6⟩
end
end Go.Mt
