/- A part of the proof of the last text of this claim, without conditions. -/
import Derived.Test.YtjbigbaipmiihaaGreatA
set_option maxRecDepth 4000
set_option linter.all false
namespace Go.Mt
variable{ops l:List Oper}{I:Hp->Prop}{st OG:St}{X:bW}{es:List Ef}{Te:Array Oper}{id:Nat}{post:Exit->St->Prop}
def kh{x:Oper}{e:Ef}{i:Nat} :∀{g:List Oper} {k:List Ef} {l:List (List Nat)},iH Te x e i g k l=true->
  ∀(j:Nat) y f b,g[j]?=some y->k[j]?=some f->l[j]?=some b->(dH Te x y e f=true->i∈b)/\q9 e f=false
 |[],_,_,_,j,y,f,b,a,_,_=>by simp at a
 |_::_,[],_,_,j,y,f,b,_,a,_=>by simp at a
 |_::_,_::_,[],_,j,y,f,b,_,_,a=>by simp at a
 |o::g,p::k,q::l,h,j,y,f,b,a,c,d=>by
  simp only[iH,asH,at8,ats]at h;cases j with
  |zero=>
   simp at a c d;subst a;subst c;subst d;refine⟨λn=>?_,h.1.2⟩;rcases h.1.1 with m|m
   .rw[m]at n;cases n
   .exact fU.1 m
  |succ j=>simp at a c d;exact kh h.2 j y f b a c d
def k9:∀{xs:List Oper} {es:List Ef} {l:List (List Nat)} {n:Nat},jB Te n xs es l=true->
  ∀(i j:Nat) x e y f b,i<j->xs[i]?=some x->es[i]?=some e->xs[j]?=some y->es[j]?=some f->l[j]?=some b->(dH Te x y e f=true->n+i∈b)/\q9 e f=false
 |[],_,_,n,_,i,j,x,e,y,f,b,_,a,_,_,_,_=>by simp at a
 |_::_,[],_,n,_,i,j,x,e,y,f,b,_,_,a,_,_,_=>by simp at a
 |_::_,_::_,[],n,_,i,j,x,e,y,f,b,_,_,_,_,_,a=>by simp at a
 |m::xs,o::es,p::l,n,k,i,j,x,e,y,f,b,q,a,c,g,h,d=>by
  simp only[jB,asH]at k;cases j with
  |zero=>omega
  |succ j=>
   cases i with
   |zero=>
    simp at a c g h d;subst a;subst c;exact kh k.1 j y f b g h d
   |succ i=>
    simp at a c g h d;have:=k9 k.2 i j x e y f b (by omega) a c g h d;rw[show n+(i+1)=n+1+i by omega];exact this
def p9:∀{ops:List Oper} {n:Nat},sN n ops=true->∀(j:Nat) o,ops[j]?=some o->∀e∈o.after.toList,Region.binds .any e=true->e.on<n+j
 |[],n,_,j,o,a,_,_,_=>by simp at a
 |x::r,n,h,j,o,a,e,d,b=>by
  simp only[sN,asH,atC,at8,ats]at h;cases j with
  |zero=>
   simp at a;subst a;rcases h.1 e d with c|c
   .rw[c]at b;cases b
   .have:=bN c;omega
  |succ j=>simp at a;have:=p9 h.2 j o a e d b;omega
def gb(st:St)(es:List Ef):∀k,S st es (λ_=>true) k=(es.take k).foldl (λs e=>e.app s) st
 |0=>rfl
 |k+1=>by
  simp only[S];cases a:es[k]? with
  |none=>
   have b:es.length<=k:=by rcases asp k es.length with h|h;simp[aso h]at a;exact h
   rw[gb st es k,ath b,ath (by omega)]
  |some e=>
   simp only[as3];rw[gb st es k];have b:k<es.length:=by rcases asp k es.length with h|h;exact h;simp[asr h]at a
   rw[asA b,auM];have:es[k]=e:=by simpa [aso b] using a
   rw[this];rfl
def pF:Nat->(Nat->Bool)->Nat
 |0,_=>0
 |k+1,f=>pF k f+(bif f k then 0 else 1)
def yk:∀{m:Nat} {f g:Nat->Bool},(∀k,k<m->f k=g k)->pF m f=pF m g
 |0,_,_,_=>rfl
 |m+1,f,g,h=>by simp only[pF];rw[yk (λk a=>h k (by omega)),h m (by omega)]
def tQ:∀{m:Nat} {f:Nat->Bool},pF m f=0->∀k,k<m->f k=true
 |0,f,_,k,a=>by omega
 |m+1,f,h,k,b=>by
  simp only[pF]at h;cases a:f m with
  |false=>simp[a]at h
  |true=>
   simp[a]at h;by_cases e:k=m
   .rw[e];exact a
   .exact tQ h k (by omega)
def yl:∀{m:Nat} {f:Nat->Bool},0<pF m f->∃i,i<m/\f i=false/\∀k,k<i->f k=true
 |0,f,h=>by simp[pF]at h
 |m+1,f,h=>by
  by_cases c:0<pF m f
  .obtain⟨i,d,a,b⟩:=yl c;exact⟨i,by omega,a,b⟩
  .have a:pF m f=0:=by omega
   simp only[pF,a]at h;cases b:f m with
   |false=>exact⟨m,by omega,b,tQ a⟩
   |true=>simp[b]at h
def ym:∀{m:Nat} {f:Nat->Bool} {i:Nat},i<m->f i=false->pF m (λk=>if k=i then true else f k)+1=pF m f
 |0,f,i,h,_=>by omega
 |m+1,f,i,h,a=>by
  simp only[pF];by_cases e:i=m
  .subst e;have:pF i (λk=>if k=i then true else f k)=pF i f:=yk λk a=>by simp[show k≠i by omega]
   simp only[this,auz,a,as3,atV,auq]
  .have:=ym (m:=m) (f:=f) (i:=i) (by omega) a;have b:m≠i:=by omega
   simp only[b,aup];omega
def BQ(X:bW)(I:Hp->Prop)(ops:Array Oper)(o:Oper)(e:Ef)(st:St):Prop:=∀a,Ag ops o e st a->I a.H->IQ X ops o a (e.app a)
inductive uD(X:bW)(I:Hp->Prop)(ops:Array Oper):List Oper->St->List Ef->St->Prop where
 |nil (st:St):uD X I ops [] st [] st
 |cons {o:Oper} {a:List Oper} {st b:St} {e:Ef} {c:List Ef} (h:BQ X I ops o e st) (d:e.d=o.dst) (k:uD X I ops a (e.app st) c b):uD X I ops (o::a) st (e::c) b
def jr(X:bW)(I:Hp->Prop)(ops:Array Oper)(l:List Oper)(st:St)(post:List Ef->St->Prop):Prop:=∃a b,uD X I ops l st a b/\post a b
def uD.spec(h:uD X I Te l st es OG):
  es.length=l.length/\OG=es.foldl (λs e=>e.app s) st/\∀(i:Nat) o e,l[i]?=some o->es[i]?=some e->BQ X I Te o e ((es.take i).foldl (λs e=>e.app s) st)/\e.d=o.dst:=by
 induction h with
 |nil st=>exact⟨W,W,by simp⟩
 |cons h c k d=>
  obtain⟨f,g,j⟩:=d;refine⟨by simp[f],g,λi o e a b=>?_⟩;cases i with
  |zero=>simp at a b;subst a;subst b;exact⟨h,c⟩
  |succ i=>simp at a b;exact j i o e a b
def vn(ops:List Oper)(k:Nat):Bool:=match(jA ops)[k]? with
 |some b=>(List.range ops.length).all λi=>Nat.beq i k||has b i
 |none=>false
def C1{k:Nat}(h:vn ops k=true)(i:Nat)(hi:i<ops.length)(c:i≠k):∃b,(jA ops)[k]?=some b/\i∈b:=by
 unfold vn at h;split at h
 .rename_i b d;rw[atC]at h;have:=h i (atW.2 hi);rw[at8]at this;rcases this with a|a
  .exact absurd (asy a) c
  .exact⟨b,d,fU.1 a⟩
 .cases h
def nh(I:Hp->Prop)(ops:List Oper):Nat->List Ef->Prop
 |_,[]=>True
 |k,e::r=>(match e.wh with|none=>True|some h=>I h\/vn ops k=true)/\nh I ops (k+1) r
def nh.L5:∀{es:List Ef} {n:Nat},nh I ops n es->∀(k:Nat) f,es[k]?=some f->∀h,f.wh=some h->I h\/vn ops (n+k)=true
 |[],_,_,k,f,a,_,_=>by simp at a
 |e::r,n,⟨b,d⟩,k,f,a,h,c=>by
  cases k with
  |zero=>simp at a;subst a;rw[c]at b;exact b
  |succ k=>
   simp at a;have:=d.L5 k f a h c
   rwa [show n+1+k=n+(k+1) by omega]at this
def nh.mem(h:nh I ops 0 es)(k:Nat)(f:Ef)(a:es[k]?=some f)(H:Hp)(b:f.wh=some H):I H\/vn ops k=true:=by
 have:=h.L5 k f a H b
 rwa [atH]at this
def C2(I:Hp->Prop)(b:I st.H){L:Nat->Bool}(c:∀(k:Nat) f h,es[k]?=some f->L k=true->f.wh=some h->I h):∀n,I (S st es L n).H
 |0=>b
 |n+1=>by
  simp only[S];have a:=C2 I b c n;cases d:es[n]? with
  |none=>exact a
  |some e=>
   simp only;cases f:L n with
   |false=>exact a
   |true=>
    simp only[as3,Ef.app];cases g:e.wh with
    |none=>exact a
    |some h=>exact c n e h d f g
def TC.EH(I:Hp->Prop)(ZQ:I st.H)(hm:X.P.follows .mixedOrders=true)
  (h:jr X I ops.toArray ops st λa l=>gO ops st.sl a=true/\nh I ops 0 a/\post .normal l):TC X (.region id ops.toArray true) st post:=by
 obtain⟨a,l,Sx,Z,co,Px⟩:=h;obtain⟨i8,d6,SC⟩:=Sx.spec;simp only[gO,asH]at Z;obtain⟨⟨ZR,X2⟩,X3⟩:=Z;have hE:=p9 ZR;have R:=k9 X2;have YN:l=S st a (λ_=>true) ops.length:=by rw[gb,ath (by omega),d6]
 have F:∀(k:Nat) e,a[k]?=some e->∃o b,ops[k]?=some o/\(jA ops)[k]?=some b/\e.d=o.dst/\k<ops.length:=by
  intro k e c;have j:k<a.length:=by rcases asp k a.length with h|h;exact h;simp[asr h]at c
  have g:ops[k]?=some ops[k]:=by simp[show k<ops.length by omega]
  have i:k<(jA ops).length:=by rw[ov];omega
  exact⟨ops[k],(jA ops)[k],g,by simp[i],(SC k _ e g c).2,by omega⟩
 have X4:∀(k:Nat) e d,a[k]?=some e->e.nw=some d->iq d st.sl=true:=by
  have:∀(c:List Ef),jC st.sl c=true->∀(k:Nat) e d,c[k]?=some e->e.nw=some d->iq d st.sl=true:=by
   intro c
   induction c with
   |nil=>intro _ k e d h;simp at h
   |cons x c n=>
    intro i k e d g j;simp only[jC,asH]at i;cases k with
    |zero=>simp at g;subst g;simpa [j] using i.1
    |succ k=>simp at g;exact n i.2 k e d g j
  exact this a X3
 intro u A B;refine wp_region_any hm ?_;have ge:∀(y:Nat) (c:Array Bool) (u:Act) (A:World),c.size=ops.length->pF ops.length (λk=>c.getD k false)=y->
   (∀j b,c.getD j false=true->(jA ops)[j]?=some b->∀i∈b,c.getD i false=true)->
   Inv X (S st a (λk=>c.getD k false) ops.length) u A->
   wpAny X.P .any ops.toArray (λe a g=>∃l,post e l/\Inv X l a g) y c u A:=by
  intro y
  induction y with
  |zero=>
   intro c u A r p s q;have g:=tQ p;refine⟨?_,l,Px,?_⟩
   .unfold Region.ready;rw[auV];intro i B;simp at B;have j:=g i B;have n:i<c.size:=by omega
    simp[n]at j;simp[n,j]
   .have e:S st a (λk=>c.getD k false) ops.length=l:=by
     rw[YN];have:∀n,n<=ops.length->S st a (λk=>c.getD k false) n=S st a (λ_=>true) n:=by
      intro n
      induction n with
      |zero=>intro _;rfl
      |succ n i=>
       intro j;simp only[S,i (by omega),g n (by omega)]
     exact this _ (asj _)
    rw[<-e];exact q
  |succ y ih=>
   intro c u A PV J K i6;have ah:∀i,i∈Region.ready .any ops.toArray c↔i<ops.length/\c.getD i true=false/\∃o,ops[i]?=some o/\∀e∈o.after.toList,Region.binds .any e=true->c.getD e.on false=true:=by
    intro i;unfold Region.ready;rw[aum];simp only[atW,List.size_toArray,asH,ats,au1];constructor
    .rintro⟨g,s,p⟩;refine⟨g,s,ops[i],by simp[g],?_⟩;simp[g]at p;intro e r n;have w:e∈ops[i].after:=by simpa using r
     obtain⟨q,t,rfl⟩:=au2.1 w;rcases p q t with j|j
     .rw[j]at n;cases n
     .simpa using j
    .rintro⟨g,p,o,q,r⟩;refine⟨g,p,?_⟩;have:ops[i]=o:=by simpa [g] using q
     simp[g,this];intro n s;cases j:Region.binds .any o.after[n]with
     |false=>exact .inl rfl
     |true=>right;simpa using r o.after[n] (by simp) j
   refine⟨?_,?_⟩
   .intro r;obtain⟨i,g,j,q⟩:=yl (m:=ops.length) (f:= λk=>c.getD k false) (by omega);have:i∈Region.ready .any ops.toArray c:=by
     rw[ah];have s:i<c.size:=by omega
     refine⟨g,by simp[s]at j⊢;exact j,ops[i],by simp[g],?_⟩;intro e n p;have:=hE i ops[i] (by simp[g]) e n p;exact q e.on (by omega)
    rw[r]at this;cases this
   .intro i d7;obtain⟨C,RT,o,w,X5⟩:=(ah i).1 d7;have Rq:i<c.size:=by omega
    have p:c.getD i false=false:=by simp[Rq]at RT⊢;exact RT
    have YO:i<a.length:=by omega
    obtain⟨e,r⟩:∃e,a[i]?=some e:=⟨a[i],by simp[YO]⟩;have VB:i<(jA ops).length:=by rw[ov];exact C
    obtain⟨U,D⟩:∃b,(jA ops)[i]?=some b:=⟨(jA ops)[i],by simp[VB]⟩;have ac:∀k,k∈U->c.getD k false=true:=by
     intro k j;obtain⟨P,E,G,n⟩:=AG w D j;have q:=X5 P E G;rcases n with n|⟨T,h5,_,h6⟩
     .rw[<-n];exact q
     .exact K _ T q h5 k h6
    have Y:∀(k:Nat) f,k<i->a[k]?=some f->∀x,ops[k]?=some x->dH ops.toArray x o f e=true->c.getD k false=true:=by
     intro k f j n x q J;have:=(R k i x f o e U j q n w r D).1 J;simp at this;exact ac k this
    have z:∀(k:Nat) f,i<k->a[k]?=some f->∀x,ops[k]?=some x->dH ops.toArray o x e f=true->c.getD k false=false:=by
     intro k f j q x E J;obtain⟨_,b,_,n,_,_⟩:=F k f q;have:=(R i k o e x f b j w r E q n).1 J;simp at this;cases s:c.getD k false with
     |false=>rfl
     |true=>rw[K k b s n i this]at p;cases p
    obtain⟨U2,i7⟩:=SC i o e w r;have d8:(a.take i).foldl (λs e=>e.app s) st=S st a (λ_=>true) i:=(gb st a i).symm;rw[d8]at U2;have L:∀t k,(kE a t).W k=true->∃f x,a[k]?=some f/\ops[k]?=some x/\f.d=some t/\x.dst=some t:=by
     intro t k g;simp only[kE]at g;split at g
     .rename_i f q;split at g
      .rename_i d n;have:=asy g;subst this;obtain⟨x,b,E,_,G,_⟩:=F k f q;exact⟨f,x,q,E,n,by rw[<-G];exact n⟩
      .cases g
     .cases g
    have N:∀t k,(mh a t).W k=true->∃f x,a[k]?=some f/\ops[k]?=some x/\t∈f.wb.map (·.1):=by
     intro t k g;simp only[mh]at g;split at g
     .rename_i f n;obtain⟨x,b,q,_,_,_⟩:=F k f n;exact⟨f,x,n,q,fU.1 g⟩
     .cases g
    have O:∀k,(tP a).W k=true->∃f x,a[k]?=some f/\ops[k]?=some x/\f.wh.isSome=true:=by
     intro k g;simp only[tP]at g;split at g
     .rename_i f n;obtain⟨x,b,q,_,_,_⟩:=F k f n;exact⟨f,x,n,q,g⟩
     .cases g
    have V:∀(n:List (Nat×List M)) (q:List Nat) (t:Nat),t∈n.map (·.1)->t∈q->(n.any λQ=>has q Q.1)=true:=by
     intro n q t E G;rw[auc];obtain⟨Q,P,rfl⟩:=asK.1 E;exact⟨Q,P,fU.2 G⟩
    have d9:Ag ops.toArray o e (S st a (λ_=>true) i) (S st a (λk=>c.getD k false) ops.length):=by
     refine⟨?_,?_,?_,?_⟩
     .intro t n;refine mg (kE a t) _ i ops.length (by omega) ?_ ?_
      .intro k j g;obtain⟨f,x,q,E,_,G⟩:=L t k g;refine Y k f j q x E ?_;have:has (slotsOf ops.toArray o) t=true:=fU.2 (by simp[slotsOf,n]);simp[dH,G,this]
      .intro k j T g;by_cases P:k=i
       .rw[P];exact p
       .obtain⟨f,x,q,E,_,G⟩:=L t k g;refine z k f (by omega) q x E ?_;have:has (slotsOf ops.toArray o) t=true:=fU.2 (by simp[slotsOf,n]);simp[dH,G,this]
     .intro t n;refine mg (mh a t) _ i ops.length (by omega) ?_ ?_
      .intro k j g;obtain⟨f,x,q,E,G⟩:=N t k g;refine Y k f j q x E ?_;have:=V f.wb _ t G n;simp[dH,this]
      .intro k j T g;by_cases G:k=i
       .rw[G];exact p
       .obtain⟨f,x,q,E,P⟩:=N t k g;refine z k f (by omega) q x E ?_;have:=V f.wb _ t P n;simp[dH,this]
     .intro n;refine mg (tP a) _ i ops.length (by omega) ?_ ?_
      .intro k j g;obtain⟨f,x,q,E,G⟩:=O k g;refine Y k f j q x E ?_;simp only[at8]at n;rcases n with n|n<;>simp[dH,G,n]
      .intro k j T g;by_cases G:k=i
       .rw[G];exact p
       .obtain⟨f,x,q,E,P⟩:=O k g;refine z k f (by omega) q x E ?_;simp only[at8]at n;rcases n with n|n<;>simp[dH,P,n]
     .intro d T t oo n;have f4:∀q,q<=ops.length->get (S st a (λk=>c.getD k false) q).sl t=some (.loc d oo)->False:=by
       intro q
       induction q with
       |zero=>
        intro _ n;exact yf (X4 i e d r T) n
       |succ q P=>
        intro hn n;simp only[S]at n;cases E:a[q]? with
        |none=>simp only[E]at n;exact P (by omega) n
        |some f=>
         simp only[E]at n;cases s:c.getD q false with
         |false=>rw[s]at n;exact P (by omega) n
         |true=>
          rw[s]at n;simp only[as3,Ef.app]at n;obtain⟨x,b,hx,hb,SD,_⟩:=F q f E;cases Qd:f.d with
          |none=>simp only[Qd]at n;exact P (by omega) n
          |some d'=>
           simp only[Qd]at n;rcases bO n with⟨_,G⟩|⟨_,G⟩
           .have OP:q≠i:=by rintro rfl;rw[s]at p;cases p
            rcases Nat.lt_or_gt_of_ne OP with OO|f8
            .have:=(R q i x f o e U OO hx E w r D).2;simp[q9,T,<-G]at this
            .have:=z q f f8 E x hx (by simp[dH,T,<-G]);rw[this]at s;cases s
           .exact P (by omega) G
      exact f4 _ (asj _) n
    have f9:=U2 _ d9 (C2 I ZQ (λk f h j n g=>(co.mem k f j h g).resolve_right λs=>by
     have E:k≠i:=by rintro rfl;rw[p]at n;cases n
     obtain⟨b,q,D⟩:=C1 s i C (atf E);have:=K k b n q i D;rw[p]at this;cases this) _)
    have ZS:∀n q,Inv X (e.app (S st a (λk=>c.getD k false) ops.length)) n q->wpAny X.P .any ops.toArray (λe n q=>∃l,post e l/\Inv X l n q) y (c.setIfInBounds i true) n q:=by
     intro n q Rx;have P:(λk=>(c.setIfInBounds i true).getD k false)= λk=>if k=i then true else c.getD k false:=by
      funext k
      by_cases j:k=i
      .subst j;simp[Rq]
      .simp[j,atj (atf j)]
     refine ih _ n q (by simp[PV]) ?_ ?_ ?_
     .rw[P];have:=ym (m:=ops.length) (f:= λk=>c.getD k false) C p;omega
     .intro E b hj G k j;have Pw:(if E=i then true else c.getD E false)=true:=by rw[<-congrFun P E];exact hj
      have YP:(if k=i then true else c.getD k false)=true:=by
       by_cases T:k=i
       .simp[T]
       .rw[asu T];by_cases YQ:E=i
        .subst YQ;rw[D]at G;injection G with G;subst G
         exact ac k j
        .rw[asu YQ]at Pw;exact K E b Pw G k j
      rw[<-congrFun P k]at YP;exact YP
     .rw[P];have g1:∀t,get (S st a (λk=>if k=i then true else c.getD k false) ops.length).sl t=get (e.app (S st a (λk=>c.getD k false) ops.length)).sl t:=by
       intro t;refine sO (kE a t) _ i ops.length C e r p ?_;intro VH k j O4 S7;obtain⟨f,x,G,T,_,SD⟩:=L t k S7;obtain⟨f',x',PC,E,_,f4⟩:=L t i VH;rw[w]at E;injection E with E;subst E
       refine z k f j G x T ?_;have:has (slotsOf ops.toArray o) t=true:=fU.2 (by simp[slotsOf,f4]);simp[dH,SD,this]
      have g2:∀t,get (S st a (λk=>if k=i then true else c.getD k false) ops.length).bx t=get (e.app (S st a (λk=>c.getD k false) ops.length)).bx t:=by
       intro t;refine sO (mh a t) _ i ops.length C e r p ?_;intro VH k j O4 S7;obtain⟨f,x,G,T,RU⟩:=N t k S7;obtain⟨f',x',E,PF,WI⟩:=N t i VH;rw[r]at E;injection E with E;subst E
       refine z k f j G x T ?_;have:=V f.wb (e.rb++e.wb.map (·.1)) t RU (ast.2 (.inr WI));simp[dH,this]
      have g3:(S st a (λk=>if k=i then true else c.getD k false) ops.length).H=(e.app (S st a (λk=>c.getD k false) ops.length)).H:=by
       refine sO (tP a) _ i ops.length C e r p ?_;intro VH k j O4 S7;obtain⟨f,x,G,T,VG⟩:=O k S7;obtain⟨f',x',E,PF,f4⟩:=O i VH;rw[r]at E;injection E with E;subst E
       refine z k f j G x T ?_;simp[dH,VG,f4]
      have:=Inv.oh (X:=X) (sl:=(e.app (S st a (λk=>c.getD k false) ops.length)).sl) (bx:=(e.app (S st a (λk=>c.getD k false) ops.length)).bx) (H:=(e.app (S st a (λk=>c.getD k false) ops.length)).H)
       (O5:=(S st a (λk=>if k=i then true else c.getD k false) ops.length).sl) (Po:=(S st a (λk=>if k=i then true else c.getD k false) ops.length).bx) Rx
       (λt v a=>by rw[<-g1];exact a) g2
      rw[<-g3]at this;exact this
    have:=f9 u A i6 (wpAny X.P .any ops.toArray (λe a g=>∃l,post e l/\Inv X l a g) y (c.setIfInBounds i true)) (λe a g=>∃l,post e l/\Inv X l a g) ZS;unfold wpOp;have gc:ops.toArray[i]?=some o:=by simpa using w
    simp only[gc];split
    .rename_i g;rw[asB g]at this;exact .inl this
    .rename_i g;rw[asu g]at this;exact this
 refine ge _ _ u _ (by simp) ?_ ?_ ?_
 .have:∀n,pF n (λk=>(Array.replicate ops.toArray.size false).getD k false)=n:=by
   intro n
   induction n with
   |zero=>rfl
   |succ n g=>
    simp only[pF,g];have:(Array.replicate ops.toArray.size false).getD n false=false:=by simp[atF];split<;>rfl
    rw[this];rfl
  simpa using this ops.length
 .intro j b g;have:(Array.replicate ops.toArray.size false).getD j false=false:=by simp[atF];split<;>rfl
  rw[this]at g;cases g
 .have j:∀g,S st a (λk=>(Array.replicate ops.toArray.size false).getD k false) g=st:=by
   intro g
   induction g with
   |zero=>rfl
   |succ g i=>
    have:(Array.replicate ops.toArray.size false).getD g false=false:=by simp[atF];split<;>rfl
    simp only[S,i,this];cases a[g]?<;>rfl
  rw[j];obtain⟨i,p,rfl,B⟩:=B;exact⟨{i with w:={i.w with drawn:=i.w.drawn+1} },p,rfl,B.ext (gg.drew _)⟩
def pK.fi{ops:Array Oper}(h:pK X ops l st es OG):uD X I ops l st es OG:=by
 induction h with
 |nil st=>exact .nil st
 |cons h a k b=>exact .cons (λa b _=>h a b) a b
def nh.all:∀{es:List Ef} {n:Nat},(∀e∈es,∀h,e.wh=some h->I h)->nh I ops n es
 |[],_,_=>trivial
 |e::r,n,h=>⟨by split;trivial;rename_i a;exact .inl (h e asV _ a),nh.all λf a=>h f (asI _ a)⟩
def TC.draw(c:X.P.follows .mixedOrders=true)
  (h:TF X ops.toArray ops st λa b=>gO ops st.sl a=true/\post .normal b):TC X (.region id ops.toArray true) st post:=by
 obtain⟨a,b,d,e,f⟩:=h;exact TC.EH (λ_=>True) trivial c ⟨a,b,d.fi,e,.all λ_ _ _ _=>trivial,f⟩
end Go.Mt
namespace Go.Mt
variable{x y:Operand}{o:Oper}{st ON OG:St}{xt yt t T j g off:Nat}{m n:Int}{e:Ef}{v:V}{kk:IntKind}{cs Pb:List M}{op:Op}{w:Bool}{post:List Ef->St->Prop}{rb:List Nat}{r:D}{ds:List D}
section rules
variable{X:bW}{ops:Array Oper}{rest:List Oper}{post:List Ef->St->Prop}{sl:List (Nat×V)}{bx:List (Nat×List M)}{H:Hp}{d ty:Nat}{pos:String}{af:Array Edge}
def Ag.ev(h:Ag ops o e st ON)(a:x∈o.op.operands.toList):ON.ev x=st.ev x:=by
 cases x with
 |tmp t=>
  refine h.sl t ?_;unfold Oper.looksAt;refine ast.2 (.inl ?_);rw[List.mem_filterMap];exact⟨.tmp t,a,W⟩
 |_=>rfl
def cL.Hg(c:o.guard=none)(e:o.dst=some d)(f:d<X.n)(h:cL X o st (du v OG)):IQ X ops o st ⟨(d,v)::OG.sl,OG.bx,OG.H⟩:=by
 rintro a w ⟨b,g,rfl,i⟩ K Q j;rw[asB (by simp[Region.wanted,c])];refine(h a b g i).wp ?_;rintro u p ⟨q,r,k,l,⟨rfl,rfl⟩,rfl,m,n⟩;rw[e];exact j _ _ ⟨k,l,W,m.set f n⟩
def cL.IR(c:o.guard=none)(d:o.dst=none)(h:cL X o st (du v OG)):IQ X ops o st OG:=by
 rintro a w ⟨b,e,rfl,f⟩ K Q g;rw[asB (by simp[Region.wanted,c])];refine(h a b e f).wp ?_;rintro u l ⟨m,n,i,j,⟨rfl,rfl⟩,rfl,k,p⟩;rw[d];exact g _ _ ⟨i,j,W,k⟩
def OU{rh:Bool}(a:o.guard=none)(b:o.dst=some d)(c:d<X.n)
  (h:∀a,Ag ops o ⟨some d,v,rb,[],none,rh,none⟩ st a->cL X o a (du v a)):lB X ops o ⟨some d,v,rb,[],none,rh,none⟩ st:=
 λe f=>(h e f).Hg a b c
def lB.writes{b:List (Nat×List M)}(a:o.guard=none)(c:o.dst=none)
  (h:∀a,Ag ops o ⟨none,v,rb,b,none,false,none⟩ st a->cL X o a (du v ⟨a.sl,b++a.bx,a.H⟩)):lB X ops o ⟨none,v,rb,b,none,false,none⟩ st:=
 λb d=>(h b d).IR a c
def aX{dst:Option Nat}(f:(ops[j]?).bind (·.dst)=some g)(n:get sl g=some (.m (.d (.bool w))))
  (k:TF X ops (⟨dst,op,ty,pos,af,none⟩::rest) ⟨sl,bx,H⟩ post):TF X ops (⟨dst,op,ty,pos,af,some (j,w)⟩::rest) ⟨sl,bx,H⟩ post:=by
 obtain⟨h,o,p,q⟩:=k;cases p with
 |cons l r s=>
  rename_i e h;refine⟨e::h,o,.cons ?_ r s,q⟩;intro b a;have t:get b.sl g=some (.m (.d (.bool w))):=by
   rw[<-n];refine a.sl g ?_;unfold Oper.looksAt;refine ast.2 (.inr ?_);simp[f]
  have u:Ag ops ⟨dst,op,ty,pos,af,none⟩ e ⟨sl,bx,H⟩ b:=
   ⟨λt b=>a.sl t (by
    unfold Oper.looksAt at b⊢;simp only[asL]at b;exact ast.2 (.inl b)),a.bx,a.H,a.nw⟩
  have v:=l b u;rintro c x ⟨m,y,z,i⟩ K Q A;have d:=v c x ⟨m,y,z,i⟩ K Q A;have B:jP ops ⟨dst,op,ty,pos,af,some (j,w)⟩ b=some true:=by simp[jP,f,t]
  rw[asB (i.wanted B)];rw[asB (by simp[Region.wanted])]at d;have C:execOp c.eval ⟨dst,op,ty,pos,af,some (j,w)⟩=execOp c.eval ⟨dst,op,ty,pos,af,none⟩:=by cases op<;>rfl
  unfold Oper.wp at d⊢;rw[C];exact d
def bj{b:Bool}(l:Nat.blt d X.n=true)(a:(ops[j]?).bind (·.dst)=some g)(n:get sl g=some (.m (.d (.bool b))))(o:(b==w)=false)
  (k:TF X ops rest ⟨(d,.m (.di []))::sl,bx,H⟩ λa c=>post (⟨some d,.m (.di []),[],[],none,false,none⟩::a) c):TF X ops (⟨some d,op,ty,pos,af,some (j,w)⟩::rest) ⟨sl,bx,H⟩ post:=by
 refine TF.cons (e:=⟨some d,.m (.di []),[],[],none,false,none⟩) ?_ W k;intro c p;have q:get c.sl g=some (.m (.d (.bool b))):=by
  rw[<-n];refine p.sl g ?_;unfold Oper.looksAt;refine ast.2 (.inr ?_);simp[a]
 rintro x z ⟨h,r,s,f⟩ K Q t;have u:jP ops ⟨some d,op,ty,pos,af,some (j,w)⟩ c=some false:=by simp[jP,a,q,o]
 rw[asu (by rw[f.wanted u];simp)];exact t _ _ ⟨h,r,s,f.set (bN l) (.m (.di [] #[] W (by intro y m v i;simp at i)))⟩
def bm(i:Nat.blt d X.n=true)(a:(ops[j]?).bind (·.dst)=some g)(l:get sl g=some (.m (.di [])))
  (k:TF X ops rest ⟨(d,.m (.di []))::sl,bx,H⟩ λa b=>post (⟨some d,.m (.di []),[],[],none,false,none⟩::a) b):TF X ops (⟨some d,op,ty,pos,af,some (j,w)⟩::rest) ⟨sl,bx,H⟩ post:=by
 refine TF.cons (e:=⟨some d,.m (.di []),[],[],none,false,none⟩) ?_ W k;intro b n;have o:get b.sl g=some (.m (.di [])):=by
  rw[<-l];refine n.sl g ?_;unfold Oper.looksAt;refine ast.2 (.inr ?_);simp[a]
 rintro t x ⟨f,p,q,c⟩ K Q r;have s:jP ops ⟨some d,op,ty,pos,af,some (j,w)⟩ b=some false:=by simp[jP,a,o]
 rw[asu (by rw[c.wanted s];simp)];exact r _ _ ⟨f,p,q,c.set (bN i) (.m (.di [] #[] W (by intro u m v h;simp at h)))⟩
def mG{op:BinOp}(a:Nat.blt d X.n=true)(b:bh sl x=some (.m (.d (.int kk m))))(c:bh sl y=some (.m (.d (.int kk n))))(f:lZ op kk m n=some r)(k:TF X ops rest ⟨(d,(.m (.d r)))::sl,bx,H⟩ λa b=>post (⟨some d,(.m (.d r)),[],[],none,false,none⟩::a) b):
  TF X ops (⟨some d,.binOp op xt x y yt,ty,pos,af,none⟩::rest) ⟨sl,bx,H⟩ post:=
 TF.cons (e:=⟨some d,(.m (.d r)),[],[],none,false,none⟩) (OU W W (bN a) λa a=>vg ((a.ev (x:=x) (by simp[Op.operands,Call.operands])).trans b) ((a.ev (x:=y) (by simp[Op.operands,Call.operands])).trans c) f) W k
def oZ(a:Nat.blt d X.n=true)(b:bh sl x=some (.m (.d (.int .i64 m))))(c:bh sl y=some (.m (.d (.int .i64 n))))(f: -9223372036854775808<=m+n/\m+n<=9223372036854775807)(k:TF X ops rest ⟨(d,(.m (.d (.int .i64 (m+n)))))::sl,bx,H⟩ λa b=>post (⟨some d,(.m (.d (.int .i64 (m+n)))),[],[],none,false,none⟩::a) b):
  TF X ops (⟨some d,.binOp .add xt x y yt,ty,pos,af,none⟩::rest) ⟨sl,bx,H⟩ post:=
 TF.cons (e:=⟨some d,(.m (.d (.int .i64 (m+n)))),[],[],none,false,none⟩) (OU W W (bN a) λa a=>vg ((a.ev (x:=x) (by simp[Op.operands,Call.operands])).trans b) ((a.ev (x:=y) (by simp[Op.operands,Call.operands])).trans c) (by simp[lZ,show IntKind.i64.wrap (m+n)=m+n from IntWalk.i64_in _ f])) W k
def gv(a:Nat.blt d X.n=true)(b:bh sl x=some (.m (.d (.int .i64 m))))(c:bh sl y=some (.m (.d (.int .i64 n))))(f: -9223372036854775808<=m-n/\m-n<=9223372036854775807)(k:TF X ops rest ⟨(d,(.m (.d (.int .i64 (m-n)))))::sl,bx,H⟩ λa b=>post (⟨some d,(.m (.d (.int .i64 (m-n)))),[],[],none,false,none⟩::a) b):
  TF X ops (⟨some d,.binOp .sub xt x y yt,ty,pos,af,none⟩::rest) ⟨sl,bx,H⟩ post:=
 TF.cons (e:=⟨some d,(.m (.d (.int .i64 (m-n)))),[],[],none,false,none⟩) (OU W W (bN a) λa a=>vg ((a.ev (x:=x) (by simp[Op.operands,Call.operands])).trans b) ((a.ev (x:=y) (by simp[Op.operands,Call.operands])).trans c) (by simp[lZ,show IntKind.i64.wrap (m-n)=m-n from IntWalk.i64_in _ f])) W k
def Ms(a:Nat.blt d X.n=true)(b:bh sl x=some (.m (.d (.int kk m))))(c:bh sl y=some (.m (.d (.int kk n))))(f:(n==0)=false)(k:TF X ops rest ⟨(d,(.m (.d (.int kk (kk.wrap (m.tdiv n))))))::sl,bx,H⟩ λa b=>post (⟨some d,(.m (.d (.int kk (kk.wrap (m.tdiv n))))),[],[],none,false,none⟩::a) b):
  TF X ops (⟨some d,.binOp .quo xt x y yt,ty,pos,af,none⟩::rest) ⟨sl,bx,H⟩ post:=
 TF.cons (e:=⟨some d,(.m (.d (.int kk (kk.wrap (m.tdiv n))))),[],[],none,false,none⟩) (OU W W (bN a) λa a=>F0 ((a.ev (x:=x) (by simp[Op.operands,Call.operands])).trans b) ((a.ev (x:=y) (by simp[Op.operands,Call.operands])).trans c) f) W k
def BR(a:Nat.blt d X.n=true)(b:bh sl x=some (.m (.d (.int kk m))))(c:bh sl y=some (.m (.d (.int kk n))))(f:(n==0)=false)(k:TF X ops rest ⟨(d,(.m (.d (.int kk (m.tmod n)))))::sl,bx,H⟩ λa b=>post (⟨some d,(.m (.d (.int kk (m.tmod n)))),[],[],none,false,none⟩::a) b):
  TF X ops (⟨some d,.binOp .rem xt x y yt,ty,pos,af,none⟩::rest) ⟨sl,bx,H⟩ post:=
 TF.cons (e:=⟨some d,(.m (.d (.int kk (m.tmod n)))),[],[],none,false,none⟩) (OU W W (bN a) λa a=>F7 ((a.ev (x:=x) (by simp[Op.operands,Call.operands])).trans b) ((a.ev (x:=y) (by simp[Op.operands,Call.operands])).trans c) f) W k
def tS{s u:ByteArray}(a:Nat.blt d X.n=true)(b:bh sl x=some (.m (.d (.str s))))(c:bh sl y=some (.m (.d (.str u))))(f:s.size+u.size<=9223372036854775807)(k:TF X ops rest ⟨(d,(.m (.d (.str (s++u)))))::sl,bx,H⟩ λa b=>post (⟨some d,(.m (.d (.str (s++u)))),[],[],none,false,none⟩::a) b):
  TF X ops (⟨some d,.binOp .add xt x y yt,ty,pos,af,none⟩::rest) ⟨sl,bx,H⟩ post:=
 TF.cons (e:=⟨some d,(.m (.d (.str (s++u)))),[],[],none,false,none⟩) (OU W W (bN a) λa a=>x_ ((a.ev (x:=x) (by simp[Op.operands,Call.operands])).trans b) ((a.ev (x:=y) (by simp[Op.operands,Call.operands])).trans c) f) W k
def oK{m:M}[ht:cA X.P T](a:Nat.blt d X.n=true)(b:bh sl x=some (.loc t off))(c:get bx t=some cs)(f:cs[off]?=some m)(k:TF X ops rest ⟨(d,(.m m))::sl,bx,H⟩ λa b=>post (⟨some d,(.m m),[t],[],none,false,none⟩::a) b):
  TF X ops (⟨some d,.load T x,ty,pos,af,none⟩::rest) ⟨sl,bx,H⟩ post:=
 TF.cons (e:=⟨some d,(.m m),[t],[],none,false,none⟩) (OU W W (bN a) λa a=>uA ((a.ev (x:=x) (by simp[Op.operands,Call.operands])).trans b) ((a.bx t (by simp)).trans c) f) W k
def qw{n:Nat}[ht:jQ X.P T n](b:Nat.blt d X.n=true)(c:bh sl x=some (.loc t off))(f:get bx t=some cs)(a:sub cs off n=some Pb)(g:kP Pb=some ds)(k:TF X ops rest ⟨(d,(.m (.d (.agg ds))))::sl,bx,H⟩ λa b=>post (⟨some d,(.m (.d (.agg ds))),[t],[],none,false,none⟩::a) b):
  TF X ops (⟨some d,.load T x,ty,pos,af,none⟩::rest) ⟨sl,bx,H⟩ post:=
 TF.cons (e:=⟨some d,(.m (.d (.agg ds))),[t],[],none,false,none⟩) (OU W W (bN b) λb b=>yd ((b.ev (x:=x) (by simp[Op.operands,Call.operands])).trans c) ((b.bx t (by simp)).trans f) (atl (sub_eq a).1) (by rw[(sub_eq a).2];exact g)) W k
def xD{e:Nat}{v:D}{n:Nat}[ht:aU X.P t e](a:Nat.blt d X.n=true)(b:bh sl x=some (.m (.d v)))(c:oV v=some n)(k:TF X ops rest ⟨(d,(.m (.d (.int .i64 n))))::sl,bx,H⟩ λa b=>post (⟨some d,(.m (.d (.int .i64 n))),[],[],none,false,none⟩::a) b):
  TF X ops (⟨some d,.call ⟨.builtin .len,#[x],#[t]⟩,ty,pos,af,none⟩::rest) ⟨sl,bx,H⟩ post:=
 TF.cons (e:=⟨some d,(.m (.d (.int .i64 n))),[],[],none,false,none⟩) (OU W W (bN a) λa a=>x8 ((a.ev (x:=x) (by simp[Op.operands,Call.operands])).trans b) c) W k
def bJ{e n:Nat}{rows:List (List D)}{r:List D}{i:Int}[ht:aU X.P t e][j:bY X.P e n](a:Nat.blt d X.n=true)(b:bh sl x=some (.m (.d (.sl rows))))(c:bh sl y=some (.m (.d (.int kk i))))(f:0<=i)(g:rows[i.toNat]?=some r)(h:r.length=n)(k:TF X ops rest ⟨(d,(.m (.d (.aZ r 0))))::sl,bx,H⟩ λa b=>post (⟨some d,(.m (.d (.aZ r 0))),[],[],none,false,none⟩::a) b):
  TF X ops (⟨some d,.indexAddr t x y,ty,pos,af,none⟩::rest) ⟨sl,bx,H⟩ post:=
 TF.cons (e:=⟨some d,(.m (.d (.aZ r 0))),[],[],none,false,none⟩) (OU W W (bN a) λa a=>x9 ((a.ev (x:=x) (by simp[Op.operands,Call.operands])).trans b) ((a.ev (x:=y) (by simp[Op.operands,Call.operands])).trans c) f g h) W k
def Ag.hJ(h:Ag ops o e st ON):∀{xs:List Operand},(∀x∈xs,x∈o.op.operands.toList)->ON.hJ xs=st.hJ xs
 |[],_=>rfl
 |x::r,a=>by
  simp only[St.hJ];rw[h.ev (a x (by simp)),h.hJ (λy b=>a y (by simp[b]))]
def Ag.ga(h:Ag ops o e st ON):∀{xs:List Operand},(∀x∈xs,x∈o.op.operands.toList)->ON.ga xs=st.ga xs
 |[],_=>rfl
 |x::r,a=>by
  simp only[St.ga];rw[h.ev (a x (by simp)),h.ga (λy b=>a y (by simp[b]))]
def Ag.ej(h:Ag ops o e st ON):∀{xs:List (Nat×Operand)},(∀p∈xs,p.2∈o.op.operands.toList)->Mt.ej ON xs=Mt.ej st xs
 |[],_=>rfl
 |(i,x)::r,a=>by
  simp only[Mt.ej];rw[h.ev (a (i,x) (by simp)),h.ej (λy b=>a y (by simp[b]))]
def aW{f:Nat}{args:List Operand}{RE:Array Nat}[hf:bw X.P f](h:PT X.P f ds (·=[r]))(a:Nat.blt d X.n=true)(b:hJ sl args=some ds)(k:TF X ops rest ⟨(d,.m (.d r))::sl,bx,H⟩ λa b=>post (⟨some d,.m (.d r),[],[],none,false,none⟩::a) b):
  TF X ops (⟨some d,.call ⟨.value (.func f),args.toArray,RE⟩,ty,pos,af,none⟩::rest) ⟨sl,bx,H⟩ post:=
 TF.cons (e:=⟨some d,.m (.d r),[],[],none,false,none⟩) (OU W W (bN a) λa a=>AC (by rw[a.hJ (λx a=>by simp[Op.operands,Call.operands];exact .inr a),sM];exact b) h) W k
def wu{sl:List (Nat×V)}{d:Nat}(h:∀t o,get sl t≠some (.loc d o)):∀t v,get sl t=some v->get (cV d sl) t=some v:=by
 have:∀(l:List (Nat×V)) (t:Nat) (v:V),get l t=some v->(∀o,v≠.loc d o)->get (cV d l) t=some v:=by
  intro l
  induction l with
  |nil=>intro t v h;simp[get]at h
  |cons x l c=>
   intro t v a b;obtain⟨j,u⟩:=x;cases u with
   |m m=>
    unfold cV;rcases bO a with⟨rfl,rfl⟩|⟨f,g⟩
    .simp[bM]
    .rw[bM,asu (λe=>f e.symm)];exact c t v g b
   |tl i k n p=>
    unfold cV;rcases bO a with⟨rfl,rfl⟩|⟨f,g⟩
    .simp[bM]
    .rw[bM,asu (λe=>f e.symm)];exact c t v g b
   |loc u o=>
    unfold cV;cases i:Nat.beq u d with
    |false=>
     rcases bO a with⟨rfl,rfl⟩|⟨f,g⟩
     .simp[bM]
     .simp only[atV];rw[bM,asu (λe=>f e.symm)];exact c t v g b
    |true=>
     have:=asy i;subst this;rcases bO a with⟨rfl,rfl⟩|⟨f,g⟩
     .exact absurd W (b o)
     .simp only[as3];rw[bM,asu (λe=>f e.symm)];exact c t v g b
 intro t v a;exact this sl t v a (λo b=>h t o (by rw[a,b]))
def IS[b:yj X.P T cs](c:Nat.blt d X.n=true)(k:TF X ops rest ⟨(d,.loc d 0)::sl,(d,cs)::bx,H⟩ λa b=>post (⟨some d,.loc d 0,[],[(d,cs)],some d,false,none⟩::a) b):
  TF X ops (⟨some d,.alloc T,ty,pos,af,none⟩::rest) ⟨sl,bx,H⟩ post:=by
 refine TF.cons (e:=⟨some d,.loc d 0,[],[(d,cs)],some d,false,none⟩) ?_ W k;intro f h;obtain⟨z,x,i⟩:=b.h;subst i;have j:=(AE (X:=X) (st:=f) (d:=d) (T:=T) (ty:=ty) (pos:=pos) (af:=af) (g:=none)).Hg (ops:=ops) W W (bN c);intro a w l K Q m;refine j a w l K Q λn o p=>m n o ?_
 have q:=wu (h.nw d W);refine p.oh (λt v r=>?_) (λ_=>rfl);rcases bO r with⟨rfl,rfl⟩|⟨s,u⟩
 .simp[bM]
 .rw[bM,asu (λe=>s e.symm)];exact q t v u
def iI{n:Nat}{a:List M}{m:M}[l:bY X.P T n](b:bh sl x=some (.loc t off))(c:bh sl y=some (.m m))(d:get bx t=some cs)(f:iB m=some a)
  (g:Nat.beq a.length n=true) (h:wr cs off a=some Pb) (k:TF X ops rest ⟨sl,(t,Pb)::bx,H⟩ λa b=>post (⟨none,.m .undef,[],[(t,Pb)],none,false,none⟩::a) b):TF X ops (⟨none,.store T x y,ty,pos,af,none⟩::rest) ⟨sl,bx,H⟩ post:=by
 obtain⟨i,j⟩:=cW f;subst i;exact TF.cons (e:=⟨none,.m .undef,[],[(t,Pb)],none,false,none⟩) (lB.writes W W λa a=>ye ((a.ev (x:=x) (by simp[Op.operands])).trans b) ((a.ev (x:=y) (by simp[Op.operands])).trans c) ((a.bx t (by simp)).trans d) (asy g) j (sJ h)) W k
end rules
end Go.Mt
namespace Go.Mt
variable{X:bW}{σ:Sg}{OC:Nat->Nat}{st:St}{a:Act}{ob:Ob}
def cC.heap{τ:Sg}(hi:cC X σ OC st a)(b:dI σ τ)(d:kQ τ (ou X.j_ OC st.bx))
  (e:∀t b,get st.bx t=some b->τ.w.heap[OC t]?=σ.w.heap[OC t]?) (f:bF σ τ):cC X τ OC ⟨st.sl,st.bx,τ.H⟩ a:=
 ⟨rfl,hi.defers,hi.size,λt v c=>let⟨u,g,h⟩:=hi.slot t v c;⟨u,g,h.mono b⟩,λt c h=>(hi.box t c h).cH b (λx b=>by rw[e t c h];exact b),hi.rU,hi.sC,hi.sD,d,hi.mono.trans b,hi.cy.trans f⟩
def cC.Mu(hi:cC X σ OC st a){t:Nat}{cs:List M}(h:get st.bx t=some cs){i:Nat}(c:σ.H[i]?=some ob)(d:ob.live):OC t≠σ.l i:=
 λe=>qZ hi.hinv (b:=OC t) (.inr ⟨t,cs,h,rfl⟩) i ob c d e.symm
def cC.newObj(hi:cC X σ OC st a)(ob:Ob)(x:Obj)
  (C:∀τ:Sg,dI σ τ->τ.w={σ.w with heap:=σ.w.heap.push x} ->gM τ σ.w.heap.size ob):
  ∃τ:Sg,τ.w={σ.w with heap:=σ.w.heap.push x} /\τ.l σ.H.length=σ.w.heap.size/\τ.H=st.H++[ob]/\dI σ τ/\cC X τ OC ⟨st.sl,st.bx,st.H++[ob]⟩ a:=by
 let b:=σ.w.heap.size
 let r:World:={σ.w with heap:=σ.w.heap.push x}
 let g:Nat->Nat:= λi=>if i=σ.H.length then b else σ.l i
 let τ:Sg:=⟨r,λc o=>σ.O c o\/(c=b/\ob.jX o),g,σ.H++[ob]⟩
 have k:gg σ.w r:=gg.alloc _ _;have f:∀(i:Nat) o,σ.H[i]?=some o->(σ.H++[ob])[i]?=some o/\g i=σ.l i:=by
  intro i o h;have p:i<σ.H.length:=by rcases asp i σ.H.length with m|m;exact m;simp[asr m]at h
  exact⟨by rw[asl p];exact h,by simp[g,show i≠σ.H.length by omega]⟩
 have l:∀(i:Nat) o,(σ.H++[ob])[i]?=some o->(σ.H[i]?=some o/\g i=σ.l i)\/(i=σ.H.length/\o=ob):=by
  intro i o h;rcases asp i σ.H.length with m|m
  .rw[asl m]at h;exact .inl ⟨h,(f i o h).2⟩
  .rw[ass m]at h;have:i-σ.H.length=0:=by
    rcases asR (i-σ.H.length)with n|n
    .exact n
    .rw[asr (by simp;omega)]at h;cases h
   rw[this]at h;simp at h;exact .inr ⟨by omega,h.symm⟩
 have q:dI σ τ:=by
  refine⟨λc o v e d=>⟨k.cell e,?_⟩,λi d h=>⟨⟨d,(f i _ h).1⟩,(f i _ h).2⟩,λi d h=>⟨⟨d,(f i _ h).1⟩,(f i _ h).2⟩,λi d h=>⟨⟨d,(f i _ h).1⟩,(f i _ h).2⟩,λi h=>(f i _ h).1,
   λi g e e d h=>.inr ⟨g,e,d,(f i _ h).1,asj _,λ_=>⟨(f i _ h).2,rfl,λd T e=>⟨d,k.heap e,rfl⟩⟩⟩,λi h=>⟨_,(f i _ h).1⟩⟩
  rintro(m|⟨m,_⟩)
  .exact d m
  .have:=l9 e;omega
 have p:∀(i:Nat) o,σ.H[i]?=some o->o.live->σ.l i<b:= λi o e d=>(hi.hinv.obj i o e).lt d
 have D:gM τ b ob:=C τ q W;have j:g σ.H.length=b:=by simp[g]
 have F:kQ τ (ou X.j_ OC st.bx):=by
  refine⟨?_,?_,?_,?_,λc o h=>atm (hi.hinv.mE c o h) k.size⟩
  .intro i o h;rcases l i o h with⟨e,d⟩|⟨rfl,rfl⟩
   .show gM τ (g i) o;rw[d];exact(hi.hinv.obj i o e).cH q λx d=>k.heap d
   .show gM τ (g _) o;rw[j];exact D
  .intro i n x y e d s t m;change g i=g n at m;rcases l i x e with⟨u,w⟩|⟨rfl,rfl⟩<;>rcases l n y d with⟨z,A⟩|⟨rfl,rfl⟩
   .rw[w,A]at m;exact hi.hinv.inj i n x y u z s t m
   .rw[w,j]at m;have:=p i x u s;omega
   .rw[A,j]at m;have:=p n y z t;omega
   .rfl
  .intro c o;show(σ.O c o\/(c=b/\ob.jX o))↔_;rw[hi.hinv.own];constructor
   .rintro((h|⟨i,x,e,d,m⟩)|⟨rfl,d⟩)
    .exact .inl h
    .exact .inr ⟨i,x,(f i x e).1,(by show g i=c;rw[(f i x e).2];exact d),m⟩
    .exact .inr ⟨σ.H.length,ob,by simp[τ],j,d⟩
   .rintro(h|⟨i,x,e,d,m⟩)
    .exact .inl (.inl h)
    .rcases l i x e with⟨n,s⟩|⟨rfl,rfl⟩
     .exact .inl (.inr ⟨i,x,n,by rw[<-s];exact d,m⟩)
     .exact .inr ⟨by rw[<-d];exact j,m⟩
  .intro i o e d n m;rcases l i o e with⟨t,u⟩|⟨rfl,rfl⟩
   .exact hi.hinv.sep i o t d n (by rw[<-u];exact m)
   .have s:ou X.j_ OC st.bx b n:=by rw[<-j];exact m
    have:=hi.hinv.mE _ _ s;exact Nat.lt_irrefl _ this
 have E:bF σ τ:=by
  refine⟨W,W,W,k.size,λc s _=>k.cy c s,?_⟩;intro i o e d;rcases l i o e with⟨m,n⟩|⟨rfl,rfl⟩
  .exact .inr ⟨o,m,d,n⟩
  .exact .inl (by show _<=g _;rw[j];exact asj _)
 have B:τ.H=st.H++[ob]:=by show σ.H++[ob]=_;rw[hi.hH]
 refine⟨τ,W,j,B,q,?_⟩;have:=hi.heap q F (λt d h=>k.cy _ ((hi.box t d h).lt trivial)) E;rw[B]at this;exact this
def turns(a d:Prop):Ob->Ob->Prop
 |.box _,.box _=>a
 |.map _,.map _=>a
 |.iter _,.iter _=>a
 |.row _ _ _ _,.dead=>True
 |.row _ e b f,.row _ g c h=>g=e/\(b<c\/(c=b/\h.length=f.length/\a/\d))
 |_,_=>False
def cC.ra(hi:cC X σ OC st a){j b':Nat}{PA:Ob}{w':World}(N:st.H[j]?=some ob)(r:ob.live)
  (Y:w'.os=σ.w.os) (O:w'.output=σ.w.output) (Z:w'.tape=σ.w.tape) (L:σ.w.heap.size<=w'.heap.size)
  (y:∀c,c<σ.w.heap.size->c≠σ.l j->w'.heap[c]?=σ.w.heap[c]?) (b:b'=σ.l j\/σ.w.heap.size<=b')
  (P:∀o v,¬ob.jX o->dZ σ.w (σ.l j) o=some v->dZ w' (σ.l j) o=some v/\(b'=σ.l j->¬PA.jX o))
  (q:turns (b'=σ.l j) (∀C T,σ.w.heap[σ.l j]?=some (.cells C T (0,0))->∃b,w'.heap[σ.l j]?=some (.cells b T (0,0))/\b.size=C.size) ob PA)
  (Q:∀τ:Sg,dI σ τ->τ.w=w'->τ.l j=b'->τ.H=st.H.set j PA->gM τ b' PA):
  ∃τ:Sg,τ.w=w'/\τ.l j=b'/\τ.H=st.H.set j PA/\dI σ τ/\cC X τ OC ⟨st.sl,st.bx,st.H.set j PA⟩ a:=by
 have M:=hi.hH;have l:σ.H[j]?=some ob:=by rw[M];exact N
 have R:j<σ.H.length:=by rcases asp j σ.H.length with h|h;exact h;simp[asr h]at l
 let g:Nat->Nat:= λi=>if i=j then b' else σ.l i
 let t:=σ.H.set j PA
 let z:=ou X.j_ OC st.bx
 let τ:Sg:=⟨w',λc o=>z c o\/∃(i:Nat) (x:Ob),t[i]?=some x/\g i=c/\x.jX o,g,t⟩
 have n:∀(i:Nat) x,i≠j->σ.H[i]?=some x->t[i]?=some x/\g i=σ.l i:=by
  intro i x o h;exact⟨by show(σ.H.set j PA)[i]?=_;rw[asv (atf o)];exact h,by simp[g,o]⟩
 have f:t[j]?=some PA/\g j=b':=⟨by show(σ.H.set j PA)[j]?=_;simp[R],by simp[g]⟩;have u:∀(i:Nat) x,t[i]?=some x->(i≠j/\σ.H[i]?=some x/\g i=σ.l i)\/(i=j/\x=PA):=by
  intro i x h;by_cases e:i=j
  .subst e;rw[f.1]at h;injection h with h;exact .inr ⟨W,h.symm⟩
  .have:σ.H[i]?=some x:=by
    have d:(σ.H.set j PA)[i]?=some x:=h;rw[asv (atf e)]at d;exact d
   exact .inl ⟨e,this,(n i x e this).2⟩
 have A:∀(i:Nat) o,σ.H[i]?=some o->o.live->σ.l i<σ.w.heap.size:= λi o m d=>(hi.hinv.obj i o m).lt d
 have co:=A j ob l r;have D:∀(i:Nat) x,i≠j->σ.H[i]?=some x->x.live->σ.l i≠σ.l j:= λi x e m d k=>e (hi.hinv.inj i j x ob m l d r k)
 have E:dI σ τ:=by
  refine⟨?_,?_,?_,?_,?_,?_,?_⟩
  .intro c o v m d;have G:=l9 m;have F:(c≠σ.l j\/(b'=σ.l j->¬PA.jX o))->¬(z c o\/∃(i:Nat) (x:Ob),t[i]?=some x/\g i=c/\x.jX o):=by
    rintro s (k|⟨i,x,k,w,B⟩)
    .exact d ((hi.hinv.own c o).2 (.inl k))
    .rcases u i x k with⟨e,I,J⟩|⟨rfl,rfl⟩
     .exact d ((hi.hinv.own c o).2 (.inr ⟨i,x,I,by rw[<-J];exact w,B⟩))
     .rw[f.2]at w;rcases b with b|b
      .rcases s with s|s
       .exact s (by rw[<-w];exact b)
       .exact s b B
      .omega
   by_cases e:c=σ.l j
   .subst e;have w:¬ob.jX o:= λh=>d ((hi.hinv.own _ o).2 (.inr ⟨j,ob,l,rfl,h⟩))
    obtain⟨k,s⟩:=P o v w m;exact⟨k,F (.inr s)⟩
   .exact⟨by rw[nc (y c G e)];exact m,F (.inl e)⟩
  .intro i p h;by_cases e:i=j
   .subst e;rw[l]at h;injection h with h;subst h
    cases PA with
    |box s=>exact⟨⟨s,f.1⟩,by show g i=_;rw[f.2];exact q⟩
    |_=>exact q.elim
   .exact⟨⟨p,(n i _ e h).1⟩,(n i _ e h).2⟩
  .intro i p h;by_cases e:i=j
   .subst e;rw[l]at h;injection h with h;subst h
    cases PA with
    |map s=>exact⟨⟨s,f.1⟩,by show g i=_;rw[f.2];exact q⟩
    |_=>exact q.elim
   .exact⟨⟨p,(n i _ e h).1⟩,(n i _ e h).2⟩
  .intro i p h;by_cases e:i=j
   .subst e;rw[l]at h;injection h with h;subst h
    cases PA with
    |iter s=>exact⟨⟨s,f.1⟩,by show g i=_;rw[f.2];exact q⟩
    |_=>exact q.elim
   .exact⟨⟨p,(n i _ e h).1⟩,(n i _ e h).2⟩
  .intro i h;by_cases e:i=j
   .subst e;rw[l]at h;injection h with h;subst h;exact r.elim
   .exact(n i _ e h).1
  .intro i K U F p h;by_cases e:i=j
   .subst e;rw[l]at h;injection h with h;subst h
    cases PA with
    |dead=>exact .inl f.1
    |row G X7 I B=>
     obtain⟨J,d⟩:=q;subst J;refine .inr ⟨G,I,B,f.1,?_,?_⟩
     .rcases d with d|⟨d,_⟩<;>omega
     .intro hv;rcases d with d|⟨_,k,s,w⟩
      .omega
      .exact⟨by show g i=_;rw[f.2];exact s,k,w⟩
    |_=>exact q.elim
   .refine .inr ⟨K,F,p,(n i _ e h).1,asj _,λ_=>⟨(n i _ e h).2,rfl,λC T s=>⟨C,?_,rfl⟩⟩⟩;show w'.heap[σ.l i]?=_;rw[y _ (A i _ h trivial) (D i _ e h trivial)];exact s
  .intro i h;by_cases e:i=j
   .subst e;exact⟨_,f.1⟩
   .exact⟨_,(n i _ e h).1⟩
 have H:τ.H=st.H.set j PA:=by show σ.H.set j PA=_;rw[M]
 have S:gM τ b' PA:=Q τ E W f.2 H;have ac:∀o,¬z (σ.l j) o:= λo=>hi.hinv.sep j ob l r o
 have ah:kQ τ z:=by
  refine⟨?_,?_,λc o=>atn,?_,λc o h=>atm (hi.hinv.mE c o h) L⟩
  .intro i x h;rcases u i x h with⟨e,s,B⟩|⟨rfl,rfl⟩
   .show gM τ (g i) x;rw[B];by_cases w:x.live
    .refine(hi.hinv.obj i x s).cH E λG F=>?_
     show w'.heap[_]?=_;rw[y _ (A i x s w) (D i x e s w)];exact F
    .cases x<;>first|trivial|exact(w trivial).elim
   .show gM τ (g i) x;rw[f.2];exact S
  .intro i w x B m d k F s;change g i=g w at s;rcases u i x m with⟨e,G,J⟩|⟨rfl,rfl⟩<;>rcases u w B d with⟨U,I,K⟩|⟨rfl,rfl⟩
   .rw[J,K]at s;exact hi.hinv.inj i w x B G I k F s
   .rw[J,f.2]at s;rcases b with b|b
    .exact absurd (s.trans b) (D i x e G k)
    .have:=A i x G k;omega
   .rw[K,f.2]at s;rcases b with b|b
    .exact absurd (s.symm.trans b) (D w B U I F)
    .have:=A w B I F;omega
   .rfl
  .intro i x m d o k;rcases u i x m with⟨e,w,B⟩|⟨rfl,rfl⟩
   .exact hi.hinv.sep i x w d o (by rw[<-B];exact k)
   .have s:z b' o:=by rw[<-f.2];exact k
    rcases b with b|b
    .exact ac o (by rw[<-b];exact s)
    .have:=hi.hinv.mE _ _ s;omega
 have V:bF σ τ:=by
  refine⟨Y,O,Z,L,λc s F=>y c s (λe=>F j ob l r e.symm),?_⟩;intro i x m d;rcases u i x m with⟨e,w,B⟩|⟨rfl,rfl⟩
  .exact .inr ⟨x,w,d,B⟩
  .rcases b with b|b
   .exact .inr ⟨ob,l,r,by show g i=_;rw[f.2];exact b⟩
   .exact .inl (by show _<=g i;rw[f.2];exact b)
 refine⟨τ,W,f.2,H,E,?_⟩;have:=hi.heap E ah (λt p h=>y _ ((hi.box t p h).lt trivial) (hi.Mu h l r)) V;rw[H]at this;exact this
end Go.Mt
namespace Go.Mt
variable{T off i aK ec n t e j len:Nat}{x y:Operand}{cs OS:List M}{m:M}{acc:Bool}
section ops
variable{X:bW}{st:St}{dst:Option Nat}{ty:Nat}{pos:String}{af:Array Edge}{g:Option (Nat×Bool)}
def C3(e:st.ev x=some (.m m))(f:m.iK=true):
  cL X ⟨dst,.box T x,ty,pos,af,g⟩ st (du (.m (.ref st.H.length 0)) ⟨st.sl,st.bx,st.H++[.box (cellsOf m)]⟩):=by
 intro c a i b;have h:=b.ev e;cases h with
 |m h=>
  have j:=h.cells f;obtain⟨d,k,l,n,r,o⟩:=b.newObj (.box (cellsOf m)) (.cells (c.eval x).cells T (0,0)) (by
   intro d p q;exact⟨_,T,by rw[q];simp,j.mono p⟩)
  refine dG.value (u:=.pointer (some ⟨a.w.heap.size,0,none⟩)) (w':={a.w with heap:=a.w.heap.push (.cells (c.eval x).cells T (0,0))}) ?_ ⟨_,_,d,i,⟨rfl,rfl⟩,k,o,?_⟩
  .simp[execOp,Instr.box,newVar,newRow,newObj,Sem.run]
  .rw[<-l,b.hH];exact .m (.ref _ 0 (cellsOf m) (by rw[n];simp))
def EI{z:D}[d:xC X.P T z]:
  cL X ⟨dst,.alloc T,ty,pos,af,g⟩ st (du (.m (.ref st.H.length 0)) ⟨st.sl,st.bx,st.H++[.box ((bg z).map .d)]⟩):=by
 intro q a e c;obtain⟨v,f,h⟩:=d.run;have i:RM a (.d z) v:=.d (ff h);have j:kV a ((bg z).map .d) v.cells:=i.cells W;obtain⟨b,k,l,m,r,n⟩:=c.newObj (.box ((bg z).map .d)) (.cells v.cells T (0,0)) (by
  intro b o p;exact⟨_,T,by rw[p];simp,j.mono o⟩)
 refine dG.value (u:=.pointer (some ⟨a.w.heap.size,0,none⟩)) (w':={a.w with heap:=a.w.heap.push (.cells v.cells T (0,0))}) ?_ ⟨_,_,b,e,⟨rfl,rfl⟩,k,n,?_⟩
 .simp[execOp,Instr.alloc,f,newVar,newRow,newObj,Sem.run]
 .rw[<-l,c.hH];exact .m (.ref _ 0 ((bg z).map .d) (by rw[m];simp))
def C4:
  cL X ⟨dst,.makeMap T none,ty,pos,af,g⟩ st (du (.m (.mp st.H.length)) ⟨st.sl,st.bx,st.H++[.map []]⟩):=by
 intro k a d c;obtain⟨b,e,f,h,l,i⟩:=c.newObj (.map []) (.map #[] 0) (by
  intro b m j;exact⟨#[],0,by rw[j];simp,rfl,by simp⟩)
 refine dG.value (u:=.map (some a.w.heap.size)) (w':={a.w with heap:=a.w.heap.push (.map #[] 0)}) ?_ ⟨_,_,b,d,⟨rfl,rfl⟩,e,i,?_⟩
 .simp[execOp,Instr.makeMap,newObj,Sem.run]
 .rw[<-f,c.hH];exact .m (.mp _ [] (by rw[h];simp))
def lQ(d:st.ev x=some (.m (.ref i off)))(e:st.H[i]?=some (.box cs))(f:gS X.P T cs off=some m):
  cL X ⟨dst,.load T x,ty,pos,af,g⟩ st (du (.m m) st):=by
 refine OM λc o p a=>?_
 have h:=a.ev d;generalize j:c.eval x=u at h;cases h with
 |m h=>cases h with
  |ref i off q r=>
   obtain⟨s,t,k,b⟩:=a.hinv.obj i (.box cs) (by rw[a.hH];exact e);obtain⟨v,l,n⟩:=oW f k (by rw[b.1];exact asj _) b.2;exact⟨v,by simp[execOp,j,Instr.loadAt,Instr.sureAddr,l],.m n⟩
def AH(f:st.ev x=some (.m (.et i aK off)))(j:st.H[i]?=some (.row acc ec aK cs))(k:gS X.P T cs off=some m):
  cL X ⟨dst,.load T x,ty,pos,af,g⟩ st (du (.m m) st):=by
 refine OM λd e A a=>?_
 have h:=a.ev f;generalize l:d.eval x=y at h;cases h with
 |m h=>cases h with
  |et i aK off b D n=>
   have c:e.H[i]?=some (.row acc ec aK cs):=by rw[a.hH];exact j
   have o:=n acc ec cs c;subst o;obtain⟨_,B,C,E,z,p,q,r,⟨s,_⟩,t⟩:=a.hinv.obj i _ c;obtain⟨v,u,w⟩:=oW k p (by rw[q,s];exact as5 _ r) t;exact⟨v,by simp[execOp,l,Instr.loadAt,Instr.sureAddr,u],.m w⟩
def uE[s:bY X.P T n](u:st.ev x=some (.m (.ref i off)))(w:st.ev y=some (.m m))(o:st.H[i]?=some (.box cs))
  (z:(cellsOf m).length=n) (A:m.iK=true) (f:dV cs off (cellsOf m)=some OS):
  cL X ⟨dst,.store T x y,ty,pos,af,g⟩ st (du (.m .undef) ⟨st.sl,st.bx,st.H.set i (.box OS)⟩):=by
 intro e d B b;have h:=b.ev u;have k:=b.ev w;generalize C:e.eval x=N at h;cases h with
 |m h=>cases h with
  |ref i off O Q=>
   cases k with
   |m k=>
    have D:d.H[i]?=some (.box cs):=by rw[b.hH];exact o
    obtain⟨E,p,q,r⟩:=b.hinv.obj i _ D;have a:=k.cells A;obtain⟨F,G,R⟩:=r.write a f;have H:(e.eval y).cells.size=n:=by rw[a.1,z]
    have I:=p8 (P:=X.P) (t:=T) (off:=off) q (by rw[s.size,H]) (by rw[r.1,a.1];exact G) a.flat;have J:=gj q;obtain⟨l,K,S,U,V,L⟩:=b.ra (j:=i) (b':=d.l i) (ob:=.box cs) (PA:=.box OS) (w':=c8 d.w (d.l i) (.cells (eu E off (e.eval y).cells.toList) p (0,0))) o trivial W W W (by rw[kB];exact asj _)
     (λc _ a=>jv a) (.inl W) (λo v a=>(a trivial).elim) W (by
      intro l M f _ _;exact⟨_,p,by rw[f];exact gm J,F.mono M⟩)
    refine dG.skip (by simp only[execOp,C,Instr.storeAt,Instr.sureAddr];simp[I];rfl) ?_;exact⟨.m .undef,_,l,B,⟨W,W⟩,K,L,.m (.undef _)⟩
def EJ{σ:Sg}{d:List M}{b:Array Value}{e:Array Value}(r:cs.length<=b.size)(h:∀(i:Nat) (m:M) (v:Value),cs[i]?=some m->b[i]?=some v->RM σ m v/\flat v=true)
  (f:kV σ d e) (j:dV cs off d=some OS):
  (∀(i:Nat) (m:M) (v:Value),OS[i]?=some m->(eu b off e.toList)[i]?=some v->RM σ m v/\flat v=true)/\off+d.length<=cs.length/\OS.length=cs.length:=by
 have o:kV σ cs (b.extract 0 cs.length):=by
  refine⟨by simp;omega,λi m v c a=>?_⟩;rw[atI]at a;split at a
  .simp at a;exact h i m v c a
  .cases a
 obtain⟨k,l,g⟩:=o.write f j;refine⟨λi m v c a=>?_,l,g⟩;have p:i<cs.length:=by rw[<-g];rcases asp i OS.length with h|h;exact h;simp[asr h]at c
 refine k.2 i m v c ?_;have q:=f.1;rw[ng _ _ _ _ (by simp;omega)]at a⊢;split
 .rename_i n;rw[asB n]at a;exact a
 .rename_i n;rw[asu n]at a;rw[atI,asB (by omega)];simpa using a
def yn[F:bY X.P T n](G:st.ev x=some (.m (.et i aK off)))(H:st.ev y=some (.m m))(r:st.H[i]?=some (.row false ec aK cs))
  (I:(cellsOf m).length=n) (J:m.iK=true) (l:dV cs off (cellsOf m)=some OS):
  cL X ⟨dst,.store T x y,ty,pos,af,g⟩ st (du (.m .undef) ⟨st.sl,st.bx,st.H.set i (.row false ec aK OS)⟩):=by
 intro a f K e;have h:=e.ev G;have o:=e.ev H;generalize L:a.eval x=co at h;cases h with
 |m h=>cases h with
  |et i aK off b d6 M=>
   cases o with
   |m o=>
    have s:f.H[i]?=some (.row false ec aK cs):=by rw[e.hH];exact r
    have N:=M false ec cs s;subst N;obtain⟨O,u,w,ac,Q,p,z,A,⟨B,R⟩,S⟩:=e.hinv.obj i _ s;have d:=o.cells J;have ah:cs.length<=u.size:=by rw[z,B];exact as5 _ A
    obtain⟨C,k2,D⟩:=EJ ah S d l;have U:(a.eval y).cells.size=n:=by rw[d.1,I]
    have V:=p8 (P:=X.P) (t:=T) (off:=off) p (by rw[F.size,U]) (by rw[d.1];omega) d.flat;have E:=gj p;obtain⟨q,Y,g2,g3,g4,Z⟩:=e.ra (j:=i) (b':=f.l i) (ob:=.row false ec aK cs) (PA:=.row false ec aK OS) (w':=c8 f.w (f.l i) (.cells (eu u off (a.eval y).cells.toList) w (0,0))) r trivial W W W (by rw[kB];exact asj _)
     (λc _ d=>jv d) (.inl W) (λo v a=>(a (.inl W)).elim) ⟨rfl,.inr ⟨rfl,D,rfl,λar T' k=>by
      rw[p]at k;injection k with k;injection k with e1 e2;subst e1;subst e2
      exact⟨_,gm E,gr _ _ _⟩⟩⟩ (by
      intro q k l _ _;exact⟨O,_,w,ac,Q,by rw[l];exact gm E,by rw[gr];exact z,A,⟨by rw[D];exact B,R⟩,λi m v a b=>⟨(C i m v a b).1.mono k,(C i m v a b).2⟩⟩)
    refine dG.skip (by simp only[execOp,L,Instr.storeAt,Instr.sureAddr];simp[V];rfl) ?_;exact⟨.m .undef,_,q,K,⟨W,W⟩,Y,Z,.m (.undef _)⟩
def yo{k:IntKind}{i:Int}[ht:aU X.P t e][d:bY X.P e ec](f:st.ev x=some (.m (.bC j aK len)))(l:st.ev y=some (.m (.d (.int k i))))
  (n:st.H[j]?=some (.row acc ec aK cs)) (o:0<=i) (p:i<len):
  cL X ⟨dst,.indexAddr t x y,ty,pos,af,g⟩ st (du (.m (.et j aK (i.toNat*ec))) st):=by
 refine OM λc b A a=>?_
 have h:=a.ev f;have q:=a.kW l;generalize r:c.eval x=z at h;cases h with
 |m h=>cases h with
  |bC j aK len B H w s=>
   have u:b.H[j]?=some (.row acc ec aK cs):=by rw[a.hH];exact n
   obtain⟨v,C,D,E,F,G⟩:=s acc ec cs u;subst v;refine⟨.pointer (some ⟨b.l j,i.toNat*ec,none⟩),?_,.m (.et j aK _ _ w λ_ _ _ _=>rfl)⟩;simp[execOp,r,q,Instr.indexAt,asIntOf,underlying,program,Sem.run,ht.u,dt d.size,o,p,lO]
def IT[ht:aU X.P t e](b:st.ev x=some (.m (.bC j aK len))):
  cL X ⟨dst,.call ⟨.builtin .len,#[x],#[t]⟩,ty,pos,af,g⟩ st (du (.m (.d (.int .i64 len))) st):=by
 refine OM λa f i c=>?_
 have h:=c.ev b;generalize d:a.eval x=u at h;refine⟨.int .i64 len,?_,.m (.d (.int _ _))⟩;cases h with
 |m h=>cases h with
  |bC j aK len k n o l=>
   simp[execOp,resolve,invoke,builtin,Builtin.len_,underlying,program,Sem.run,ht.u,d,goInt]
end ops
end Go.Mt
namespace Go.Mt
variable{n b:Nat}{P:Program}{w:World}
def yp(a:Nat)(h:256<=a):∀r c,256<=c->c<=2*a->Builtin.growBy a r c<=2*a
 |0,c,_,b=>b
 |r+1,c,d,b=>by
  unfold Builtin.growBy;split
  .exact b
  .exact yp a h r _ (by omega) (by omega)
def sP{R3 cap:Nat}(h:cap<R3):Builtin.nextslicecap R3 cap<=2*R3:=by
 unfold Builtin.nextslicecap;split
 .omega
 .split
  .omega
  .exact yp R3 (by omega) 4 cap (by omega) (by omega)
def iW(h:Array Obj)(x:Obj):(h.push x)[h.size]?=some x:=by simp
def vo{b:Type}{l:List b}{j:Nat}{x y:b}(h:l[j]?=some x):(l.set j y)[j]?=some y:=by
 have:j<l.length:=by rcases asp j l.length with a|a;exact a;simp[asr a]at h
 simp[this]
def lr(z:Array Value)(n:Nat):(Builtin.zeroCells z n).size=n*z.size:=by simp[Builtin.zeroCells]
def gL.firstCells{O:Nat->Nat->Prop}{w:World}{rows:List (List D)}{v:Value}(e:0<n)(h:gL O w (.sl rows) v)(q:∀r∈rows,r.length=n):
  ∃c:Array Value,(∀w':World,(Builtin.lenOf v).run P w'=.ok rows.length w')/\(∀w':World,w'.heap=w.heap->(Builtin.firstCells n rows.length v).run P w'=.ok c w')/\c.size=rows.length*n/\
   ∀(i j:Nat) r d,rows[i]?=some r->r[j]?=some d->∃u,c[i*n+j]?=some u/\gL O w d u/\flat u=true:=by
 cases h with
 |slnil a=>
  cases a with
  |none=>exact⟨#[],λ_=>by simp[Builtin.lenOf],λ_ _=>by simp[Builtin.firstCells],by simp,by simp⟩
  |some a=>exact⟨#[],λ_=>by simp[Builtin.lenOf],λ_ _=>by simp[Builtin.firstCells,loadCells,loadCellsFrom],by simp,by simp⟩
 |sl rows b F I a val s G H l t x y=>
  have E:a=n:=by
   cases rows with
   |nil=>exact absurd W s
   |cons r f=>rw[<-l r (by simp)];exact q r (by simp)
  subst E
  let c:Array Value:=((List.range (rows.length*a)).map λk=>val (k/a) (k%a)).toArray
  have m:c.size=rows.length*a:=by simp[c]
  have z:∀k,k<rows.length*a->k/a<rows.length/\k%a<a/\k/a*a+k%a=k:=by
   intro k f;refine⟨(Nat.div_lt_iff_lt_mul e).2 f,atY _ e,?_⟩;have:=Nat.div_add_mod k a;rw[ava]at this;exact this
  refine⟨c,λ_=>by simp[Builtin.lenOf],?_,m,?_⟩
  .intro w' g;simp only[Builtin.firstCells,loadCells];refine kg _ 0 _ (by omega) (by simp) ?_;intro k f;rw[m]at f;obtain⟨o,p,A⟩:=z k f;have:c.getD k undef=val (k/a) (k%a):=by simp[c,f]
   rw[this];have:=(t _ _ o p).1;rw[A]at this;rw[nc (w:=w) (by rw[g])];exact this
  .intro i j r d f o;have p:i<rows.length:=by rcases asp i rows.length with h|h;exact h;simp[asr h]at f
   have g:j<a:=by
    rw[<-l r (asn f)];rcases asp j r.length with h|h;exact h;simp[asr h]at o
   have A:i*a+j<rows.length*a:=by
    calc i*a+j<i*a+a:=by omega
     _=(i+1)*a:=by rw[atT]
     _<=rows.length*a:=as5 _ p
   refine⟨val i j,?_,y i j r d f o,x i j p g⟩;have B:(i*a+j)/a=i:=by rw[ava,Nat.mul_add_div e,Nat.div_eq_of_lt g];omega
   have C:(i*a+j)%a=j:=by rw[ava,Nat.mul_add_mod,auP g]
   simp[c,A,B,C]
def aY(rows:List (List D)):List M:=(rows.map λr=>r.map M.d).flatten
def uh{n:Nat} :∀{rows:List (List D)},(∀r∈rows,r.length=n)->(aY rows).length=rows.length*n
 |[],_=>by simp[aY]
 |r::a,h=>by
  have:=uh (n:=n) (rows:=a) (λr a=>h r (by simp[a]));unfold aY at*;simp only[asT,List.flatten_cons,asq,asD,this,h r (by simp),asO,atT];omega
def yq(f:0<n):∀{rows:List (List D)} {k:Nat} {m:M},(∀r∈rows,r.length=n)->(aY rows)[k]?=some m->∃i j r d,k=i*n+j/\rows[i]?=some r/\r[j]?=some d/\m=.d d
 |[],k,m,_,h=>by simp[aY]at h
 |r::g,k,m,e,h=>by
  have b:r.length=n:=e r (by simp);have a:((r.map M.d)++aY g)[k]?=some m:=by simpa [aY] using h
  rcases asp k n with c|c
  .rw[asl (by simp[b,c])]at a;simp only[asF,as0]at a;obtain⟨d,l,rfl⟩:=a;exact⟨0,k,r,d,by simp,by simp,l,rfl⟩
  .rw[ass (by simp[b,c])]at a;simp only[asD,b]at a;obtain⟨i,j,l,d,s,o,p,q⟩:=yq f (λr b=>e r (by simp[b])) a;exact⟨i+1,j,l,d,by rw[atT];omega,by simpa using o,p,q⟩
class jR(P:Program)(t:Nat)(n:outParam Nat):Prop where
 bytes:u9 P t=some n
def rc{t:Nat}(h:fT P t=some n)(a:u9 P t=some b):∃i:TypeInfo,P.info? t=some i/\i.size=n/\i.bytes=b:=by
 unfold fT at h;unfold u9 at a;cases c:P.info? t with
 |none=>simp[c]at h
 |some i=>simp[c]at h a;exact⟨i,W,h,a⟩
section ops
variable{X:bW}{st:St}{dst:Option Nat}{ty:Nat}{pos:String}{af:Array Edge}{g:Option (Nat×Bool)}
def vq{k T:Nat}{a:Array Value}{c:Nat×Nat}(h:w.heap[b]?=some (.cells a T c))(d:k<=a.size):(loadCells ⟨b,0,none⟩ k).run P w=.ok (a.extract 0 k) w:=by
 unfold loadCells;have c:(a.extract 0 k).size=k:=by simp;omega
 refine kg k 0 _ (by omega) (by simp) ?_;intro i d;rw[c]at d;have c:i<a.size:=by omega
 have d:i<min k a.size:=by omega
 simp[dZ,World.cell?,h,c,d]
end ops
end Go.Mt
namespace Go.Mt
section agu
variable{X:bW}{sl:List (Nat×V)}{bx:List (Nat×List M)}{H:Hp}
end agu
def KI(a b:ByteArray):(a==b)=decide (a=b):=by
 cases a with
 |mk a=>
 cases b with
 |mk b=>
 have:((ByteArray.mk a)==(ByteArray.mk b))=(a==b):=rfl;rw[this];by_cases h:a=b
 .subst h;simp
 .simp[h]
section ops
variable{X:bW}{st:St}{dst:Option Nat}{ty:Nat}{pos:String}{af:Array Edge}{g:Option (Nat×Bool)}
class lC(P:Program)(t:Nat)(k:outParam IntKind):Prop where
 u:P.underlying t=some (.int k)
def ww{s t:Nat}{x:Operand}{k k' a:IntKind}{n:Int}[b:lC X.P s a][ht:lC X.P t k'](c:st.ev x=some (.m (.d (.int k n)))):
  cL X ⟨dst,.convert s t x,ty,pos,af,g⟩ st (du (.m (.d (.int k' (k'.wrap n)))) st):=by
 refine OM λd e f a=>?_
 exact⟨.int k' (k'.wrap n),by simp[execOp,convert,underlying,program,Sem.run,b.u,ht.u,a.kW c,Conv.intToInt],.m (.d (.int _ _))⟩
end ops
variable{x y:Operand}{cs Pb new ms:List M}{T i off aK n ec t e j len s f:Nat}{m r:M}{acc:Bool}{kk k2 k0:IntKind}{H':Hp}{o:Oper}{v:V}{st:St}{ds:List D}{args:List Operand}{RE:Array Nat}
section mk
variable{X:bW}{st:St}{dst:Option Nat}{ty:Nat}{pos:String}{af:Array Edge}{g:Option (Nat×Bool)}
end mk
section rules
variable{X:bW}{ops:Array Oper}{rest:List Oper}{post:St->Prop}{OZ:List Ef->St->Prop}{sl:List (Nat×V)}{bx:List (Nat×List M)}{H:Hp}{d ty:Nat}{pos:String}{af:Array Edge}
def Qf(a:o.guard=none)(b:o.dst=some d)(c:d<X.n)
  (h:∀a,Ag ops o ⟨some d,v,[],[],none,true,some H'⟩ st a->cL X o a (du v ⟨a.sl,a.bx,H'⟩)):lB X ops o ⟨some d,v,[],[],none,true,some H'⟩ st:=
 λe f=>(h e f).Hg a b c
def lB.F_(a:o.guard=none)(b:o.dst=none)
  (h:∀a,Ag ops o ⟨none,v,[],[],none,true,some H'⟩ st a->cL X o a (du v ⟨a.sl,a.bx,H'⟩)):lB X ops o ⟨none,v,[],[],none,true,some H'⟩ st:=
 λc d=>(h c d).IR a b
def ax[ht:cA X.P T](a:Nat.blt d X.n=true)(b:bh sl x=some (.m (.ref i off)))(c:H[i]?=some (.box cs))(e:cs[off]?=some m)(k:TL X ops rest ⟨(d,(.m m))::sl,bx,H⟩ post):TL X ops (⟨some d,.load T x,ty,pos,af,none⟩::rest) ⟨sl,bx,H⟩ post:=
 Pf W W a (lQ b c (by simp[gS,ht.cell,e])) k
def aw[ht:cA X.P T](a:Nat.blt d X.n=true)(b:bh sl x=some (.m (.ref i off)))(c:H[i]?=some (.box cs))(f:cs[off]?=some m)(k:TF X ops rest ⟨(d,(.m m))::sl,bx,H⟩ λa b=>OZ (⟨some d,(.m m),[],[],none,true,none⟩::a) b):TF X ops (⟨some d,.load T x,ty,pos,af,none⟩::rest) ⟨sl,bx,H⟩ OZ:=
 TF.cons (e:=⟨some d,(.m m),[],[],none,true,none⟩) (OU W W (bN a) λa a=>lQ ((a.ev (x:=x) (by simp[Op.operands,Call.operands])).trans b) (by rw[a.H W];exact c) (by simp[gS,ht.cell,f])) W k
def kF[ht:jQ X.P T n](b:Nat.blt d X.n=true)(c:bh sl x=some (.m (.ref i off)))(e:H[i]?=some (.box cs))(a:sub cs off n=some Pb)(f:kP Pb=some ds)(k:TL X ops rest ⟨(d,(.m (.d (.agg ds))))::sl,bx,H⟩ post):TL X ops (⟨some d,.load T x,ty,pos,af,none⟩::rest) ⟨sl,bx,H⟩ post:=
 Pf W W b (lQ c e (by simp[gS,ht.agg,ht.size,atl (sub_eq a).1,pack,(sub_eq a).2,f])) k
def fJ[ht:jQ X.P T n](b:Nat.blt d X.n=true)(c:bh sl x=some (.m (.ref i off)))(f:H[i]?=some (.box cs))(a:sub cs off n=some Pb)(g:kP Pb=some ds)(k:TF X ops rest ⟨(d,(.m (.d (.agg ds))))::sl,bx,H⟩ λa b=>OZ (⟨some d,(.m (.d (.agg ds))),[],[],none,true,none⟩::a) b):TF X ops (⟨some d,.load T x,ty,pos,af,none⟩::rest) ⟨sl,bx,H⟩ OZ:=
 TF.cons (e:=⟨some d,(.m (.d (.agg ds))),[],[],none,true,none⟩) (OU W W (bN b) λb b=>lQ ((b.ev (x:=x) (by simp[Op.operands,Call.operands])).trans c) (by rw[b.H W];exact f) (by simp[gS,ht.agg,ht.size,atl (sub_eq a).1,pack,(sub_eq a).2,g])) W k
def mH[ht:cA X.P T](a:Nat.blt d X.n=true)(b:bh sl x=some (.m (.et i aK off)))(c:H[i]?=some (.row acc ec aK cs))(e:cs[off]?=some m)(k:TL X ops rest ⟨(d,(.m m))::sl,bx,H⟩ post):TL X ops (⟨some d,.load T x,ty,pos,af,none⟩::rest) ⟨sl,bx,H⟩ post:=
 Pf W W a (AH b c (by simp[gS,ht.cell,e])) k
def jK[ht:cA X.P T](a:Nat.blt d X.n=true)(b:bh sl x=some (.m (.et i aK off)))(c:H[i]?=some (.row acc ec aK cs))(f:cs[off]?=some m)(k:TF X ops rest ⟨(d,(.m m))::sl,bx,H⟩ λa b=>OZ (⟨some d,(.m m),[],[],none,true,none⟩::a) b):TF X ops (⟨some d,.load T x,ty,pos,af,none⟩::rest) ⟨sl,bx,H⟩ OZ:=
 TF.cons (e:=⟨some d,(.m m),[],[],none,true,none⟩) (OU W W (bN a) λa a=>AH ((a.ev (x:=x) (by simp[Op.operands,Call.operands])).trans b) (by rw[a.H W];exact c) (by simp[gS,ht.cell,f])) W k
def AJ{i:Int}[ht:aU X.P t e][l:bY X.P e ec](a:Nat.blt d X.n=true)(b:bh sl x=some (.m (.bC j aK len)))(c:bh sl y=some (.m (.d (.int kk i))))(f:H[j]?=some (.row acc ec aK cs))(g:0<=i)(h:i<len)(k:TL X ops rest ⟨(d,(.m (.et j aK (i.toNat*ec))))::sl,bx,H⟩ post):TL X ops (⟨some d,.indexAddr t x y,ty,pos,af,none⟩::rest) ⟨sl,bx,H⟩ post:=
 Pf W W a (yo b c f g h) k
def cZ{i:Int}[ht:aU X.P t e][l:bY X.P e ec](a:Nat.blt d X.n=true)(b:bh sl x=some (.m (.bC j aK len)))(c:bh sl y=some (.m (.d (.int kk i))))(f:H[j]?=some (.row acc ec aK cs))(g:0<=i)(h:i<len)(k:TF X ops rest ⟨(d,(.m (.et j aK (i.toNat*ec))))::sl,bx,H⟩ λa b=>OZ (⟨some d,(.m (.et j aK (i.toNat*ec))),[],[],none,true,none⟩::a) b):TF X ops (⟨some d,.indexAddr t x y,ty,pos,af,none⟩::rest) ⟨sl,bx,H⟩ OZ:=
 TF.cons (e:=⟨some d,(.m (.et j aK (i.toNat*ec))),[],[],none,true,none⟩) (OU W W (bN a) λa a=>yo ((a.ev (x:=x) (by simp[Op.operands,Call.operands])).trans b) ((a.ev (x:=y) (by simp[Op.operands,Call.operands])).trans c) (by rw[a.H W];exact f) g h) W k
def Ga[ht:aU X.P t e](a:Nat.blt d X.n=true)(b:bh sl x=some (.m (.bC j aK len)))(k:TL X ops rest ⟨(d,(.m (.d (.int .i64 len))))::sl,bx,H⟩ post):TL X ops (⟨some d,.call ⟨.builtin .len,#[x],#[t]⟩,ty,pos,af,none⟩::rest) ⟨sl,bx,H⟩ post:=
 Pf W W a (IT b) k
def yr{n:Int}[c:lC X.P s k0][ht:lC X.P t k2](a:Nat.blt d X.n=true)(b:bh sl x=some (.m (.d (.int kk n))))(k:TL X ops rest ⟨(d,(.m (.d (.int k2 (k2.wrap n)))))::sl,bx,H⟩ post):TL X ops (⟨some d,.convert s t x,ty,pos,af,none⟩::rest) ⟨sl,bx,H⟩ post:=
 Pf W W a (ww b) k
def qx{n:Int}[c:lC X.P s k0][ht:lC X.P t k2](a:Nat.blt d X.n=true)(b:bh sl x=some (.m (.d (.int kk n))))(k:TF X ops rest ⟨(d,(.m (.d (.int k2 (k2.wrap n)))))::sl,bx,H⟩ λa b=>OZ (⟨some d,(.m (.d (.int k2 (k2.wrap n)))),[],[],none,true,none⟩::a) b):TF X ops (⟨some d,.convert s t x,ty,pos,af,none⟩::rest) ⟨sl,bx,H⟩ OZ:=
 TF.cons (e:=⟨some d,(.m (.d (.int k2 (k2.wrap n)))),[],[],none,true,none⟩) (OU W W (bN a) λa a=>ww ((a.ev (x:=x) (by simp[Op.operands,Call.operands])).trans b)) W k
def cF(b:Nat.blt d X.n=true)(c:bh sl x=some (.m m))(a:iB m=some cs)(k:TL X ops rest ⟨(d,(.m (.ref H.length 0)))::sl,bx,H++[Ob.box cs]⟩ post):TL X ops (⟨some d,.box T x,ty,pos,af,none⟩::rest) ⟨sl,bx,H⟩ post:=
 Pf W W b ((by rw[<-(cW a).1];exact C3 c (cW a).2)) k
def BS(b:Nat.blt d X.n=true)(f:bh sl x=some (.m m))(a:iB m=some cs)(k:TF X ops rest ⟨(d,(.m (.ref H.length 0)))::sl,bx,H++[Ob.box cs]⟩ λa b=>OZ (⟨some d,(.m (.ref H.length 0)),[],[],none,true,some (H++[Ob.box cs])⟩::a) b):TF X ops (⟨some d,.box T x,ty,pos,af,none⟩::rest) ⟨sl,bx,H⟩ OZ:=
 TF.cons (e:=⟨some d,(.m (.ref H.length 0)),[],[],none,true,some (H++[Ob.box cs])⟩) (Qf W W (bN b) λh b=>(by have c:=b.H W;simp only at c;have:=(C3 (X:=X) (st:=h) (dst:=some d) (ty:=ty) (pos:=pos) (af:=af) (g:=none) (T:=T) ((b.ev (x:=x) (by simp[Op.operands,Call.operands])).trans f) (cW a).2);rw[c]at this;rw[(cW a).1]at this;exact this)) W k
def re(a:Nat.blt d X.n=true)(k:TL X ops rest ⟨(d,(.m (.mp H.length)))::sl,bx,H++[Ob.map []]⟩ post):TL X ops (⟨some d,.makeMap T none,ty,pos,af,none⟩::rest) ⟨sl,bx,H⟩ post:=
 Pf W W a (C4) k
def cc[g:bY X.P T n](b:bh sl x=some (.m (.ref i off)))(c:bh sl y=some (.m m))(d:H[i]?=some (.box cs))(a:iB m=some new)(e:Nat.beq new.length n=true)(f:wr cs off new=some Pb)(k:TL X ops rest ⟨sl,bx,H.set i (Ob.box Pb)⟩ post):TL X ops (⟨none,.store T x y,ty,pos,af,none⟩::rest) ⟨sl,bx,H⟩ post:=
 TL.FZ W W (uE b c d (by rw[(cW a).1];exact asy e) (cW a).2 (by rw[(cW a).1];exact sJ f)) k
def fK[a:bY X.P T n](d:bh sl x=some (.m (.ref i off)))(f:bh sl y=some (.m m))(h:H[i]?=some (.box cs))(b:iB m=some new)(j:Nat.beq new.length n=true)(l:wr cs off new=some Pb)(k:TF X ops rest ⟨sl,bx,H.set i (Ob.box Pb)⟩ λa b=>OZ (⟨none,.m .undef,[],[],none,true,some (H.set i (Ob.box Pb))⟩::a) b):TF X ops (⟨none,.store T x y,ty,pos,af,none⟩::rest) ⟨sl,bx,H⟩ OZ:=
 TF.cons (e:=⟨none,.m .undef,[],[],none,true,some (H.set i (Ob.box Pb))⟩) (lB.F_ W W λo a=>(by have c:=a.H W;simp only at c;have:=(uE (X:=X) (st:=o) (dst:=none) (ty:=ty) (pos:=pos) (af:=af) (g:=none) (T:=T) ((a.ev (x:=x) (by simp[Op.operands,Call.operands])).trans d) ((a.ev (x:=y) (by simp[Op.operands,Call.operands])).trans f) (by rw[a.H W];exact h) (by rw[(cW b).1];exact asy j) (cW b).2 (by rw[(cW b).1];exact sJ l));rw[c]at this;exact this)) W k
def Hh[g:bY X.P T n](b:bh sl x=some (.m (.et i aK off)))(c:bh sl y=some (.m m))(d:H[i]?=some (.row false ec aK cs))(a:iB m=some new)(e:Nat.beq new.length n=true)(f:dV cs off new=some Pb)(k:TL X ops rest ⟨sl,bx,H.set i (Ob.row false ec aK Pb)⟩ post):TL X ops (⟨none,.store T x y,ty,pos,af,none⟩::rest) ⟨sl,bx,H⟩ post:=
 TL.FZ W W (yn b c d (by rw[(cW a).1];exact asy e) (cW a).2 (by rw[(cW a).1];exact f)) k
def fL[a:bY X.P T n](d:bh sl x=some (.m (.et i aK off)))(f:bh sl y=some (.m m))(h:H[i]?=some (.row false ec aK cs))(b:iB m=some new)(j:Nat.beq new.length n=true)(l:dV cs off new=some Pb)(k:TF X ops rest ⟨sl,bx,H.set i (Ob.row false ec aK Pb)⟩ λa b=>OZ (⟨none,.m .undef,[],[],none,true,some (H.set i (Ob.row false ec aK Pb))⟩::a) b):TF X ops (⟨none,.store T x y,ty,pos,af,none⟩::rest) ⟨sl,bx,H⟩ OZ:=
 TF.cons (e:=⟨none,.m .undef,[],[],none,true,some (H.set i (Ob.row false ec aK Pb))⟩) (lB.F_ W W λo a=>(by have c:=a.H W;simp only at c;have:=(yn (X:=X) (st:=o) (dst:=none) (ty:=ty) (pos:=pos) (af:=af) (g:=none) (T:=T) ((a.ev (x:=x) (by simp[Op.operands,Call.operands])).trans d) ((a.ev (x:=y) (by simp[Op.operands,Call.operands])).trans f) (by rw[a.H W];exact h) (by rw[(cW b).1];exact asy j) (cW b).2 (by rw[(cW b).1];exact l));rw[c]at this;exact this)) W k
def bp[hf:bw X.P f](h:CT X.P f ms H λa b=>a=r/\b=H')(q:Nat.blt d X.n=true)(t:ga sl args=some ms)
  (k:TF X ops rest ⟨(d,.m r)::sl,bx,H'⟩ λa b=>OZ (⟨some d,.m r,[],[],none,true,some H'⟩::a) b):TF X ops (⟨some d,.call ⟨.value (.func f),args.toArray,RE⟩,ty,pos,af,none⟩::rest) ⟨sl,bx,H⟩ OZ:=by
 refine TF.cons (e:=⟨some d,.m r,[],[],none,true,some H'⟩) (Qf W W (bN q) λb n=>?_) W k;have o:=n.H W;simp only at o;have c:=wm (X:=X) (st:=b) (dst:=some d) (ty:=ty) (pos:=pos) (af:=af) (g:=none) (RE:=RE) (args:=args) (f:=f) (ms:=ms) (post:= λa b=>a=r/\b=H') (by rw[n.ga (λx a=>by simp[Op.operands,Call.operands];exact .inr a),nA];exact t) (by rw[o];exact h);intro l m w x;have a:=c l m w x;have p:∀v s,(∃i j,v=V.m i/\(i=r/\j=H')/\s=(⟨b.sl,b.bx,j⟩:St))->du (.m r) ⟨b.sl,b.bx,H'⟩ v s:=by rintro v s ⟨i,j,rfl,⟨rfl,rfl⟩,rfl⟩;exact⟨W,W⟩
 unfold dG at a⊢;generalize (execOp l.eval _).run X.P m.w=z at*;cases z with
 |ok y D=>
  cases y<;>simp only at a⊢ <;>first
   |(obtain⟨v,s,u,A,c,a⟩:=a;exact⟨v,s,u,A,p _ _ c,a⟩)
   |exact a.mono λe E ⟨u,C,v,s,A,B,c,a⟩=>⟨u,C,v,s,A,B,p _ _ c,a⟩
   |exact a
 |halt y u=>exact a
def kG[hf:bw X.P f](h:CT X.P f ms H λa b=>a=r/\b=H)(q:Nat.blt d X.n=true)(t:ga sl args=some ms)
  (k:TF X ops rest ⟨(d,.m r)::sl,bx,H⟩ λa b=>OZ (⟨some d,.m r,[],[],none,true,none⟩::a) b):TF X ops (⟨some d,.call ⟨.value (.func f),args.toArray,RE⟩,ty,pos,af,none⟩::rest) ⟨sl,bx,H⟩ OZ:=by
 refine TF.cons (e:=⟨some d,.m r,[],[],none,true,none⟩) (OU W W (bN q) λc o=>?_) W k;have i:=o.H W;simp only at i;have b:=wm (X:=X) (st:=c) (dst:=some d) (ty:=ty) (pos:=pos) (af:=af) (g:=none) (RE:=RE) (args:=args) (f:=f) (ms:=ms) (post:= λa b=>a=r/\b=H) (by rw[o.ga (λx a=>by simp[Op.operands,Call.operands];exact .inr a),nA];exact t) (by rw[i];exact h);intro m n w x;have a:=b m n w x;have p:∀v s,(∃j l,v=V.m j/\(j=r/\l=H)/\s=(⟨c.sl,c.bx,l⟩:St))->du (.m r) c v s:=by rintro v s ⟨j,l,rfl,⟨rfl,rfl⟩,rfl⟩;exact⟨W,by rw[<-i]⟩
 unfold dG at a⊢;generalize (execOp m.eval _).run X.P n.w=z at*;cases z with
 |ok y D=>
  cases y<;>simp only at a⊢ <;>first
   |(obtain⟨v,s,u,A,b,a⟩:=a;exact⟨v,s,u,A,p _ _ b,a⟩)
   |exact a.mono λe E ⟨u,C,v,s,A,B,b,a⟩=>⟨u,C,v,s,A,B,p _ _ b,a⟩
   |exact a
 |halt y u=>exact a
end rules
end Go.Mt
namespace Go.Mt
variable{t s e:Nat}{m:M}{x:Operand}{rows:List (List D)}{ns:List Int}{cs OS:List M}{σ:Sg}{Oo:Nat->Nat->Prop}{a:Act}{w:World}{c:Code}{q:Exit->St->Prop}
def rf:List (List D)->Option (List Int)
 |[]=>some []
 |[.int .u8 n]::r=>match rf r with
  |some a=>some (n::a)
  |none=>none
 |_=>none
def yu:∀{rows:List (List D)} {a:List Int},rf rows=some a->rows=a.map λn=>[.int .u8 n]
 |[],a,h=>by simp[rf]at h;subst h;rfl
 |r::f,a,h=>by
  unfold rf at h;split at h
  .rename_i e;cases e
  .rename_i n g e;injection e with b c;subst b;subst c
   split at h
   .rename_i i d;injection h with h;subst h
    simp[yu d]
   .cases h
  .cases h
section ops
variable{X:bW}{st:St}{dst:Option Nat}{ty:Nat}{pos:String}{af:Array Edge}{g:Option (Nat×Bool)}
def Gb[f:aU X.P s e][j:lC X.P e .u8][ht:BJ X.P t](q:st.ev x=some (.m (.d (.sl rows))))(r:rf rows=some ns):
  cL X ⟨dst,.convert s t x,ty,pos,af,g⟩ st (du (.m (.d (.str (strOfNums ns)))) st):=by
 have:=yu r;subst this;refine OM λo a F c=>?_
 have h:=c.pE q;generalize k:o.eval x=C at h;refine⟨.string (strOfNums ns),?_,.m (.d (.str _))⟩;generalize l:(ns.map λn=>[D.int .u8 n])=rows at h;cases h with
 |slnil d=>
  have:ns=[]:=by simpa using l
  subst this;cases d with
  |none=>
   have:=run_convert_bytes_nil (P:=X.P) a.w s e f.u j.u 0 0 t ht.u;simp[execOp,k,this,strOfNums];rfl
  |some d=>
   have i:(loadCells d 0).run X.P a.w=.ok #[] a.w:=by simp[loadCells,loadCellsFrom]
   simp only[execOp,k,Sem.run_bind];rw[run_convert_bytes_string a.w s t e (some d) 0 0 f.u j.u ht.u,run_bytesToString a.w d 0 0 [] (by simpa using i)];simp[strOfNums,ByteArray.empty,ByteArray.emptyWithCapacity];rfl
 |sl rows b p A u val v G H w y I z=>
  subst l;have J:(ns.map λn=>[D.int .u8 n]).length=ns.length:=by simp
  have B:u=1:=by
   cases ns with
   |nil=>simp at v
   |cons n ns=>rw[<-w [.int .u8 n] (by simp)];rfl
  subst B;have:=run_convert_bytes_arg (P:=X.P) a.w s e f.u j.u b p ns.length A ns W (by
   intro i c;have d:=(y i 0 (by simpa using c) (by omega)).1;have m:=z i 0 [.int .u8 ns[i]] (.int .u8 ns[i]) (by simp[c]) W;have:val i 0=.int .u8 ns[i]:=by generalize val i 0=E at m;cases m;rfl
   rw[this]at d;simp at d;simpa [c] using d) t ht.u
  simp[execOp,k,this]
end ops
section rules
variable{X:bW}{ops:Array Oper}{rest:List Oper}{post:St->Prop}{OZ:List Ef->St->Prop}{sl:List (Nat×V)}{bx:List (Nat×List M)}{H:Hp}{d ty:Nat}{pos:String}{af:Array Edge}
def Mw[f:aU X.P s e][g:lC X.P e .u8][ht:BJ X.P t](a:Nat.blt d X.n=true)(b:bh sl x=some (.m (.d (.sl rows))))(c:rf rows=some ns)
  (k:TL X ops rest ⟨(d,.m (.d (.str (strOfNums ns))))::sl,bx,H⟩ post):TL X ops (⟨some d,.convert s t x,ty,pos,af,none⟩::rest) ⟨sl,bx,H⟩ post:=
 Pf W W a (Gb b c) k
def Mx[f:aU X.P s e][g:lC X.P e .u8][ht:BJ X.P t](a:Nat.blt d X.n=true)(b:bh sl x=some (.m (.d (.sl rows))))(c:rf rows=some ns)
  (k:TF X ops rest ⟨(d,.m (.d (.str (strOfNums ns))))::sl,bx,H⟩ λa b=>OZ (⟨some d,.m (.d (.str (strOfNums ns))),[],[],none,false,none⟩::a) b):TF X ops (⟨some d,.convert s t x,ty,pos,af,none⟩::rest) ⟨sl,bx,H⟩ OZ:=
 TF.cons (e:=⟨some d,.m (.d (.str (strOfNums ns))),[],[],none,false,none⟩) (OU W W (bN a) λa a=>Gb ((a.ev (x:=x) (by simp[Op.operands])).trans b) c) W k
def My{b:Nat}{a:IntKind}{n:Int}(c:Nat.blt d X.n=true)(e:bh sl x=some (.m (.d (.int a n))))(k:TL X ops rest ⟨(d,.m (.d (.int a (a.wrap (-n)))))::sl,bx,H⟩ post):
  TL X ops (⟨some d,.unOp .neg b x,ty,pos,af,none⟩::rest) ⟨sl,bx,H⟩ post:=
 Pf W W c (KE e) k
def jg(H:Hp):M->Option D
 |.d x=>some x
 |.bC i b a=>match H[i]? with
  |some (.row true c v d)=>bif (Nat.beq v b&&Nat.blt 0 a)then(match chunk c a d with
   |some a=>some (.sl a)
   |none=>none)else none
  |_=>none
 |_=>none
def RM.view(hi:kQ σ Oo){d:D}{v:Value}(h:RM σ m v)(b:jg σ.H m=some d):RM σ (.d d) v:=by
 cases h with
 |d h=>simp[jg]at b;subst b;exact .d h
 |bC i G F ad Y co H=>
  simp only[jg]at b;split at b
  .rename_i a v e l;cases n:(Nat.beq v G&&Nat.blt 0 F)with
   |false=>simp[n]at b
   |true=>
    simp only[n,as3]at b;simp only[asH]at n;have I:=asy n.1;subst I;have h0:=bN n.2;split at b
    .rename_i c J;injection b with b;subst b
     obtain⟨K,p,f,ah,t,u⟩:=H true a e l;subst K;obtain⟨x,YI,T1,y,L,q,M,N,⟨P,Pl⟩,z⟩:=hi.obj i _ l;rw[t]at q;injection q with q;injection q with Q R;subst Q;subst R
     have S:y=Y:=atv x (by rw[<-M,<-u]);subst S;have T:L=F:=atv x (by rw[<-P,<-p]);subst T;obtain⟨s,A,B⟩:=pJ J p;have U:c≠[]:=by rintro rfl;simp at s;omega
     have Z:∀o,o<e.length->¬σ.O (σ.l i) o:=by
      intro o ho E;rcases(hi.own _ _).1 E with g|⟨C,V,g,X,k⟩
      .exact hi.sep i _ l trivial o g
      .have:=hi.inj C i V _ g l (Ob.jI k) trivial X;subst this;rw[l]at g;injection g with g;subst g
       simp only[Ob.jX]at k;rcases k with k|k
       .cases k
       .omega
     have o:∀i j,i<c.length->j<a->i*a+j<e.length:=by
      intro i j hi g;rw[p,<-s]
      calc i*a+j<i*a+a:=by omega
       _=(i+1)*a:=by rw[atT]
       _<=c.length*a:=as5 _ hi
     have PV:e.length<=f.size:=by rw[p,u];exact as5 _ N
     have ac:∀i j,i<c.length->j<a->∃r d,c[i]?=some r/\r[j]?=some d/\e[i*a+j]?=some (.d d):=by
      intro i j hi g;have k:c[i].length=a:=A _ (asE hi);have C:c[i]?=some c[i]:=by simp[hi]
      have E:c[i][j]?=some ((c[i])[j]'(by rw[k];exact g)):=by simp[k,g]
      exact⟨c[i],_,C,E,B i j _ _ C E⟩
     have:=gL.sl (O:=σ.O) (w:=σ.w) c (σ.l i) 0 y a (λi j=>f.getD (i*a+j) Go.undef) U (by omega) (by omega) A ?_ ?_ ?_
     .rw[s]at this;exact .d this
     .intro g j C k;rw[atH];refine⟨?_,Z _ (o g j C k)⟩;have:=o g j C k;simp[dZ,World.cell?,t,show g*a+j<f.size by omega]
     .intro g j C k;obtain⟨r,d,_,_,E⟩:=ac g j C k;have V:=o g j C k;exact(z _ _ (f.getD (g*a+j) Go.undef) E (by simp[show g*a+j<f.size by omega])).2
     .intro g j r d C E;have k:=B g j r d C E;have V:g*a+j<e.length:=by rcases asp (g*a+j) e.length with h|h;exact h;simp[asr h]at k
      have:=(z _ _ (f.getD (g*a+j) Go.undef) k (by simp[show g*a+j<f.size by omega])).1;cases this with
      |d h=>exact h
    .cases b
  .cases b
 |_=>simp[jg]at b
def iv(H:Hp):List M->Option (List M)
 |[]=>some []
 |m::r=>match jg H m,iv H r with
  |some d,some a=>some (.d d::a)
  |_,_=>none
def kV.view(hi:kQ σ Oo){n:Array Value}(h:kV σ cs n)(r:iv σ.H cs=some OS):kV σ OS n:=by
 have u:∀(cs OS:List M),iv σ.H cs=some OS->OS.length=cs.length/\∀(i:Nat) a,OS[i]?=some a->∃m d,cs[i]?=some m/\jg σ.H m=some d/\a=.d d:=by
  intro cs
  induction cs with
  |nil=>intro OS h;simp[iv]at h;subst h;simp
  |cons m w s=>
   intro OS h;simp only[iv]at h;split at h
   .rename_i d t j k;injection h with h;subst h
    obtain⟨g,l⟩:=s t k;refine⟨by simp[g],λi a f=>?_⟩;cases i with
    |zero=>simp at f;subst f;exact⟨m,d,by simp,j,rfl⟩
    |succ i=>simp at f;obtain⟨p,b,c,e,q⟩:=l i a f;exact⟨p,b,by simpa using c,e,q⟩
   .cases h
 obtain⟨j,k⟩:=u cs OS r;refine⟨by rw[h.1,j],λi a v f o=>?_⟩;obtain⟨m,d,g,l,rfl⟩:=k i a f;exact⟨(h.2 i m v g o).1.view hi l,(h.2 i m v g o).2⟩
def Inv.gP(h:Inv X ⟨sl,bx,H⟩ a w)(n:get bx t=some cs)(p:iv H cs=some OS):Inv X ⟨sl,(t,OS)::bx,H⟩ a w:=by
 obtain⟨m,j,rfl,c⟩:=h;have q:m.H=H:=c.hH;obtain⟨r,T,f,g⟩:=c.box t cs n;have i:∀u d,get ((t,OS)::bx) u=some d->∃k,get bx u=some k:=by
  intro u d f;rcases bO f with⟨rfl,rfl⟩|⟨s,o⟩
  .exact⟨cs,n⟩
  .exact⟨d,o⟩
 have l:∀b o,ou X.j_ j ((t,OS)::bx) b o↔ou X.j_ j bx b o:=by
  intro b o;constructor
  .rintro(f|⟨u,d,f,g⟩)
   .exact .inl f
   .obtain⟨k,s⟩:=i u d f;exact .inr ⟨u,k,s,g⟩
  .rintro(f|⟨u,d,f,g⟩)
   .exact .inl f
   .by_cases e:t=u
    .subst e;exact .inr ⟨t,OS,by simp[bM],g⟩
    .exact .inr ⟨u,d,by simp[bM,e,f],g⟩
 refine⟨m,j,W,c.hH,c.defers,c.size,c.slot,?_,?_,?_,?_,?_,c.mono,c.cy⟩
 .intro u d o;rcases bO o with⟨rfl,rfl⟩|⟨_,s⟩
  .exact⟨r,T,f,g.view c.hinv (by rw[q];exact p)⟩
  .exact c.box u d s
 .intro u v d x o s y;obtain⟨_,z⟩:=i u d o;obtain⟨_,A⟩:=i v x s;exact c.rU u v _ _ z A y
 .intro u d o;obtain⟨_,s⟩:=i u d o;exact c.sC u _ s
 .intro u d o;obtain⟨_,s⟩:=i u d o;exact c.sD u _ s
 .exact⟨c.hinv.obj,c.hinv.inj,λb o=>by rw[l];exact c.hinv.own b o,λi j f g o d=>c.hinv.sep i j f g o ((l _ _).1 d),λb o d=>c.hinv.mE b o ((l _ _).1 d)⟩
def TC.gP(t:Nat)(b:get bx t=some cs)(d:iv H cs=some OS)(k:TC X c ⟨sl,(t,OS)::bx,H⟩ q):TC X c ⟨sl,bx,H⟩ q:=
 λa w e=>k a w (e.gP b d)
def Inv.cq{x:D}(h:Inv X ⟨sl,bx,H⟩ a w)(e:get sl t=some (.m m))(f:jg H m=some x):Inv X ⟨(t,.m (.d x))::sl,bx,H⟩ a w:=by
 obtain⟨d,g,rfl,b⟩:=h;have i:d.H=H:=b.hH;refine⟨d,g,W,b.hH,b.defers,b.size,?_,b.box,b.rU,b.sC,b.sD,b.hinv,b.mono,b.cy⟩;intro u v j;rcases bO j with⟨rfl,rfl⟩|⟨_,k⟩
 .obtain⟨z,l,c⟩:=b.slot u _ e;cases c with
  |m c=>exact⟨z,l,.m (c.view b.hinv (by rw[i];exact f))⟩
 .exact b.slot u v k
def TL.cq(t:Nat){l:List Oper}{x:D}(b:get sl t=some (.m m))(c:jg H m=some x)(k:TL X ops l ⟨(t,.m (.d x))::sl,bx,H⟩ post):TL X ops l ⟨sl,bx,H⟩ post:=
 λa w d=>k a w (d.cq b c)
def TC.cq(t:Nat){x:D}(b:get sl t=some (.m m))(d:jg H m=some x)(k:TC X c ⟨(t,.m (.d x))::sl,bx,H⟩ q):TC X c ⟨sl,bx,H⟩ q:=
 λa w e=>k a w (e.cq b d)
end rules
def Acc(n i:Nat)(rs:List (List D))(m:M)(H:Hp):Prop:=
 (rs=[]/\m=.d (.sl []))\/(rs≠[]/\∃a,m=.bC i a rs.length/\H[i]?=some (.row true n a (aY rs)))
def Acc.view{n i:Nat}{rs:List (List D)}{H:Hp}(h:Acc n i rs m H)(a:∀r∈rs,r.length=n):jg H m=some (.sl rs):=by
 rcases h with⟨rfl,rfl⟩|⟨b,f,rfl,c⟩
 .rfl
 .have d:Nat.blt 0 rs.length=true:=by rw[Nat.blt_eq];cases rs;exact absurd W b;simp
  have e:chunk n rs.length (aY rs)=some rs:=sL a;simp[jg,c,d,e]
end Go.Mt
namespace Go.Mt
section ops
variable{X:bW}{st:St}{dst:Option Nat}{ty:Nat}{pos:String}{af:Array Edge}{g:Option (Nat×Bool)}
end ops
section rules
variable{X:bW}{ops:Array Oper}{rest:List Oper}{post:St->Prop}{OZ:List Ef->St->Prop}{sl:List (Nat×V)}{bx:List (Nat×List M)}{H:Hp}{d ty:Nat}{pos:String}{af:Array Edge}
end rules
variable{e n t T len j aK U nb:Nat}{x y:Operand}{k kk:IntKind}{i:Int}{cs:List M}{z:D}
section ops
variable{X:bW}{st:St}{dst:Option Nat}{ty:Nat}{pos:String}{af:Array Edge}{g:Option (Nat×Bool)}
def IU(c:st.ev x=some (.m (.d (.sl []))))[ht:aU X.P t e]:
  cL X ⟨dst,.call ⟨.builtin .cap,#[x],#[t]⟩,ty,pos,af,g⟩ st (du (.m (.d (.int .i64 0))) st):=by
 refine OM λa j k d=>?_
 have h:=d.pE c;generalize f:a.eval x=u at h;refine⟨.int .i64 0,?_,.m (.d (.int _ _))⟩;cases h with
 |slnil a=>simp[execOp,resolve,invoke,builtin,Builtin.cap_,underlying,program,Sem.run,ht.u,f,goInt]
 |sl v b o cap l val i m n p q r s=>exact absurd W i
def EK(d:st.ev x=some (.m (.d (.sl []))))(f:st.ev y=some (.m (.d (.int k 0))))[ht:aU X.P t e][i:bY X.P e n]:
  cL X ⟨dst,.slice t x none (some y) none,ty,pos,af,g⟩ st (du (.m (.d (.sl []))) st):=by
 refine OM λc p q a=>?_
 have h:=a.pE d;have j:=a.kW f;generalize l:c.eval x=u at h;cases h with
 |slnil m=>
  refine⟨.slice m 0 0,?_,.m (.d (.slnil _))⟩;have o:∀w:World,(underlying t).run X.P w=.ok (.slice e) w:= λw=>by simp[underlying,program,Sem.run,ht.u]
  simp[execOp,Instr.sliceAt,Instr.slice,o,l,j,Instr.sliceBounds,Instr.sliceBound,asIntOf,dt i.size]
 |sl D b o C r val m s v w z A B=>exact absurd W m
def BT[ht:aU X.P T e][j:bY X.P e n]
  (k:st.ev x=some (.m (.d (.sl [])))) (l:st.ev y=some (.m (.d (.sl [])))):
  cL X ⟨dst,.call ⟨.builtin .append,#[x,y],#[T,T]⟩,ty,pos,af,g⟩ st (du (.m (.d (.sl []))) st):=by
 refine OM λc s t d=>?_
 have f:=d.pE k;have h:=d.pE l;generalize m:c.eval x=u at f;generalize o:c.eval y=v at h;cases f with
 |sl D b i C p val a q r w z A B=>exact absurd W a
 |slnil i=>
  cases h with
  |sl E b p D q val a r w z A B C=>exact absurd W a
  |slnil a=>
   refine⟨.slice i 0 0,?_,.m (.d (.slnil _))⟩;have p:∀w:World,(underlying T).run X.P w=.ok (.slice e) w:= λw=>by simp[underlying,program,Sem.run,ht.u]
   have q:∀w:World,(Builtin.firstCells n 0 (.slice a 0 0)).run X.P w=.ok #[] w:=by
    intro w;cases a<;>simp[Builtin.firstCells,loadCells,loadCellsFrom]
   have r:∀w:World,(Builtin.lenOf (.slice a 0 0)).run X.P w=.ok 0 w:=by intro w;simp[Builtin.lenOf]
   simp only[execOp,resolve,invoke,builtin,Builtin.append_];simp only[Sem.run_bind,Sem.run_pure,Result.andThen_ok,aud,asT,atu,m,o];cases i<;>simp[p,dt j.size,r,q,storeCells]
def EL(acc:Bool)(K:st.ev x=some (.m (.bC j aK len)))(L:st.ev y=some (.m (.d (.int k i))))[ht:aU X.P t e][M:bY X.P e n]
  (f:st.H[j]?=some (.row false n aK cs)) (N:0<=i) (co:i<=len):
  cL X ⟨dst,.slice t x none (some y) none,ty,pos,af,g⟩ st (du (.m (.bC j (aK+1) i.toNat)) ⟨st.sl,st.bx,st.H.set j (.row acc n (aK+1) (cs.take (i.toNat*n)))⟩):=by
 intro J d O a;have h:=a.ev K;have P:=a.kW L;have z:d.H[j]?=some (.row false n aK cs):=by rw[a.hH];exact f
 obtain⟨q,Q,A,b,B,r,s,h5,⟨R,WK⟩,C⟩:=a.hinv.obj j _ z;generalize S:J.eval x=u at h;cases h with
 |m h=>cases h with
  |bC j aK len ad ac d6 T=>
   obtain⟨U,D,YI,T1,l,V⟩:=T false n cs z;subst U;rw[r]at l;injection l with l;injection l with Y Z
   subst Y;subst Z;have QT:b=ac:=atv q (by rw[<-s,<-V]);subst QT;have Sl:B=len:=atv q (by rw[<-R,<-D]);subst Sl;have dj:i.toNat<=B:=by omega
   have E:(cs.take (i.toNat*n)).length=i.toNat*n:=by
    rw[atP,D];exact auj (as5 _ dj)
   obtain⟨p,F,G,H,g4,g5⟩:=a.ra (j:=j) (b':=d.l j) (ob:=.row false n aK cs) (PA:=.row acc n (aK+1) (cs.take (i.toNat*n))) (w':=d.w) f trivial W W W (asj _)
    (λc _ _=>rfl) (.inl W) (by
     intro ah v ho w;exact absurd (Or.inl W) ho) ⟨W,.inl (by omega)⟩ (by
     intro p hm SQ _ _;refine⟨q,Q,A,b,i.toNat,by rw[SQ];exact r,s,by omega,⟨E,by omega⟩,?_⟩;intro k m v o I;have w:cs[k]?=some m:=by
      rw[at6]at o;split at o
      .exact o
      .cases o
     exact⟨(C k m v w I).1.mono hm,(C k m v w I).2⟩)
   refine dG.value (u:=.slice (some ⟨d.l j,0,none⟩) i.toNat b) (w':=p.w) ?_ ⟨_,_,p,O,⟨W,W⟩,W,g5,?_⟩
   .have o:∀w:World,(underlying t).run X.P w=.ok (.slice e) w:= λw=>by simp[underlying,program,Sem.run,ht.u]
    have w:0<=i/\i<=(b:Int):=⟨N,by omega⟩;simp[execOp,Instr.sliceAt,Instr.slice,o,S,P,Instr.sliceBounds,Instr.sliceBound,asIntOf,dt M.size,w,lO,F]
   .refine .m (.bC j (aK+1) i.toNat _ b (.inr ⟨acc,n,aK+1,_,by rw[H];exact vo f,asj _⟩) ?_);intro Q8 X7 Pb w;rw[H]at w;have I:j<st.H.length:=by rcases asp j st.H.length with o|o;exact o;simp[asr o]at f
    simp[I]at w;obtain⟨f1,f2,f3⟩:=w;subst f1;subst f2;subst f3;exact⟨by rw[G],E,_,A,by rw[G,F];exact r,s⟩
def C5{z:Array Value}(d:0<z.size)(h:∀(i:Nat) (v:Value),z[i]?=some v->flat v=true)(i:Nat)(v:Value)(a:(Builtin.zeroCells z n)[i]?=some v):flat v=true:=by
 have e:i<n*z.size:=by
  rcases asp i (n*z.size)with b|b
  .exact b
  .rw[asZ (by rw[lr];exact b)]at a;cases a
 have c:i%z.size<z.size:=atY _ d;simp[Builtin.zeroCells,e,c]at a;exact h (i%z.size) v (by simp[c,a])
def C6[ht:aU X.P T e][I:lC X.P U k][r:bY X.P e n][J:jR X.P e nb][K:gN X.P e z](L:Nat.blt 0 n=true)(N:(bg z).length=n)
  (O:st.ev x=some (.m (.d (.sl [])))) (P:st.ev y=some (.m (.d (.int k len)))) (hl:0<len) (Pc:len*nb<=140737488355328) (s:len<=140737488355328):
  cL X ⟨dst,.call ⟨.builtin .append,#[x,y],#[T,U]⟩,ty,pos,af,g⟩ st (du (.m (.bC st.H.length 0 len)) ⟨st.sl,st.bx,st.H++[.row false n 0 (List.replicate (len*n) .undef)]⟩):=by
 intro q a t h;have Q:=bN L;have j:=h.pE O;have R:=h.kW P;obtain⟨p,S,i2,w⟩:=rc r.size J.bytes;obtain⟨c,V,Y⟩:=(gF K.zero).run;have A:kV a ((bg z).map .d) c.cells:=(RM.d (ff Y):RM a (.d z) c).cells W;have ac:c.cells.size=n:=by rw[A.1];simpa using N
 have G:∀(i:Nat) (v:Value),c.cells[i]?=some v->flat v=true:=by
  intro i v f;have o:i<c.cells.size:=by rcases asp i c.cells.size with d|d;exact d;simp[asZ d]at f
  have l:i<(bg z).length:=by omega
  exact(A.2 i (.d (bg z)[i]) v (by simp[l]) f).2
 generalize TW:q.eval x=u at j;cases j with
 |sl F b o cap f val d l s B C D E=>exact absurd W d
 |slnil B=>
  let cap:=len+a.w.tape a.w.drawn (.appendCap len 0 e)%(2^63-len)
  let d:=Builtin.zeroCells c.cells len++Builtin.zeroCells c.cells (cap-len)
  have QT:len<=cap:=at0 _ _;have C:d.size=cap*n:=by
   simp only[d,auN,lr,ac];rw[<-at3];congr 1;omega
  have Z:cC X {a with w:=a.w.drew} t st q:=h.ext (gg.drew _);have VC:dI a {a with w:=a.w.drew} :=dI.ext (gg.drew _);have D:(List.replicate (len*n) M.undef).length=len*n:=by simp
  obtain⟨f,E,g2,F,g4,g5⟩:=Z.newObj (.row false n 0 (List.replicate (len*n) .undef)) (.cells d e (0,0)) (by
   intro f hm hw;refine⟨Q,d,e,cap,len,by rw[hw];exact iW _ _,C,QT,⟨D,s⟩,?_⟩;intro k m v o l;have PH:m=.undef:=by
    rw[auQ]at o;split at o
    .injection o with H;exact H.symm
    .cases o
   subst PH;refine⟨.undef _,?_⟩;simp only[d,au0]at l;split at l
   .exact C5 (by omega) G _ _ l
   .exact C5 (by omega) G _ _ l)
  refine dG.value (u:=.slice (some ⟨a.w.heap.size,0,none⟩) len cap) (w':=f.w) ?_ ⟨_,_,f,t,⟨W,W⟩,W,g5,?_⟩
  .have o:∀w:World,(typeInfo e).run X.P w=.ok p w:= λw=>by simp[typeInfo,program,Sem.run,S]
   have H:∀w:World,(underlying T).run X.P w=.ok (.slice e) w:= λw=>by simp[underlying,program,Sem.run,ht.u]
   have ah:∀w:World,(underlying U).run X.P w=.ok (.int k) w:= λw=>by simp[underlying,program,Sem.run,I.u]
   have ZV:IntKind.i64.wrap (len:Int)=len:=IntWalk.i64_in _ ⟨by omega,by omega⟩;have d7:¬((len:Int)*(p.bytes:Int)>2^48):=by
    rw[w];have:((len*nb:Nat):Int)<=140737488355328:=by omega
    rw[Int.natCast_mul]at this;omega
   have co:¬(281474976710656<(len:Int)*(p.bytes:Int)):=by omega
   have ZW:¬((len:Int)<0):=by omega
   have c1:¬len=0:=by omega
   have c2:¬(9223372036854775807<((len:Nat):Int)):=by omega
   have c3:¬(281474976710656<Builtin.nextslicecap len 0*p.bytes):=by
    rw[w];have j:=sP (R3:=len) (cap:=0) (by omega);have:=as5 nb j;rw[au9]at this;omega
   have c4:¬len*n=0:=by
    intro l;rcases aul.1 l with l|l<;>omega
   have d6:(Builtin.firstCells n 0 (.slice B 0 0)).run X.P a.w.drew=.ok #[] a.w.drew:=by
    cases B<;>simp[Builtin.firstCells,loadCells,loadCellsFrom]
   have YR:(Question.appendCap len 0 e).cut (a.w.tape a.w.drawn (Question.appendCap len 0 e))=cap:=rfl;have Ua:(Question.appendCap len 0 e).forced=false:=rfl;simp only[execOp,resolve,invoke,builtin,Builtin.append_];simp only[Sem.run_bind,Sem.run_pure,Result.andThen_ok,aud,asT,atu,TW,R];simp[H,ah,o,dt r.size,asInt,asIntOf,ZV,co,ZW,c1,c2,c3,c4];simp only[Ua,aup,at7];rw[d6];simp only[Result.andThen_ok,V,YR];simp[newRow,newObj,Sem.run,E,d]
  .have ah:a.H.length=st.H.length:=by rw[h.hH]
   have o:f.l st.H.length=a.w.heap.size:=by rw[<-ah];exact g2
   refine .m (.bC _ 0 len _ cap (.inr ⟨false,n,0,List.replicate (len*n) .undef,by rw[F];simp,asj _⟩) ?_);intro Q8 X7 OS l;rw[F]at l;simp at l;obtain⟨H,e2,e3⟩:=l;subst H;subst e2;subst e3;exact⟨by rw[o],D,d,e,by rw[o,E];exact iW _ _,C⟩
end ops
section walk
variable{X:bW}{ops:Array Oper}{rest:List Oper}{post:St->Prop}{sl:List (Nat×V)}{bx:List (Nat×List M)}{H:Hp}{d:Nat}{ty:Nat}{pos:String}{af:Array Edge}
def Gc[ht:aU X.P t e](a:Nat.blt d X.n=true)(b:bh sl x=some (.m (.d (.sl []))))(k:TL X ops rest ⟨(d,.m (.d (.int .i64 0)))::sl,bx,H⟩ post):
  TL X ops (⟨some d,.call ⟨.builtin .cap,#[x],#[t]⟩,ty,pos,af,none⟩::rest) ⟨sl,bx,H⟩ post:=Pf W W a (IU b) k
def Hi[ht:aU X.P t e][f:bY X.P e n](a:Nat.blt d X.n=true)(b:bh sl x=some (.m (.d (.sl []))))(c:bh sl y=some (.m (.d (.int kk 0))))(k:TL X ops rest ⟨(d,.m (.d (.sl [])))::sl,bx,H⟩ post):
  TL X ops (⟨some d,.slice t x none (some y) none,ty,pos,af,none⟩::rest) ⟨sl,bx,H⟩ post:=Pf W W a (EK b c) k
def pL[ht:aU X.P T e][f:bY X.P e n](a:Nat.blt d X.n=true)(b:bh sl x=some (.m (.d (.sl []))))(c:bh sl y=some (.m (.d (.sl []))))(k:TL X ops rest ⟨(d,.m (.d (.sl [])))::sl,bx,H⟩ post):
  TL X ops (⟨some d,.call ⟨.builtin .append,#[x,y],#[T,T]⟩,ty,pos,af,none⟩::rest) ⟨sl,bx,H⟩ post:=Pf W W a (BT b c) k
def Hj(acc:Bool)[ht:aU X.P t e][f:bY X.P e n](a:Nat.blt d X.n=true)(b:bh sl x=some (.m (.bC j aK len)))(c:bh sl y=some (.m (.d (.int kk i))))
  (f:H[j]?=some (.row false n aK cs)) (g:0<=i) (h:i<=len) (k:TL X ops rest ⟨(d,.m (.bC j (aK+1) i.toNat))::sl,bx,H.set j (.row acc n (aK+1) (cs.take (i.toNat*n)))⟩ post):
  TL X ops (⟨some d,.slice t x none (some y) none,ty,pos,af,none⟩::rest) ⟨sl,bx,H⟩ post:=Pf W W a (EL acc b c f g h) k
def EM[ht:aU X.P T e][f:lC X.P U kk][g:bY X.P e n][h:jR X.P e nb][i:gN X.P e z](a:Nat.blt d X.n=true)(b:bh sl x=some (.m (.d (.sl []))))(c:bh sl y=some (.m (.d (.int kk len))))
  (f:Nat.blt 0 n=true) (g:(bg z).length=n) (h:0<len) (i:len*nb<=140737488355328) (j:len<=140737488355328) (k:TL X ops rest ⟨(d,.m (.bC H.length 0 len))::sl,bx,H++[.row false n 0 (List.replicate (len*n) .undef)]⟩ post):
  TL X ops (⟨some d,.call ⟨.builtin .append,#[x,y],#[T,U]⟩,ty,pos,af,none⟩::rest) ⟨sl,bx,H⟩ post:=Pf W W a (C6 f g b c h i j) k
end walk
end Go.Mt
namespace Go.Mt
variable{ρ:Nat->Nat}{σ τ:Sg}{n b:Nat}{m:M}{ob:Ob}
inductive MB(n:Nat):M->Prop where
 |d (x:D):MB n (.d x)
 |ref (i a:Nat) (h:i<n):MB n (.ref i a)
 |bC (i a b:Nat) (h:i<n):MB n (.bC i a b)
 |et (i a b:Nat) (h:i<n):MB n (.et i a b)
 |mp (i:Nat) (h:i<n):MB n (.mp i)
 |it (i:Nat) (h:i<n):MB n (.it i)
 |agg (a:List M) (h:∀m∈a,MB n m):MB n (.agg a)
 |fn (f:Nat) (a:List M) (h:∀m∈a,MB n m):MB n (.fn f a)
 |di (a:List M) (h:∀m∈a,MB n m):MB n (.di a)
 |undef:MB n .undef
def Mz(n:Nat):Ob->Prop
 |.box a=>∀m∈a,MB n m
 |.row _ _ _ a=>∀m∈a,MB n m
 |.map a=>∀e∈a,MB n e.2
 |.iter x=>MB n x
 |.dead=>True
 |.free=>True
def HB(n:Nat)(H:Hp):Prop:=∀a∈H,Mz n a
mutual
def dy(ρ:Nat->Nat):M->M
 |.d x=>.d x
 |.ref i a=>.ref (ρ i) a
 |.bC i a b=>.bC (ρ i) a b
 |.et i a b=>.et (ρ i) a b
 |.mp i=>.mp (ρ i)
 |.it i=>.it (ρ i)
 |.agg a=>.agg (iX ρ a)
 |.fn f a=>.fn f (iX ρ a)
 |.di a=>.di (iX ρ a)
 |.undef=>.undef
def iX(ρ:Nat->Nat):List M->List M
 |[]=>[]
 |m::r=>dy ρ m::iX ρ r
end
def yv(ρ:Nat->Nat)(l:List M):iX ρ l=l.map (dy ρ):=by induction l with
 |nil=>rfl
 |cons b r a=>simp[iX,a]
def iw(ρ:Nat->Nat)(l:List M)(i:Nat):(iX ρ l)[i]?=(l[i]?).map (dy ρ):=by rw[yv];simp
def c7(ρ:Nat->Nat)(l:List M):(iX ρ l).length=l.length:=by rw[yv];simp
def cJ(ρ:Nat->Nat):Ob->Ob
 |.box a=>.box (iX ρ a)
 |.row d b c a=>.row d b c (iX ρ a)
 |.map a=>.map (a.map λe=>(e.1,dy ρ e.2))
 |.iter x=>.iter (dy ρ x)
 |.dead=>.dead
 |.free=>.free
def fj(ρ:Nat->Nat)(ob:Ob):(cJ ρ ob).live↔ob.live:=by cases ob<;>simp[cJ,Ob.live]
def pM(ρ:Nat->Nat)(ob:Ob)(o:Nat):(cJ ρ ob).jX o↔ob.jX o:=by cases ob<;>simp[cJ,Ob.jX,c7]
structure L6(ρ:Nat->Nat)(n:Nat)(σ τ:Sg):Prop where
 w:σ.w=τ.w
 O:∀b o,¬σ.O b o->¬τ.O b o
 len:∀(i:Nat) ob,σ.H[i]?=some ob->i<n
 ob:∀(i:Nat) ob,σ.H[i]?=some ob->τ.H[ρ i]?=some (cJ ρ ob)
 l:∀(i:Nat) ob,σ.H[i]?=some ob->τ.l (ρ i)=σ.l i
def RM.up(a:L6 ρ n σ τ){v:Value}(h:RM σ m v):RM τ (dy ρ m) v:=by
 induction h with
 |d h=>rw[dy];exact .d (h.mono λb o v c e=>⟨by rw[<-a.w];exact c,a.O b o e⟩)
 |ref i c e h=>
  rw[dy,<-a.l i _ h];exact .ref (ρ i) c _ (a.ob i _ h)
 |bC i k s j t g l=>
  rw[dy];have o:∃e,σ.H[i]?=some e:=by
   rcases g with h|⟨r,p,q,c,h,_⟩
   .exact⟨_,h⟩
   .exact⟨_,h⟩
  obtain⟨e,f⟩:=o;refine .bC _ k s j t ?_ ?_
  .rcases g with h|⟨r,p,q,u,h,c⟩
   .exact .inl (a.ob i _ h)
   .exact .inr ⟨r,p,q,_,a.ob i _ h,c⟩
  .intro x w u c;rw[a.ob i _ f]at c;injection c with c
   cases e<;>simp only[cJ]at c<;>cases c;obtain⟨p,q,r⟩:=l _ _ _ f;rw[a.l i _ f,c7,<-a.w];exact⟨p,q,r⟩
 |et i j q b g k=>
  rw[dy];have l:∃e,σ.H[i]?=some e:=by
   rcases g with h|⟨r,o,p,c,h,_⟩
   .exact⟨_,h⟩
   .exact⟨_,h⟩
  obtain⟨e,f⟩:=l;refine .et _ j q b ?_ ?_
  .rcases g with h|⟨r,o,p,s,h,c⟩
   .exact .inl (a.ob i _ h)
   .exact .inr ⟨r,o,p,_,a.ob i _ h,c⟩
  .intro r p o c;rw[a.ob i _ f]at c;injection c with c
   cases e<;>simp only[cJ]at c<;>cases c;rw[a.l i _ f];exact k _ _ _ f
 |mp i c h=>
  rw[dy,<-a.l i _ h];exact .mp (ρ i) _ (a.ob i _ h)
 |it i x h=>
  rw[dy,<-a.l i _ h];exact .it (ρ i) _ (a.ob i _ h)
 |agg p f g j h k=>
  rw[dy];refine .agg _ f (by rw[c7];exact g) j λi m v c l=>?_
  rw[iw]at c;obtain⟨o,e,rfl⟩:=as0.1 c;exact k i o v e l
 |fn f p g j h k=>
  rw[dy];refine .fn f _ g (by rw[c7];exact j) λi m v c l=>?_
  rw[iw]at c;obtain⟨o,e,rfl⟩:=as0.1 c;exact k i o v e l
 |di o f g h j=>
  rw[dy];refine .di _ f (by rw[c7];exact g) λi m v c k=>?_
  rw[iw]at c;obtain⟨l,e,rfl⟩:=as0.1 c;exact j i l v e k
 |undef v=>rw[dy];exact .undef v
structure EN(ρ:Nat->Nat)(n:Nat)(σ τ:Sg):Prop where
 w:σ.w=τ.w
 O:∀b o,¬τ.O b o->¬σ.O b o
 has:∀i:Nat,i<n->∃ob,σ.H[i]?=some ob
 ob:∀(i:Nat) ob,σ.H[i]?=some ob->τ.H[ρ i]?=some (cJ ρ ob)
 l:∀(i:Nat) ob,σ.H[i]?=some ob->τ.l (ρ i)=σ.l i
def RM.down(a:EN ρ n σ τ)(s:MB n m):∀{v:Value},RM τ (dy ρ m) v->RM σ m v:=by
 induction s with
 |d x=>
  intro v h;rw[dy]at h;cases h with
  |d h=>exact .d (h.mono λb o v c e=>⟨by rw[a.w];exact c,a.O b o e⟩)
 |ref i f h=>
  intro v e;rw[dy]at e;obtain⟨g,c⟩:=a.has i h;cases e with
  |ref j f k h=>
   rw[a.ob i _ c]at h;injection h with h
   cases g<;>simp only[cJ]at h<;>cases h;rw[a.l i _ c];exact .ref i f _ c
 |bC i j q h=>
  intro v g;rw[dy]at g;obtain⟨t,e⟩:=a.has i h;have k:=a.ob i _ e;cases g with
  |bC A j q r y c w=>
   refine .bC i j q r y ?_ ?_
   .rw[k]at c;cases t with
    |dead=>exact .inl e
    |free=>rcases c with h|⟨l,o,p,u,h,f⟩<;>simp[cJ]at h
    |row p l o f=>
     rcases c with h|⟨x,z,B,C,h,u⟩
     .simp[cJ]at h
     .simp only[cJ]at h;injection h with h;injection h with D E F G
      exact .inr ⟨p,l,o,f,e,by omega⟩
    |box l=>rcases c with h|⟨o,p,u,x,h,f⟩<;>simp[cJ]at h
    |map l=>rcases c with h|⟨o,p,u,x,h,f⟩<;>simp[cJ]at h
    |iter l=>rcases c with h|⟨o,p,u,x,h,f⟩<;>simp[cJ]at h
   .intro z x u f;rw[e]at f;injection f with f
    subst f;obtain⟨l,o,p⟩:=w z x (iX ρ u) k;rw[a.l i _ e]at l p;rw[c7]at o;rw[a.w];exact⟨l,o,p⟩
 |et i j l h=>
  intro v g;rw[dy]at g;obtain⟨o,e⟩:=a.has i h;have k:=a.ob i _ e;cases g with
  |et w j l b c q=>
   refine .et i j l b ?_ ?_
   .rw[k]at c;cases o with
    |dead=>exact .inl e
    |free=>rcases c with h|⟨p,r,t,u,h,f⟩<;>simp[cJ]at h
    |row t p r f=>
     rcases c with h|⟨x,y,z,A,h,u⟩
     .simp[cJ]at h
     .simp only[cJ]at h;injection h with h;injection h with B C D E
      exact .inr ⟨t,p,r,f,e,by omega⟩
    |box p=>rcases c with h|⟨r,t,u,x,h,f⟩<;>simp[cJ]at h
    |map p=>rcases c with h|⟨r,t,u,x,h,f⟩<;>simp[cJ]at h
    |iter p=>rcases c with h|⟨r,t,u,x,h,f⟩<;>simp[cJ]at h
   .intro t r p f;rw[e]at f;injection f with f
    subst f;rw[<-a.l i _ e];exact q t r (iX ρ p) k
 |mp i h=>
  intro v e;rw[dy]at e;obtain⟨f,c⟩:=a.has i h;cases e with
  |mp g j h=>
   rw[a.ob i _ c]at h;injection h with h
   cases f<;>simp only[cJ]at h<;>cases h;rw[a.l i _ c];exact .mp i _ c
 |it i h=>
  intro v e;rw[dy]at e;obtain⟨f,c⟩:=a.has i h;cases e with
  |it g x h=>
   rw[a.ob i _ c]at h;injection h with h
   cases f<;>simp only[cJ]at h<;>cases h;rw[a.l i _ c];exact .it i _ c
 |agg h p j=>
  intro v c;rw[dy]at c;cases c with
  |agg q k e l g=>
   refine .agg h k (by rw[c7]at e;exact e) l λi m v f o=>?_
   exact j m (asn f) (g i (dy ρ m) v (by rw[iw,f];rfl) o)
 |fn g j p k=>
  intro v c;rw[dy]at c;cases c with
  |fn r q l e h=>
   refine .fn g j l (by rw[c7]at e;exact e) λi m v f o=>?_
   exact k m (asn f) (h i (dy ρ m) v (by rw[iw,f];rfl) o)
 |di h o j=>
  intro v c;rw[dy]at c;cases c with
  |di p k e g=>
   refine .di h k (by rw[c7]at e;exact e) λi m v f l=>?_
   exact j m (asn f) (g i (dy ρ m) v (by rw[iw,f];rfl) l)
 |undef=>intro v h;exact .undef v
def gM.up(a:σ.w=τ.w)(d:∀m v,RM σ m v->RM τ (dy ρ m) v)(h:gM σ b ob):gM τ b (cJ ρ ob):=by
 cases ob with
 |box q=>
  obtain⟨n,T,o,p,f⟩:=h;refine⟨n,T,by rw[<-a];exact o,by rw[c7];exact p,λi m v g j=>?_⟩;rw[iw]at g;obtain⟨k,l,rfl⟩:=as0.1 g;exact⟨d _ _ (f i k v l j).1,(f i k v l j).2⟩
 |row A y z x=>
  obtain⟨t,o,T,w,n,p,q,r,⟨s,u⟩,k⟩:=h;refine⟨t,o,T,w,n,by rw[<-a];exact p,q,r,⟨by rw[c7];exact s,u⟩,λi m v f g=>?_⟩;rw[iw]at f;obtain⟨j,l,rfl⟩:=as0.1 f;exact⟨d _ _ (k i j v l g).1,(k i j v l g).2⟩
 |map q=>
  obtain⟨n,c,g,j,k⟩:=h;refine⟨n,c,by rw[<-a];exact g,by simpa using j,λi e u f o=>?_⟩;rw[asF]at f;obtain⟨p,l,rfl⟩:=as0.1 f;exact(k i p u l o).up λv a=>d _ _ a
 |iter x=>
  obtain⟨i,s,l,f,g⟩:=h;exact⟨i,s,l,by rw[<-a];exact f,d _ _ g⟩
 |dead=>trivial
 |free=>trivial
def gM.down(a:σ.w=τ.w)(d:∀m v,MB n m->RM τ (dy ρ m) v->RM σ m v)(f:Mz n ob)(h:gM τ b (cJ ρ ob)):gM σ b ob:=by
 cases ob with
 |box r=>
  obtain⟨l,T,o,g,p⟩:=h;refine⟨l,T,by rw[a];exact o,by rw[c7]at g;exact g,λk m v i q=>?_⟩;have j:=p k (dy ρ m) v (by rw[iw,i];rfl) q;exact⟨d _ _ (f m (asn i)) j.1,j.2⟩
 |row B z A y=>
  obtain⟨t,o,T,x,l,p,q,r,⟨i,u⟩,w⟩:=h;refine⟨t,o,T,x,l,by rw[a];exact p,q,r,⟨by rw[c7]at i;exact i,u⟩,λk m v g s=>?_⟩;have j:=w k (dy ρ m) v (by rw[iw,g];rfl) s;exact⟨d _ _ (f m (asn g)) j.1,j.2⟩
 |map r=>
  obtain⟨p,c,j,k,l⟩:=h;refine⟨p,c,by rw[a];exact j,by simpa using k,λi e u g q=>?_⟩;have o:=l i (e.1,dy ρ e.2) u (by rw[asF,g];rfl) q;exact o.up λv a=>d _ _ (f e (asn g)) a
 |iter x=>
  obtain⟨j,s,l,g,i⟩:=h;exact⟨j,s,l,by rw[a];exact g,d _ _ f i⟩
 |dead=>trivial
 |free=>trivial
end Go.Mt
namespace Go.Mt
def fE{H:Hp}{i:Nat}{ob:Ob}(h:H[i]?=some ob):i<H.length:=by
 rcases asp i H.length with a|a
 .exact a
 .simp[asr a]at h
def CT.frame{P:Program}{f:Nat}{ms:List M}{H K:Hp}{post:M->Hp->Prop}(ρ:Nat->Nat)(QG:∀i j,i<H.length->j<H.length->ρ i=ρ j->i=j)
  (l:∀(i:Nat) ob,H[i]?=some ob->K[ρ i]?=some (cJ ρ ob)) (hB:HB H.length H) (Pd:∀m∈ms,MB H.length m)
  (h:CT P f ms H λr k=>k.length=H.length/\post r k):
  CT P f (iX ρ ms) K λr k=>∃N H',post N H'/\H'.length=H.length/\r=dy ρ N/\k.length=K.length/\(∀(i:Nat) ob,H'[i]?=some ob->k[ρ i]?=some (cJ ρ ob))/\∀j,(∀i,i<H.length->ρ i≠j)->k[j]?=K[j]?:=by
 intro σ V vs s d Q4;have f4:∀i,i<H.length->ρ i<K.length:=by
  intro i a;have:=l i H[i] (by simp[a]);exact fE this
 let d6:Nat->Nat->Prop:= λb o=>V b o\/∃(j:Nat) (ob:Ob),(∀i,i<H.length->ρ i≠j)/\σ.H[j]?=some ob/\σ.l j=b/\ob.jX o
 let y:Sg:=⟨σ.w,σ.O,λi=>σ.l (ρ i),H⟩
 have f8:EN ρ H.length y σ:=⟨rfl,λ_ _ h=>h,λi a=>⟨H[i],by simp[y,a]⟩,λi ob c=>by rw[d];exact l i ob c,λi ob c=>rfl⟩;have d7:∀m v,MB H.length m->RM σ (dy ρ m) v->RM y m v:= λm v X O=>RM.down f8 X O
 have f9:kQ y d6:=by
  refine⟨?_,?_,?_,?_,?_⟩
  .intro i ob a;have c:σ.H[ρ i]?=some (cJ ρ ob):=by rw[d];exact l i ob a
   exact gM.down (σ:=y) (τ:=σ) (ρ:=ρ) W d7 (hB ob (asn a)) (s.obj (ρ i) _ c)
  .intro i j x z a I J Q t;have c:σ.H[ρ i]?=some (cJ ρ x):=by rw[d];exact l i x a
   have R:σ.H[ρ j]?=some (cJ ρ z):=by rw[d];exact l j z I
   exact QG i j (fE a) (fE I) (s.inj _ _ _ _ c R ((fj ρ x).2 J) ((fj ρ z).2 Q) t)
  .intro b o;show σ.O b o↔_;rw[s.own];constructor
   .rintro(c|⟨j,ob,c,I,J⟩)
    .exact .inl (.inl c)
    .by_cases z:∃i,i<H.length/\ρ i=j
     .obtain⟨i,a,rfl⟩:=z;have Q:=l i H[i] (by simp[a]);rw[d,Q]at c;injection c with c
      subst c;exact .inr ⟨i,H[i],by simp[y,a],I,(pM ρ _ o).1 J⟩
     .exact .inl (.inr ⟨j,ob,λi a t=>z ⟨i,a,t⟩,c,I,J⟩)
   .rintro((c|⟨j,ob,J,c,z,I⟩)|⟨i,ob,c,z,I⟩)
    .exact .inl c
    .exact .inr ⟨j,ob,c,z,I⟩
    .exact .inr ⟨ρ i,cJ ρ ob,by rw[d];exact l i ob c,z,(pM ρ _ o).2 I⟩
  .intro i ob a I o;have c:σ.H[ρ i]?=some (cJ ρ ob):=by rw[d];exact l i ob a
   rintro(z|⟨j,T,R,z,J,Q⟩)
   .exact s.sep _ _ c ((fj ρ ob).2 I) o z
   .exact R i (fE a) (s.inj _ _ _ _ c z ((fj ρ ob).2 I) (Ob.jI Q) J.symm)
  .rintro b o (c|⟨j,Q,R,z,I,J⟩)
   .exact s.mE b o c
   .rw[<-I];exact(s.obj j Q z).lt (Ob.jI J)
 have gc:u_ y ms vs:=by
  refine⟨by rw[Q4.1,c7],λi m v z I=>?_⟩;exact d7 m v (Pd m (asn z)) (Q4.2 i (dy ρ m) v (by rw[iw,z];rfl) I)
 refine(h y d6 vs f9 W gc).mono ?_;rintro e w' ⟨v,N,g,t,SQ,⟨L,Px⟩,S,O,E,B⟩
 classical
 let D:Nat->Option Nat:= λj=>if h:∃i,i<H.length/\ρ i=j then some h.choose else none
 have ah:∀i,i<H.length->D (ρ i)=some i:=by
  intro i a;have z:∃c,c<H.length/\ρ c=ρ i:=⟨i,a,rfl⟩;show(if h:∃c,c<H.length/\ρ c=ρ i then some h.choose else none)=some i;rw[auW z];have:=z.choose_spec;rw[QG _ _ this.1 a this.2]
 have co:∀j,(∀i,i<H.length->ρ i≠j)->D j=none:=by
  intro j z;show(if h:∃a,a<H.length/\ρ a=j then some h.choose else none)=none;rw[au7];rintro⟨i,a,t⟩;exact z i a t
 have F:∀j,(∃i,i<H.length/\ρ i=j/\D j=some i)\/((∀i,i<H.length->ρ i≠j)/\D j=none):=by
  intro j;by_cases z:∃i,i<H.length/\ρ i=j
  .obtain⟨i,a,rfl⟩:=z;exact .inl ⟨i,a,W,ah i a⟩
  .have c:∀i,i<H.length->ρ i≠j:= λi a t=>z ⟨i,a,t⟩
   exact .inr ⟨c,co j c⟩
 let p:Hp:=(List.range K.length).map λj=>match D j with
  |some i=>cJ ρ (g.H.getD i .dead)
  |none=>K.getD j .dead
 let n:Nat->Nat:= λj=>match D j with
  |some i=>g.l i
  |none=>σ.l j
 have w:∀(i:Nat) ob,g.H[i]?=some ob->p[ρ i]?=some (cJ ρ ob):=by
  intro i ob a;have z:i<H.length:=by rw[<-L];exact fE a
  simp[p,f4 i z,ah i z,a]
 have C:∀j,(∀i,i<H.length->ρ i≠j)->p[j]?=K[j]?:=by
  intro j I;by_cases z:j<K.length
  .simp[p,z,co j I]
  .simp[p,z]
 have q:∀(i:Nat),i<H.length->n (ρ i)=g.l i:=by
  intro i a;show(match D (ρ i)with|some i=>g.l i|none=>σ.l (ρ i))=_;rw[ah i a]
 have u:∀j,(∀i,i<H.length->ρ i≠j)->n j=σ.l j:=by
  intro j z;show(match D j with|some i=>g.l i|none=>σ.l j)=_;rw[co j z]
 let τ:Sg:=⟨g.w,g.O,n,p⟩
 have ge:L6 ρ H.length g τ:=⟨rfl,λ_ _ h=>h,λi ob a=>by rw[<-L];exact fE a,w,λi ob a=>q i (by rw[<-L];exact fE a)⟩;have UD:∀m v,RM g m v->RM τ (dy ρ m) v:= λm v O=>O.up ge
 have G:∀(j:Nat) ob,p[j]?=some ob->(∃i A,i<H.length/\ρ i=j/\g.H[i]?=some A/\ob=cJ ρ A)\/((∀i,i<H.length->ρ i≠j)/\σ.H[j]?=some ob):=by
  intro j ob z;rcases F j with⟨i,a,rfl,_⟩|⟨c,_⟩
  .have I:i<g.H.length:=by rw[L];exact a
   have:=w i g.H[i] (by simp[I]);rw[this]at z;injection z with z
   exact .inl ⟨i,g.H[i],a,W,by simp[I],z.symm⟩
  .rw[C j c]at z;exact .inr ⟨c,by rw[d];exact z⟩
 have ac:∀(j:Nat) ob,(∀i,i<H.length->ρ i≠j)->σ.H[j]?=some ob->ob.live->∀(i:Nat) x,H[i]?=some x->x.live->σ.l (ρ i)≠σ.l j:=by
  intro j ob z c Q i x a I t;have J:σ.H[ρ i]?=some (cJ ρ x):=by rw[d];exact l i x a
  exact z i (fE a) (s.inj _ _ _ _ J c ((fj ρ x).2 I) Q t)
 have QH:∀(j:Nat) ob,(∀i,i<H.length->ρ i≠j)->σ.H[j]?=some ob->ob.live->g.w.heap[σ.l j]?=σ.w.heap[σ.l j]?:=by
  intro j ob I c z;refine B.cy (σ.l j) ((s.obj j ob c).lt z) ?_;intro i x a J;exact ac j ob I c z i x a J
 have YS:dI σ τ:=by
  refine⟨E.cell,?_,?_,?_,?_,?_,?_⟩
  .intro j T z;rcases F j with⟨i,a,rfl,_⟩|⟨c,_⟩
   .have J:=l i H[i] (by simp[a]);rw[d,J]at z;injection z with z
    cases I:H[i]with
    |box U=>
     obtain⟨⟨Y,Q⟩,R⟩:=E.box i U (by show H[i]?=_;simp[a,I]);exact⟨⟨_,w i _ Q⟩,by show n (ρ i)=_;rw[q i a];exact R⟩
    |_=>rw[I]at z;simp[cJ]at z
   .exact⟨⟨T,by show p[j]?=_;rw[C j c,<-d];exact z⟩,u j c⟩
  .intro j T z;rcases F j with⟨i,a,rfl,_⟩|⟨c,_⟩
   .have J:=l i H[i] (by simp[a]);rw[d,J]at z;injection z with z
    cases I:H[i]with
    |map U=>
     obtain⟨⟨Y,Q⟩,R⟩:=E.map i U (by show H[i]?=_;simp[a,I]);exact⟨⟨_,w i _ Q⟩,by show n (ρ i)=_;rw[q i a];exact R⟩
    |_=>rw[I]at z;simp[cJ]at z
   .exact⟨⟨T,by show p[j]?=_;rw[C j c,<-d];exact z⟩,u j c⟩
  .intro j T z;rcases F j with⟨i,a,rfl,_⟩|⟨c,_⟩
   .have J:=l i H[i] (by simp[a]);rw[d,J]at z;injection z with z
    cases I:H[i]with
    |iter U=>
     obtain⟨⟨Y,Q⟩,R⟩:=E.iter i U (by show H[i]?=_;simp[a,I]);exact⟨⟨_,w i _ Q⟩,by show n (ρ i)=_;rw[q i a];exact R⟩
    |_=>rw[I]at z;simp[cJ]at z
   .exact⟨⟨T,by show p[j]?=_;rw[C j c,<-d];exact z⟩,u j c⟩
  .intro j z;rcases F j with⟨i,a,rfl,_⟩|⟨c,_⟩
   .have J:=l i H[i] (by simp[a]);rw[d,J]at z;injection z with z
    cases I:H[i]with
    |dead=>
     have Q:=E.dead i (by show H[i]?=_;simp[a,I]);exact w i _ Q
    |_=>rw[I]at z;simp[cJ]at z
   .show p[j]?=_;rw[C j c,<-d];exact z
  .intro j d8 ec Z U z;rcases F j with⟨i,a,rfl,_⟩|⟨c,_⟩
   .have Q:=l i H[i] (by simp[a]);rw[d,Q]at z;injection z with z
    cases I:H[i]with
    |row a0 e0 v0 Y=>
     rw[I]at z;simp only[cJ]at z;cases z;rcases E.row i _ _ _ Y (by show H[i]?=_;rw[aso a,I])with J|⟨a1,v1,c1,J,R,h5⟩
     .exact .inl (w i _ J)
     .refine .inr ⟨a1,v1,_,w i _ J,R,λT=>?_⟩;obtain⟨y1,y2,y3⟩:=h5 T;exact⟨by show n (ρ i)=_;rw[q i a];exact y1,by rw[c7,c7];exact y2,y3⟩
    |_=>rw[I]at z;simp[cJ]at z
   .refine .inr ⟨d8,Z,U,by show p[j]?=_;rw[C j c,<-d];exact z,asj _,λ_=>⟨u j c,rfl,λJ T I=>?_⟩⟩;exact⟨J,by rw[<-QH j _ c z trivial]at I;exact I,W⟩
  .intro j z;rcases F j with⟨i,a,rfl,_⟩|⟨c,_⟩
   .obtain⟨ob,I⟩:=E.has i H[i] (by show H[i]?=_;simp[a]);exact⟨_,w i _ I⟩
   .exact⟨_,by show p[j]?=_;rw[C j c,<-d];exact z⟩
 have i6:∀(j:Nat) ob,(∀i,i<H.length->ρ i≠j)->σ.H[j]?=some ob->gM τ (σ.l j) ob:=by
  intro j ob I c;by_cases z:ob.live
  .exact(s.obj j ob c).cH YS (λx a=>by show g.w.heap[σ.l j]?=_;rw[QH j ob I c z];exact a)
  .cases ob<;>first|trivial|exact absurd trivial z
 refine⟨v,dy ρ N,τ,t,SQ,⟨N,g.H,Px,L,W,by simp[τ,p],w,C⟩,?_,UD _ _ O,YS,?_⟩
 .refine⟨?_,?_,?_,?_,?_⟩
  .intro j ob I;rcases G j ob I with⟨i,A,a,rfl,z,rfl⟩|⟨c,z⟩
   .show gM τ (n (ρ i)) _;rw[q i a];exact gM.up (σ:=g) (τ:=τ) (ρ:=ρ) W UD (S.obj i A z)
   .show gM τ (n j) _;rw[u j c];exact i6 j ob c z
  .intro J I x T c h2 Q R t;have z:n J=n I:=t;rcases G J x c with⟨U,x0,RI,rfl,d8,rfl⟩|⟨Y,Z⟩
   .rcases G I T h2 with⟨i2,y0,RT,rfl,i7,rfl⟩|⟨YT,d9⟩
    .rw[q U RI,q i2 RT]at z;rw[S.inj _ _ _ _ d8 i7 ((fj ρ _).1 Q) ((fj ρ _).1 R) z]
    .exfalso;rw[q U RI,u I YT]at z;rcases B.loc U x0 d8 ((fj ρ _).1 Q)with h3|⟨PA,h3,h4,h5⟩
     .have:=(s.obj I T d9).lt R;have h6:y.w.heap.size=σ.w.heap.size:=rfl;omega
     .exact ac I T YT d9 R U PA h3 h4 (h5.symm.trans z)
   .rcases G I T h2 with⟨i2,y0,RT,rfl,d9,rfl⟩|⟨YT,i7⟩
    .exfalso;rw[u J Y,q i2 RT]at z;rcases B.loc i2 y0 d9 ((fj ρ _).1 R)with h3|⟨PA,h3,h4,h5⟩
     .have:=(s.obj J x Z).lt Q;have h6:y.w.heap.size=σ.w.heap.size:=rfl;omega
     .exact ac J x Y Z Q i2 PA h3 h4 (h5.symm.trans z.symm)
    .rw[u J Y,u I YT]at z;exact s.inj _ _ _ _ Z i7 Q R z
  .intro b o;show g.O b o↔_;rw[S.own];constructor
   .rintro((c|⟨j,ob,J,c,z,I⟩)|⟨i,ob,c,z,I⟩)
    .exact .inl c
    .exact .inr ⟨j,ob,by show p[j]?=_;rw[C j J,<-d];exact c,by show n j=b;rw[u j J];exact z,I⟩
    .have a:i<H.length:=by rw[<-L];exact fE c
     exact .inr ⟨ρ i,cJ ρ ob,w i ob c,by show n (ρ i)=b;rw[q i a];exact z,(pM ρ _ o).2 I⟩
   .rintro(c|⟨j,ob,c,Q,J⟩)
    .exact .inl (.inl c)
    .have I:n j=b:=Q;rcases G j ob c with⟨i,A,a,rfl,z,rfl⟩|⟨z,R⟩
     .rw[q i a]at I;exact .inr ⟨i,A,z,I,(pM ρ _ o).1 J⟩
     .rw[u j z]at I;exact .inl (.inr ⟨j,ob,z,R,I,J⟩)
  .intro j ob Q I o J;rcases G j ob Q with⟨i,A,a,rfl,z,rfl⟩|⟨z,R⟩
   .have T:V (g.l i) o:=by rw[<-q i a];exact J
    exact S.sep i A z ((fj ρ _).1 I) o (.inl T)
   .have T:V (σ.l j) o:=by rw[<-u j z];exact J
    exact s.sep j ob R I o T
  .exactλb o c=>S.mE b o (.inl c)
 .refine⟨B.os,B.output,B.tape,B.size,?_,?_⟩
  .intro b X I;refine B.cy b X ?_;intro i ob a z;exact I (ρ i) (cJ ρ ob) (by rw[d];exact l i ob a) ((fj ρ _).2 z)
  .intro j ob R J;rcases G j ob R with⟨i,A,a,rfl,z,rfl⟩|⟨z,T⟩
   .rcases B.loc i A z ((fj ρ _).1 J)with I|⟨Q,I,U,Y⟩
    .exact .inl (by show _<=n (ρ i);rw[q i a];exact I)
    .exact .inr ⟨cJ ρ Q,by rw[d];exact l i Q I,(fj ρ _).2 U,by show n (ρ i)=_;rw[q i a];exact Y⟩
   .exact .inr ⟨ob,T,J,u j z⟩
variable{n f:Nat}{H:Hp}{P:Program}{ms:List M}{post:M->Hp->Prop}
mutual
def BU(n:Nat):M->Bool
 |.d _=>true
 |.ref i _=>Nat.blt i n
 |.bC i _ _=>Nat.blt i n
 |.et i _ _=>Nat.blt i n
 |.mp i=>Nat.blt i n
 |.it i=>Nat.blt i n
 |.agg a=>w7 n a
 |.fn _ a=>w7 n a
 |.di a=>w7 n a
 |.undef=>true
def w7(n:Nat):List M->Bool
 |[]=>true
 |m::r=>BU n m&&w7 n r
end
mutual
def jx:∀{m:M},BU n m=true->MB n m
 |.d x,_=>.d x
 |.ref i a,h=>.ref i a (bN h)
 |.bC i v l,h=>.bC i v l (bN h)
 |.et i v l,h=>.et i v l (bN h)
 |.mp i,h=>.mp i (bN h)
 |.it i,h=>.it i (bN h)
 |.agg a,h=>.agg a (qy (by simpa [BU] using h))
 |.fn f a,h=>.fn f a (qy (by simpa [BU] using h))
 |.di a,h=>.di a (qy (by simpa [BU] using h))
 |.undef,_=>.undef
def qy:∀{l:List M},w7 n l=true->∀m∈l,MB n m
 |[],_=>by simp
 |b::r,h=>by
  rw[w7,asH]at h;intro m a;rcases asQ.1 a with e|a
  .rw[e];exact jx h.1
  .exact qy h.2 m a
end
def Nt(n:Nat):Ob->Bool
 |.box a=>w7 n a
 |.row _ _ _ a=>w7 n a
 |.map a=>a.all λe=>BU n e.2
 |.iter x=>BU n x
 |.dead=>true
 |.free=>true
def KJ{ob:Ob}(h:Nt n ob=true):Mz n ob:=by
 cases ob with
 |box a=>exact qy h
 |row a e v b=>exact qy h
 |map b=>intro e a;exact jx (atC.1 h e a)
 |iter x=>exact jx h
 |dead=>trivial
 |free=>trivial
def KK(h:H.all (Nt n)=true):HB n H:= λa b=>KJ (atC.1 h a b)
mutual
def sQ:∀m:M,dy (λi=>i) m=m
 |.d x=>by rw[dy]
 |.ref i a=>by rw[dy]
 |.bC i v l=>by rw[dy]
 |.et i v l=>by rw[dy]
 |.mp i=>by rw[dy]
 |.it i=>by rw[dy]
 |.agg a=>by rw[dy,mI a]
 |.fn f a=>by rw[dy,mI a]
 |.di a=>by rw[dy,mI a]
 |.undef=>by rw[dy]
def mI:∀l:List M,iX (λi=>i) l=l
 |[]=>by rw[iX]
 |m::r=>by rw[iX,sQ m,mI r]
end
def wx(ob:Ob):cJ (λi=>i) ob=ob:=by
 cases ob with
 |box a=>simp[cJ,mI]
 |row a e v b=>simp[cJ,mI]
 |map a=>simp[cJ,sQ]
 |iter x=>simp[cJ,sQ]
 |dead=>rfl
 |free=>rfl
def CT.suffix(F:Hp)(e:HB H.length H)(g:∀m∈ms,MB H.length m)
  (h:CT P f ms H λr k=>k.length=H.length/\post r k):CT P f ms (H++F) λr k=>∃H',k=H'++F/\H'.length=H.length/\post r H':=by
 have c:=CT.frame (K:=H++F) (λi=>i) (λi j _ _ h=>h) (λi a a=>by rw[wx,asl (fE a)];exact a) e g h;rw[mI]at c;refine c.mono ?_;rintro r k ⟨o,H',j,b,rfl,p,l,n⟩;rw[sQ];refine⟨H',?_,b,j⟩;apply atX;intro i;rcases asp i H.length with a|a
 .have d:=l i H'[i] (by simp[b,a]);rw[wx]at d;rw[d,asl (by omega)];simp[b,a]
 .rw[n i (λj a a=>by omega),ass a,ass (by omega),b]
def CT.drop(n:Nat)(V:H.length<=n)
  (h:CT P f ms H λt k=>n<=k.length/\MB n t/\HB n (k.take n)/\post t (k.take n)):CT P f ms H post:=by
 intro σ w p U z E;refine(h σ w p U z E).mono ?_;rintro e X ⟨v,t,g,F,G,⟨Y,I,J,K⟩,u,Q,q,s⟩
 let τ:Sg:=⟨g.w,λb o=>w b o\/∃(i:Nat) (a:Ob),(g.H.take n)[i]?=some a/\g.l i=b/\a.jX o,g.l,g.H.take n⟩
 have l:∀(i:Nat) a,(g.H.take n)[i]?=some a->i<n/\g.H[i]?=some a:=by
  intro i a c;rw[at6]at c;split at c
  .exact⟨by assumption,c⟩
  .cases c
 have j:∀(i:Nat) a,i<n->g.H[i]?=some a->(g.H.take n)[i]?=some a:=by
  intro i a c h;rw[at6,asB c];exact h
 have A:∀b o,¬g.O b o->¬τ.O b o:=by
  intro b o k c;apply k;rw[u.own];rcases c with c|⟨i,a,c,r,x⟩
  .exact .inl c
  .exact .inr ⟨i,a,(l i a c).2,r,x⟩
 have Z:EN (λi=>i) n τ g->True:= λ_=>trivial
 have B:∀m v,MB n m->RM g m v->RM τ m v:=by
  intro m v M
  induction M generalizing v with
  |d x=>intro h;cases h with
   |d h=>exact .d (h.mono λb o v c g=>⟨c,A b o g⟩)
  |ref i c k=>intro h;cases h with
   |ref i c r h=>exact .ref i c r (j i _ k h)
  |bC i y C x=>intro h;cases h with
   |bC i y C D R S N=>
    refine .bC i y C D R ?_ λr k c h=>N r k c (l i _ h).2
    rcases S with h|⟨r,k,O,c,h,L⟩
    .exact .inl (j i _ x h)
    .exact .inr ⟨r,k,O,c,j i _ x h,L⟩
  |et i y C x=>intro h;cases h with
   |et i y C b O L=>
    refine .et i y C b ?_ λr k c h=>L r k c (l i _ h).2
    rcases O with h|⟨r,k,N,c,h,D⟩
    .exact .inl (j i _ x h)
    .exact .inr ⟨r,k,N,c,j i _ x h,D⟩
  |mp i c=>intro h;cases h with
   |mp i k h=>exact .mp i k (j i _ c h)
  |it i c=>intro h;cases h with
   |it i x h=>exact .it i x (j i _ c h)
  |agg c y k=>intro h;cases h with
   |agg c p r x h=>exact .agg c p r x λi m v c g=>k m (asn c) v (h i m v c g)
  |fn f c x k=>intro h;cases h with
   |fn f c p r h=>exact .fn f c p r λi m v c g=>k m (asn c) v (h i m v c g)
  |di c x k=>intro h;cases h with
   |di c p r h=>exact .di c p r λi m v c g=>k m (asn c) v (h i m v c g)
  |undef=>intro h;exact .undef v
 have T:∀(i:Nat) a,(g.H.take n)[i]?=some a->gM τ (g.l i) a:=by
  intro i a c;have k:=u.obj i a (l i a c).2;have r:=J a (asn c);refine gM.down (σ:=τ) (τ:=g) (ρ:= λi=>i) (n:=n) W (λm v g c=>B m v g (by rw[sQ]at c;exact c)) r (by rw[wx];exact k)
 refine⟨v,t,τ,F,G,K,?_,B t v I Q,?_,?_⟩
 .refine⟨T,?_,λb o=>atn,?_,u.mE⟩
  .intro i c x y k r;exact u.inj i c x y (l i x k).2 (l c y r).2
  .intro i a c;exact u.sep i a (l i a c).2
 .have r:∀(i:Nat) a,σ.H[i]?=some a->i<n:=by
   intro i a c;rw[z]at c;have:=fE c;omega
  refine⟨?_,?_,?_,?_,?_,?_,λi c=>let⟨a,k⟩:=q.has i _ c;⟨a,j i _ (r i _ c) k⟩⟩
  .intro b o v k y;have x:=q.cell b o v k y;exact⟨x.1,A b o x.2⟩
  .intro i y c;obtain⟨⟨C,k⟩,x⟩:=q.box i y c;exact⟨⟨C,j i _ (r i _ c) k⟩,x⟩
  .intro i y c;obtain⟨⟨C,k⟩,x⟩:=q.map i y c;exact⟨⟨C,j i _ (r i _ c) k⟩,x⟩
  .intro i y c;obtain⟨⟨C,k⟩,x⟩:=q.iter i y c;exact⟨⟨C,j i _ (r i _ c) k⟩,x⟩
  .intro i c;exact j i _ (r i _ c) (q.dead i c)
  .intro i R L D C c;rcases q.row i R L D C c with k|⟨O,M,N,k,x,y⟩
   .exact .inl (j i _ (r i _ c) k)
   .exact .inr ⟨O,M,N,j i _ (r i _ c) k,x,y⟩
 .refine⟨s.os,s.output,s.tape,s.size,s.cy,?_⟩;intro i a c k;exact s.loc i a (l i a c).2 k
def CT.yw{ds:List D}{post:List D->Prop}(h:PT P f ds post):CT P f (ds.map .d) H λr k=>(∃d,r=vi (d.map .d)/\post d)/\k=H:=by
 intro a u n l o j;refine(h a.O a.w n l.CV ⟨by simpa using j.1,λm d v c g=>?_⟩).mono ?_
 .have:=j.2 m (.d d) v (by simp[c]) g;cases this with
  |d h=>exact h
 .rintro e p ⟨v,r,q,s,i,t⟩;refine⟨v,_,{a with w:=p},q,rfl,⟨⟨r,rfl,s⟩,o⟩,?_,t.EF (λb o v c g=>⟨c,g⟩),dI.ext i,?_⟩
  .exact l.ext i
  .exact bF.ext i
end Go.Mt
namespace Go.Mt
def gd{b:Type} :∀{l:List (Nat×b)} {t u:Nat} {v:b},get (del l t) u=some v->u≠t/\get l u=some v
 |[],t,u,v,h=>by simp[del,get]at h
 |(k,x)::r,t,u,v,h=>by
  rw[del]at h;cases a:Nat.beq k t with
  |true=>
   rw[a,as3]at h;obtain⟨c,d⟩:=gd h;refine⟨c,?_⟩;rw[bM,asu]
   .exact d
   .intro e;exact c (e.symm.trans (asy a))
  |false=>
   rw[a,atV,bM]at h;rw[bM];by_cases e:k=u
   .rw[asB e]at h⊢;refine⟨λc=>?_,h⟩;subst e;subst c;simp at a
   .rw[asu e]at h⊢;exact gd h
def cC.freeze{X:bW}{σ:Sg}{OC:Nat->Nat}{st:St}{a:Act}(hi:cC X σ OC st a){t:Nat}{ds:List D}(p:get st.bx t=some (ds.map .d))(A:get st.sl t=some (.loc t 0)):
  ∃τ:Sg,τ.w=σ.w/\cC X τ OC ⟨(t,.m (.d (.aZ ds 0)))::st.sl,del st.bx t,st.H⟩ a:=by
 let s:Nat->Nat->Prop:= λb o=>ou X.j_ OC (del st.bx t) b o\/∃(i:Nat) (j:Ob),σ.H[i]?=some j/\σ.l i=b/\j.jX o
 let τ:Sg:=⟨σ.w,s,σ.l,σ.H⟩
 have r:∀b o,ou X.j_ OC (del st.bx t) b o->ou X.j_ OC st.bx b o:=by
  rintro b o (h|⟨u,c,k,f⟩)
  .exact .inl h
  .exact .inr ⟨u,c,(gd k).2,f⟩
 have B:∀b o,¬σ.O b o->¬τ.O b o:=by
  intro b o k f;apply k;rw[hi.hinv.own];rcases f with f|f
  .exact .inl (r b o f)
  .exact .inr f
 have n:dI σ τ:=⟨λb o v k f=>⟨k,B b o f⟩,λ_ c h=>⟨⟨c,h⟩,rfl⟩,λ_ f h=>⟨⟨f,h⟩,rfl⟩,λi c h=>⟨⟨c,h⟩,rfl⟩,λ_ h=>h,
  λ_ g f f c h=>.inr ⟨g,f,c,h,asj _,λ_=>⟨rfl,rfl,λm T h=>⟨m,h,rfl⟩⟩⟩,λ_ h=>⟨_,h⟩⟩
 obtain⟨m,T,k,f,w⟩:=hi.box t _ p;have C:∀o,¬s (OC t) o:=by
  rintro o ((h|⟨u,c,g,l⟩)|⟨i,j,g,l,q⟩)
  .exact hi.sC t _ p o h
  .obtain⟨q,x⟩:=gd g;exact q (hi.rU u t _ _ x p l)
  .exact hi.hinv.sep i j g (Ob.jI q) o (.inr ⟨t,_,p,l.symm⟩)
 refine⟨τ,W,hi.hH,hi.defers,hi.size,?_,?_,?_,?_,?_,?_,hi.mono.trans n,⟨hi.cy.os,hi.cy.output,hi.cy.tape,hi.cy.size,hi.cy.cy,hi.cy.loc⟩⟩
 .intro u v l;rw[bM]at l;by_cases e:t=u
  .subst e;rw[asB W]at l;injection l with l
   subst l;obtain⟨z,E,F⟩:=hi.slot t _ A;refine⟨z,E,?_⟩;cases F with
   |loc u H=>
    have q:∀i,i<ds.length->i<m.size:=by intro i g;rw[f];simpa using g
    have y:∀i,(g:i<ds.length)->m[i]?=some (m.getD i undef):=by intro i g;simp[q i g]
    refine .m (.d (.aZ ds 0 (OC t) 0 (λi=>m.getD i undef) ?_ ?_ ?_))
    .intro i g;refine⟨?_,C _⟩;simp[dZ,World.cell?,τ,k,q i g]
    .intro i g;exact(w i (.d ds[i]) _ (by simp[g]) (y i g)).2
    .intro i d x;have g:i<ds.length:=by rcases asp i ds.length with h|h;exact h;simp[asr h]at x
     have G:=(w i (.d d) _ (by simp[x]) (y i g)).1.mono n;cases G with
     |d h=>exact h
  .rw[asu e]at l;obtain⟨x,g,q⟩:=hi.slot u v l;exact⟨x,g,q.mono n⟩
 .intro u c g;exact(hi.box u c (gd g).2).cH n (λx c=>c)
 .intro u v c l g q;exact hi.rU u v c l (gd g).2 (gd q).2
 .intro u c g;exact hi.sC u c (gd g).2
 .intro u c g;exact hi.sD u c (gd g).2
 .refine⟨λi j h=>(hi.hinv.obj i j h).cH n (λx c=>c),hi.hinv.inj,λb o=>atn,λi j h f o c=>hi.hinv.sep i j h f o (r _ _ c),λb o c=>hi.hinv.mE b o (r _ _ c)⟩
variable{X:bW}{st:St}{a:Act}{w:World}
def Inv.base(h:Inv X st a w):X.s0.H.length<=st.H.length:=by
 obtain⟨d,m,rfl,l⟩:=h;have f:=l.mono;rw[<-l.hH];rcases asp d.H.length X.s0.H.length with j|j
 .exfalso;have b:X.s0.H[d.H.length]?=some X.s0.H[d.H.length]:=by simp[j]
  have g:d.H[d.H.length]?=none:=by simp
  cases i:X.s0.H[d.H.length]with
  |box n=>rw[i]at b;obtain⟨⟨o,k⟩,_⟩:=f.box _ _ b;rw[g]at k;cases k
  |map n=>rw[i]at b;obtain⟨⟨o,k⟩,_⟩:=f.map _ _ b;rw[g]at k;cases k
  |iter n=>rw[i]at b;obtain⟨⟨o,k⟩,_⟩:=f.iter _ _ b;rw[g]at k;cases k
  |dead=>rw[i]at b;have k:=f.dead _ b;rw[g]at k;cases k
  |free=>rw[i]at b;obtain⟨_,k⟩:=f.free _ b;rw[g]at k;cases k
  |row a e v c=>
   rw[i]at b;rcases f.row _ _ _ _ _ b with k|⟨_,_,_,k,_⟩<;>(rw[g]at k;cases k)
 .exact j
def TC.base{c:Code}{q:Exit->St->Prop}(k:X.s0.H.length<=st.H.length->TC X c st q):TC X c st q:=
 λb w a=>k a.base b w a
def Inv.lD{sl:List (Nat×V)}{bx:List (Nat×List M)}{H:Hp}{j ec aK:Nat}{cs:List M}(i:H[j]?=some (.row false ec aK cs))(h:Inv X ⟨sl,bx,H⟩ a w):
  Inv X ⟨sl,bx,H.set j (.row true ec aK cs)⟩ a w:=by
 obtain⟨d,l,rfl,e⟩:=h;have o:d.H[j]?=some (.row false ec aK cs):=by rw[e.hH];exact i
 have p:=e.hinv.obj j _ o;obtain⟨g,q,C,D,E,r⟩:=e.ra (j:=j) (b':=d.l j) (ob:=.row false ec aK cs) (PA:=.row true ec aK cs) (w':=d.w) i trivial W W W (asj _)
  (λc _ _=>rfl) (.inl W) (λo v d e=>absurd (Or.inl W) d) ⟨rfl,.inr ⟨rfl,rfl,rfl,λf T h=>⟨f,h,rfl⟩⟩⟩ (by
   intro g s t _ _;obtain⟨u,f,T,B,n,x,y,z,A,k⟩:=p;exact⟨u,f,T,B,n,by rw[t];exact x,y,z,A,λi m v a b=>⟨(k i m v a b).1.mono s,(k i m v a b).2⟩⟩)
 exact⟨g,l,q,r⟩
end Go.Mt
namespace Go.Mt
def uF(H:Hp)(rows:List (List D)):M:=match rows with
 |[]=>.d (.sl [])
 |_::r=>.bC H.length 0 (r.length+1)
def jS(H:Hp)(ec:Nat)(rows:List (List D)):Hp:=match rows with
 |[]=>H
 |q::r=>H++[.row true ec 0 (aY (q::r))]
def BV(H:Hp)(ec:Nat)(r1 r2:List (List D)):Hp:=match r1,r2 with
 |[],[]=>H
 |[],q::r=>H++[.row true ec 0 (aY (q::r))]
 |q::r,r2=>H++[.row true ec 1 (aY (q::r)++aY r2)]
def get_mem{a:Type} :∀{l:List (Nat×a)} {t:Nat} {v:a},get l t=some v->(t,v)∈l
 |[],t,v,h=>by simp[get]at h
 |(k,x)::r,t,v,h=>by
  rw[bM]at h;by_cases e:k=t
  .rw[asB e]at h;injection h with h;subst h;subst e;simp
  .rw[asu e]at h;exact asI _ (get_mem h)
variable{X:bW}{ops:Array Oper}{rest:List Oper}{post:St->Prop}{sl:List (Nat×V)}{bx:List (Nat×List M)}{H:Hp}{d ty:Nat}{pos:String}{af:Array Edge}
def wy{T:Nat}{cs:List M}[a:yj X.P T cs](b:Nat.blt d X.n=true)(k:TL X ops rest ⟨(d,.m (.ref H.length 0))::sl,bx,H++[Ob.box cs]⟩ post):
  TL X ops (⟨some d,.alloc T,ty,pos,af,none⟩::rest) ⟨sl,bx,H⟩ post:=by
 obtain⟨z,e,c⟩:=a.h;subst c;exact Pf W W b EI k
end Go.Mt
