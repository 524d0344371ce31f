/- A part of the proof of the last text of this claim, without conditions. -/
import Derived.Test.YtjbigbaipmiihaaGreatG
set_option maxRecDepth 4000
set_option linter.all false
namespace Go.Sm
open Go.Mt
inductive Dg:bj->Prop where
 |mk {vars:List Va} {au:List aB} (h0: ∀v∈vars,v.clock.length<=1000000) (h1: ∀q∈au,(q.kd=1\/q.kd=2\/q.kd=3\/q.kd=4\/q.kd=5)/\(q.kd=3\/q.kd=4\/q.kd=5->q.args= [])/\(q.kd=4->xP q.ex=0))
   (h2: ∀q∈au,∀a∈q.aj,Dg a.cy) (h3: ∀q∈au,∀a∈q.aj,∀t:Tr,(t∈a.fG\/t∈a.fH)->jP t.e/\xP t.e=0):Dg (.mk vars au)
structure p6(P:Pg):Prop where
 d: ∀d∈P.nodes,Dg d.b/\(∀v,v∈d.ins\/v∈d.outs->v.clock.length<=1000000)/\d.b.vars.length<=900000
def kJ(c:aK)(d:Nd):Path->Nat->Prop
 | [],k=>k<bW d
 |j::σ,k=> ∃q p a,(c.fr σ).au[j]?=some q/\(c.fr σ).pos[j]?=some p/\q.aj[c.bA σ j]?=some a/\cI q p (c.bA σ j)<=k/\k<cI q p (c.bA σ j)+bP a.cy
structure Gu(c:aK)(d:Nd)(π:Path)(b:bj)(s:Nat):Prop where
 sm:uP b
 wf:Dg b
 df:gg b<=1000000
 au:(c.fr π).au=b.au
 pos:(c.fr π).pos=dX b.au (s+aU b.vars)
 eh:s+bP b<=bW d
 i1: ∀k,s<=k->k<s+bP b->kJ c d π k
 i2: ∀k,kJ c d π k->π≠ []->s<=k/\k<s+bP b
 t:π= []->b=d.b/\s=0
 f:π≠ []->c.fr π=vA b s
structure pc(P:Pg)(c:aK)(d:Nd):Prop where
 dm:d∈P.nodes
 i_: ∀j π,c.ok (j::π)->c.ok π/\ ∃q,(c.fr π).au[j]?=some q/\(q.kd=3\/q.kd=4\/q.kd=5)
 qe:c.fr []=rl d
 bA: ∀π j q p,c.ok π->(c.fr π).au[j]?=some q->(c.fr π).pos[j]?=some p->(q.kd=3\/q.kd=4\/q.kd=5)-> ∃a,pV c π j q p a
section
variable{P:Pg}{n:Nat}{c:aK}{d:Nd}{u:US}{ins outs:List Int}{u':US}
theorem pd(b:pc P c d): ∀{τ ρ:Path},c.ok (τ++ρ)->c.ok ρ
 | [],_,a=>a
 |e::τ,ρ,a=>pd b (τ:=τ) (b.i_ e (τ++ρ) a).1
theorem uN{l:List aB}{s j:Nat}{q:aB}(h:l[j]?=some q): ∃p,(dX l s)[j]?=some p:=⟨_,wI h⟩
theorem gy.lP(e:gy P (d_ P n) c d u ins outs u'):pc P c d:=by
 refine⟨auQ e.nd,e.i_,e.qe,λg h i j k l m r=> ?_⟩;cases (e.eq g h i j k l m).1 with
 |df f=>omega
 |call f=>omega
 |sw f o a b=>exact⟨a,b⟩
 |aP f s p t v w q x y a b=>exact⟨a,b⟩
 |reset f o a b=>exact⟨a,b⟩
theorem KH{π:Path}{j:Nat}{q:aB}{p:Nat}(b:pc P c d)(e:c.ok π)(f:(c.fr π).au[j]?=some q)(g:(c.fr π).pos[j]?=some p)(h:q.kd=3\/q.kd=4\/q.kd=5): ∃a,pV c π j q p a:=b.bA π j q p e f g h
theorem sG{π:Path}{b:bj}{s j p:Nat}{q:aB}(h:Gu c d π b s)(a:(c.fr π).au[j]?=some q)(e:(c.fr π).pos[j]?=some p):s+aU b.vars<=p/\p+qP q<=s+bP b:=by
 rw[h.au]at a;rw[h.pos]at e;have:=uJ e a;have:=qL b;omega
theorem og{π:Path}{b:bj}{s j p j' k:Nat}{q:aB}(h:Gu c d π b s)(m:(c.fr π).au[j]?=some q)(n:(c.fr π).pos[j]?=some p)(e:(c.fr π).pos[j']?=some k)(v:j<j'):p+qP q<=k:=by
 rw[h.au]at m;rw[h.pos]at n e;have o:j'<b.au.length:=by
  rcases auM j' b.au.length with f|f
  ·exact f
  ·rw[auP (by rw[iF];exact f)]at e;cases e
 have r:j<b.au.length:=by omega
 have g:=wI (a:=s+aU b.vars) m;rw[n]at g;injection g with g
 have i:=wI (a:=s+aU b.vars) (auO o);rw[e]at i;injection i with i
 have t:=(gx qP (l:=b.au) r).1;have u:b.au[j]=q:=by grind
 rw[u]at t;have w:aS ((b.au.take (j+1)).map qP)<=aS ((b.au.take j').map qP):=by
  have:(b.au.take (j+1))=(b.au.take j').take (j+1):=by grind
  rw[this,aw2];exact vx _ _
 omega
theorem BX{b:bj}(h:Dg b){q:aB}(c:q∈b.au):(q.kd=1\/q.kd=2\/q.kd=3\/q.kd=4\/q.kd=5)/\(q.kd=3\/q.kd=4\/q.kd=5->q.args= [])/\(q.kd=4->xP q.ex=0)/\(∀a∈q.aj,Dg a.cy)/\ ∀a∈q.aj,∀t:Tr,(t∈a.fG\/t∈a.fH)->jP t.e/\xP t.e=0:=by
 cases h with
 |mk g d e f=>exact⟨(d q c).1,(d q c).2.1,(d q c).2.2,e q c,f q c⟩
theorem shape(y:lL P)(A:p6 P)(m:pc P c d): ∀π,c.ok π-> ∃b s,Gu c d π b s:=by
 have t:=m.dm;intro π
 induction π with
 |nil=>
  intro _;have e:=m.qe;refine⟨d.b,0,(y.d d t).1,(A.d d t).1,(y.i d t).2,by rw[e];rfl,by rw[e];simp[rl],by unfold bW;omega,λk _ n=> ?_,λk _ u=>absurd W u,λ_=>⟨rfl,rfl⟩,λu=>absurd W u⟩;show k<bW d;unfold bW;omega
 |cons r π B=>
  intro C;obtain⟨z,l,f,n⟩:=m.i_ r π C;obtain⟨b,s,a⟩:=B z;obtain⟨p,o⟩: ∃p,(c.fr π).pos[r]?=some p:=by rw[a.pos];rw[a.au]at f;exact uN f
  obtain⟨j,g⟩:=KH m z f o n;have v:l∈b.au:=by rw[<-a.au];exact auQ f
  have w:=auQ g.ha;have x:=BX a.wf v;have I:=uK (p:=p) g.ha n x.2.2.1 (x.2.1 n);have O:=sG a f o;have H:uP j.cy:=by
   have:=a.sm;cases this with
   |mk J K D=>exact D l v j w
  refine⟨j.cy,cI l p (c.bA π r),H,x.2.2.2.1 j w,?_,by rw[g.fr];rfl,by rw[g.fr];rfl,by have:=a.eh;omega,λk h i=>⟨l,p,j,f,o,g.ha,h,i⟩,λk E _=> ?_,λe=>(by cases e),λ_=>g.fr⟩
  ·have:=a.df;have h:=Go.Proofs.Sz.wB v;have i:=Go.Proofs.Sz.uL w;omega
  ·obtain⟨L,M,N,h,i,q,F,G⟩:=E;rw[f]at h;injection h with h;subst h
   rw[o]at i;injection i with i;subst i
   rw[g.ha]at q;injection q with q;subst q
   exact⟨F,G⟩
theorem child(m:lL P)(n:p6 P)(i:pc P c d){j:Nat}{σ:Path}(o:c.ok (j::σ)){k:Nat}(r:kJ c d (j::σ) k):kJ c d σ k/\ ∃q p,(c.fr σ).au[j]?=some q/\(c.fr σ).pos[j]?=some p/\(q.kd=3\/q.kd=4\/q.kd=5)/\q.args= []/\p+h_ q.kd+xP q.ex<=k/\k<p+qP q:=by
 obtain⟨s,q,a,g⟩:=i.i_ j σ o;obtain⟨b,u,e⟩:=shape m n i σ s;obtain⟨w,p,v,f,l,t,x,y⟩:=r;rw[a]at f;injection f with f;subst f
 have h:=BX e.wf (by rw[<-e.au];exact auQ a);have z:=uK (p:=p) t g h.2.2.1 (h.2.1 g);have A:=sG e a l;exact⟨e.i1 k (by omega) (by omega),q,p,a,l,g,h.2.1 g,by omega,by omega⟩
theorem deep(e:lL P)(f:p6 P)(b:pc P c d): ∀{τ:Path} {j:Nat} {σ:Path},c.ok (τ++(j::σ))-> ∀{k:Nat},kJ c d (τ++(j::σ)) k->kJ c d (j::σ) k
 | [],_,_,_,_,a=>a
 |h::τ,j,σ,g,_,a=>deep e f b (τ:=τ) (b.i_ h _ g).1 (child e f b g a).1
def mJ(c:aK)(d:Nd)(π:Path)(k:Nat):Prop:=kJ c d π k/\ ∀j,c.ok (j::π)-> ¬kJ c d (j::π) k
theorem Ez(h:lL P)(i:p6 P)(a:pc P c d){π:Path}{k:Nat}(A:c.ok π)(B:kJ c d π k): ∀ρ,c.ok ρ->kJ c d ρ k->(∃τ,π=τ++ρ)\/ ∃τ j,ρ=τ++(j::π):=by
 intro ρ
 induction ρ with
 |nil=>intro _ _;exact .inl ⟨π,by simp⟩
 |cons j f r=>
  intro m s;obtain⟨t,x,y,u,o,_,_,C,D⟩:=child h i a m s;rcases r (a.i_ j f m).1 t with⟨τ,e⟩|⟨τ,g,e⟩
  ·rcases axw τ with rfl|⟨n,g,rfl⟩
   ·simp only[avn]at e;exact .inr ⟨[],j,by rw[e];rfl⟩
   ·have E:π=n++(g::f):=by rw[e];simp
    have w:kJ c d (g::f) k:=deep h i a (τ:=n) (by grind) (by grind);obtain⟨_,F,G,v,p,_,_,H,I⟩:=child h i a (pd a (τ:=n) (by grind)) w;obtain⟨b,z,q⟩:=shape h i a f (a.i_ j f m).1;rcases av6 g j with l|l|l
    ·have:=og q v p o l;omega
    ·grind
    ·have:=og q u o p l;omega
  ·grind
theorem mJ.own(j:lL P)(l:p6 P)(b:pc P c d){π:Path}{k:Nat}(u:c.ok π)(h:mJ c d π k):Go.Proofs.Sz.yn c π k:=by
 intro s t f g i v m n x o p q;rcases Ez j l b u h.1 (s::t) v ⟨f,g,i,m,n,o,p,q⟩with⟨τ,e⟩|⟨τ,a,e⟩
 ·grind
 ·have w:kJ c d (τ++(a::π)) k:=by rw[<-e];exact⟨f,g,i,m,n,o,p,q⟩
  have r:c.ok (τ++(a::π)):=by grind
  exact absurd (deep j l b r w) (h.2 a (pd b (τ:=τ) r))
theorem mJ.same(l:lL P)(m:p6 P)(i:pc P c d){π a:Path}{k:Nat}(g:c.ok π)(b:c.ok a)(h:mJ c d π k)(f:mJ c d a k):a=π:=by
 have n: ∀{π a:Path},c.ok π->c.ok a->mJ c d π k->mJ c d a k-> ∃τ,π=τ++a:=by
  intro π a g b h f;rcases Ez l m i g h.1 a b f.1 with p|⟨τ,o,e⟩
  ·exact p
  ·exact absurd (deep l m i (by rw[<-e];exact b) (by rw[<-e];exact f.1)) (h.2 o (pd i (τ:=τ) (by rw[<-e];exact b)))
 obtain⟨τ,e⟩:=n g b h f;obtain⟨q,j⟩:=n b g f h;have r:=av3 List.length e;have s:=av3 List.length j;simp only[auN]at r s;have:q= []:=avA (by omega);rw[this]at j;exact j
theorem qx(l:lL P)(m:p6 P)(n:pc P c d){π:Path}{j p k:Nat}{q:aB}(r:c.ok π)(i:(c.fr π).au[j]?=some q)(g:(c.fr π).pos[j]?=some p)(x:p<=k)(s:k<p+(h_ q.kd+xP q.ex+aS (q.args.map xP))):mJ c d π k:=by
 obtain⟨b,w,h⟩:=shape l m n π r;have D:=sG h i g;have E:=jD q;refine⟨h.i1 k (by omega) (by omega),λo t u=> ?_⟩;obtain⟨_,y,z,e,a,A,v,B,C⟩:=child l m n t u;rcases av6 o j with f|f|f
 ·have:=og h e a g f;omega
 ·subst f;rw[i]at e;injection e with e;subst e
  rw[g]at a;injection a with a;subst a
  rw[v]at s;have:aS (([]:List Xp).map xP)=0:=rfl;omega
 ·have:=og h i g a f;omega
theorem lj(l:lL P)(m:p6 P)(h:pc P c d){π:Path}{i k:Nat}(u:c.ok π)(a:(c.fr π).cO[i]?=some (some k)):mJ c d π k/\k<bW d:=by
 obtain⟨b,s,f⟩:=shape l m h π u;have C:=qL b;have A:(s<=k/\k<s+aU b.vars)\/(π= []/\bP d.b<=k/\k<bW d):=by
  by_cases e:π= []
  ·obtain⟨j,g⟩:=f.t e;subst e;rw[h.qe]at a;simp only[rl]at a;rcases auM i d.ins.length with v|v
   ·grind
   ·rcases auM i (d.ins.length+d.outs.length)with n|n
    ·rw[avh,auR (by simp;omega),awj,auL (by rw[ff];omega)]at a;have:=gd a;exact .inr ⟨W,this.1,by unfold bW;omega⟩
    ·rw[auR (by simp[ff];omega)]at a;have:=gd a;rw[j,g];exact .inl (by omega)
  ·rw[f.f e]at a;have:=gd a;exact .inl (by omega)
 rcases A with⟨j,g⟩|⟨rfl,j,g⟩
 ·refine⟨⟨f.i1 k j (by omega),λt o p=> ?_⟩,by have:=f.eh;omega⟩;obtain⟨_,w,x,q,r,_,_,n,y⟩:=child l m h o p;have:=sG f q r;omega
 ·refine⟨⟨g,λt o p=> ?_⟩,g⟩;obtain⟨_,w,x,q,r,_,_,n,y⟩:=child l m h o p;have:=sG f q r;obtain⟨z,B⟩:=f.t W;subst z;omega
end
end Go.Sm
namespace Go.Proofs.Sz
open Go.Mt Go.Sm Go.Proofs
section
variable{P:Pg}{n:Nat}{c:aK}{d:Nd}{u:US}{X Y Z:aw}{H K L:Hp}
theorem oF.of{ins outs:List Int}{u':US}(x:lL P)(y:p6 P)(k:gy P (d_ P n) c d u ins outs u'):oF P n c d u:=by
 have V:=auQ k.nd;have i7:=x.d d V;have i8:=x.i d V;have d6:=y.d d V;have B:=Go.Sm.shape x y k.lP;have ac:(c.fr []).vars=d.ins++d.outs++d.b.vars:=by rw[k.qe];rfl
 have d7:(c.fr []).cO=List.replicate d.ins.length none++b_ d.outs (bP d.b)++b_ d.b.vars 0:=by rw[k.qe];rfl
 have S: ∀a b p,Gu c d a b p->a≠ []->(c.fr a).vars=b.vars/\(c.fr a).cO=b_ b.vars p:= λa b p h e=>by rw[h.f e];exact⟨W,W⟩
 have gc:bW d<=900000000:=by
  have r:aU d.outs<=d.outs.length:=by unfold aU;exact awk _ _
  unfold bW;omega
 have T: ∀{a o},c.ok a->mJ c d a o->yn c a o:= λf h=>h.own x y k.lP f
 have ah: ∀{t:aw} {a o},Pu P c d u t->t.fs a=2->yn c a o->(t.ER c o↔fO c o):=by
  intro t a o l z G;constructor
  ·rintro⟨w,m,i,g,E,r,s,A,H,O⟩;exact⟨w,m,i,g,E,(k.i_ m w (l.fp m w (by rw[r];decide)).2).1,s,A,H,O⟩
  ·rintro⟨σ,m,i,g,E,r,s,A,H,O,h6,h7,h8⟩;obtain⟨a',L⟩:=KH k.lP r s A H;obtain⟨τ,e⟩:=G m σ i g E L.ok s A H h6 h7 h8;exact⟨σ,m,i,g,E,wE l (τ:=τ) (by rw[<-e];exact z),s,A,H,O,h6,h7,h8⟩
 have d8:=k.Bd;have co: ∀{t:aw} {a},Pu P c d u t->t.fs a=2->c.ok a:=by
  intro t a l z;cases a with
  |nil=>exact d8
  |cons m a=>exact(l.fp m a (by rw[z];decide)).2
 have d9: ∀(a:Path) (m:Nat) (i:aB) (w:Path) (F:Nat) (I:aB) (g:Nat),c.ok a->c.ok w->(c.fr a).au[m]?=some i->(c.fr w).au[F]?=some I->i.kd=2->I.kd=2->(c.fr a).pos[m]?=some g->(c.fr w).pos[F]?=some g->w=a/\F=m:=by
  intro a m i w F I g f Xl q PJ C Qv l X;have o1:h_ i.kd=1:=by rw[C];rfl
  have o2:h_ I.kd=1:=by rw[Qv];rfl
  have r:=qx x y k.lP f q l (auK g) (by omega);have s:=qx x y k.lP Xl PJ X (auK g) (by omega);have e:=r.same x y k.lP f Xl s;subst e;obtain⟨b,p,j⟩:=B w f;have e1:=jD i;have e2:=jD I;refine⟨W,?_⟩;rcases av6 m F with M|M|M
  ·have:=og j q l X M;omega
  ·exact M.symm
  ·have:=og j PJ X l M;omega
 refine{en:=x.e,sz:= λa=> ?_,Bh:=k.sz,cl:= λa o v f U=> ?_,Ks:=gc,rd:= λt l a o z G C=> ?_,Bd:=d8,lo:= λa o i f h=>T f (lj x y k.lP f h).1,gh:=k.gh,Dc:= λa m i f q=> ?_,Mf:= λa=> ?_,jv:= λa m i f q E L f9 ht=> ?_,pq:= λa m i g f q l=> ?_,oq:= λa m i g f q l o r s=>T f (qx x y k.lP f q l r s),NM:= λa o i f h=>(lj x y k.lP f h).2,rs:= λt l a m i g z q C N hd=> ?_,rp:= λt l a m i g z q C N=> ?_,lh:=k.lh,OH:= λa R lp f h=> ?_,OI:= λR o h=> ?_,inj:=d9}
 ·by_cases f:c.ok a
  ·obtain⟨b,p,j⟩:=B a f;by_cases e:a= []
   ·subst e;rw[ac];simp only[auN];have:=d6.2.2;omega
   ·rw[(S a b p j e).1];have:=j.sm;cases this with
    |mk Y=>exact Y
  ·rw[(k.vD a f).1];simp
 ·obtain⟨b,p,j⟩:=B a f;have QT: ∀v∈b.vars,v.clock.length<=1000000:=by
   have:=j.wf;cases this with
   |mk g0=>exact g0
  by_cases e:a= []
  ·obtain⟨r,_⟩:=j.t e;subst e;rw[ac]at U;rcases auS.1 (auQ U)with s|s
   ·exact d6.2.1 v (auS.1 s)
   ·exact QT v (by rw[r];exact s)
  ·rw[(S a b p j e).1]at U;exact QT v (auQ U)
 ·have e:=ah l z G;have WD:o<c.sz:=by rw[k.sz];exact C
  by_cases h:t.ER c o
  ·rw[(l.xm o C).1 h,(k.rd o WD).1 (e.1 h)]
  ·rw[(l.xm o C).2 h,(k.rd o WD).2 (λJ=>h (e.2 J))]
 ·obtain⟨b,p,j⟩:=B a f;have D:i∈b.au:=by rw[<-j.au];exact auQ q
  have SF:=j.df;have r:=wB D;have QG:=j.sm;cases QG with
  |mk Y g2 g3 g4 Z g6 g7=>exact⟨(Z i D).1,(Z i D).2.1,(Z i D).2.2,g4 i D,λE L=>⟨g3 i D E L,g7 i D E L⟩,g6 i D,by omega⟩
 ·by_cases f:c.ok a
  ·obtain⟨b,p,j⟩:=B a f;rw[j.au];have:=j.sm;cases this with
   |mk Y g2=>exact g2
  ·rw[(k.vD a f).2];simp
 ·obtain⟨b,p,j⟩:=B a f;have D:i∈b.au:=by rw[<-j.au];exact auQ q
  exact(BX j.wf D).2.2.2.2 E L f9 ht
 ·obtain⟨b,p,j⟩:=B a f;have:=sG j q l;have:=j.eh;omega
 ·have f:=co l z;have o1:h_ i.kd=1:=by rw[C];rfl
  have G:=qx x y k.lP f q N (auK g) (by omega);have e:=ah l z (T f G);obtain⟨b,p,j⟩:=B a f;have ge:=sG j q N;have i6:=jD i;have K:g<bW d:=by have:=j.eh;omega
  have Q:g<c.sz:=by rw[k.sz];exact K
  have PU: ∀w F,¬t.DC c g w F:=by
   rintro w F ⟨r,s,I,A,H,O⟩;obtain⟨e1,e2⟩:=d9 a m i w F I g f (co l r) q A C H N O;subst e1;subst e2;rw[hd]at s;cases s
  by_cases h:t.ER c g/\(gX P.aJ d)[g]?=some none
  ·rw[(l.xs g K PU).1 h.1 h.2,(k.rs g Q).1 (e.1 h.1) h.2]
  ·rw[(l.xs g K PU).2 h,(k.rs g Q).2 (λJ=>h ⟨e.2 J.1,J.2⟩)]
 ·have f:=co l z;have o1:h_ i.kd=1:=by rw[C];rfl
  have G:=qx x y k.lP f q N (auK g) (by omega);have e:=ah l z (T f G);obtain⟨b,p,j⟩:=B a f;have ge:=sG j q N;have i6:=jD i;have K:g<bW d:=by have:=j.eh;omega
  have Q:g<c.sz:=by rw[k.sz];exact K
  by_cases h:t.ER c g/\(gX P.aJ d)[g]?=some none
  ·rw[(l.xp g K).1 h.1 h.2,(k.rp g Q).1 (e.1 h.1) h.2]
  ·rw[(l.xp g K).2 h,(k.rp g Q).2 (λJ=>h ⟨e.2 J.1,J.2⟩)]
 ·obtain⟨b,p,j⟩:=B a f;have M:(c.fr a).cO.length=(c.fr a).vars.length:=by
   by_cases e:a= []
   ·subst e;rw[ac,d7];simp[ff]
   ·rw[(S a b p j e).1,(S a b p j e).2,ff]
  have hi:R<(c.fr a).vars.length:=by
   rcases auM R (c.fr a).cO.length with r|r
   ·omega
   ·rw[auP r]at h;cases h
  exact⟨_,auO hi⟩
 ·rw[d7]at h;rcases auM R d.ins.length with A|A
  ·rw[avh,auL (by simp;omega)]at h;simp[A]at h
  ·exact A
theorem EA(b:lL P)(e:p6 P): ∀n,rA P n
 |0=> λg m o j k h i a=>a.elim
 |n+1=> λg m o j k h i a l=>by
  obtain⟨c,d,f⟩:=a;exact KG (oF.of b e f) b f (EA b e n) l
end
end Go.Proofs.Sz
namespace Go.Sm
open Go.Mt
def ir(en:List En):List Va->List Int->Bool
 | [],[]=>true
 |v::l,x::xs=>lF v.tk (((fq en v.tk v.tn).length:Nat):Int) x&&ir en l xs
 |_,_=>false
def lG(n:Int):Prop:= -2147483648<=n/\n<=2147483647
theorem Ad{en:List En} : ∀{l:List Va} {xs:List Int},ir en l xs=true->xs.length=l.length
 | [],[],_=>rfl
 | [],_::_,a=>by simp[ir]at a
 |_::_,[],a=>by simp[ir]at a
 |v::l,b::xs,a=>by
  simp only[ir,avf]at a;simp[Ad a.2]
theorem t_{en:List En} : ∀{l:List Va} {xs:List Int},xs.length=l.length->(ir en l xs=true↔ ∀(i:Nat) (v:Va) (x:Int),l[i]?=some v->xs[i]?=some x->lF v.tk (((fq en v.tk v.tn).length:Nat):Int) x=true)
 | [],[],_=>⟨λ_ i v x a=>(by cases a),λ_=>rfl⟩
 |v::l,x::xs,e=>by
  have d:=t_ (en:=en) (l:=l) (xs:=xs) (by grind);simp only[ir,avf];constructor
  ·grind
  ·intro a;exact⟨a 0 v x W W,d.2 λi b c f g=>a (i+1) b c (by grind) (by grind)⟩
end Go.Sm
namespace Go.Proofs.Sz
open Go.Mt Go.Sm Go.Proofs
open Tryz
section
variable{P:Pg}{n:Nat}{d:Nd}{u:US}{H K L:Hp}
theorem Nd.aC(d:Nd):d.cells= [.str d.name,.sl (aI d.ins),.sl (aI d.outs),.sl (aI d.b.vars),.sl (d.b.au.map aB.cells),.int .i64 d.ps.1,.int .i64 d.ps.2]:=rfl
theorem BY(H:qw P.aJ)(d:Nd)(L:d.ins.length<=1000)(xs:List Int)(l: ∀b∈xs,lG b):PT prog 19 [.agg P.cells,.agg d.cells,.sl (bF xs)] (·= [.int .i64 (if ir P.aJ d.ins xs then 0 else 7)]):=by
 have E:(bF xs).length=xs.length:=by simp[bF]
 rw[Nd.aC];refine PI (CT.ob func19 W ntmps19 W λN O=> ?_);refine tC [2] W ?_;by_cases m:xs.length=d.ins.length;rotate_left
 ·have n:((((bF xs).length:Nat):Int) !=(((aI d.ins).length:Nat):Int))=true:=by rw[E,show(aI d.ins).length=d.ins.length by simp[aI]];simp;omega
  have f:ir P.aJ d.ins xs=false:=by
   cases e:ir P.aJ d.ins xs with
   |false=>rfl
   |true=>exact absurd (Ad e) m
  rw[f];refine tO [2,18] W<|aQ n W W W W<|tL [1,2] W<|TC.ret ⟨_,W,[_],W,W⟩
 have n:((((bF xs).length:Nat):Int) !=(((aI d.ins).length:Nat):Int))=false:=by rw[E,show(aI d.ins).length=d.ins.length by simp[aI]];simp;omega
 refine tO [2,18] W<|aQ n W W W W<|tR [0,2,21] W<|bp W W W ?_;rw[show(aI d.ins).length=d.ins.length by simp[aI]];refine tL [3] W<|TC.lp (λw x=> ∃(a:Nat) (y:List (Nat×List M)),x=⟨[nN 18 a,nN 17 d.ins.length,nD 16 (.sl (aI d.ins)),nD 3 (.bm P.cells 0),nD 2 (.sl (bF xs))],y,[]⟩/\a<=d.ins.length/\w=d.ins.length-a/\ ∀(c:Nat) (v:Va) (b:Int),c<a->d.ins[c]?=some v->xs[c]?=some b->lF v.tk (((fq P.aJ v.tk v.tn).length:Nat):Int) b=true) d.ins.length _
  ⟨0,_,rfl,by omega,rfl,λc v b K=>by omega⟩ W ?_
 rintro w x ⟨a,y,rfl,Q,rfl,z⟩;refine tC [2] W<|TC.cond W (λA=> ?_) (λA=> ?_)
 ·have B:a<d.ins.length:=by grind
  have o:=auO B;have p:=ez B;generalize d.ins[a]=v at o p;rw[show v.cells= [.str v.name,.int .u8 v.tk,.str v.tn,.sl (tG v.clock),.bool v.last]++v.first.cells++ [.int .i64 v.ps.1,.int .i64 v.ps.2]from rfl,Xp.aC]at p;have q:a<xs.length:=by omega
  have r:=auO q;have s:(bF xs)[((a:Nat):Int).toNat]?=some [.int .i32 xs[a]]:=by simp[bF,q]
  have C:=l xs[a] (avb q);generalize xs[a]=b at r s C;have D:=xl H v.tk v.tn;have g:=Kd v.tk (((fq P.aJ v.tk v.tn).length:Nat):Int) b v.tn C;refine tO [3,2,25] W<|aG W W W (auJ a) p W<|tL [] W ?_;have t:(dJ (fq P.aJ v.tk v.tn)).length=(fq P.aJ v.tk v.tn).length:=by simp[dJ]
  rw[<-t]at g;cases j:lF v.tk (((fq P.aJ v.tk v.tn).length:Nat):Int) b with
  |true=>
   have k:=j;rw[<-t]at k;rw[k]at g;refine tC [] W<|TC.draw bN<|fR 6 W<|aW D W W<|fR 3 W<|a_ W W W (auJ a) s W<|fR 1 W<|aW g W W<|fR 1 W<|TF.nil ⟨by kernel_rfl,?_⟩;refine tO [0,2,41] W<|az W W W (by omega)<|tL [] W<|again (k':=d.ins.length-(a+1)) (by omega) ⟨a+1,_,rfl,by omega,rfl,λc F G I h i=> ?_⟩ W W;rcases avB.1 I with u|u
   ·exact z c F G u h i
   ·subst u;rw[o]at h;injection h with h;subst h
    rw[r]at i;injection i with i;subst i
    exact j
  |false=>
   have k:=j;rw[<-t]at k;rw[k]at g;have f:ir P.aJ d.ins xs=false:=by
    cases e:ir P.aJ d.ins xs with
    |false=>rfl
    |true=>rw[(t_ m).1 e a v b o r]at j;cases j
   rw[f];refine tC [] W<|TC.draw bN<|fR 6 W<|aW D W W<|fR 3 W<|a_ W W W (auJ a) s W<|fR 1 W<|aW g W W<|fR 1 W<|TF.nil ⟨by kernel_rfl,?_⟩;refine tC [1,2] W<|TC.ret ⟨_,W,[_],W,W⟩
 ·have e:a=d.ins.length:=by have:=au9 A;omega
  have f:=(t_ m).2 λc v b J l=>z c v b (by
   grind) J l
  rw[f];refine TC.exit<|tC [2] W<|TC.ret ⟨_,W,[_],W,W⟩
end
section
variable{P:Pg}{n:Nat}{d:Nd}{u:US}{H K L:Hp}
structure iS(P:Pg)(n:Nat)(u:US)(im:Nat)(F:Nat->Prop)(H:Hp):Prop where
 self:F im
 iu: ∃iu G,H[im]?=some (.box [.ref iu 0])/\iZ P n u iu G H/\(∀a,F a↔a=im\/G a)/\ ¬G im
theorem iS.lt{b:Nat}{F:Nat->Prop}(h:iS P n u b F H): ∀a,F a->a<H.length:=by
 obtain⟨j,i,c,d,e,k⟩:=h.iu;intro a f;rcases(e a).1 f with rfl|g
 ·exact lr c
 ·exact d.lt a g
theorem iS.frame{b:Nat}{F:Nat->Prop}(h:iS P n u b F H)(c: ∀a,F a->K[a]?=H[a]?)(f:H.length<=K.length):iS P n u b F K:=by
 obtain⟨g,e,i,j,d,k⟩:=h.iu;exact⟨h.self,g,e,(c b h.self).trans i,j.frame (λa l=>c a ((d a).2 (.inr l))) f,d,k⟩
theorem vK{iu:Nat}{F:Nat->Prop}(h:iZ P n u iu F H): ∃d a b c,P.nodes[u.i]?=some d/\H[iu]?=some (.box (pW P d a b c)):=by
 cases n with
 |zero=>exact h.elim
 |succ n=>obtain⟨d,l,a,b,c,g,e,i,j,k,f,_⟩:=h;exact⟨d,a,b,c,e,f⟩
structure Gv(F:Nat->Prop)(H:Hp)(F':Nat->Prop)(K:Hp):Prop where
 len:H.length<=K.length
 o: ∀a,a<H.length-> ¬F a->K[a]?=H[a]?
 f: ∀a,F' a->F a\/H.length<=a
theorem lk(g:lL P)(l:1<=n)(x:Nm)(i:Nat)(c:cZ P.nodes x=some i)(H:Hp):
  DT prog 11 [.d (.agg P.cells),.d (.str x)] H λm K=> ∃h F,m= .dq [.ref h 0,.d (.int .i64 0)]/\iS P n (US.init P i) h F K/\Gv (λ_=>False) H F K:=by
 obtain⟨d,o,_⟩:=tV c;have b:=wy P x g.n;rw[c]at b;obtain⟨r,j,⟨p,F,rfl,e,s,u,t⟩,q⟩:=xr P g x i c d o H;have b:PT prog 25 [.agg P.cells,.str x] (·= [iN i]):=b;refine DT.ob func11 W ntmps11 W<|dO [2,2,12] W<|Po (aE b W W)<|dR [13] W<|Po (aQ (avc (by omega)) W W W W)<|dR [0,2,16] W<|Po (aq q W W)<|dR [17] W<|Po (k8 W W W W W)<|dR [18] W<|Po (cH W W W)<|dL [] W ?_;refine DC.ret ⟨_,W,j.length,λa=>a=j.length\/F a,rfl,⟨.inl W,p,F,by simp,(iZ.Ky e l).frame (λa f=>auL (e.lt a f)) (by simp),λa=>avU,λk=>by have:=e.lt _ k;omega⟩,by simp;omega,λa f _=> ?_,λa f=> .inr ?_⟩
 ·grind
 ·grind
theorem pD(g:lL P)(v:p6 P){c:Nat}{F:Nat->Prop}{xs outs:List Int}{u':US}(w:iS P n u c F H)(x: ∀s∈xs,lG s){d:Nd}(i:P.nodes[u.i]?=some d)(y:ir P.aJ d.ins xs=true)(z:d_ P n u xs outs u'):
  DT prog 15 [.ref c 0,.d (.sl (bF xs))] H λm K=>m= .dq [.d (.sl (bF outs)),.d (.int .i64 0)]/\ ∃j,iS P n u' c j K/\Gv F H j K:=by
 obtain⟨k,t,b,l,A,B⟩:=w.iu;obtain⟨I,J,L,M,e,o⟩:=vK l;rw[i]at e;injection e with e
 subst e;have f:=BY g.e d (g.i d (auQ i)).1 xs x;rw[y]at f;simp only[awr]at f;rw[Nd.aC]at f;obtain⟨N,O,⟨rfl,p,D,Q,E,q⟩,C⟩:=EA g v n u xs outs u' k t H z l;refine DT.ob func15 W ntmps15 W<|dO [2,2,14] W<|Po (kS (by kernel_rfl) W W W W W)<|dR [19] W ?_
 first|refine Po (ax W W) ?_|(refine Po (av W) ?_;refine Po (aA W W b W) ?_)
 refine dR [20] W ?_
 first|refine Po (ax W W) ?_|(refine Po (av W) ?_;refine Po (kS (by kernel_rfl) W W W W W) ?_)
 refine dL [0] W ?_;apply Ps bN
 ·intro R S;refine fR 3 W<|ay W W b W<|fR 2 W<|eQ W W o W W<|fR 3 W<|ay W W b W<|fR 2 W<|eQ W W o W W<|fR 1 W<|aW f W W<|fR 1 W<|TF.nil ⟨by kernel_rfl,rfl⟩
 refine dO [2,0,2,45] W<|Po (aA W W b W)<|dR [47] W<|Po (aq C W W)<|dL [2,0,2] W ?_;refine DC.ret ⟨_,W,W,λa=>a=c\/p a,⟨.inl W,k,p,(q c (lr b) B).trans b,D,λa=>avU,λh=> ?_⟩,E,λa r G=>q a r (λh=>G ((A a).2 (.inr h))),λa r=> ?_⟩
 ·grind
 ·grind
theorem EB(s:lL P)(t:1<=n){b:Nat}{F:Nat->Prop}(g:iS P n u b F H){d:Nd}(v:P.nodes[u.i]?=some d){i:Nat}(j:cZ P.nodes d.name=some i):
  DT prog 21 [.ref b 0] H λ_ K=> ∃k,iS P n (US.init P i) b k K/\Gv F H k K:=by
 obtain⟨I,G,e,w,J,L⟩:=g.iu;obtain⟨M,N,O,Q,f,l⟩:=vK w;rw[v]at f;injection f with f
 subst f;obtain⟨x,B,_⟩:=tV j;obtain⟨R,S,⟨y,h,rfl,z,q,C,m⟩,A⟩:=xr P s d.name i j x B H;have o:=(m b (lr e)).trans e;have D:=iZ.Ky z t;refine DT.ob func21 W ntmps21 W ?_;refine dO [2,7] W ?_;refine Po (jC (by kernel_rfl) W W W W W) ?_;refine dR [12] W ?_
 first|refine Po (ax W W) ?_|(refine Po (av W) ?_;refine Po (aA W W e W) ?_)
 refine dR [13] W ?_
 first|refine Po (ax W W) ?_|(refine Po (av W) ?_;refine Po (jC (by kernel_rfl) W W W W W) ?_)
 refine dL [1] W ?_;apply Ps bN
 ·intro T U;refine fR 4 W ?_;refine ay W W e W ?_;refine fR 2 W ?_;refine eQ W W l W W ?_;refine fR 3 W ?_;refine ay W W e W ?_;refine fR 3 W ?_;refine ay W W l W ?_;refine bg A W W ?_;refine fR 2 W ?_;refine fE W W o W W W ?_;exact TF.nil ⟨by kernel_rfl,rfl⟩
 have V:=lr e;have p: ¬h b:= λr=>by have:=q b r;omega
 refine⟨_,W,λa=>a=b\/h a,⟨.inl W,y,h,gC o _,D.frame (λa c=>auT (by rintro rfl;exact p c)) (by simp),λa=>avU,p⟩,by simpa using C,λa c E=> ?_,λa c=> ?_⟩
 ·rw[auT (by rintro rfl;exact E g.self)];exact m a c
 ·rcases c with rfl|c
  ·exact .inl g.self
  ·exact .inr (q a c)
end
end Go.Proofs.Sz
namespace Go.Mk
open Go.Mt
abbrev Nm:=ByteArray
inductive Ty where
 |bool|int|fJ
 deriving DecidableEq
abbrev nj:Nm:=⟨#[99,111,108]⟩
def Ty.kind:Ty->Int
 | .bool=>1| .int=>2| .fJ=>3
def Ty.nm:Ty->Nm
 | .bool=>⟨#[]⟩| .int=>⟨#[]⟩| .fJ=>nj
abbrev Ty.cells(t:Ty):List D:=[.int .u8 t.kind,.str t.nm]
abbrev cj:Nm:=⟨#[82,101,100]⟩
abbrev bC:Nm:=⟨#[71,114,101,101,110]⟩
abbrev c8:Nm:=⟨#[66,108,117,101]⟩
inductive E where
 |nil
 |int (n:Int)|bool (n:Int)|ctor (s:Nm)|var (s:Nm)|last (s:Nm)
 |un (op:Int) (a:E)|bin (op:Int) (a b:E)|ite (a b c:E)
 |ga (a b:E)|pre (a:E)|arrow (a b:E)
 |fI (x c:Nm) (a:E)|merge (x c1 c2 c3:Nm) (a b c:E)
abbrev bU(k op n:Int)(s:Nm)(names kids:List (List D)):List D:=[.int .u8 k,.int .u8 op,.int .i32 n,.str s,.sl names,.sl kids,.int .i64 0,.int .i64 0]
def E.cells:E->List D
 | .nil=>bU 0 0 0 ⟨#[]⟩ [] []
 | .int n=>bU 1 0 n ⟨#[]⟩ [] []
 | .bool n=>bU 2 0 n ⟨#[]⟩ [] []
 | .ctor s=>bU 3 0 0 s [] []
 | .var s=>bU 4 0 0 s [] []
 | .last s=>bU 5 0 0 s [] []
 | .un op a=>bU 6 op 0 ⟨#[]⟩ [] [a.cells]
 | .bin op a b=>bU 7 op 0 ⟨#[]⟩ [] [a.cells,b.cells]
 | .ite a b c=>bU 8 0 0 ⟨#[]⟩ [] [a.cells,b.cells,c.cells]
 | .ga a b=>bU 9 0 0 ⟨#[]⟩ [] [a.cells,b.cells]
 | .pre a=>bU 10 0 0 ⟨#[]⟩ [] [a.cells]
 | .arrow a b=>bU 11 0 0 ⟨#[]⟩ [] [a.cells,b.cells]
 | .fI x c a=>bU 12 0 0 x [[.str c]] [a.cells]
 | .merge x c1 c2 c3 a b c=>bU 13 0 0 x [[.str c1],[.str c2],[.str c3]] [a.cells,b.cells,c.cells]
theorem E.shape(e:E): ∃k op n s names kids,e.cells=bU k op n s names kids:=by cases e<;>exact⟨_,_,_,_,_,_,W⟩
theorem E.len(e:E):e.cells.length=8:=by obtain⟨c,h,d,f,g,b,a⟩:=e.shape;rw[a];rfl
structure Va where
 name:Nm
 ty:Ty
 clock:Option (Nm×Nm)
 last:Bool
 first:E
def tG:Option (Nm×Nm)->List (List D)
 |none=>[]
 |some (c,x)=>[[.str c,.str x]]
def Va.cells(v:Va):List D:=[.str v.name,.int .u8 v.ty.kind,.str v.ty.nm,.sl (tG v.clock),.bool v.last]++v.first.cells++ [.int .i64 0,.int .i64 0]
theorem Va.len(v:Va):v.cells.length=15:=by simp[Va.cells,E.len]
def aI(l:List Va):List (List D):=l.map Va.cells
theorem bD(l:List Va):(aI l).length=l.length:=by simp[aI]
theorem cx(l:List Va): ∀r∈aI l,r.length=15:=by intro r a;obtain⟨_,_,rfl⟩:=ava.1 a;exact Va.len _
theorem iw(a b:List Va):aI (a++b)=aI a++aI b:=by simp[aI]
theorem ez{l:List Va}{i:Nat}(h:i<l.length):(aI l)[(i:Int).toNat]?=some l[i].cells:=by simp[aI,h]
structure Tr where
 e:E
 to:Nm
 fV:Bool
def Tr.cells(t:Tr):List D:=t.e.cells++ [.str t.to,.bool t.fV,.int .i64 0,.int .i64 0]
mutual
inductive aB where
 |df (x:Nm) (e:E)
 |call (x y f:Nm) (a b:E) (has:Bool) (e:E)
 |sw (e:E) (aj:List bh)
 |aP (aj:List bh)
 |reset (e:E) (b:bj)
inductive bh where
 |mk (name:Nm) (b:bj) (fG fH:List Tr)
inductive bj where
 |mk (vars:List Va) (au:List aB)
end
abbrev sc(k:Int)(lhs:List (List D))(name:Nm)(args:List (List D))(has:Bool)(e:List D)(aj:List (List D)):List D:=[.int .u8 k,.sl lhs,.str name,.sl args,.bool has]++e++ [.sl aj,.int .i64 0,.int .i64 0]
def fo(l:List Tr):List (List D):=l.map Tr.cells
mutual
def aB.cells:aB->List D
 | .df x e=>sc 1 [[.str x]] ⟨#[]⟩ [] false e.cells []
 | .call x y f a b has e=>sc 2 [[.str x],[.str y]] f [a.cells,b.cells] has e.cells []
 | .sw e aj=>sc 3 [] ⟨#[]⟩ [] false e.cells (cm aj)
 | .aP aj=>sc 4 [] ⟨#[]⟩ [] false E.nil.cells (cm aj)
 | .reset e b=>sc 5 [] ⟨#[]⟩ [] false e.cells [[.str ⟨#[]⟩]++b.cells++ [.sl [],.sl [],.int .i64 0,.int .i64 0]]
def bh.cells:bh->List D
 | .mk name b fG fH=>[.str name]++b.cells++ [.sl (fo fG),.sl (fo fH),.int .i64 0,.int .i64 0]
def cm:List bh->List (List D)
 | []=>[]
 |a::l=>a.cells::cm l
def bj.cells:bj->List D
 | .mk vars au=>[.sl (aI vars),.sl (bL au)]
def bL:List aB->List (List D)
 | []=>[]
 |q::l=>q.cells::bL l
end
theorem nF(l:List bh):cm l=l.map bh.cells:=by induction l with
 |nil=>rfl
 |cons b l a=>simp[cm,a]
theorem nG(l:List aB):bL l=l.map aB.cells:=by induction l with
 |nil=>rfl
 |cons b l a=>simp[bL,a]
theorem bj.shape(b:bj): ∃v q,b.cells= [.sl v,.sl q]:=by cases b;exact⟨_,_,by rw[bj.cells]⟩
theorem aB.len(q:aB):q.cells.length=16:=by cases q<;>rw[aB.cells]<;>simp[sc,E.len]
theorem bh.len(a:bh):a.cells.length=7:=by
 obtain⟨g,b,d,e⟩:=a;obtain⟨v,f,c⟩:=b.shape;rw[bh.cells,c];rfl
structure Nd where
 name:Nm
 ins:List Va
 outs:List Va
 b:bj
def Nd.cells(n:Nd):List D:=[.str n.name,.sl (aI n.ins),.sl (aI n.outs)]++n.b.cells++ [.int .i64 0,.int .i64 0]
def eL(l:List Nd):List (List D):=l.map Nd.cells
abbrev nq:List D:=[.str nj,.sl [[.str cj],[.str bC],[.str c8]],.int .i64 0,.int .i64 0]
abbrev KI(l:List Nd):List D:=[.sl [nq],.sl (eL l)]
def dg(n:Nat):Nm:=if h:n<10 then strOfNums [IntKind.u8.wrap (48+(n:Int))]else dg (n/10)++strOfNums [IntKind.u8.wrap (48+((n%10:Nat):Int))]
theorem rC(n:Nat):(dg n).size<=n+1:=by
 induction n using Nat.strongRecOn with
 |ind n a=>
  rw[dg];split
  ·simp[strOfNums,ByteArray.size]
  ·have:=a (n/10) (by omega);rw[ByteArray.size_append];have b:(strOfNums [IntKind.u8.wrap (48+((n%10:Nat):Int))]).size=1:=by simp[strOfNums,ByteArray.size]
   omega
def nm(c:UInt8)(k:Nat):Nm:=⟨#[c]⟩++dg k
structure Sc where
 ready:List Va
 all:List Va
 di:List Va
abbrev Sc.cells(s:Sc):List D:=[.sl (aI s.ready),.sl (aI s.all),.sl (aI s.di)]
def Sc.more(s:Sc)(l:List Va):Sc:=⟨s.ready++l,s.all,s.di⟩
inductive GC:Ty->E->Prop where
 |bool {n:Int} (h:n=0\/n=1):GC .bool (.bool n)
 |int {n:Int} (h:n∈ [(0:Int),1,2,-1,7,-2147483648]):GC .int (.int n)
 |fJ {s:Nm} (h:s∈ [cj,bC,c8]):GC .fJ (.ctor s)
def KJ(l:List Va)(t:Ty)(x:Nm):Prop:= ∃v∈l,v.ty=t/\v.clock=none/\v.name=x
inductive GV(l:List Va)(t:Ty):E->Prop where
 |vB {e:E} (h:GC t e):GV l t e
 |var {x:Nm} (h:KJ l t x):GV l t (.var x)
inductive GE:Sc->Ty->Bool->Nat->E->Prop where
 |v {s t st d e} (h:GV s.ready t e):GE s t st d e
 |c {s t st d e} (h:GC t e):GE s t st (d+1) e
 |ite {s t st d c a b} (hc:GE s .bool st d c) (ha:GE s t st d a) (hb:GE s t st d b):GE s t st (d+1) (.ite c a b)
 |ga {s t d c a} (hc:GC t c) (ha:GE ⟨s.all,s.all,s.di⟩ t true d a):GE s t true (d+1) (.ga c a)
 |arrow {s t d a b} (ha:GE s t true d a) (hb:GE ⟨s.all,s.all,s.di⟩ t true d b):GE s t true (d+1) (.arrow a (.pre b))
 |last {s t st d x} (h:KJ s.di t x):GE s t st (d+1) (.last x)
 |neg {s st d a} (ha:GE s .int st d a):GE s .int st (d+1) (.un 2 a)
 |arith {s st d a b} (op:Int) (ho:op∈ [(3:Int),4,5,6,7]) (ha:GE s .int st d a) (hb:GE s .int st d b):GE s .int st (d+1) (.bin op a b)
 |not {s st d a} (ha:GE s .bool st d a):GE s .bool st (d+1) (.un 1 a)
 |lH {s st d a b} (op:Int) (u:Ty) (ho:op∈ [(8:Int),9,10]/\u= .bool\/op∈ [(13:Int),16]/\u= .int\/op=11) (ha:GE s u st d a) (hb:GE s u st d b):GE s .bool st (d+1) (.bin op a b)
inductive NV(n:Nat):List Va->Nat->Prop where
 |nil:NV n [] n
 |snoc {vs:List Va} {n1:Nat} (h:NV n vs n1) (w:Va) (hw:w.name=nm 118 (n1+1)) (hc:w.clock=none) (hl:w.last=false/\w.first= .nil\/w.last=true/\GC w.ty w.first):NV n (vs++ [w]) (n1+1)
def fK(l:List Va):List Va->List Va
 | []=>l
 |w::r=>fK (if w.last&& !(l.any λu=>decide (u.name=w.name))then l++ [w]else l) r
theorem Ae(l:List Va)(r:List Va)(w:Va):fK l (r++ [w])=(if w.last&& !((fK l r).any λu=>decide (u.name=w.name))then fK l r++ [w]else fK l r):=by
 induction r generalizing l with
 |nil=>rfl
 |cons b r a=>simp only[avM,fK];exact a _
inductive LS:List Va->List Va->Prop where
 |nil:LS [] []
 |cK {a b:List Va} (h:LS a b) (w:Va):LS (a++ [w]) (b++ [w])
 |drop {a b:List Va} (h:LS a b) (w:Va) (hl:w.last=true):LS (a++ [w]) b
theorem LS.BZ: ∀l:List Va,LS l.reverse l.reverse
 | []=> .nil
 |a::l=>by rw[List.reverse_cons];exact .cK (BZ l) a
theorem LS.refl(l:List Va):LS l l:=by have:=LS.BZ l.reverse;simpa using this
theorem LS.len{a b:List Va}(h:LS a b):b.length<=a.length:=by
 induction h with
 |nil=>simp
 |cK h c d=>simp;omega
 |drop h c e d=>simp;omega
theorem LS.mem{a b:List Va}(h:LS a b): ∀w∈b,w∈a:=by
 induction h with
 |nil=>intro w f;exact f
 |cK h w d=>intro c e;rcases auS.1 e with h|h;exact auY _ (d c h);exact au0 _ h
 |drop h w g d=>intro c e;exact auY _ (d c e)
abbrev Sc.bA(s:Sc):Sc:=⟨s.ready,[],s.di⟩
def Af(s:Sc)(N:Nat)(l:List Tr):Prop:=l.length<=2/\ ∀t∈l,GE s.bA .bool false 2 t.e/\ ∃k,k<N/\t.to=nm 83 k
abbrev pS:Nm:=⟨#[116,114,117,101]⟩
abbrev mU:Nm:=⟨#[102,97,108,115,101]⟩
section
variable(Sub:Sc->List Va->Nat->Nat->bj->Prop)
inductive nO(s:Sc)(outs:List Va)(names:List Nm)(n:Nat):List bh->Nat->Prop where
 |nil:nO s outs names n [] n
 |snoc {aj:List bh} {n1 n2:Nat} (h:nO s outs names n aj n1) (c:Nm) (hn:names[aj.length]?=some c) (l:List Va) (hl:LS outs l) (h0:aj= []->l=outs) (b:bj) (hb:Sub s.bA l n1 n2 b):nO s outs names n (aj++ [.mk c b [] []]) n2
inductive u6(s:Sc)(outs:List Va)(N:Nat)(n:Nat):List bh->Nat->Prop where
 |nil:u6 s outs N n [] n
 |snoc {aj:List bh} {n1 n2:Nat} (h:u6 s outs N n aj n1) (l:List Va) (hl:LS outs l) (h0:aj= []->l=outs) (fG:List Tr) (hu:Af s N fG) (b:bj) (hb:Sub s.bA l n1 n2 b) (fH:List Tr) (hw:Af (s.more l) N fH):u6 s outs N n (aj++ [.mk (nm 83 aj.length) b fG fH]) n2
inductive p7(s:Sc):List Va->List aB->Prop where
 |nil:p7 s [] []
 |snoc {l:List Va} {q:List aB} (h:p7 s l q) (w:Va) (e:E) (he:GE s w.ty true 3 e):p7 s (l++ [w]) (q++ [.df w.name e])
abbrev c9(c:UInt8)(k:Nat)(t:Ty):Va:=⟨nm c k,t,none,false,.nil⟩
inductive GQ(an:Nat):Sc->List Va->Nat->Nat->List aB->List Va->Prop where
 |sZ {s outs n q} (h:p7 s outs q):GQ an s outs n n q []
 |ua {s outs n n' e aj} (he:GE s .fJ true 2 e) (ha:nO Sub s outs [c8,cj,bC] n aj n') (hl:aj.length=3):GQ an s outs n n' [.sw e aj] []
 |qy {s outs n n' e aj} (he:GE s .bool true 2 e) (ha:nO Sub s outs [pS,mU] n aj n') (hl:aj.length=2):GQ an s outs n n' [.sw e aj] []
 |aP {s outs n n' aj} (N:Nat) (hN:1<=N/\N<=3) (ha:u6 Sub s outs N n aj n') (hl:aj.length=N):GQ an s outs n n' [.aP aj] []
 |reset {s outs n n' e b} (he:GE s .bool true 2 e) (hb:Sub s outs n n' b):GQ an s outs n n' [.reset e b] []
 |call {s outs n n' l vs} (j:Nat) (hj:j<an) (a b:E) (ha:GE s .int true 2 a) (hb:GE s .bool true 2 b) (has:Bool) (e:E) (he:has=false/\e= .nil\/has=true/\GE s .bool true 2 e)
   (h:GQ an (s.more [c9 117 (n+1) .int,c9 117 (n+2) .fJ]) outs (n+2) n' l vs):
   GQ an s outs n n' (.call (nm 117 (n+1)) (nm 117 (n+2)) (nm 102 j) a b has e::l) (c9 117 (n+1) .int::c9 117 (n+2) .fJ::vs)
 |mY {s outs n n' l vs} (a b k k2 e cK:E) (ha:GE s .int false 2 a) (hb:GE s .int false 2 b) (hk:GC .int k) (P7:GC .int k2) (he:GE s .fJ true 3 e)
   (RS:cK= .fI (nm 99 (n+1)) cj a\/cK= .ga k2 (.bin 3 (.var (nm 119 (n+2))) (.fI (nm 99 (n+1)) cj a)))
   (h:GQ an (s.more [c9 99 (n+1) .fJ,c9 122 (n+3) .int]) outs (n+3) n' l vs):
   GQ an s outs n n' (.df (nm 99 (n+1)) e:: .df (nm 119 (n+2)) cK:: .df (nm 122 (n+3)) (.merge (nm 99 (n+1)) bC cj c8 (.fI (nm 99 (n+1)) bC b) (.var (nm 119 (n+2))) k)::l)
    (c9 99 (n+1) .fJ::⟨nm 119 (n+2),.int,some (cj,nm 99 (n+1)),false,.nil⟩::c9 122 (n+3) .int::vs)
end
inductive GL(Q:Sc->List Va->Nat->Nat->List aB->List Va->Prop)(s0:Sc)(t0:List Va)(n0:Nat):Sc->List Va->Nat->List aB->List Va->Prop where
 |start:GL Q s0 t0 n0 s0 t0 n0 [] []
 |step {s todo n n1 q vs q1 VK} (h:GL Q s0 t0 n0 s todo n q vs) (k:Nat) (h1:1<=k) (h3:k<=3) (hk:k<=todo.length) (hq:Q s (todo.take k) n n1 q1 VK):GL Q s0 t0 n0 (s.more (todo.take k)) (todo.drop k) n1 (q++q1) (vs++VK)
def KK(s:Sc)(vs outs:List Va):Sc:=⟨s.ready,s.ready++vs++outs,fK s.di (vs++outs)⟩
def ED(Q:Sc->List Va->Nat->Nat->List aB->List Va->Prop)(s:Sc)(outs:List Va)(n n':Nat)(b:bj):Prop:=
 ∃vs n1 s' q vars,NV n vs n1/\vs.length<=3/\GL Q (KK s vs outs) (vs++outs) n1 s' [] n' q vars/\b= .mk (vs++vars) q
def GB(an:Nat):Nat->Sc->List Va->Nat->Nat->bj->Prop
 |0=>ED (GQ (λ_ _ _ _ _=>False) an)
 |d+1=>ED (GQ (GB an d) an)
def aV:Va:=⟨⟨#[97]⟩,.int,none,false,.nil⟩
def bV:Va:=⟨⟨#[98]⟩,.bool,none,false,.nil⟩
def yV:Va:=⟨⟨#[121]⟩,.fJ,none,false,.nil⟩
def GN(k:Nat)(d:Nd):Prop:=d.name=nm 102 k/\d.ins= [aV,bV]/\(∃(last:Bool) (first:E),(last=false/\first= .nil\/last=true/\GC .int first)/\d.outs= [⟨⟨#[120]⟩,.int,none,last,first⟩,yV])/\ ∃n',n'<=3000/\GB k 3 ⟨d.ins,[],[]⟩ d.outs 0 n' d.b
def GP(l:List Nd):Prop:=1<=l.length/\l.length<=3/\ ∀(k:Nat) (d:Nd),l[k]?=some d->GN k d
end Go.Mk
namespace Go.Proofs
open Go.Mt Go.Mk
open Tryz
structure GS where
 i:Nat
 n:Nat
 q:Int
abbrev fP(v:D)(i:Nat):List M:=[.d v,dN i]
abbrev kU(n:Nat)(q:Int)(an:Nat)(main:Bool):List M:=[.ref 0 0,dN n,.d (.int .i64 q),dN an,.d (.bool main)]
abbrev GH(v:D)(an:Nat)(main:Bool)(g:GS):Hp:=[.box (fP v g.i),.box (kU g.n g.q an main)]
structure Tape(zs:List Int)(v:D):Prop where
 du:kJ .u8 zs v
 hl:zs.length<=1000
structure Rd(zs:List Int)(k j:Nat)(g g':GS):Prop where
 lt:j<k
 n:g'.n=g.n
 q:g'.q=g.q
 i:g.i<=g'.i
 le:g'.i<=zs.length
 qQ:j≠0->g.i<g'.i
theorem KL{n:Int}(h:(Lit.int .u8 n).wf=true):0<=n/\n<256:=by
 simp only[Lit.wf,avf,decide_eq_true_eq]at h;have a:IntKind.u8.min=0:=by decide
 have b:IntKind.u8.max=255:=by decide
 omega
section
variable{zs:List Int}{v:D}(ht:Tape zs v)(an:Nat)(main:Bool)
include ht
theorem fL(k:Nat)(h:0<k)(x:k<=1000)(g:GS)(i:g.i<=zs.length):DT prog 23 [.ref 0 0,dN k] (GH v an main g) λr K=> ∃(j:Nat) (g':GS),r=dN j/\K=GH v an main g'/\Rd zs k j g g':=by
 obtain⟨⟨p,s,t⟩,y⟩:=ht;obtain⟨a,d,e⟩:=g;simp only at i;refine DT.ob func23 W ntmps23 W ?_;show DC _ _ _ _ ⟨_,_,[.box (fP v a),.box (kU d e an main)]⟩ _;refine dC [2] W ?_;rcases auM a zs.length with c|c
 rotate_left
 ·have f:decide (((a:Nat):Int)>=(zs.length:Int))=true:=au5 (by omega);refine dC [] W ?_;apply Ps bN
  ·intro l m;refine fR 8 W<|yx W W p<|kq W W W (r:= .bool true) (by show some (D.bool (decide _))=_;rw[f])<|TF.nil ⟨by kernel_rfl,rfl⟩
  refine dC [1,2] W<|DC.ret ⟨_,W,0,⟨a,d,e⟩,W,W,h,W,W,auK _,i,λq=>absurd W q⟩
 ·have f:decide (((a:Nat):Int)>=(zs.length:Int))=false:=avc (by omega);obtain rfl:v= .sl (kQ .u8 zs):=s.resolve_left (by grind);have n:(kQ .u8 zs)[((a:Nat):Int).toNat]?=some [.int .u8 zs[a]]:=zD (auO c);have o:=KL (t zs[a] (avb c));generalize zs[a]=b at n o;obtain⟨b,rfl⟩:=axm o.1;have u:((a:Nat):Int)+1-1=(a:Int):=by omega
  have w:Int.tmod (b:Int) (k:Int)=((b%k:Nat):Int):=rfl;refine dC [] W ?_;apply Ps bN
  ·intro l m;refine fR 8 W<|yx W W p<|kq W W W (r:= .bool false) (by show some (D.bool (decide _))=_;rw[f])<|TF.nil ⟨by kernel_rfl,rfl⟩
  refine dO [0,2,23] W<|Po (az W W W (by omega))<|dR [999] W<|Po (cc W W W W W W)<|dL [] W ?_;apply Ps bN
  ·intro l m;refine fR 8 W<|fT W W W (by omega) ?_;rw[u];refine a_ W W W (auJ a) n W<|fR 1 W<|rc W W ?_;rw[IntWalk.i64_in _ ⟨by omega,by omega⟩];refine fR 1 W<|CJ W W W (by simp;omega) ?_;rw[w];refine fR 1 W<|TF.nil ⟨by kernel_rfl,rfl⟩
  exact DC.ret ⟨_,W,b%k,⟨a+1,d,e⟩,W,W,awu _ h,W,W,Nat.le_succ _,c,λ_=>Nat.lt_succ_self _⟩
end
theorem nP: ∀(k n:Nat),n<k->n<=1000000->PT prog 33 [iN n] (·= [.str (dg n)])
 |0,n,c,_=>by omega
 |k+1,n,c,f=>by
  refine PI (CT.ob func33 W ntmps33 W λg h=> ?_);refine tC [2] W ?_;rcases auM n 10 with b|b
  ·have a:dg n=strOfNums [IntKind.u8.wrap (48+(n:Int))]:=by rw[dg,axq b]
   refine tO [2,8] W<|dY W W W (r:= .bool true) (by show some (D.bool (decide _))=_;rw[show decide ((n:Int)<10)=true from au5 (by omega)])<|tR [1,2,10] W<|az W W W (by omega)<|tR [13] W<|Nx W W W<|tL [] W<|TC.ret ⟨_,rfl,[_],rfl,by rw[a]⟩
  ·have a:dg n=dg (n/10)++strOfNums [IntKind.u8.wrap (48+((n%10:Nat):Int))]:=by rw[dg,axz (by omega)]
   have d:IntKind.i64.wrap (Int.tdiv (n:Int) 10)=((n/10:Nat):Int):=by
    rw[show Int.tdiv (n:Int) 10=((n/10:Nat):Int)from rfl];exact IntWalk.i64_in _ ⟨by omega,by omega⟩
   have e:Int.tmod (n:Int) 10=((n%10:Nat):Int):=rfl;have i:=rC (n/10);have j:(strOfNums [IntKind.u8.wrap (48+((n%10:Nat):Int))]).size=1:=by simp[strOfNums,ByteArray.size]
   refine tO [2,8] W<|dY W W W (r:= .bool false) (by show some (D.bool (decide _))=_;rw[show decide ((n:Int)<10)=false from avc (by omega)])<|tL [0] W<|TC.draw bN<|fR 1 W<|Nv W W W W ?_;rw[d];refine aW ((nP k (n/10)) (by omega) (by omega)) W W<|fR 1 W<|CJ W W W W ?_;rw[e];refine pL W W W (by omega)<|fR 2 W<|Ny W W W<|uG W W W (by omega)<|fR 1 W<|TF.nil ⟨by kernel_rfl,?_⟩;exact TC.ret ⟨_,W,[_],W,by rw[a]⟩
theorem dP:PT prog 34 [] (·= [.agg Ty.int.cells]):=by
 refine PI (CT.ob func34 W ntmps34 W λa b=> ?_);refine tC [2,2] W<|TC.ret ⟨_,W,[_],W,W⟩
theorem kj:PT prog 35 [] (·= [.agg Ty.bool.cells]):=by
 refine PI (CT.ob func35 W ntmps35 W λa b=> ?_);refine tC [2,2] W<|TC.ret ⟨_,W,[_],W,W⟩
theorem kV:PT prog 20 [] (·= [.agg Ty.fJ.cells]):=by
 refine PI (CT.ob func20 W ntmps20 W λa b=> ?_);refine tC [2,2] W<|TC.ret ⟨_,W,[_],W,W⟩
instance:Bx prog 57:=⟨by kernel_rfl⟩
instance:bz prog 23:=cN (by kernel_rfl)
instance:bz prog 33:=cN (by kernel_rfl)
instance:bz prog 34:=cN (by kernel_rfl)
instance:bz prog 35:=cN (by kernel_rfl)
instance:bz prog 20:=cN (by kernel_rfl)
structure Mv(zs:List Int)(g g':GS):Prop where
 n:g'.n=g.n
 q:g'.q=g.q
 i:g.i<=g'.i
 le:g'.i<=zs.length
theorem Rd.mv{a:List Int}{k j:Nat}{g g':GS}(h:Rd a k j g g'):Mv a g g':=⟨h.n,h.q,h.i,h.le⟩
theorem Mv.trans{d:List Int}{a b c:GS}(h:Mv d a b)(k:Mv d b c):Mv d a c:=⟨k.n.trans h.n,k.q.trans h.q,avD h.i k.i,k.le⟩
theorem p8(v:D)(a:Nat)(b:Bool)(g:GS):HB 2 (GH v a b g):=LW (H:=GH v a b g) W
section
variable{zs:List Int}{v:D}(ht:Tape zs v)(an:Nat)(main:Bool)
include ht
theorem rD(c:UInt8)(g:GS)(f:g.i<=zs.length)(e:g.n<=100000):DT prog 50 [.ref 1 0,.d (.str ⟨#[c]⟩)] (GH v an main g) λr K=>r= .d (.str (nm c (g.n+1)))/\K=GH v an main ⟨g.i,g.n+1,g.q⟩:=by
 obtain⟨b,a,d⟩:=g;have h:=rC (a+1);simp only at e;refine DT.ob func50 W ntmps50 W ?_;show DC _ _ _ _ ⟨_,_,[.box (fP v b),.box (kU a d an main)]⟩ _;refine dO [2,2,13] W<|Po (az W W W (by omega))<|dR [999] W<|Po (cc W W W W W W)<|dR [2,21] W<|Po (aE (nP (a+2) (a+1) (by omega) (by grind)) W W)<|dR [22] W<|Po (q_ W W W (by have:(⟨#[c]⟩:ByteArray).size=1:=rfl;omega))<|dL [] W<|DC.ret ⟨_,rfl,rfl,rfl⟩
theorem HI(g:GS)(c:g.i<=zs.length):DT prog 51 [.ref 1 0] (GH v an main g) λr K=> ∃(t:Ty) (g':GS),r= .d (.agg t.cells)/\K=GH v an main g'/\Mv zs g g':=by
 obtain⟨r,K,⟨b,g',rfl,rfl,a⟩,d⟩:=fL ht an main 4 (by omega) (by omega) g c;refine DT.ob func51 W ntmps51 W<|dO [2,2,11] W<|Po (aq d W W)<|dL [] W ?_;have e:b=0\/b=1\/b=2\/b=3:=by have:=a.lt;omega
 refine dC [3] W ?_;rcases e with rfl|rfl|rfl|rfl
 ·refine dO [2,1,1,2,15] W<|Po (aE dP W W)<|dL [] W<|DC.ret ⟨_,W,.int,g',W,W,a.mv⟩
 ·refine dO [2,0,2,1,2,15] W<|Po (aE dP W W)<|dL [] W<|DC.ret ⟨_,W,.int,g',W,W,a.mv⟩
 ·refine dO [2,0,2,0,2,1,2,18] W<|Po (aE kj W W)<|dL [] W<|DC.ret ⟨_,W,.bool,g',W,W,a.mv⟩
 ·refine dO [2,0,2,0,2,0,2,19] W<|Po (aE kV W W)<|dL [] W<|DC.ret ⟨_,W,.fJ,g',W,W,a.mv⟩
theorem jk(t:Ty)(g:GS)(l:g.i<=zs.length):DT prog 36 [.ref 1 0,.d (.agg t.cells)] (GH v an main g) λr K=> ∃(e:E) (g':GS),r= .d (.agg e.cells)/\K=GH v an main g'/\GC t e/\Mv zs g g':=by
 obtain⟨r,K,⟨a,g',rfl,rfl,k⟩,m⟩:=fL ht an main 6 (by omega) (by omega) g l;refine DT.ob func36 W ntmps36 W<|dO [2,2,16] W<|Po (aq m W W)<|dL [2,3] W ?_;have s:=k.lt;have j:=k.mv;cases t with
 |bool=>
  have c: ∃b:Int,(b=0\/b=1)/\IntKind.i32.wrap (((a:Nat):Int).tmod 2)=b:=by
   have:a=0\/a=1\/a=2\/a=3\/a=4\/a=5:=by omega
   rcases this with rfl|rfl|rfl|rfl|rfl|rfl
   ·exact⟨0,.inl W,by decide⟩
   ·exact⟨1,.inr W,by decide⟩
   ·exact⟨0,.inl W,by decide⟩
   ·exact⟨1,.inr W,by decide⟩
   ·exact⟨0,.inl W,by decide⟩
   ·exact⟨1,.inr W,by decide⟩
  obtain⟨b,n,d⟩:=c;refine dO [2,1,2,22] W<|Po (pJ W W W W)<|dR [23] W<|Po (zm W W) ?_;rw[d];refine dL [] W<|DC.ret ⟨_,W,.bool b,g',W,W,.bool n,j⟩
 |int=>
  have c: ∃f:Int,f∈ [(0:Int),1,2,-1,7,-2147483648]/\([[D.int .i32 0],[.int .i32 1],[.int .i32 2],[.int .i32 (-1)],[.int .i32 7],[.int .i32 (-2147483648)]]:List (List D))[((a:Nat):Int).toNat]?=some [.int .i32 f]:=by
   have:a=0\/a=1\/a=2\/a=3\/a=4\/a=5:=by omega
   rcases this with rfl|rfl|rfl|rfl|rfl|rfl
   ·exact⟨0,by simp,rfl⟩
   ·exact⟨1,by simp,rfl⟩
   ·exact⟨2,by simp,rfl⟩
   ·exact⟨-1,by simp,rfl⟩
   ·simp_all
   ·simp_all
  obtain⟨f,o,d⟩:=c;refine dO [2,0,2,1,2,2,30] W<|Po (aG W W W (auJ a) d W)<|dL [] W<|DC.ret ⟨_,W,.int f,g',W,W,.int o,j⟩
 |fJ=>
  have c: ∃h:Nm,h∈ [cj,bC,c8]/\([[D.str cj],[.str bC],[.str c8]]:List (List D))[(((a%3:Nat):Int)).toNat]?=some [.str h]:=by
   have:a%3=0\/a%3=1\/a%3=2:=by omega
   rcases this with i|i|i<;>rw[i]
   ·simp_all
   ·simp_all
   ·simp_all
  obtain⟨h,p,d⟩:=c;have q:Int.tmod (a:Int) 3=((a%3:Nat):Int):=rfl;refine dO [2,0,2,0,2,2,36] W<|Po (pJ W W W W) ?_;rw[q];refine dR [37] W<|Po (aG W W W (auJ _) d W)<|dL [] W<|DC.ret ⟨_,W,.ctor h,g',W,W,.fJ p,j⟩
end
theorem ll(w:Va): ∃c d e f g h i j,w.cells= [.str w.name,.int .u8 w.ty.kind,.str w.ty.nm,.sl (tG w.clock),.bool w.last,c,d,e,f,g,h,i,j,.int .i64 0,.int .i64 0]/\w.first.cells= [c,d,e,f,g,h,i,j]:=by
 obtain⟨k,o,l,m,n,b,a⟩:=w.first.shape;exact⟨_,_,_,_,_,_,_,_,by simp only[Va.cells,a,bU];rfl,a⟩
theorem KM(a b:Ty):(decide (a.kind=b.kind)&&decide (a.nm=b.nm))=decide (a=b):=by cases a<;>cases b<;>rfl
theorem lY(k op:Int)(a b:E):PT prog 113 [.int .u8 k,.int .u8 op,.agg a.cells,.agg b.cells] (·= [.agg (bU k op 0 ⟨#[]⟩ [] [a.cells,b.cells])]):=by
 obtain⟨e,f,g,h,i,j,c⟩:=a.shape;obtain⟨l,m,n,o,p,q,d⟩:=b.shape;rw[c,d];refine PI (CT.ob func113 W ntmps113 W λr s=> ?_);refine tC [2,2] W<|TC.ret ⟨_,W,[_],W,W⟩
theorem Mn(l:List Va)(x:Nm)(m:l.length<=100000):PT prog 52 [.sl (aI l),.str x] (·= [.bool (l.any λw=>decide (w.name=x))]):=by
 refine PI (CT.ob func52 W ntmps52 W λn o=> ?_);refine tC [2,2] W<|Rn [nN 5 0,nD 1 (.str x),nD 0 (.sl (aI l))] [] W W<|tC [3] W<|TC.lp (λe f=> ∃(a:Nat),f=⟨[nI 5 (a:Int),nD 1 (.str x),nD 0 (.sl (aI l))],[],[]⟩/\a<=l.length/\(∀w∈l.take a,¬w.name=x)/\e=l.length-a) l.length _
  ⟨0,rfl,by omega,by simp,rfl⟩ W ?_
 rintro e f ⟨a,rfl,p,g,rfl⟩;refine tO [2,12] W<|bp W W W ?_;rw[bD];refine tL [] W<|TC.cond W (λb=> ?_) (λb=> ?_)
 ·have c:a<l.length:=by grind
  have d:=ez c;have h:=avb c;have i:=au1 c;generalize l[a]=w at d h i;obtain⟨q,r,s,t,u,v,y,z,j,_⟩:=ll w;rw[j]at d;refine tO [3,2,18] W<|aG W W W (auJ a) d W<|tL [] W<|TC.cond W (λb=> ?_) (λb=> ?_)
  ·have k:=auV b;refine tC [2] W<|TC.ret ⟨_,W,[_],W,by grind⟩
  ·have k:=au9 b;refine tO [2,15] W<|az W W W (by omega)<|tL [] W<|again (k':=l.length-(a+1)) (by omega) ⟨a+1,rfl,by omega,by grind,rfl⟩ W W
 ·refine TC.exit ?_;have c:a=l.length:=by grind
  subst c;rw[avo]at g;refine tC [2] W<|TC.ret ⟨_,W,[_],W,by grind⟩
theorem ub(s:Sc)(l:List Va)(a:s.ready.length<=10000)(b:l.length<=10000):PT prog 54 [.agg s.cells,.sl (aI l)] (·= [.agg (s.more l).cells]):=by
 refine PI (CT.ob func54 W ntmps54 W λc d=> ?_);refine tO [2,2,2,13] W<|Hr (n:=15) W W W W (by rfl) (cx _) (by rw[bD];omega)<|tR [2,16] W<|LX (r1:=aI s.ready) (r2:=aI l) W W W W (by rfl) (cx _) (cx _) (by rw[bD,bD];omega) (by rw[bD,bD];omega)<|tL [2] W<|TC.ret ⟨_,rfl,[_],rfl,by rw[<-iw];rfl⟩
section
variable{zs:List Int}{v:D}(ht:Tape zs v)(an:Nat)(main:Bool)
include ht
theorem EE(l:List Va)(C:l.length<=100000)(t:Ty)(g:GS)(s:g.i<=zs.length):DT prog 114 [.ref 1 0,.d (.sl (aI l)),.d (.agg t.cells)] (GH v an main g) λr K=> ∃(x:Nm) (b:Bool) (g':GS),r= .dq [.d (.str x),.d (.bool b)]/\K=GH v an main g'/\Mv zs g g'/\(b=true->KJ l t x):=by
 obtain⟨r,K,⟨c,g',rfl,rfl,k⟩,d⟩:=fL ht an main 7 (by omega) (by omega) g s;have D:=k.lt;have m:=k.mv;refine DT.ob func114 W ntmps114 W<|dO [2,2,19] W<|Po (aq d W W)<|dL [] W<|dC [2] W<|Pz [nN 9 0,nN 8 c,nD 5 (.bm t.cells 0),nD 1 (.sl (aI l))] (GH v an main g') W W<|dC [3] W<|DC.lp (λi j=> ∃(a:Nat) (n:List (Nat×List M)),j=⟨[nI 9 (a:Int),nN 8 c,nD 5 (.bm t.cells 0),nD 1 (.sl (aI l))],n,GH v an main g'⟩/\a<=l.length/\i=l.length-a) l.length _
  ⟨0,_,rfl,by omega,rfl⟩ W ?_
 rintro i j ⟨a,n,rfl,E,rfl⟩;refine dO [2,22] W<|Po (bp W W W) ?_;rw[bD];refine dL [] W<|DC.cond W (λd=> ?_) (λd=> ?_)
 ·have F:a<l.length:=by grind
  have o:(a+c)%l.length<l.length:=awu _ (by omega);have h:=ez o;have p:=avb o;generalize l[(a+c)%l.length]=e at h p;obtain⟨G,H,I,J,L,N,O,P,u,_⟩:=ll e;rw[u]at h;have w:((a:Nat):Int)+(c:Int)=((a+c:Nat):Int):=by omega
  have y:Int.tmod ((a+c:Nat):Int) (l.length:Int)=(((a+c)%l.length:Nat):Int):=rfl;refine dO [3,2,29] W<|Po (az W W W (by omega)) ?_;rw[w];refine dR [31] W<|Po (bp W W W) ?_;rw[bD];refine dR [32] W<|Po (pJ W W W (avs.2 (by omega))) ?_;rw[y];refine dR [33] W<|Po (aG W W W (auJ _) h W)<|dL [] W ?_;rcases axG (e.ty=t)with f|f
  ·refine dO [2,38] W<|Po (Hv W W W) ?_;rw[KM,au5 f];refine dL [] W<|DC.cond W (λd=> ?_) (λd=> ?_)
   ·have z:e.clock=none:=by
     rcases A:e.clock with _|⟨B,b⟩
     ·rfl
     ·rw[A]at d;cases d
    refine dC [2] W<|DC.ret ⟨_,W,e.name,true,g',W,W,m,λ_=>⟨e,p,f,z,rfl⟩⟩
   ·refine dO [2,25] W<|Po (az W W W (by omega))<|dL [] W<|bK (k':=l.length-(a+1)) (by omega) ⟨a+1,_,rfl,by omega,rfl⟩ W W
  ·refine dO [2,38] W<|Po (Hv W W W) ?_;rw[KM,avc f];refine dR [0,2,25] W<|Po (az W W W (by omega))<|dL [] W<|bK (k':=l.length-(a+1)) (by omega) ⟨a+1,_,rfl,by omega,rfl⟩ W W
 ·refine DC.exit<|dC [2] W<|DC.ret ⟨_,W,_,false,g',W,W,m,λq=>by cases q⟩
end
instance:bz prog 114:=cN (by kernel_rfl)
instance:bz prog 36:=cN (by kernel_rfl)
section
variable{zs:List Int}{v:D}(ht:Tape zs v)(an:Nat)(main:Bool)
include ht
theorem pf(l:List Va)(i:l.length<=100000)(t:Ty)(g:GS)(j:g.i<=zs.length):DT prog 112 [.ref 1 0,.d (.sl (aI l)),.d (.agg t.cells)] (GH v an main g) λr K=> ∃(e:E) (g':GS),r= .d (.agg e.cells)/\K=GH v an main g'/\GV l t e/\Mv zs g g':=by
 obtain⟨r,K,⟨h,b,g',rfl,rfl,a,k⟩,m⟩:=EE ht an main l i t g j;obtain⟨q,s,⟨c,n,rfl,rfl,o,p⟩,d⟩:=jk ht an main t g' a.le;refine DT.ob func112 W ntmps112 W<|dO [2,2,17] W<|Po (aq m W W)<|dL [] W ?_;cases b with
 |false=>
  obtain⟨u,w,x,y,z,A,f⟩:=c.shape;rw[f]at d;refine dO [2,1,2,24] W<|Po (aq d W W)<|dL [] W<|DC.ret ⟨_,W,c,n,by rw[f];rfl,rfl,.vB o,a.trans p⟩
 |true=>
  refine dC [2,0,2] W<|DC.ret ⟨_,W,.var h,g',W,W,.var (k W),a⟩
end
instance:bz prog 112:=cN (by kernel_rfl)
instance:bz prog 113:=cN (by kernel_rfl)
instance:bz prog 82:=cN (by kernel_rfl)
instance:bz prog 115:=cN (by kernel_rfl)
instance:bz prog 51:=cN (by kernel_rfl)
structure xA(s:Sc):Prop where
 ready:s.ready.length<=100000
 all:s.all.length<=100000
 di:s.di.length<=100000
theorem xA.wide{s:Sc}(h:xA s):xA ⟨s.all,s.all,s.di⟩:=⟨h.all,h.all,h.di⟩
section
variable(zs:List Int)(v:D)(an:Nat)(main:Bool)
def wK(d:Nat):Prop:= ∀(s:Sc),xA s-> ∀(t:Ty) (st:Bool) (g:GS),g.i<=zs.length->DT prog 82 [.ref 1 0,.d (.agg s.cells),.d (.agg t.cells),dN d,.d (.bool st)] (GH v an main g) λr K=> ∃(e:E) (g':GS),r= .d (.agg e.cells)/\K=GH v an main g'/\GE s t st d e/\Mv zs g g'
def Mo(d:Nat):Prop:= ∀(s:Sc),xA s-> ∀(t:Ty) (st:Bool) (g:GS),g.i<=zs.length->DT prog 115 [.ref 1 0,.d (.agg s.cells),.d (.agg t.cells),dN d,.d (.bool st)] (GH v an main g) λr K=> ∃(e:E) (g':GS),r= .d (.agg e.cells)/\K=GH v an main g'/\GE s t st d e/\Mv zs g g'
end
section
variable{zs:List Int}{v:D}(ht:Tape zs v)(an:Nat)(main:Bool)
include ht
theorem KN(d:Nat)(hd:d<=100)(t:wK zs v an main d):Mo zs v an main (d+1):=by
 intro m q co st ac hg;obtain⟨r0,K0,⟨n,z,rfl,rfl,hr⟩,y⟩:=fL ht an main 6 (by omega) (by omega) ac hg;have hj:=hr.lt;have k:=hr.mv;have o:((d+1:Nat):Int)-1=(d:Int):=by omega
 cases co with
 |fJ=>
  obtain⟨B,C,⟨a,l,rfl,rfl,Rl,h⟩,g⟩:=pf ht an main m.ready q.ready .fJ z k.le;obtain⟨F,G,H,I,J,K,b⟩:=a.shape;rw[b]at g;refine DT.ob func115 W ntmps115 W<|dO [2,2,25] W<|Po (aq y W W)<|dR [2,3,2,0,2,0,2,116] W<|Po (aq g W W)<|dL [] W<|DC.ret ⟨_,W,a,l,by rw[b];rfl,rfl,.v Rl,k.trans h⟩
 |int=>
  obtain⟨B,C,⟨a,l,rfl,rfl,s,h⟩,g⟩:=t m q .int st z k.le;obtain⟨L,M,⟨c,u,rfl,rfl,w,x⟩,i⟩:=t m q .int st l h.le;obtain⟨F,G,H,I,J,K,b⟩:=a.shape;obtain⟨N,O,P,Q,R,S,f⟩:=c.shape;have j:= λA=>lY 7 A a c
  rw[b]at g;rw[f]at i;rw[b,f]at j;rcases auM n 5 with h5|h5
  ·have hx: ∃A:Int,A∈ [(3:Int),4,5,6,7]/\([[D.int .u8 3],[.int .u8 4],[.int .u8 5],[.int .u8 6],[.int .u8 7]]:List (List D))[((n:Nat):Int).toNat]?=some [.int .u8 A]:=by
    have:n=0\/n=1\/n=2\/n=3\/n=4:=by omega
    rcases this with rfl|rfl|rfl|rfl|rfl
    ·grind
    ·grind
    ·grind
    ·grind
    ·grind
   obtain⟨A,TQ,Pv⟩:=hx;have Y:(((n:Nat):Int)==5)=false:=avs.2 (by omega);refine DT.ob func115 W ntmps115 W<|dO [2,2,25] W<|Po (aq y W W)<|dR [2,3,2,1,2,2,32] W<|Po (aQ Y W W W W)<|dR [0,2,46] W<|Po (cL W W W (by omega)) ?_;rw[o];refine dR [48] W<|Po (aq g W W)<|dL [] W ?_;apply Ps bN
   ·intro T U;refine fR 2 W<|a_ W W W (auJ n) Pv W<|fR 6 W<|fT W W W (by omega) ?_;rw[o];refine fR 1 W<|bg i W W<|aW (j A) W W<|fR 1 W<|TF.nil ⟨by kernel_rfl,rfl⟩
   exact DC.ret ⟨_,W,.bin A a c,u,by rw[E.cells,b,f];rfl,rfl,.arith A TQ s w,k.trans (h.trans x)⟩
  ·obtain rfl:n=5:=by omega
   refine DT.ob func115 W ntmps115 W<|dO [2,2,25] W<|Po (aq y W W)<|dR [2,3,2,1,2,2,1,2,37] W<|Po (cL W W W (by omega)) ?_;rw[o];refine dR [39] W<|Po (aq g W W)<|dL [] W<|DC.ret ⟨_,W,.un 2 a,l,by rw[E.cells,b];rfl,rfl,.neg s,k.trans h⟩
 |bool=>
  refine DT.mono (p:= λr d6=> ∃(e:E) (g':GS),r= .d (.agg e.cells)/\d6=GH v an main g'/\GE m .bool st (d+1) e/\Mv zs ac g') ?_ (λ_ _ d7=>d7);have T9:n=0\/n=1\/n=2\/n=3\/n=4\/n=5:=by omega
  rcases T9 with rfl|rfl|rfl|rfl|rfl|rfl
  ·skip
   obtain⟨r3,K3,⟨j3,Z,rfl,rfl,Wb⟩,X⟩:=fL ht an main 3 (by omega) (by omega) z k.le;have V:=Wb.mv;obtain⟨B,C,⟨a,l,rfl,rfl,s,h⟩,g⟩:=t m q .bool st Z V.le;obtain⟨L,M,⟨c,u,rfl,rfl,w,x⟩,i⟩:=t m q .bool st l h.le;obtain⟨F,G,H,I,J,K,b⟩:=a.shape;obtain⟨N,O,P,Q,R,S,f⟩:=c.shape;rw[b]at g;rw[f]at i;rcases avl j3 with rfl|d8
   ·skip
    refine DT.ob func115 W ntmps115 W<|dO [2,2,25] W<|Po (aq y W W)<|dR [2,3,2,0,2,1,2,2,2,0,2,0,2,80] W ?_
    first|refine Po (ax W W) ?_|(refine Po (av W) ?_;refine Po (aq X W W) ?_)
    refine dR [1,2,87] W<|Po (cL W W W (by omega)) ?_;rw[o];refine dR [89] W<|Po (aq g W W)<|dL [] W<|DC.ret ⟨_,W,.un 1 a,l,by rw[E.cells,b];rfl,rfl,.not s,k.trans (V.trans h)⟩
   ·skip
    have Y:(((j3:Nat):Int)==0)=false:=avs.2 (by omega);refine DT.ob func115 W ntmps115 W<|dO [2,2,25] W<|Po (aq y W W)<|dR [2,3,2,0,2,1,2,2,2,0,2,0,2,80] W ?_
    first|refine Po (ax W W) ?_|(refine Po (av W) ?_;refine Po (aq X W W) ?_)
    refine dR [81] W ?_
    first|refine Po (ax W W) ?_|(refine Po (av W) ?_;refine Po (aQ Y W W W W) ?_)
    refine dL [0] W ?_;have j:=lY 7 8 a c;rw[b,f]at j;refine dO [2,96] W<|Po (cL W W W (by omega)) ?_;rw[o];refine dR [98] W<|Po (aq g W W)<|dL [] W ?_;apply Ps bN
    ·intro T U;refine fR 2 W<|a_ W W W (by decide) (r:=[.int .u8 8]) W W<|fR 6 W<|fT W W W (by omega) ?_;rw[o];refine fR 1 W<|bg i W W<|aW j W W<|fR 1 W<|TF.nil ⟨by kernel_rfl,rfl⟩
    exact DC.ret ⟨_,W,.bin 8 a c,u,by rw[E.cells,b,f];rfl,rfl,.lH 8 _ (.inl ⟨by simp,rfl⟩) s w,k.trans (V.trans (h.trans x))⟩
  ·skip
   obtain⟨B,C,⟨a,l,rfl,rfl,s,h⟩,g⟩:=t m q .bool st z k.le;obtain⟨L,M,⟨c,u,rfl,rfl,w,x⟩,i⟩:=t m q .bool st l h.le;obtain⟨F,G,H,I,J,K,b⟩:=a.shape;obtain⟨N,O,P,Q,R,S,f⟩:=c.shape;rw[b]at g;rw[f]at i;refine DT.ob func115 W ntmps115 W<|dO [2,2,25] W<|Po (aq y W W)<|dL [2,3,2,0,2,1,2,2,2,0,2,0,2,0] W ?_;have j:=lY 7 9 a c;rw[b,f]at j;refine dO [2,96] W<|Po (cL W W W (by omega)) ?_;rw[o];refine dR [98] W<|Po (aq g W W)<|dL [] W ?_;apply Ps bN
   ·intro T U;refine fR 2 W<|a_ W W W (by decide) (r:=[.int .u8 9]) W W<|fR 6 W<|fT W W W (by omega) ?_;rw[o];refine fR 1 W<|bg i W W<|aW j W W<|fR 1 W<|TF.nil ⟨by kernel_rfl,rfl⟩
   exact DC.ret ⟨_,W,.bin 9 a c,u,by rw[E.cells,b,f];rfl,rfl,.lH 9 _ (.inl ⟨by simp,rfl⟩) s w,k.trans (h.trans x)⟩
  ·skip
   obtain⟨B,C,⟨a,l,rfl,rfl,s,h⟩,g⟩:=t m q .bool st z k.le;obtain⟨L,M,⟨c,u,rfl,rfl,w,x⟩,i⟩:=t m q .bool st l h.le;obtain⟨F,G,H,I,J,K,b⟩:=a.shape;obtain⟨N,O,P,Q,R,S,f⟩:=c.shape;rw[b]at g;rw[f]at i;refine DT.ob func115 W ntmps115 W<|dO [2,2,25] W<|Po (aq y W W)<|dL [2,3,2,0,2,1,2,2,2,0,2,0,2,0] W ?_;have j:=lY 7 10 a c;rw[b,f]at j;refine dO [2,96] W<|Po (cL W W W (by omega)) ?_;rw[o];refine dR [98] W<|Po (aq g W W)<|dL [] W ?_;apply Ps bN
   ·intro T U;refine fR 2 W<|a_ W W W (by decide) (r:=[.int .u8 10]) W W<|fR 6 W<|fT W W W (by omega) ?_;rw[o];refine fR 1 W<|bg i W W<|aW j W W<|fR 1 W<|TF.nil ⟨by kernel_rfl,rfl⟩
   exact DC.ret ⟨_,W,.bin 10 a c,u,by rw[E.cells,b,f];rfl,rfl,.lH 10 _ (.inl ⟨by simp,rfl⟩) s w,k.trans (h.trans x)⟩
  ·skip
   obtain⟨B,C,⟨a,l,rfl,rfl,s,h⟩,g⟩:=t m q .int st z k.le;obtain⟨L,M,⟨c,u,rfl,rfl,w,x⟩,i⟩:=t m q .int st l h.le;obtain⟨F,G,H,I,J,K,b⟩:=a.shape;obtain⟨N,O,P,Q,R,S,f⟩:=c.shape;rw[b]at g;rw[f]at i;refine DT.ob func115 W ntmps115 W<|dO [2,2,25] W<|Po (aq y W W)<|dR [2,3,2,0,2,1,2,2,2,1,2,68] W<|Po (aE dP W W)<|dL [2,0,2,0] W ?_;have j:=lY 7 13 a c;rw[b,f]at j;refine dO [2,96] W<|Po (cL W W W (by omega)) ?_;rw[o];refine dR [98] W<|Po (aq g W W)<|dL [] W ?_;apply Ps bN
   ·intro T U;refine fR 2 W<|a_ W W W (by decide) (r:=[.int .u8 13]) W W<|fR 6 W<|fT W W W (by omega) ?_;rw[o];refine fR 1 W<|bg i W W<|aW j W W<|fR 1 W<|TF.nil ⟨by kernel_rfl,rfl⟩
   exact DC.ret ⟨_,W,.bin 13 a c,u,by rw[E.cells,b,f];rfl,rfl,.lH 13 _ (.inr (.inl ⟨by simp,rfl⟩)) s w,k.trans (h.trans x)⟩
  ·skip
   obtain⟨B,C,⟨a,l,rfl,rfl,s,h⟩,g⟩:=t m q .int st z k.le;obtain⟨L,M,⟨c,u,rfl,rfl,w,x⟩,i⟩:=t m q .int st l h.le;obtain⟨F,G,H,I,J,K,b⟩:=a.shape;obtain⟨N,O,P,Q,R,S,f⟩:=c.shape;rw[b]at g;rw[f]at i;refine DT.ob func115 W ntmps115 W<|dO [2,2,25] W<|Po (aq y W W)<|dR [2,3,2,0,2,1,2,2,2,1,2,68] W<|Po (aE dP W W)<|dL [2,0,2,0] W ?_;have j:=lY 7 16 a c;rw[b,f]at j;refine dO [2,96] W<|Po (cL W W W (by omega)) ?_;rw[o];refine dR [98] W<|Po (aq g W W)<|dL [] W ?_;apply Ps bN
   ·intro T U;refine fR 2 W<|a_ W W W (by decide) (r:=[.int .u8 16]) W W<|fR 6 W<|fT W W W (by omega) ?_;rw[o];refine fR 1 W<|bg i W W<|aW j W W<|fR 1 W<|TF.nil ⟨by kernel_rfl,rfl⟩
   exact DC.ret ⟨_,W,.bin 16 a c,u,by rw[E.cells,b,f];rfl,rfl,.lH 16 _ (.inr (.inl ⟨by simp,rfl⟩)) s w,k.trans (h.trans x)⟩
  ·skip
   obtain⟨r3,K3,⟨ah,Z,rfl,rfl,V⟩,X⟩:=HI ht an main z k.le;obtain⟨B,C,⟨a,l,rfl,rfl,s,h⟩,g⟩:=t m q ah st Z V.le;obtain⟨L,M,⟨c,u,rfl,rfl,w,x⟩,i⟩:=t m q ah st l h.le;obtain⟨F,G,H,I,J,K,b⟩:=a.shape;obtain⟨N,O,P,Q,R,S,f⟩:=c.shape;rw[b]at g;rw[f]at i;refine DT.ob func115 W ntmps115 W<|dO [2,2,25] W<|Po (aq y W W)<|dR [2,3,2,0,2,1,2,2,2,1,2,68] W<|Po (aE dP W W)<|dR [2,1,2,72] W<|Po (aq X W W)<|dL [2,0] W ?_;have j:=lY 7 11 a c;rw[b,f]at j;refine dO [2,96] W<|Po (cL W W W (by omega)) ?_;rw[o];refine dR [98] W<|Po (aq g W W)<|dL [] W ?_;apply Ps bN
   ·intro T U;refine fR 2 W<|a_ W W W (by decide) (r:=[.int .u8 11]) W W<|fR 6 W<|fT W W W (by omega) ?_;rw[o];refine fR 1 W<|bg i W W<|aW j W W<|fR 1 W<|TF.nil ⟨by kernel_rfl,rfl⟩
   exact DC.ret ⟨_,W,.bin 11 a c,u,by rw[E.cells,b,f];rfl,rfl,.lH 11 _ (.inr (.inr W)) s w,k.trans (V.trans (h.trans x))⟩
theorem Jc:wK zs v an main 0:=by
 intro d g e st f h;obtain⟨l,m,⟨a,i,rfl,rfl,j,k⟩,b⟩:=pf ht an main d.ready g.ready e f h;obtain⟨n,o,p,q,r,s,c⟩:=a.shape;rw[c]at b;refine DT.ob func82 W ntmps82 W<|dO [2,2,1,2,30] W<|Po (aq b W W)<|dL [] W<|DC.ret ⟨_,W,a,i,by rw[c];rfl,rfl,.v j,k⟩
theorem Jd(d:Nat)(hd:d<=100)(z:wK zs v an main d):wK zs v an main (d+1):=by
 have A:=KN ht an main d hd z;intro c l j st ah hg;obtain⟨r0,K0,⟨w,p,rfl,rfl,hr⟩,n⟩:=fL ht an main 12 (by omega) (by omega) ah hg;have hj:=hr.lt;have a:=hr.mv;have D:((d+1:Nat):Int)-1=(d:Int):=by omega
 have o:decide (((d+1:Nat):Int)<=0)=false:=avc (by omega);have T9:w=0\/w=1\/w=2\/w=3\/w=4\/w=5\/w=6\/w=7\/w=8\/w=9\/w=10\/w=11:=by omega
 rcases T9 with rfl|rfl|rfl|rfl|rfl|rfl|rfl|rfl|rfl|rfl|rfl|rfl
 ·skip
  obtain⟨O,P,⟨e,u,rfl,rfl,y,m⟩,k⟩:=jk ht an main j p a.le;obtain⟨Q,R,S,T,U,V,f⟩:=e.shape;rw[f]at k;refine DT.ob func82 W ntmps82 W<|dO [2,2,25] W<|Po (aQ o W W W W)<|dR [0,2,35] W<|Po (aq n W W)<|dR [3,2,1,2,40] W<|Po (aq k W W)<|dL [] W<|DC.ret ⟨_,W,e,u,by rw[f];rfl,rfl,.c y,a.trans m⟩
 ·skip
  obtain⟨O,P,⟨e,u,rfl,rfl,X,m⟩,k⟩:=pf ht an main c.ready l.ready j p a.le;obtain⟨Q,R,S,T,U,V,f⟩:=e.shape;rw[f]at k;refine DT.ob func82 W ntmps82 W<|dO [2,2,25] W<|Po (aQ o W W W W)<|dR [0,2,35] W<|Po (aq n W W)<|dR [3,2,0,2,1,1,2,48] W<|Po (aq k W W)<|dL [] W<|DC.ret ⟨_,W,e,u,by rw[f];rfl,rfl,.v X,a.trans m⟩
 ·skip
  obtain⟨O,P,⟨e,u,rfl,rfl,X,m⟩,k⟩:=pf ht an main c.ready l.ready j p a.le;obtain⟨Q,R,S,T,U,V,f⟩:=e.shape;rw[f]at k;refine DT.ob func82 W ntmps82 W<|dO [2,2,25] W<|Po (aQ o W W W W)<|dR [0,2,35] W<|Po (aq n W W)<|dR [3,2,0,2,0,2,1,2,48] W<|Po (aq k W W)<|dL [] W<|DC.ret ⟨_,W,e,u,by rw[f];rfl,rfl,.v X,a.trans m⟩
 ·skip
  obtain⟨O,P,⟨e,u,rfl,rfl,y,m⟩,k⟩:=z c l .bool st p a.le;obtain⟨Q,R,S,T,U,V,f⟩:=e.shape;rw[f]at k;obtain⟨Y,Z,⟨s,F,rfl,rfl,G,B⟩,x⟩:=z c l j st u m.le;obtain⟨k2,Zh,n2,s2,a2,b2,t⟩:=s.shape;rw[t]at x;obtain⟨r3,K3,⟨e3,g3,rfl,rfl,d6,VD⟩,QN⟩:=z c l j st F B.le;obtain⟨k3,d7,n3,s3,a3,b3,h3⟩:=e3.shape;rw[h3]at QN;refine DT.ob func82 W ntmps82 W<|dO [2,2,25] W<|Po (aQ o W W W W)<|dR [0,2,35] W<|Po (aq n W W)<|dL [3,2,0,2,0,2,0,2,1] W ?_;apply Ps bN
  ·intro s0 Oo;refine fR 2 W<|aW kj W W<|fR 1 W<|fT W W W (by omega) ?_;rw[D];refine fR 1 W<|bg k W W<|fR 2 W<|TF.nil ⟨by kernel_rfl,rfl⟩
  refine dO [2,62] W<|Po (cL W W W (by omega)) ?_;rw[D];refine dR [64] W<|Po (aq x W W)<|dL [] W ?_;apply Ps bN
  ·intro s0 Oo;refine fR 6 W<|fT W W W (by omega) ?_;rw[D];refine fR 1 W<|bg QN W W<|fR 3 W<|TF.nil ⟨by kernel_rfl,rfl⟩
  exact DC.ret ⟨_,W,.ite e s e3,g3,by rw[E.cells,f,t,h3];rfl,rfl,.ite y G d6,a.trans (m.trans (B.trans VD))⟩
 ·skip
  cases st with
  |true=>
   obtain⟨O,P,⟨e,u,rfl,rfl,y,m⟩,k⟩:=jk ht an main j p a.le;obtain⟨Q,R,S,T,U,V,f⟩:=e.shape;rw[f]at k;obtain⟨Y,Z,⟨s,F,rfl,rfl,G,B⟩,x⟩:=z ⟨c.all,c.all,c.di⟩ l.wide j true u m.le;obtain⟨k2,Zh,n2,s2,a2,b2,t⟩:=s.shape;rw[t]at x;have C:=lY 9 0 e s;rw[f,t]at C;refine DT.ob func82 W ntmps82 W<|dO [2,2,25] W<|Po (aQ o W W W W)<|dR [0,2,35] W<|Po (aq n W W)<|dR [3,2,0,2,0,2,0,2,0,2,1,1,2,1,2,82] W<|Po (aq k W W)<|dL [2] W ?_;apply Ps bN
   ·intro s0 Oo;refine fR 5 W<|fT W W W (by omega) ?_;rw[D];refine fR 1 W<|bg x W W<|aW C W W<|fR 1 W<|TF.nil ⟨by kernel_rfl,rfl⟩
   exact DC.ret ⟨_,W,.ga e s,F,by rw[E.cells,f,t];rfl,rfl,.ga y G,a.trans (m.trans B)⟩
  |false=>
   obtain⟨H,I,⟨g,go,rfl,rfl,q,r⟩,h⟩:=A c l j false p a.le;obtain⟨J,N,no,K,L,M,i⟩:=g.shape;rw[i]at h;refine DT.ob func82 W ntmps82 W<|dO [2,2,25] W<|Po (aQ o W W W W)<|dR [0,2,35] W<|Po (aq n W W)<|dR [3,2,0,2,0,2,0,2,0,2,1,1,2,0,2,146] W<|Po (aq h W W)<|dL [] W<|DC.ret ⟨_,W,g,go,by rw[i];rfl,rfl,q,a.trans r⟩
 ·skip
  cases st with
  |true=>
   obtain⟨O,P,⟨e,u,rfl,rfl,y,m⟩,k⟩:=jk ht an main j p a.le;obtain⟨Q,R,S,T,U,V,f⟩:=e.shape;rw[f]at k;obtain⟨Y,Z,⟨s,F,rfl,rfl,G,B⟩,x⟩:=z ⟨c.all,c.all,c.di⟩ l.wide j true u m.le;obtain⟨k2,Zh,n2,s2,a2,b2,t⟩:=s.shape;rw[t]at x;have C:=lY 9 0 e s;rw[f,t]at C;refine DT.ob func82 W ntmps82 W<|dO [2,2,25] W<|Po (aQ o W W W W)<|dR [0,2,35] W<|Po (aq n W W)<|dR [3,2,0,2,0,2,0,2,0,2,0,2,1,2,1,2,82] W<|Po (aq k W W)<|dL [2] W ?_;apply Ps bN
   ·intro s0 Oo;refine fR 5 W<|fT W W W (by omega) ?_;rw[D];refine fR 1 W<|bg x W W<|aW C W W<|fR 1 W<|TF.nil ⟨by kernel_rfl,rfl⟩
   exact DC.ret ⟨_,W,.ga e s,F,by rw[E.cells,f,t];rfl,rfl,.ga y G,a.trans (m.trans B)⟩
  |false=>
   obtain⟨H,I,⟨g,go,rfl,rfl,q,r⟩,h⟩:=A c l j false p a.le;obtain⟨J,N,no,K,L,M,i⟩:=g.shape;rw[i]at h;refine DT.ob func82 W ntmps82 W<|dO [2,2,25] W<|Po (aQ o W W W W)<|dR [0,2,35] W<|Po (aq n W W)<|dR [3,2,0,2,0,2,0,2,0,2,0,2,1,2,0,2,146] W<|Po (aq h W W)<|dL [] W<|DC.ret ⟨_,W,g,go,by rw[i];rfl,rfl,q,a.trans r⟩
 ·skip
  cases st with
  |true=>
   obtain⟨O,P,⟨e,u,rfl,rfl,y,m⟩,k⟩:=z c l j true p a.le;obtain⟨Q,R,S,T,U,V,f⟩:=e.shape;rw[f]at k;obtain⟨Y,Z,⟨s,F,rfl,rfl,G,B⟩,x⟩:=z ⟨c.all,c.all,c.di⟩ l.wide j true u m.le;obtain⟨k2,Zh,n2,s2,a2,b2,t⟩:=s.shape;rw[t]at x;have C:=lY 11 0 e (.pre s);rw[E.cells,f,t]at C;refine DT.ob func82 W ntmps82 W<|dO [2,2,25] W<|Po (aQ o W W W W)<|dR [0,2,35] W<|Po (aq n W W)<|dR [3,2,0,2,0,2,0,2,0,2,0,2,0,2,1,2,1,2,106] W<|Po (cL W W W (by omega)) ?_;rw[D];refine dR [108] W<|Po (aq k W W)<|dR [2,2,120] W<|Po (cL W W W (by omega)) ?_;rw[D];refine dR [122] W<|Po (aq x W W)<|dR [2,127] W<|Po (aE C W W)<|dL [] W<|DC.ret ⟨_,W,.arrow e (.pre s),F,by rw[E.cells,E.cells,f,t];rfl,rfl,.arrow y G,a.trans (m.trans B)⟩
  |false=>
   obtain⟨H,I,⟨g,go,rfl,rfl,q,r⟩,h⟩:=A c l j false p a.le;obtain⟨J,N,no,K,L,M,i⟩:=g.shape;rw[i]at h;refine DT.ob func82 W ntmps82 W<|dO [2,2,25] W<|Po (aQ o W W W W)<|dR [0,2,35] W<|Po (aq n W W)<|dR [3,2,0,2,0,2,0,2,0,2,0,2,0,2,1,2,0,2,146] W<|Po (aq h W W)<|dL [] W<|DC.ret ⟨_,W,g,go,by rw[i];rfl,rfl,q,a.trans r⟩
 ·skip
  obtain⟨rp,Kp,⟨co,b,gp,rfl,rfl,ac,hp⟩,TW⟩:=EE ht an main c.di l.di j p a.le;cases b with
  |true=>
   refine DT.ob func82 W ntmps82 W<|dO [2,2,25] W<|Po (aQ o W W W W)<|dR [0,2,35] W<|Po (aq n W W)<|dR [3,2,0,2,0,2,0,2,0,2,0,2,0,2,0,2,1,2,135] W<|Po (aq TW W W)<|dL [2,1,2] W<|DC.ret ⟨_,W,.last co,gp,W,W,.last (hp W),a.trans ac⟩
  |false=>
   obtain⟨H,I,⟨g,go,rfl,rfl,q,r⟩,h⟩:=A c l j st gp ac.le;obtain⟨J,N,no,K,L,M,i⟩:=g.shape;rw[i]at h;refine DT.ob func82 W ntmps82 W<|dO [2,2,25] W<|Po (aQ o W W W W)<|dR [0,2,35] W<|Po (aq n W W)<|dR [3,2,0,2,0,2,0,2,0,2,0,2,0,2,0,2,1,2,135] W<|Po (aq TW W W)<|dR [2,0,2,146] W<|Po (aq h W W)<|dL [] W<|DC.ret ⟨_,W,g,go,by rw[i];rfl,rfl,q,a.trans (ac.trans r)⟩
 ·skip
  obtain⟨H,I,⟨g,go,rfl,rfl,q,r⟩,h⟩:=A c l j st p a.le;obtain⟨J,N,no,K,L,M,i⟩:=g.shape;rw[i]at h;refine DT.ob func82 W ntmps82 W<|dO [2,2,25] W<|Po (aQ o W W W W)<|dR [0,2,35] W<|Po (aq n W W)<|dR [3,2,0,2,0,2,0,2,0,2,0,2,0,2,0,2,0,2,146] W<|Po (aq h W W)<|dL [] W<|DC.ret ⟨_,W,g,go,by rw[i];rfl,rfl,q,a.trans r⟩
 ·skip
  obtain⟨H,I,⟨g,go,rfl,rfl,q,r⟩,h⟩:=A c l j st p a.le;obtain⟨J,N,no,K,L,M,i⟩:=g.shape;rw[i]at h;refine DT.ob func82 W ntmps82 W<|dO [2,2,25] W<|Po (aQ o W W W W)<|dR [0,2,35] W<|Po (aq n W W)<|dR [3,2,0,2,0,2,0,2,0,2,0,2,0,2,0,2,0,2,146] W<|Po (aq h W W)<|dL [] W<|DC.ret ⟨_,W,g,go,by rw[i];rfl,rfl,q,a.trans r⟩
 ·skip
  obtain⟨H,I,⟨g,go,rfl,rfl,q,r⟩,h⟩:=A c l j st p a.le;obtain⟨J,N,no,K,L,M,i⟩:=g.shape;rw[i]at h;refine DT.ob func82 W ntmps82 W<|dO [2,2,25] W<|Po (aQ o W W W W)<|dR [0,2,35] W<|Po (aq n W W)<|dR [3,2,0,2,0,2,0,2,0,2,0,2,0,2,0,2,0,2,146] W<|Po (aq h W W)<|dL [] W<|DC.ret ⟨_,W,g,go,by rw[i];rfl,rfl,q,a.trans r⟩
 ·skip
  obtain⟨H,I,⟨g,go,rfl,rfl,q,r⟩,h⟩:=A c l j st p a.le;obtain⟨J,N,no,K,L,M,i⟩:=g.shape;rw[i]at h;refine DT.ob func82 W ntmps82 W<|dO [2,2,25] W<|Po (aQ o W W W W)<|dR [0,2,35] W<|Po (aq n W W)<|dR [3,2,0,2,0,2,0,2,0,2,0,2,0,2,0,2,0,2,146] W<|Po (aq h W W)<|dL [] W<|DC.ret ⟨_,W,g,go,by rw[i];rfl,rfl,q,a.trans r⟩
theorem dM: ∀(d:Nat),d<=100->wK zs v an main d
 |0,_=>Jc ht an main
 |d+1,a=>Jd ht an main d (by omega) (dM d (by omega))
end
end Go.Proofs
namespace Go.Mt
theorem DT.drop{P:Program}{f:Nat}{ms:List M}{H:Hp}{post:M->Hp->Prop}(n:Nat)(g:H.length<=n)
  (h:DT P f ms H λc a=>n<=a.length/\MB n c/\HB n (a.take n)/\post c (a.take n)):DT P f ms H post:=by
 obtain⟨c,a,⟨l,m,o,i⟩,j⟩:=h;exact⟨c,a.take n,i,CT.drop n g (post:= λe d=>e=c/\d=a.take n) (j.mono λe d ⟨k,b⟩=>by grind)⟩
def KO(n:Nat)(rs:List (List D)):Hp:=match rs with
 | []=>[]
 |q::r=>[.row true n r.length (bf (q::r))]
theorem EF(H0:Hp)(n:Nat)(rs:List (List D)):dZ H0 n rs=H0++KO n rs:=by cases rs<;>simp[dZ,KO]
theorem yD{P:Program}{n c:Nat}{a:Nat->St->Prop}{k k':Nat}{sl P9:List (Nat×V)}{bx Qr:List (Nat×List M)}{H H':Hp}(d:k'<k)(e:a k' ⟨P9,Qr,H'⟩)(i: ∀b,get Qr b=get bx b)(f:H=H')(g:keeps sl P9):zG P n c a k ⟨sl,bx,H⟩:=
 ⟨k',_,d,e,λ_ _ _ _ _ h=>by subst f;exact h.o5 (iI g) i⟩
section
variable{X:bJ}{ops:Array Oper}{rest:List Oper}{sl:List (Nat×V)}{bx:List (Nat×List M)}{P3:List Ef->St->Prop}{d ty:Nat}{pos:String}{af:Array Edge}
theorem oh{T e n nb:Nat}{x y:Operand}{H0:Hp}{rs:List (List D)}{r:List D}{z:D}[ht:aZ X.P T e][m:bY X.P e n][o:ku X.P e nb][p:g_ X.P e z](b:Nat.blt d X.n=true)
  (c:bw sl x=some (.m (gN H0.length rs))) (f:bw sl y=some (.m (.d (.sl [r])))) (h:Nat.blt 0 n=true) (g:(bu z).length=n) (q:r.length=n) (s:(rs.length+1)*nb<=140737488355328) (t:rs.length+1<=140737488355328)
  (k:TF X ops rest ⟨(d,.m (gN H0.length (rs++ [r])))::sl,bx,dZ H0 n (rs++ [r])⟩ λi j=>P3 (⟨some d,.m (gN H0.length (rs++ [r])),[],[],none,true,some (dZ H0 n (rs++ [r]))⟩::i) j):
  TF X ops (⟨some d,.call ⟨.builtin .append,#[x,y],#[T,T]⟩,ty,pos,af,none⟩::rest) ⟨sl,bx,dZ H0 n rs⟩ P3:=by
 cases rs with
 |nil=>exact zq true b c f h g (by simp) (by grind) (by grind) k
 |cons a rs=>
  refine zt (acc:=true) (cs:=bf (a::rs)) b c f (by simp[dZ]) g (by grind) (by grind) (by grind) ?_;have e:(dZ H0 n (a::rs)).set H0.length (.row true n (rs.length+1) (bf (a::rs)++bf [r]))=dZ H0 n (a::rs++ [r]):=by simp[dZ,bf]
  have l:M.bH H0.length (rs.length+1) (rs.length+1+1)=gN H0.length (a::rs++ [r]):=by simp[gN]
  rw[<-e,<-l]at k;exact k
end
end Go.Mt
namespace Go.Proofs
open Go.Mt Go.Mk
open Tryz
theorem eW{P:Program}{f:Nat}{ms:List M}{v:D}{a:Nat}{c:Bool}{g g':GS}{r:M}(h:(ms.all (CM 2))=true)(i:CT P f ms (GH v a c g) λr' d=>r'=r/\d=GH v a c g')(n:Nat)(rs:List (List D)):
  CT P f ms (dZ (GH v a c g) n rs) λr' d=>r'=r/\d=dZ (GH v a c g') n rs:=by
 rw[EF,EF];refine(CT.suffix (KO n rs) (H:=GH v a c g) (p8 v a c g) (λm j=>jO (av5.1 h m j)) (i.mono λr' d ⟨e,b⟩=>(⟨by rw[b];rfl,e,b⟩:d.length=(GH v a c g).length/\(r'=r/\d=GH v a c g')))).mono ?_;rintro r' k ⟨l,rfl,_,rfl,rfl⟩;exact⟨W,W⟩
theorem ol(v:D)(a:Nat)(b:Bool)(g:GS)(n:Nat)(rs:List (List D)):2<=(dZ (GH v a b g) n rs).length/\HB 2 ((dZ (GH v a b g) n rs).take 2)/\(dZ (GH v a b g) n rs).take 2=GH v a b g:=by
 have c:=FY (GH v a b g) n rs;exact⟨(Ix (GH v a b g) n rs),by rw[show(2:Nat)=(GH v a b g).length from rfl,c];exact p8 _ _ _ _,c⟩
section
variable{zs:List Int}{v:D}(ht:Tape zs v)(an:Nat)(main:Bool)
include ht
theorem Ah(outs:List Va)(D:outs.length<=1000)(g:GS)(u:g.i<=zs.length):DT prog 110 [.ref 1 0,.d (.sl (aI outs))] (GH v an main g) λr K=> ∃(l:List Va) (g':GS),r= .d (.sl (aI l))/\K=GH v an main g'/\Mv zs g g'/\LS outs l:=by
 refine DT.drop 2 (auK _)<|DT.ob func110 W ntmps110 W<|dC [2,2,2] W<|Pz [nN 6 0,nM 5 (gN 2 (aI [])),nD 1 (.sl (aI outs)),nR 0 1] (dZ (GH v an main g) 15 (aI [])) W W<|dC [3] W<|DC.lp (λo p=> ∃(a:Nat) (l:List Va) (g':GS),p=⟨[nI 6 (a:Int),nM 5 (gN 2 (aI l)),nD 1 (.sl (aI outs)),nR 0 1],[],dZ (GH v an main g') 15 (aI l)⟩/\a<=outs.length/\LS (outs.take a) l/\Mv zs g g'/\o=outs.length-a) outs.length _
  ⟨0,[],g,rfl,by omega,.nil,⟨rfl,rfl,auK _,u⟩,rfl⟩ W ?_
 rintro o p ⟨a,l,e,rfl,E,f,h,rfl⟩;refine dO [2,13] W<|Po (bp W W W) ?_;rw[bD];refine dL [] W<|DC.cond W (λk=> ?_) (λk=> ?_)
 ·have i:a<outs.length:=by grind
  have c:=ez i;have j:=au1 i;generalize outs[a]=b at c j;have w:=f.len;rw[awm]at w;obtain⟨F,G,H,I,J,L,M,N,x,_⟩:=ll b;have d:aI (l++ [b])=aI l++ [b.cells]:=by rw[iw];rfl
  rw[x]at c d;obtain⟨r,K,⟨q,m,rfl,rfl,y⟩,k⟩:=fL ht an main 2 (by omega) (by omega) e h.le;have s:=eW W k 15 (aI l);have t:=y.mv;refine dC [3] W ?_;cases n:b.last with
  |false=>
   rw[n]at c d;refine dO [2,19] W<|Po (aG W W W (auJ a) c W)<|dR [1,2,34] W<|Po (aG W W W (auJ a) c W)<|dR [37] W<|Po (rZ (H0:=GH v an main e) W W W W (by rfl) W (by rw[bD];omega) (by rw[bD];omega))<|dR [2,16] W<|Po (az W W W (by omega))<|dL [] W<|bK (k':=outs.length-(a+1)) (by omega) ⟨a+1,l++ [b],e,rfl,by omega,by rw[j];exact .cK f b,h,W⟩ (by rw[d];rfl) (kc W (kc (by rw[d];rfl) W))
  |true=>
   rw[n]at c d;rcases avl q with rfl|O
   ·refine dO [2,19] W<|Po (aG W W W (auJ a) c W)<|dR [27] W ?_
    first|refine Po (ax W W) ?_|(refine Po (av W) ?_;refine Po (aA W W ((xg _ _ _ 1 (auK _)).trans W) W) ?_)
    refine dR [28] W ?_
    first|refine Po (ax W W) ?_|(refine Po (av W) ?_;refine Po (aq s W W) ?_)
    refine dR [1,2,34] W<|Po (aG W W W (auJ a) c W)<|dR [37] W<|Po (rZ (H0:=GH v an main m) W W W W (by rfl) W (by rw[bD];omega) (by rw[bD];omega))<|dR [2,16] W<|Po (az W W W (by omega))<|dL [] W<|bK (k':=outs.length-(a+1)) (by omega) ⟨a+1,l++ [b],m,rfl,by omega,by rw[j];exact .cK f b,h.trans t,W⟩ (by rw[d];rfl) (kc W (kc (by rw[d];rfl) W))
   ·have z:(((q:Nat):Int)==0)=false:=avs.2 (by omega);refine dO [2,19] W<|Po (aG W W W (auJ a) c W)<|dR [27] W ?_
    first|refine Po (ax W W) ?_|(refine Po (av W) ?_;refine Po (aA W W ((xg _ _ _ 1 (auK _)).trans W) W) ?_)
    refine dR [28] W ?_
    first|refine Po (ax W W) ?_|(refine Po (av W) ?_;refine Po (aq s W W) ?_)
    refine dR [29] W ?_
    first|refine Po (ax W W) ?_|(refine Po (av W) ?_;refine Po (aQ z W W W W) ?_)
    refine dR [0,2,16] W<|Po (az W W W (by omega))<|dL [] W<|bK (k':=outs.length-(a+1)) (by omega) ⟨a+1,l,m,rfl,by omega,by rw[j];exact .drop f b n,h.trans t,W⟩ W W
 ·refine DC.exit ?_;have i:a=outs.length:=by grind
  subst i;rw[avo]at f;obtain⟨A,B,C⟩:=ol v an main e 15 (aI l);refine dC [2] W<|DC.cw 4 W (jB (GH v an main e) 15 (aI l) (cx l))<|DC.ret ⟨_,W,A,.d _,B,l,e,W,C,h,f⟩
end
instance:bz prog 110:=cN (by kernel_rfl)
instance:bz prog 111:=cN (by kernel_rfl)
instance:bz prog 37:=cN (by kernel_rfl)
instance:bz prog 54:=cN (by kernel_rfl)
theorem xA.bA{s:Sc}(h:xA s):xA s.bA:=⟨h.ready,avp _,h.di⟩
theorem Tr.len(t:Tr):t.cells.length=12:=by simp[Tr.cells,E.len]
theorem Gw(l:List Tr): ∀r∈fo l,r.length=12:=by intro r a;obtain⟨_,_,rfl⟩:=ava.1 a;exact Tr.len _
theorem B0(l:List Tr):(fo l).length=l.length:=by simp[fo]
structure Bm(zs:List Int)(w:Int)(g g':GS):Prop where
 i:g.i<=g'.i
 le:g'.i<=zs.length
 n:g.n<=g'.n
 qQ:g'.n<=3*g'.i
 q0:min g.q 0-w<=g'.q
 q1:g'.q<=g.q
def qB:Nat->Int
 |0=>6
 |d+1=>6*(1+3*qB d)
theorem NT: ∀d,d<=3->0<=qB d/\qB d<=40000
 |0,_=>by decide
 |1,_=>by decide
 |2,_=>by decide
 |3,_=>by decide
 |d+4,a=>by omega
theorem yE: ∀d,d<=2->0<=qB d/\qB d<=4000
 |0,_=>by decide
 |1,_=>by decide
 |2,_=>by decide
 |d+3,a=>by omega
def ws(W:Int):Nat->Int
 |0=>0
 |i+1=>ws W i+W
theorem xB{W:Int}(h:0<=W): ∀i,i<=3->0<=ws W i/\ws W i<=3*W
 |0,_=>by simp only[ws];omega
 |1,_=>by simp only[ws];omega
 |2,_=>by simp only[ws];omega
 |3,_=>by simp only[ws];omega
 |i+4,h=>by omega
def Iv(H:Hp):Prop:= ∃cs,H[1]?=some (.box cs)/\cs[0]?=some (.ref 0 0)
theorem HJ(v:D)(a:Nat)(b:Bool)(g:GS)(n:Nat)(rs:List (List D)):Iv (dZ (GH v a b g) n rs):=⟨_,(xg _ _ _ 1 (auK _)).trans W,rfl⟩
structure Dh(c:Nat)(s:Sc):Prop where
 ready:s.ready.length<=c
 all:s.all.length<=1000
 di:s.di.length<=c
theorem Dh.b{c:Nat}{s:Sc}(h:Dh c s)(a:c<=1000):xA s:=⟨by have:=h.ready;omega,by have:=h.all;omega,by have:=h.di;omega⟩
theorem Dh.bA{c:Nat}{s:Sc}(h:Dh c s):Dh c s.bA:=⟨h.ready,avp _,h.di⟩
section
variable(zs:List Int)(v:D)(an:Nat)(main:Bool)
def rE(d:Nat):Prop:= ∀(s:Sc),Dh (800-200*d) s-> ∀(outs:List Va),outs.length<=3-> ∀(g:GS),g.i<=zs.length->g.n<=3*g.i->g.q<=14-> -200000<=g.q->
 DT prog 37 [.ref 1 0,.d (.agg s.cells),.d (.sl (aI outs)),dN d] (GH v an main g) λr K=> ∃(b:bj) (g':GS),r= .d (.agg b.cells)/\K=GH v an main g'/\GB an d s outs g.n g'.n b/\Bm zs (qB d) g g'
end
section
variable{zs:List Int}{v:D}(ht:Tape zs v)(an:Nat)(main:Bool)
include ht
theorem wL(s:Sc)(B:xA s)(N:Nat)(X:1<=N/\N<=3)(g:GS)(C:g.i<=zs.length):DT prog 111 [.ref 1 0,.d (.agg s.cells),dN N] (GH v an main g) λr K=> ∃(l:List Tr) (g':GS),r= .d (.sl (fo l))/\K=GH v an main g'/\Mv zs g g'/\Af s N l:=by
 obtain⟨Y,Z,⟨m,o,rfl,rfl,p⟩,D⟩:=fL ht an main 3 (by omega) (by omega) g C;have VD:=p.lt;refine DT.drop 2 (auK _)<|DT.ob func111 W ntmps111 W<|dO [2,2,2,18] W<|Po (aq D W W)<|dL [2] W<|Pz [nN 9 0,nN 8 m,nM 7 (gN 2 (fo [])),nD 4 (.bm s.cells 0),nN 2 N,nR 0 1] (dZ (GH v an main o) 12 (fo [])) W W<|dC [3] W<|DC.lp (λd h=> ∃(a:Nat) (l:List Tr) (g':GS),h=⟨[nI 9 (a:Int),nN 8 m,nM 7 (gN 2 (fo l)),nD 4 (.bm s.cells 0),nN 2 N,nR 0 1],[],dZ (GH v an main g') 12 (fo l)⟩/\a<=m/\l.length=a/\(∀f∈l,GE s.bA .bool false 2 f.e/\ ∃d,d<N/\f.to=nm 83 d)/\Mv zs g g'/\d=m-a) m _
  ⟨0,[],o,rfl,by omega,rfl,by simp,p.mv,rfl⟩ W ?_
 rintro d h ⟨a,l,i,rfl,hi,E,z,j,rfl⟩;refine dC [2] W<|DC.cond W (λq=> ?_) (λq=> ?_)
 ·have PH:a<m:=by have:=auV q;omega
  obtain⟨r1,K1,⟨e,F,rfl,rfl,G,t⟩,u⟩:=dM ht an main 2 (by omega) s.bA B.bA .bool false i j.le;obtain⟨H,I,J,h,L,M,w⟩:=e.shape;rw[w]at u;obtain⟨r2,K2,⟨c,O,rfl,rfl,k⟩,P⟩:=fL ht an main N (by omega) (by omega) F t.le;obtain⟨r3,K3,⟨n,x,rfl,rfl,U⟩,Q⟩:=fL ht an main 2 (by omega) (by omega) O k.le;have R:=k.lt;have ac:=rC c;have y:fo (l++ [⟨e,nm 83 c,((n:Nat):Int)==0⟩])=fo l++ [bU H I J h L M++ [.str (⟨#[83]⟩++dg c),.bool (((n:Nat):Int)==0),.int .i64 0,.int .i64 0]]:=by
   simp only[fo,avi,avm,avT,Tr.cells,w];rfl
  refine dC [3] W ?_;apply DC.FZ Iv (HJ _ _ _ _ _ _) bN
  ·intro s0 Oo;refine iR 7 W ?_;apply Py
   ·skip
    refine aW kj W W<|TF.nil ⟨W,W⟩
   apply Py
   ·skip
    refine bg (eW W u 12 (fo l)) W W<|TF.nil ⟨W,W⟩
   refine iR 3 W<|PF W W (λA b=>b)<|iR 1 W ?_;apply Py
   ·skip
    refine bg (eW W P 12 (fo l)) W W<|TF.nil ⟨W,W⟩
   apply Py
   ·skip
    refine aW (nP (c+1) c (by omega) (by omega)) W W<|TF.nil ⟨rfl,rfl⟩
   apply Py
   ·skip
    refine uG W W W (by have:(⟨#[83]⟩:ByteArray).size=1:=rfl;omega)<|TF.nil ⟨rfl,rfl⟩
   refine iR 3 W<|PF W W (λA b=>b) ?_;apply Py
   ·skip
    refine bg (eW W Q 12 (fo l)) W W<|TF.nil ⟨W,W⟩
   refine iR 3 W ?_;apply Py
   ·skip
    refine oh (H0:=GH v an main x) W W W W (by rfl) W (by rw[B0];omega) (by rw[B0];omega)<|TF.nil ⟨rfl,rfl⟩
   refine iR 1 W<|jJ.nil ⟨by kernel_rfl,by repeat' first|exact trivial|exact HJ _ _ _ _ _ _|refine⟨?_,?_⟩,rfl⟩
  refine dO [2,23] W<|Po (az W W W (by omega))<|dL [] W<|bK (k':=m-(a+1)) (by omega) ⟨a+1,l++ [⟨e,nm 83 c,((n:Nat):Int)==0⟩],x,rfl,by omega,by simp[E],by
   intro f V;rcases auS.1 V with b|b
   ·exact z f b
   ·simp at b;subst b;exact⟨G,c,R,W⟩,j.trans (t.trans (k.mv.trans U.mv)),W⟩ (by rw[y];rfl) (kc W (kc W (kc (by rw[y];rfl) W)))
 ·refine DC.exit ?_;obtain⟨e,S,T⟩:=ol v an main i 12 (fo l);refine dC [2] W<|DC.cw 6 W (jB (GH v an main i) 12 (fo l) (Gw l))<|DC.ret ⟨_,W,e,.d _,S,l,i,W,T,j,by omega,z⟩
end
instance:bz prog 80:=cN (by kernel_rfl)
instance:bz prog 81:=cN (by kernel_rfl)
theorem dV{H:Hp}{d:D}{r ms:List M}(a:iJ H r=some ms):iJ H (.d d::r)=some (.d d::ms):=by simp only[iJ,jy,a]
theorem fX{H:Hp}{m:M}{d:D}{r ms:List M}(h:jy H m=some d)(a:iJ H r=some ms):iJ H (m::r)=some (.d d::ms):=by simp only[iJ,h,a]
theorem gY(l:List bh):(cm l).length=l.length:=by rw[nF];simp
theorem ud(l:List bh): ∀r∈cm l,r.length=7:=by rw[nF];intro r a;obtain⟨_,_,rfl⟩:=ava.1 a;exact bh.len _
theorem mK(l:List bh)(a:bh):cm (l++ [a])=cm l++ [a.cells]:=by rw[nF,nF];simp
theorem pg(H:Hp):iJ H []=some []:=rfl
abbrev Je(k op n:Int)(s:Nm)(a b:List (List D))(m:M):List M:=[.d (.int .u8 3),.d (.sl []),.d (.str ⟨#[]⟩),.d (.sl []),.d (.bool false),.d (.int .u8 k),.d (.int .u8 op),.d (.int .i32 n),.d (.str s),.d (.sl a),.d (.sl b),.d (.int .i64 0),.d (.int .i64 0),m,.d (.int .i64 0),.d (.int .i64 0)]
abbrev Jf:List M:=[.d (.int .u8 0),.d (.sl []),.d (.str ⟨#[]⟩),.d (.sl []),.d (.bool false),.d (.int .u8 0),.d (.int .u8 0),.d (.int .i32 0),.d (.str ⟨#[]⟩),.d (.sl []),.d (.sl []),.d (.int .i64 0),.d (.int .i64 0),.d (.sl []),.d (.int .i64 0),.d (.int .i64 0)]
section
variable{zs:List Int}{v:D}(ht:Tape zs v)(an:Nat)(main:Bool)
include ht
theorem Ai(d:Nat)(hd:d<=2)(Z:rE zs v an main d)(s:Sc)(L:Dh (800-200*d) s)(outs:List Va)(ho:outs.length<=3)(g:GS)(hg:g.i<=zs.length)(hn:g.n<=3*g.i)(RZ:0<g.q)(Zy:g.q<=14):
  DT prog 80 [.ref 1 0,.d (.agg s.cells),.d (.sl (aI outs)),dN (d+1)] (GH v an main g) λr K=> ∃(q:aB) (g':GS),r= .d (.agg q.cells)/\K=GH v an main g'/\GQ (GB an d) an s outs g.n g'.n [q] []/\Bm zs (3*qB d) g g':=by
 obtain⟨r0,K0,⟨d7,g0,rfl,rfl,hr⟩,Rf⟩:=fL ht an main 2 (by omega) (by omega) g hg;have hj:=hr.lt;have Qg:=hr.mv;have TK:=L.b (by omega);have hW:=yE d hd;have SC:((d+1:Nat):Int)-1=(d:Int):=by omega
 have T9:d7=0\/d7=1:=by omega
 rcases T9 with rfl|rfl
 ·obtain⟨r1,K1,⟨M,N,rfl,rfl,Rl,P'⟩,O⟩:=dM ht an main 2 (by omega) s TK .fJ true g0 Qg.le;obtain⟨p,t,u,w,x,y,P⟩:=M.shape;rw[P]at O;have j:=Qg.trans P';refine DT.drop 2 (auK _)<|DT.ob func80 W ntmps80 W<|dO [2,2,2,2,23] W<|Po (aq Rf W W)<|dL [1,2] W ?_;apply Ps bN
  ·intro Q R;refine fR 2 W<|aW kV W W<|bg O W W<|fR 2 W<|TF.nil ⟨by kernel_rfl,rfl⟩
  refine dC [2] W<|DC.wm [nN 11 0,nD 10 (.sl [[D.str c8],[.str cj],[.str bC]]),(9,.loc 9 0),(8,.loc 8 0),nD 5 (.bm s.cells 0),nN 3 (d+1),nD 2 (.sl (aI outs)),nR 0 1]
   [(9,Je p t u w x y (gN 2 (cm []))),(8,Jf)] (dZ (GH v an main N) 7 (cm [])) W (by intro i;simp only[Go.Mt.get];cases Nat.beq 9 i<;>cases Nat.beq 8 i<;>rfl) W ?_
  refine dC [3] W<|DC.lp (λH S=> ∃(a:Nat) (e:List bh) (g':GS),S=⟨[nI 11 (a:Int),nD 10 (.sl [[D.str c8],[.str cj],[.str bC]]),(9,.loc 9 0),(8,.loc 8 0),nD 5 (.bm s.cells 0),nN 3 (d+1),nD 2 (.sl (aI outs)),nR 0 1],[(9,Je p t u w x y (gN 2 (cm e))),(8,Jf)],dZ (GH v an main g') 7 (cm e)⟩/\a<=3/\e.length=a/\nO (GB an d) s outs [c8,cj,bC] g.n e g'.n/\(g.i<=g'.i/\g'.i<=zs.length/\g.n<=g'.n/\g'.n<=3*g'.i/\ -(ws (qB d) a)<=g'.q/\g'.q<=g.q)/\H=3-a) 3 _
   ⟨0,[],N,rfl,by omega,rfl,by have I:=j.n;rw[I];exact .nil,⟨j.i,j.le,by rw[j.n];exact auK _,by have:=j.n;have:=j.i;omega,by have:=j.q;simp only[ws];omega,by rw[j.q];exact awT _⟩,W⟩ W ?_
  rintro H S ⟨a,e,k,rfl,hi,z,A,⟨ac,B,b3,T,b5,b6⟩,rfl⟩;refine dC [2] W<|DC.cond W (λhc=> ?_) (λhc=> ?_)
  ·have U:a<3:=by grind
   have ah: ∃c:Nm,([c8,cj,bC]:List Nm)[a]?=some c/\([[D.str c8],[.str cj],[.str bC]]:List (List D))[((a:Nat):Int).toNat]?=some [.str c]:=by
    grind
   obtain⟨c,ZN,V⟩:=ah;have co:=xB hW.1 a (by omega);have X:decide ((a:Int)>0)=decide (0<a):=by grind
   refine dC [3] W ?_;rcases avl a with h0|h0
   ·obtain⟨r3,K3,⟨b,l,rfl,rfl,C,f⟩,E⟩:=Z s.bA L.bA outs ho k B T (by omega) (by omega);obtain⟨F,G,m⟩:=b.shape;have n:=eW (by rfl) E 7 (cm e);rw[m]at n;have o:cm (e++ [.mk c b [] []])=cm e++ [[.str c,.sl F,.sl G,.sl [],.sl [],.int .i64 0,.int .i64 0]]:=by rw[mK,bh.cells,m];rfl
    refine dO [2,2,44] W<|Po (dY W W W (r:= .bool false) (by show some (D.bool (decide _))=_;rw[X,avc (by omega)]))<|dL [0] W ?_;apply Ps bN
    ·intro Q R;refine fR 4 W<|a_ W W W (auJ a) V W<|fR 9 W<|fT W W W (by omega) ?_;rw[SC];refine bg n W W<|fR 2 W<|oh (H0:=GH v an main l) W W W W (by rfl) W (by rw[gY];omega) (by rw[gY];omega)<|fR 1 W<|jc W W W (nB _ _) W W<|TF.nil ⟨by kernel_rfl,rfl⟩
    refine dO [2,41] W<|Po (az W W W (by omega))<|dL [] W<|yD (k':=3-(a+1)) (by omega) ⟨a+1,e++ [.mk c b [] []],l,rfl,by omega,by simp[z],.snoc A c (by grind) outs (LS.refl _) (λ_=>rfl) b C,⟨by have:=f.i;omega,f.le,by have:=f.n;omega,f.qQ,by have:=f.q0;simp only[ws];omega,by have:=f.q1;omega⟩,rfl⟩ (by intro i;simp only[Go.Mt.get];rw[o];cases Nat.beq 9 i<;>cases Nat.beq 8 i<;>rfl) (by rw[o];rfl) W
   ·obtain⟨r4,K4,⟨J,g4,rfl,rfl,h,Y⟩,TY⟩:=Ah ht an main outs (by omega) k B;have Rm:=Y.len;have QT:=eW (by rfl) TY 7 (cm e);obtain⟨r3,K3,⟨b,l,rfl,rfl,C,f⟩,E⟩:=Z s.bA L.bA J (by omega) g4 h.le (by have:=h.n;have:=h.i;omega) (by have:=h.q;omega) (by have:=h.q;omega);obtain⟨F,G,m⟩:=b.shape;have n:=eW (by rfl) E 7 (cm e);rw[m]at n;have o:cm (e++ [.mk c b [] []])=cm e++ [[.str c,.sl F,.sl G,.sl [],.sl [],.int .i64 0,.int .i64 0]]:=by rw[mK,bh.cells,m];rfl
    refine dO [2,2,44] W<|Po (dY W W W (r:= .bool true) (by show some (D.bool (decide _))=_;rw[X,au5 (by omega)]))<|dR [1,2,47] W<|Po (aq QT W W)<|dL [] W ?_;apply Ps bN
    ·intro Q R;refine fR 4 W<|a_ W W W (auJ a) V W<|fR 9 W<|fT W W W (by omega) ?_;rw[SC];refine bg n W W<|fR 2 W<|oh (H0:=GH v an main l) W W W W (by rfl) W (by rw[gY];omega) (by rw[gY];omega)<|fR 1 W<|jc W W W (nB _ _) W W<|TF.nil ⟨by kernel_rfl,rfl⟩
    refine dO [2,41] W<|Po (az W W W (by omega))<|dL [] W<|yD (k':=3-(a+1)) (by omega) ⟨a+1,e++ [.mk c b [] []],l,rfl,by omega,by simp[z],.snoc A c (by grind) J Y (λI=>by grind) b (by rw[<-h.n];exact C),⟨by have:=f.i;have:=h.i;omega,f.le,by have:=f.n;have:=h.n;omega,f.qQ,by have:=f.q0;have:=h.q;simp only[ws];omega,by have:=f.q1;have:=h.q;omega⟩,rfl⟩ (by intro i;simp only[Go.Mt.get];rw[o];cases Nat.beq 9 i<;>cases Nat.beq 8 i<;>rfl) (by rw[o];rfl) W
  ·refine DC.exit ?_;have U:a=3:=by grind
   subst U;obtain⟨d6,e2,e3⟩:=ol v an main k 7 (cm e);refine DC.gM (PV:=Je p t u w x y (.d (.sl (cm e)))) 9 W (by repeat' first|exact pg _|refine dV ?_|refine fX (jB (GH v an main k) 7 (cm e) (ud e)) ?_) ?_;refine dC [2] W ?_;have co:=xB hW.1 3 (by omega);exact DC.ret ⟨_,W,d6,.d _,e2,.sw M e,k,by rw[aB.cells,P];rfl,e3,.ua Rl A z,⟨ac,B,b3,T,by omega,b6⟩⟩
 ·obtain⟨r1,K1,⟨M,N,rfl,rfl,Rl,P'⟩,O⟩:=dM ht an main 2 (by omega) s TK .bool true g0 Qg.le;obtain⟨p,t,u,w,x,y,P⟩:=M.shape;rw[P]at O;have j:=Qg.trans P';refine DT.drop 2 (auK _)<|DT.ob func80 W ntmps80 W<|dO [2,2,2,2,23] W<|Po (aq Rf W W)<|dL [0] W ?_;apply Ps bN
  ·intro Q R;refine fR 2 W<|aW kj W W<|bg O W W<|fR 2 W<|TF.nil ⟨by kernel_rfl,rfl⟩
  refine dC [2] W<|DC.wm [nN 11 0,nD 10 (.sl [[D.str pS],[.str mU]]),(9,.loc 9 0),(8,.loc 8 0),nD 5 (.bm s.cells 0),nN 3 (d+1),nD 2 (.sl (aI outs)),nR 0 1]
   [(9,Je p t u w x y (gN 2 (cm []))),(8,Jf)] (dZ (GH v an main N) 7 (cm [])) W (by intro i;simp only[Go.Mt.get];cases Nat.beq 9 i<;>cases Nat.beq 8 i<;>rfl) W ?_
  refine dC [3] W<|DC.lp (λH S=> ∃(a:Nat) (e:List bh) (g':GS),S=⟨[nI 11 (a:Int),nD 10 (.sl [[D.str pS],[.str mU]]),(9,.loc 9 0),(8,.loc 8 0),nD 5 (.bm s.cells 0),nN 3 (d+1),nD 2 (.sl (aI outs)),nR 0 1],[(9,Je p t u w x y (gN 2 (cm e))),(8,Jf)],dZ (GH v an main g') 7 (cm e)⟩/\a<=2/\e.length=a/\nO (GB an d) s outs [pS,mU] g.n e g'.n/\(g.i<=g'.i/\g'.i<=zs.length/\g.n<=g'.n/\g'.n<=3*g'.i/\ -(ws (qB d) a)<=g'.q/\g'.q<=g.q)/\H=2-a) 2 _
   ⟨0,[],N,rfl,by omega,rfl,by have I:=j.n;rw[I];exact .nil,⟨j.i,j.le,by rw[j.n];exact auK _,by have:=j.n;have:=j.i;omega,by have:=j.q;simp only[ws];omega,by rw[j.q];exact awT _⟩,W⟩ W ?_
  rintro H S ⟨a,e,k,rfl,hi,z,A,⟨ac,B,b3,T,b5,b6⟩,rfl⟩;refine dC [2] W<|DC.cond W (λhc=> ?_) (λhc=> ?_)
  ·have U:a<2:=by grind
   have ah: ∃c:Nm,([pS,mU]:List Nm)[a]?=some c/\([[D.str pS],[.str mU]]:List (List D))[((a:Nat):Int).toNat]?=some [.str c]:=by
    grind
   obtain⟨c,ZN,V⟩:=ah;have co:=xB hW.1 a (by omega);have X:decide ((a:Int)>0)=decide (0<a):=by grind
   refine dC [3] W ?_;rcases avl a with h0|h0
   ·obtain⟨r3,K3,⟨b,l,rfl,rfl,C,f⟩,E⟩:=Z s.bA L.bA outs ho k B T (by omega) (by omega);obtain⟨F,G,m⟩:=b.shape;have n:=eW (by rfl) E 7 (cm e);rw[m]at n;have o:cm (e++ [.mk c b [] []])=cm e++ [[.str c,.sl F,.sl G,.sl [],.sl [],.int .i64 0,.int .i64 0]]:=by rw[mK,bh.cells,m];rfl
    refine dO [2,2,44] W<|Po (dY W W W (r:= .bool false) (by show some (D.bool (decide _))=_;rw[X,avc (by omega)]))<|dL [0] W ?_;apply Ps bN
    ·intro Q R;refine fR 4 W<|a_ W W W (auJ a) V W<|fR 9 W<|fT W W W (by omega) ?_;rw[SC];refine bg n W W<|fR 2 W<|oh (H0:=GH v an main l) W W W W (by rfl) W (by rw[gY];omega) (by rw[gY];omega)<|fR 1 W<|jc W W W (nB _ _) W W<|TF.nil ⟨by kernel_rfl,rfl⟩
    refine dO [2,41] W<|Po (az W W W (by omega))<|dL [] W<|yD (k':=2-(a+1)) (by omega) ⟨a+1,e++ [.mk c b [] []],l,rfl,by omega,by simp[z],.snoc A c (by grind) outs (LS.refl _) (λ_=>rfl) b C,⟨by have:=f.i;omega,f.le,by have:=f.n;omega,f.qQ,by have:=f.q0;simp only[ws];omega,by have:=f.q1;omega⟩,rfl⟩ (by intro i;simp only[Go.Mt.get];rw[o];cases Nat.beq 9 i<;>cases Nat.beq 8 i<;>rfl) (by rw[o];rfl) W
   ·obtain⟨r4,K4,⟨J,g4,rfl,rfl,h,Y⟩,TY⟩:=Ah ht an main outs (by omega) k B;have Rm:=Y.len;have QT:=eW (by rfl) TY 7 (cm e);obtain⟨r3,K3,⟨b,l,rfl,rfl,C,f⟩,E⟩:=Z s.bA L.bA J (by omega) g4 h.le (by have:=h.n;have:=h.i;omega) (by have:=h.q;omega) (by have:=h.q;omega);obtain⟨F,G,m⟩:=b.shape;have n:=eW (by rfl) E 7 (cm e);rw[m]at n;have o:cm (e++ [.mk c b [] []])=cm e++ [[.str c,.sl F,.sl G,.sl [],.sl [],.int .i64 0,.int .i64 0]]:=by rw[mK,bh.cells,m];rfl
    refine dO [2,2,44] W<|Po (dY W W W (r:= .bool true) (by show some (D.bool (decide _))=_;rw[X,au5 (by omega)]))<|dR [1,2,47] W<|Po (aq QT W W)<|dL [] W ?_;apply Ps bN
    ·intro Q R;refine fR 4 W<|a_ W W W (auJ a) V W<|fR 9 W<|fT W W W (by omega) ?_;rw[SC];refine bg n W W<|fR 2 W<|oh (H0:=GH v an main l) W W W W (by rfl) W (by rw[gY];omega) (by rw[gY];omega)<|fR 1 W<|jc W W W (nB _ _) W W<|TF.nil ⟨by kernel_rfl,rfl⟩
    refine dO [2,41] W<|Po (az W W W (by omega))<|dL [] W<|yD (k':=2-(a+1)) (by omega) ⟨a+1,e++ [.mk c b [] []],l,rfl,by omega,by simp[z],.snoc A c (by grind) J Y (λI=>by grind) b (by rw[<-h.n];exact C),⟨by have:=f.i;have:=h.i;omega,f.le,by have:=f.n;have:=h.n;omega,f.qQ,by have:=f.q0;have:=h.q;simp only[ws];omega,by have:=f.q1;have:=h.q;omega⟩,rfl⟩ (by intro i;simp only[Go.Mt.get];rw[o];cases Nat.beq 9 i<;>cases Nat.beq 8 i<;>rfl) (by rw[o];rfl) W
  ·refine DC.exit ?_;have U:a=2:=by grind
   subst U;obtain⟨d6,e2,e3⟩:=ol v an main k 7 (cm e);refine DC.gM (PV:=Je p t u w x y (.d (.sl (cm e)))) 9 W (by repeat' first|exact pg _|refine dV ?_|refine fX (jB (GH v an main k) 7 (cm e) (ud e)) ?_) ?_;refine dC [2] W ?_;have co:=xB hW.1 2 (by omega);exact DC.ret ⟨_,W,d6,.d _,e2,.sw M e,k,by rw[aB.cells,P];rfl,e3,.qy Rl A z,⟨ac,B,b3,T,by omega,b6⟩⟩
end
abbrev NU(m:M):List M:=[.d (.int .u8 4),.d (.sl []),.d (.str ⟨#[]⟩),.d (.sl []),.d (.bool false),.d (.int .u8 0),.d (.int .u8 0),.d (.int .i32 0),.d (.str ⟨#[]⟩),.d (.sl []),.d (.sl []),.d (.int .i64 0),.d (.int .i64 0),m,.d (.int .i64 0),.d (.int .i64 0)]
section
variable{zs:List Int}{v:D}(ht:Tape zs v)(an:Nat)(main:Bool)
include ht
theorem EG(d:Nat)(hd:d<=2)(Vo:rE zs v an main d)(s:Sc)(k:Dh (800-200*d) s)(outs:List Va)(ho:outs.length<=3)(g:GS)(hg:g.i<=zs.length)(hn:g.n<=3*g.i)(RZ:0<g.q)(Zy:g.q<=14):
  DT prog 81 [.ref 1 0,.d (.agg s.cells),.d (.sl (aI outs)),dN (d+1)] (GH v an main g) λr K=> ∃(q:aB) (g':GS),r= .d (.agg q.cells)/\K=GH v an main g'/\GQ (GB an d) an s outs g.n g'.n [q] []/\Bm zs (3*qB d) g g':=by
 obtain⟨r0,K0,⟨F,g0,rfl,rfl,hr⟩,Rf⟩:=fL ht an main 3 (by omega) (by omega) g hg;have hj:=hr.lt;have n:=hr.mv;have TK:=k.b (by omega);have hW:=yE d hd;have SC:((d+1:Nat):Int)-1=(d:Int):=by omega
 have d8:1+((F:Nat):Int)=((F+1:Nat):Int):=by omega
 refine DT.drop 2 (auK _)<|DT.ob func81 W ntmps81 W<|dO [2,2,2,23] W<|Po (aq Rf W W)<|dR [24] W<|Po (az W W W (by omega)) ?_;rw[d8];refine dL [] W ?_;generalize ge:F+1=i;have p:1<=i/\i<=3:=by omega
 refine dC [2] W<|DC.wm [nN 11 0,nN 10 i,(9,.loc 9 0),(8,.loc 8 0),nD 5 (.bm s.cells 0),nN 3 (d+1),nD 2 (.sl (aI outs)),nR 0 1]
  [(9,NU (gN 2 (cm []))),(8,Jf)] (dZ (GH v an main g0) 7 (cm [])) W (by intro ah;simp only[Go.Mt.get];cases Nat.beq 9 ah<;>cases Nat.beq 8 ah<;>rfl) W ?_
 refine dC [3] W<|DC.lp (λco s2=> ∃(c:Nat) (a:List bh) (g':GS) (E:List (Nat×List M)),s2=⟨[nI 11 (c:Int),nN 10 i,(9,.loc 9 0),(8,.loc 8 0),nD 5 (.bm s.cells 0),nN 3 (d+1),nD 2 (.sl (aI outs)),nR 0 1],E,dZ (GH v an main g') 7 (cm a)⟩/\Go.Mt.get E 9=some (NU (gN 2 (cm a)))/\Go.Mt.get E 8=some Jf/\c<=i/\a.length=c/\u6 (GB an d) s outs i g.n a g'.n/\(g.i<=g'.i/\g'.i<=zs.length/\g.n<=g'.n/\g'.n<=3*g'.i/\ -(ws (qB d) c)<=g'.q/\g'.q<=g.q)/\co=i-c) i _
  ⟨0,[],g0,_,rfl,rfl,rfl,by omega,rfl,by have d6:=n.n;rw[d6];exact .nil,⟨n.i,n.le,by rw[n.n];exact auK _,by have:=n.n;have:=n.i;omega,by have:=n.q;simp only[ws];omega,by rw[n.q];exact awT _⟩,W⟩ W ?_
 rintro co s2 ⟨c,a,o,E,rfl,t,G,hi,u,H,⟨d9,I,b3,b4,b5,b6⟩,rfl⟩;refine dC [2] W<|DC.cond W (λhc=> ?_) (λhc=> ?_)
 ·have PH:c<i:=by grind
  have f9:=xB hW.1 c (by omega);have QR:decide ((c:Int)>0)=decide (0<c):=by grind
  have d7:=nP (c+1) c (by omega) (by omega);have i6:=rC c;refine dC [3] W ?_;rcases avl c with h0|h0
  ·skip
   have w:LS outs outs:=LS.refl _;have e:Mv zs o o:=⟨rfl,rfl,auK _,I⟩;have Rm:=w.len;obtain⟨r5,K5,⟨l,J,rfl,rfl,f,Y⟩,L⟩:=wL ht an main s TK i p o e.le;have Z:=eW (by rfl) L 7 (cm a);obtain⟨r3,K3,⟨b,N,rfl,rfl,O,j⟩,P⟩:=Vo s.bA k.bA outs (by omega) J f.le (by have:=e.n;have:=e.i;have:=f.n;have:=f.i;omega) (by have:=e.q;have:=f.q;omega) (by have:=e.q;have:=f.q;omega);obtain⟨Q,R,x⟩:=b.shape;have y:=eW (by rfl) P 7 (cm a);rw[x]at y;have S:=ub s outs (by have:=k.ready;omega) (by omega);obtain⟨r6,K6,⟨m,z,rfl,rfl,h,ac⟩,T⟩:=wL ht an main (s.more outs) ⟨by have:=k.ready;simp only[Sc.more,auN];omega,by have:=k.all;simp only[Sc.more];omega,by have:=k.di;simp only[Sc.more];omega⟩ i p N j.le;have U:=eW (by rfl) T 7 (cm a);have A:cm (a++ [.mk (nm 83 a.length) b l m])=cm a++ [[.str (⟨#[83]⟩++dg c),.sl Q,.sl R,.sl (fo l),.sl (fo m),.int .i64 0,.int .i64 0]]:=by rw[mK,bh.cells,x,u];rfl
   refine dO [2,2,32] W<|Po (dY W W W (r:= .bool false) (by show some (D.bool (decide _))=_;rw[QR,avc (by omega)]))<|dR [0,2,37] W<|Po (aE d7 W W)<|dR [38] W<|Po (q_ W W W (by have:(⟨#[83]⟩:ByteArray).size=1:=rfl;omega))<|dR [2,43] W<|Po (aq Z W W)<|dR [2,53] W<|Po (cL W W W (by omega)) ?_;rw[SC];refine dR [54] W<|Po (aq y W W)<|dR [2,59] W<|Po (aE S W W)<|dR [61] W<|Po (aq U W W)<|dR [2,64] W<|Po (jx W W t W)<|dR [67] W<|Po (rZ (H0:=GH v an main z) W W W W (by rfl) W (by rw[gY];omega) (by rw[gY];omega))<|dR [999] W<|Po (fD W W t (nB _ _) W W)<|dR [2,29] W<|Po (az W W W (by omega))<|dL [] W<|bK (k':=i-(c+1)) (by omega) ⟨c+1,a++ [.mk (nm 83 a.length) b l m],z,_,rfl,by rw[A];rfl,G,by omega,by simp[u],by
    have V:=h.n;rw[V];refine .snoc H outs w (λ_=>rfl) l Y b ?_ m ac;have X:=e.n;have B:=f.n;rw[<-X,<-B];exact O,⟨by have:=j.i;have:=e.i;have:=f.i;have:=h.i;omega,h.le,by have:=j.n;have:=e.n;have:=f.n;have:=h.n;omega,by have:=j.qQ;have:=h.n;have:=h.i;omega,by have:=j.q0;have:=e.q;have:=f.q;have:=h.q;simp only[ws];omega,by have:=j.q1;have:=e.q;have:=f.q;have:=h.q;omega⟩,rfl⟩ (by rw[A];rfl) W
  ·skip
   obtain⟨r4,K4,⟨C,g4,rfl,rfl,e,w⟩,TY⟩:=Ah ht an main outs (by omega) o I;have Rm:=w.len;obtain⟨r5,K5,⟨l,J,rfl,rfl,f,Y⟩,L⟩:=wL ht an main s TK i p g4 e.le;have Z:=eW (by rfl) L 7 (cm a);obtain⟨r3,K3,⟨b,N,rfl,rfl,O,j⟩,P⟩:=Vo s.bA k.bA C (by omega) J f.le (by have:=e.n;have:=e.i;have:=f.n;have:=f.i;omega) (by have:=e.q;have:=f.q;omega) (by have:=e.q;have:=f.q;omega);obtain⟨Q,R,x⟩:=b.shape;have y:=eW (by rfl) P 7 (cm a);rw[x]at y;have S:=ub s C (by have:=k.ready;omega) (by omega);obtain⟨r6,K6,⟨m,z,rfl,rfl,h,ac⟩,T⟩:=wL ht an main (s.more C) ⟨by have:=k.ready;simp only[Sc.more,auN];omega,by have:=k.all;simp only[Sc.more];omega,by have:=k.di;simp only[Sc.more];omega⟩ i p N j.le;have U:=eW (by rfl) T 7 (cm a);have A:cm (a++ [.mk (nm 83 a.length) b l m])=cm a++ [[.str (⟨#[83]⟩++dg c),.sl Q,.sl R,.sl (fo l),.sl (fo m),.int .i64 0,.int .i64 0]]:=by rw[mK,bh.cells,x,u];rfl
   refine dO [2,2,32] W<|Po (dY W W W (r:= .bool true) (by show some (D.bool (decide _))=_;rw[QR,au5 (by omega)]))<|dR [1,2,35] W<|Po (aq (eW (by rfl) TY 7 (cm a)) W W)<|dR [2,37] W<|Po (aE d7 W W)<|dR [38] W<|Po (q_ W W W (by have:(⟨#[83]⟩:ByteArray).size=1:=rfl;omega))<|dR [2,43] W<|Po (aq Z W W)<|dR [2,53] W<|Po (cL W W W (by omega)) ?_;rw[SC];refine dR [54] W<|Po (aq y W W)<|dR [2,59] W<|Po (aE S W W)<|dR [61] W<|Po (aq U W W)<|dR [2,64] W<|Po (jx W W t W)<|dR [67] W<|Po (rZ (H0:=GH v an main z) W W W W (by rfl) W (by rw[gY];omega) (by rw[gY];omega))<|dR [999] W<|Po (fD W W t (nB _ _) W W)<|dR [2,29] W<|Po (az W W W (by omega))<|dL [] W<|bK (k':=i-(c+1)) (by omega) ⟨c+1,a++ [.mk (nm 83 a.length) b l m],z,_,rfl,by rw[A];rfl,G,by omega,by simp[u],by
    have V:=h.n;rw[V];refine .snoc H C w (λd6=>by grind) l Y b ?_ m ac;have X:=e.n;have B:=f.n;rw[<-X,<-B];exact O,⟨by have:=j.i;have:=e.i;have:=f.i;have:=h.i;omega,h.le,by have:=j.n;have:=e.n;have:=f.n;have:=h.n;omega,by have:=j.qQ;have:=h.n;have:=h.i;omega,by have:=j.q0;have:=e.q;have:=f.q;have:=h.q;simp only[ws];omega,by have:=j.q1;have:=e.q;have:=f.q;have:=h.q;omega⟩,rfl⟩ (by rw[A];rfl) W
 ·refine DC.exit ?_;have PH:c=i:=by have:=au9 hc;omega
  subst PH;obtain⟨gc,B,e3⟩:=ol v an main o 7 (cm a);refine DC.gM (PV:=NU (.d (.sl (cm a)))) 9 t (by repeat' first|exact pg _|refine dV ?_|refine fX (jB (GH v an main o) 7 (cm a) (ud a)) ?_) ?_;refine dO [2,999] W<|Po (fD W W G W W W)<|dL [] W ?_;have f9:=xB hW.1 c (by omega);exact DC.ret ⟨_,W,gc,.d _,B,.aP a,o,by rw[aB.cells];rfl,e3,.aP c p H u,⟨d9,I,b3,b4,by omega,b6⟩⟩
end
end Go.Proofs
namespace Go.Mt
section
variable{P:Program}{n B:Nat}{post:Exit->St->Prop}{sl:List (Nat×V)}{bx:List (Nat×List M)}{H:Hp}
theorem DC.mi{c:Code}(j:Nat){ec aL:Nat}{cs:List M}(a:H[j]?=some (.row false ec aL cs))(k:DC P n B c ⟨sl,bx,H.set j (.row true ec aL cs)⟩ post):DC P n B c ⟨sl,bx,H⟩ post:=
 Ry _ (λ_ _ _ d e b=>b.mi a) k
end
theorem lQ{H:Hp}{i aL k n:Nat}{rs:List (List D)}(b:H[i]?=some (.row true n aL (bf rs)))(c:k=rs.length)(d:rs≠ [])(e: ∀a∈rs,a.length=n):jy H (.bH i aL k)=some (.sl rs):=
 Acc.view (n:=n) (i:=i) (.inr ⟨d,aL,by rw[c],b⟩) e
section
variable{X:bJ}{ops:Array Oper}{rest:List Oper}{sl:List (Nat×V)}{bx:List (Nat×List M)}{H:Hp}{P3:List Ef->St->Prop}{d ty:Nat}{pos:String}{af:Array Edge}
theorem yg{T e n len:Nat}{parts:List (Nat×Operand)}{z:D}{ms:List (Nat×M)}{cs:List M}[ht:aZ X.P T e][q:bY X.P e n][r:g_ X.P e z](f:Nat.blt d X.n=true)(g:Nat.blt 0 n=true)(h:(bu z).length=n)
  (o:Nat.ble (len*n) 16777216=true) (i:iE sl parts=some ms) (hf:gK (λc=>some (c*n,n)) (eO n len (bu z)) ms=some cs)
  (k:TF X ops rest ⟨(d,.m (.bH H.length 0 len))::sl,bx,H++ [Ob.row false n 0 cs]⟩ λj l=>P3 (⟨some d,.m (.bH H.length 0 len),[],[],none,true,some (H++ [Ob.row false n 0 cs])⟩::j) l):TF X ops (⟨some d,.buildSlice T len parts.toArray,ty,pos,af,none⟩::rest) ⟨sl,bx,H⟩ P3:=by
 refine TF.cons (e:=⟨some d,.m (.bH H.length 0 len),[],[],none,true,some (H++ [Ob.row false n 0 cs])⟩) (Rw W W (bO f) λs b=> ?_) W k;have a:=b.H W;simp only at a;exact oQ g h o (by rw[b.eG (λp m=>by simp[Op.operands];exact⟨_,m⟩),je];exact i) hf (.inl ⟨by rw[a],by rw[a]⟩)
end
end Go.Mt
namespace Go.Proofs
open Go.Mt Go.Mk
open Tryz
instance:bz prog 50:=cN (by kernel_rfl)
instance:bz prog 53:=cN (by kernel_rfl)
instance:bz prog 83:=cN (by kernel_rfl)
instance:bz prog 84:=cN (by kernel_rfl)
theorem eC(l:List aB):(bL l).length=l.length:=by rw[nG];simp
theorem fB(l:List aB): ∀r∈bL l,r.length=16:=by rw[nG];intro r a;obtain⟨_,_,rfl⟩:=ava.1 a;exact aB.len _
theorem jl(a b:List aB):bL (a++b)=bL a++bL b:=by rw[nG,nG,nG];simp
theorem qv{l:List D}(h:l.length=16): ∃a b c d e f g i j k m n o p q r,l= [a,b,c,d,e,f,g,i,j,k,m,n,o,p,q,r]:=by
 match l,h with
 | [a,b,c,d,e,f,g,i,j,k,m,n,o,p,q,r],_=>exact⟨_,_,_,_,_,_,_,_,_,_,_,_,_,_,_,_,W⟩
def EH(an:Nat):Nat->Sc->List Va->Nat->Nat->bj->Prop
 |0=> λ_ _ _ _ _=>False
 |d+1=>GB an d
def qP:Nat->Int
 |0=>0
 |d+1=>qB d
theorem jF{P:Program}{f:Nat}{ms:List M}{v:D}{a:Nat}{c:Bool}{g g':GS}{r:M}(h:(ms.all (CM 2))=true)(i:CT P f ms (GH v a c g) λr' d=>r'=r/\d=GH v a c g')(F:Hp):
  CT P f ms (GH v a c g++F) λr' d=>r'=r/\d=GH v a c g'++F:=by
 refine(CT.suffix F (H:=GH v a c g) (p8 v a c g) (λm j=>jO (av5.1 h m j)) (i.mono λr' d ⟨e,b⟩=>(⟨by rw[b];rfl,e,b⟩:d.length=(GH v a c g).length/\(r'=r/\d=GH v a c g')))).mono ?_;rintro r' k ⟨l,rfl,_,rfl,rfl⟩;exact⟨W,W⟩
section
variable(zs:List Int)(v:D)(an:Nat)(main:Bool)
def xC(dp c:Nat):Prop:= ∀(s:Sc),s.ready.length+2*c<=900-200*dp->s.all.length<=1000->s.di.length<=900-200*dp-> ∀(outs:List Va),outs.length<=3-> ∀(g:GS),g.i<=zs.length->g.n<=3*g.i->g.q<=c-> -300000<=g.q->g.q<=14->
 DT prog 53 [.ref 1 0,.d (.agg s.cells),.d (.sl (aI outs)),dN dp] (GH v an main g) λr K=> ∃(q:List aB) (vs:List Va) (g':GS),r= .dq [.d (.sl (bL q)),.d (.sl (aI vs))]/\K=GH v an main g'/\GQ (EH an dp) an s outs g.n g'.n q vs/\q.length<=3*c+3/\vs.length<=3*c/\Bm zs (1+3*qP dp) g g'
end
section
variable{zs:List Int}{v:D}(ht:Tape zs v)(an:Nat)(main:Bool)
include ht
theorem tX(k c:Nat)(hD:k<=3)(i6:c<=14)(ih:xC zs v an main k c)(s:Sc)(m:s.ready.length+2*c+2<=900-200*k)(ha:s.all.length<=1000)(WE:s.di.length<=900-200*k)(outs:List Va)(ho:outs.length<=3)(U4:0<an)(WG:an<=10)
  (g:GS) (H:g.i<=zs.length) (hn:g.n+3<=3*g.i) (RZ:0<g.q) (Zy:g.q<=c):
  DT prog 83 [.ref 1 0,.d (.agg s.cells),.d (.sl (aI outs)),dN k] (GH v an main g) λr K=> ∃(q:List aB) (f:List Va) (g':GS),r= .dq [.d (.sl (bL q)),.d (.sl (aI f))]/\K=GH v an main g'/\GQ (EH an k) an s outs g.n g'.n q f/\q.length<=3*(c+1)+3/\f.length<=3*(c+1)/\Bm zs (1+3*qP k) g g':=by
 have hL:=ht.hl;obtain⟨L,a,M⟩:=g;simp only at H hn RZ Zy;have N:xA s:=⟨by omega,by omega,by omega⟩;obtain⟨r1,K1,⟨rfl,rfl⟩,PR⟩:=rD ht an main 117 ⟨L,a,M⟩ H (by grind);obtain⟨r2,K2,⟨rfl,rfl⟩,PX⟩:=rD ht an main 117 ⟨L,a+1,M⟩ H (by grind);obtain⟨r3,K3,⟨d,g3,rfl,rfl,Wb⟩,QN⟩:=fL ht an main an U4 (by omega) ⟨L,a+2,M⟩ H;have VD:=Wb.mv;have hj:=Wb.lt;have co:=nP (d+1) d (by omega) (by omega);have i7:=rC d;obtain⟨r4,K4,⟨j,g4,rfl,rfl,Un,Rr⟩,O⟩:=dM ht an main 2 (by omega) s N .int true g3 VD.le;obtain⟨n,o,p,t,u,w,P⟩:=j.shape;rw[P]at O;obtain⟨r5,K5,⟨b,g5,rfl,rfl,R8,To⟩,Q⟩:=dM ht an main 2 (by omega) s N .bool true g4 Rr.le;obtain⟨x,y,z,sb,A,B,R⟩:=b.shape;rw[R]at Q;obtain⟨r6,K6,⟨j6,D,rfl,rfl,d8⟩,ZO⟩:=fL ht an main 3 (by omega) (by omega) g5 To.le;have S:=d8.mv;have ac:=VD.trans (Rr.trans (To.trans S));have d9:=ac.n;have f9:=ac.q;have gc:=ac.i;simp only at d9 f9 gc;have Vp:=ub s [c9 117 (a+1) .int,c9 117 (a+2) .fJ] (by omega) (by simp);rcases avl j6 with d6|d6
 ·skip
  subst d6;obtain⟨r7,K7,⟨e,g7,rfl,rfl,Rl,C⟩,d7⟩:=dM ht an main 2 (by omega) s N .bool true D S.le;obtain⟨T,U,V,X,Y,Z,h7⟩:=e.shape;rw[h7]at d7;have i8:=C.n;have i9:=C.q;have mt:=C.i;obtain⟨r8,K8,⟨i,f,l,rfl,rfl,E,Uz,UH,h⟩,ah⟩:=ih (s.more [c9 117 (a+1) .int,c9 117 (a+2) .fJ]) (by simp only[Sc.more,auN,au4,avt];omega) ha WE outs ho g7 C.le (by omega) (by omega) (by omega) (by omega);have ge:=h.q0;refine DT.drop 2 (auK _)<|DT.ob func83 W ntmps83 W<|dO [2,2,22] W<|Po (aq PR W W)<|dR [23] W<|Po (aE dP W W)<|dR [2,26] W<|Po (aq PX W W)<|dR [27] W<|Po (aE kV W W)<|dL [] W ?_;apply Ps bN
  ·intro I J;refine fR 8 W<|bg QN W W<|aW co W W<|uG W W W (by have:(⟨#[102]⟩:ByteArray).size=1:=rfl;omega)<|fR 8 W<|TF.nil ⟨by kernel_rfl,rfl⟩
  refine dC [] W ?_;apply Ps bN
  ·intro I J;refine fR 2 W<|aW dP W W<|bg O W W<|fR 2 W<|aW kj W W<|bg Q W W<|fR 3 W<|TF.nil ⟨by kernel_rfl,rfl⟩
  refine dO [2,60] W<|Po (aq ZO W W)<|dL [1,2] W ?_;apply Ps bN
  ·intro I J;refine fR 2 W<|aW kj W W<|bg d7 W W<|fR 2 W<|TF.nil ⟨by kernel_rfl,rfl⟩
  refine dO [2,74] W<|Po (aE Vp W W)<|dR [77] W<|Po (aq ah W W)<|dL [] W ?_;have F:(aB.call (nm 117 (a+1)) (nm 117 (a+2)) (nm 102 d) j b true e).cells= [.int .u8 2,.sl [[.str (nm 117 (a+1))],[.str (nm 117 (a+2))]],.str (nm 102 d),.sl [bU n o p t u w,bU x y z sb A B],.bool true,.int .u8 T,.int .u8 U,.int .i32 V,.str X,.sl Y,.sl Z,.int .i64 0,.int .i64 0,.sl [],.int .i64 0,.int .i64 0]:=by rw[aB.cells,P,R,h7];rfl
  refine dO [2,2,83] W<|Po (iL true W W W W (by rfl) (by simp) (by exact mR W) (by grind))<|dR [2,86] W<|Po (fU (cs:=bf [[.int .u8 2,.sl [[.str (nm 117 (a+1))],[.str (nm 117 (a+2))]],.str (nm 102 d),.sl [bU n o p t u w,bU x y z sb A B],.bool true,.int .u8 T,.int .u8 U,.int .i32 V,.str X,.sl Y,.sl Z,.int .i64 0,.int .i64 0,.sl [],.int .i64 0,.int .i64 0]]) W W W W W (fB i) (by rw[eC];simp only[avd];omega) (by rw[eC];simp only[avd];omega))<|dR [2,2,91] W<|Po (iL true W W W W (by rfl) (by simp) (by intro r m;simp only[auX,au3,avF]at m;rcases m with rfl|rfl<;>rfl) (by grind))<|dR [2,95] W<|Po (fU (cs:=bf (aI [c9 117 (a+1) .int,c9 117 (a+2) .fJ])) W W W W W (cx f) (by rw[bD];simp only[au4,avt];omega) (by rw[bD];simp only[au4,avt];omega))<|dL [] W<|Pz [nM 8 (.bH 2 1 (1+(bL i).length)),nM 9 (.bH 3 1 (2+(aI f).length))] (GH v an main l++ [.row true 16 1 (bf ([.int .u8 2,.sl [[.str (nm 117 (a+1))],[.str (nm 117 (a+2))]],.str (nm 102 d),.sl [bU n o p t u w,bU x y z sb A B],.bool true,.int .u8 T,.int .u8 U,.int .i32 V,.str X,.sl Y,.sl Z,.int .i64 0,.int .i64 0,.sl [],.int .i64 0,.int .i64 0]::bL i)),.row true 15 1 (bf (aI (c9 117 (a+1) .int::c9 117 (a+2) .fJ::f)))]) W W<|DC.cw 8 W (lQ W (by grind) (by simp) (by rw[<-F];exact fB (.call (nm 117 (a+1)) (nm 117 (a+2)) (nm 102 d) j b true e::i)))<|DC.cw 9 W (lQ W (by simp only[bD,au4];omega) (by simp[aI]) (cx _)) ?_
  refine DC.ret ⟨_,W,qn W,jO W,p8 v an main l,.call (nm 117 (a+1)) (nm 117 (a+2)) (nm 102 d) j b true e::i,c9 117 (a+1) .int::c9 117 (a+2) .fJ::f,l,by rw[bL,F];rfl,rfl,?_,by grind,by grind,⟨by have:=h.i;simp only;omega,h.le,by have:=h.n;simp only;omega,h.qQ,by grind,by have:=h.q1;simp only;omega⟩⟩;refine .call d hj j b Un R8 _ _ (.inr ⟨W,Rl⟩) ?_;have G:a+2=g7.n:=by omega
  rw[G];rw[G]at E;exact E
 ·skip
  have C:Mv zs D D:=⟨rfl,rfl,auK _,S.le⟩;obtain⟨r8,K8,⟨i,f,l,rfl,rfl,E,Uz,UH,h⟩,ah⟩:=ih (s.more [c9 117 (a+1) .int,c9 117 (a+2) .fJ]) (by simp only[Sc.more,auN,au4,avt];omega) ha WE outs ho D C.le (by omega) (by omega) (by omega) (by omega);have ge:=h.q0;refine DT.drop 2 (auK _)<|DT.ob func83 W ntmps83 W<|dO [2,2,22] W<|Po (aq PR W W)<|dR [23] W<|Po (aE dP W W)<|dR [2,26] W<|Po (aq PX W W)<|dR [27] W<|Po (aE kV W W)<|dL [] W ?_;apply Ps bN
  ·intro I J;refine fR 8 W<|bg QN W W<|aW co W W<|uG W W W (by have:(⟨#[102]⟩:ByteArray).size=1:=rfl;omega)<|fR 8 W<|TF.nil ⟨by kernel_rfl,rfl⟩
  refine dC [] W ?_;apply Ps bN
  ·intro I J;refine fR 2 W<|aW dP W W<|bg O W W<|fR 2 W<|aW kj W W<|bg Q W W<|fR 3 W<|TF.nil ⟨by kernel_rfl,rfl⟩
  refine dO [2,60] W<|Po (aq ZO W W)<|dR [61] W<|Po (aQ (avs.2 (by omega)) W W W W)<|dR [0,2,74] W<|Po (aE Vp W W)<|dR [77] W<|Po (aq ah W W)<|dL [] W ?_;have F:(aB.call (nm 117 (a+1)) (nm 117 (a+2)) (nm 102 d) j b false .nil).cells= [.int .u8 2,.sl [[.str (nm 117 (a+1))],[.str (nm 117 (a+2))]],.str (nm 102 d),.sl [bU n o p t u w,bU x y z sb A B],.bool false,.int .u8 0,.int .u8 0,.int .i32 0,.str ⟨#[]⟩,.sl [],.sl [],.int .i64 0,.int .i64 0,.sl [],.int .i64 0,.int .i64 0]:=by rw[aB.cells,P,R];rfl
  refine dO [2,2,83] W<|Po (iL true W W W W (by rfl) (by simp) (by exact mR W) (by grind))<|dR [2,86] W<|Po (fU (cs:=bf [[.int .u8 2,.sl [[.str (nm 117 (a+1))],[.str (nm 117 (a+2))]],.str (nm 102 d),.sl [bU n o p t u w,bU x y z sb A B],.bool false,.int .u8 0,.int .u8 0,.int .i32 0,.str ⟨#[]⟩,.sl [],.sl [],.int .i64 0,.int .i64 0,.sl [],.int .i64 0,.int .i64 0]]) W W W W W (fB i) (by rw[eC];simp only[avd];omega) (by rw[eC];simp only[avd];omega))<|dR [2,2,91] W<|Po (iL true W W W W (by rfl) (by simp) (by intro r m;simp only[auX,au3,avF]at m;rcases m with rfl|rfl<;>rfl) (by grind))<|dR [2,95] W<|Po (fU (cs:=bf (aI [c9 117 (a+1) .int,c9 117 (a+2) .fJ])) W W W W W (cx f) (by rw[bD];simp only[au4,avt];omega) (by rw[bD];simp only[au4,avt];omega))<|dL [] W<|Pz [nM 8 (.bH 2 1 (1+(bL i).length)),nM 9 (.bH 3 1 (2+(aI f).length))] (GH v an main l++ [.row true 16 1 (bf ([.int .u8 2,.sl [[.str (nm 117 (a+1))],[.str (nm 117 (a+2))]],.str (nm 102 d),.sl [bU n o p t u w,bU x y z sb A B],.bool false,.int .u8 0,.int .u8 0,.int .i32 0,.str ⟨#[]⟩,.sl [],.sl [],.int .i64 0,.int .i64 0,.sl [],.int .i64 0,.int .i64 0]::bL i)),.row true 15 1 (bf (aI (c9 117 (a+1) .int::c9 117 (a+2) .fJ::f)))]) W W<|DC.cw 8 W (lQ W (by grind) (by simp) (by rw[<-F];exact fB (.call (nm 117 (a+1)) (nm 117 (a+2)) (nm 102 d) j b false .nil::i)))<|DC.cw 9 W (lQ W (by simp only[bD,au4];omega) (by simp[aI]) (cx _)) ?_
  refine DC.ret ⟨_,W,qn W,jO W,p8 v an main l,.call (nm 117 (a+1)) (nm 117 (a+2)) (nm 102 d) j b false .nil::i,c9 117 (a+1) .int::c9 117 (a+2) .fJ::f,l,by rw[bL,F];rfl,rfl,?_,by grind,by grind,⟨by have:=h.i;simp only;omega,h.le,by have:=h.n;simp only;omega,h.qQ,by grind,by have:=h.q1;simp only;omega⟩⟩;refine .call d hj j b Un R8 _ _ (.inl ⟨W,W⟩) ?_;have G:a+2=D.n:=by omega
  rw[G];rw[G]at E;exact E
end
section
variable{zs:List Int}{v:D}(ht:Tape zs v)(an:Nat)(main:Bool)
include ht
theorem EI(P c:Nat)(hD:P<=3)(rt:c<=14)(ih:xC zs v an main P c)(s:Sc)(R:s.ready.length+2*c+2<=900-200*P)(ha:s.all.length<=1000)(WE:s.di.length<=900-200*P)(outs:List Va)(ho:outs.length<=3)
  (g:GS) (Z:g.i<=zs.length) (hn:g.n+3<=3*g.i) (RZ:0<g.q) (Zy:g.q<=c):
  DT prog 84 [.ref 1 0,.d (.agg s.cells),.d (.sl (aI outs)),dN P] (GH v an main g) λr K=> ∃(q:List aB) (h:List Va) (g':GS),r= .dq [.d (.sl (bL q)),.d (.sl (aI h))]/\K=GH v an main g'/\GQ (EH an P) an s outs g.n g'.n q h/\q.length<=3*(c+1)+3/\h.length<=3*(c+1)/\Bm zs (1+3*qP P) g g':=by
 have hL:=ht.hl;obtain⟨gi,a,gq⟩:=g;simp only at Z hn RZ Zy;have TK:xA s:=⟨by omega,by omega,by omega⟩;obtain⟨r1,K1,⟨rfl,rfl⟩,PR⟩:=rD ht an main 99 ⟨gi,a,gq⟩ Z (by simp only;omega);obtain⟨r2,K2,⟨rfl,rfl⟩,PX⟩:=rD ht an main 119 ⟨gi,a+1,gq⟩ Z (by simp only;omega);obtain⟨r3,K3,⟨rfl,rfl⟩,QN⟩:=rD ht an main 122 ⟨gi,a+2,gq⟩ Z (by simp only;omega);obtain⟨r4,K4,⟨f,g4,rfl,rfl,Un,Rr⟩,TY⟩:=dM ht an main 2 (by omega) s TK .int false ⟨gi,a+3,gq⟩ Z;obtain⟨i,j,k,l,m,n,h4⟩:=f.shape;rw[h4]at TY;obtain⟨r5,K5,⟨b,g5,rfl,rfl,R8,To⟩,Xe⟩:=dM ht an main 2 (by omega) s TK .int false g4 Rr.le;obtain⟨o,p,t,sb,u,w,h5⟩:=b.shape;rw[h5]at Xe;obtain⟨r6,K6,⟨L,g6,rfl,rfl,d9,Ub⟩,ZO⟩:=jk ht an main .int g5 To.le;obtain⟨x,y,z,A,B,C,h6⟩:=L.shape;rw[h6]at ZO;obtain⟨r7,K7,⟨Q,g7,rfl,rfl,f9,gc⟩,ah⟩:=jk ht an main .int g6 Ub.le;obtain⟨S,T,U,sl,al,V,h7⟩:=Q.shape;rw[h7]at ah;have co:=lY 7 3 (.var (nm 119 (a+2))) (.fI (nm 99 (a+1)) cj f);have d6:=lY 9 0 Q (.bin 3 (.var (nm 119 (a+2))) (.fI (nm 99 (a+1)) cj f));simp only[E.cells,h4]at co;simp only[E.cells,h4,h7]at d6;obtain⟨r8,K8,⟨j8,g8,rfl,rfl,i9⟩,ge⟩:=fL ht an main 2 (by omega) (by omega) g7 gc.le;have i6:=i9.mv;obtain⟨r9,K9,⟨e,g9,rfl,rfl,Rl,mt⟩,d7⟩:=dM ht an main 3 (by omega) s TK .fJ true g8 i6.le;obtain⟨D,F,G,H,I,J,h9⟩:=e.shape;rw[h9]at d7;have ac:=Rr.trans (To.trans (Ub.trans (gc.trans (i6.trans mt))));have pm:=ac.n;have qr:=ac.q;have rg:=ac.i;simp only at pm qr rg
 have Vp:=ub s [c9 99 (a+1) .fJ,c9 122 (a+3) .int] (by omega) (by simp);obtain⟨rx,t3,⟨d,h,X,rfl,rfl,SG,Uz,UH,M⟩,i7⟩:=ih (s.more [c9 99 (a+1) .fJ,c9 122 (a+3) .int]) (by simp only[Sc.more,auN,au4,avt];omega) ha WE outs ho g9 ac.le (by omega) (by omega) (by omega) (by omega);have t4:=M.q0;rcases avl j8 with i8|i8
 ·skip
  subst i8;have Q1:bL (.df (nm 99 (a+1)) e:: .df (nm 119 (a+2)) (.fI (nm 99 (a+1)) cj f):: .df (nm 122 (a+3)) (.merge (nm 99 (a+1)) bC cj c8 (.fI (nm 99 (a+1)) bC b) (.var (nm 119 (a+2))) L):: [])= [[.int .u8 1,.sl [[.str (nm 99 (a+1))]],.str ⟨#[]⟩,.sl [],.bool false,.int .u8 D,.int .u8 F,.int .i32 G,.str H,.sl I,.sl J,.int .i64 0,.int .i64 0,.sl [],.int .i64 0,.int .i64 0],[.int .u8 1,.sl [[.str (nm 119 (a+2))]],.str ⟨#[]⟩,.sl [],.bool false,.int .u8 12,.int .u8 0,.int .i32 0,.str (nm 99 (a+1)),.sl [[.str cj]],.sl [bU i j k l m n],.int .i64 0,.int .i64 0,.sl [],.int .i64 0,.int .i64 0],[.int .u8 1,.sl [[.str (nm 122 (a+3))]],.str ⟨#[]⟩,.sl [],.bool false,.int .u8 13,.int .u8 0,.int .i32 0,.str (nm 99 (a+1)),.sl [[.str bC],[.str cj],[.str c8]],.sl [bU 12 0 0 (nm 99 (a+1)) [[.str bC]] [bU o p t sb u w],bU 4 0 0 (nm 119 (a+2)) [] [],bU x y z A B C],.int .i64 0,.int .i64 0,.sl [],.int .i64 0,.int .i64 0]]:=by simp only[bL,aB.cells,E.cells,h4,h5,h6,h7,h9];rfl
  have d8:=jF (by rfl) i7 [.row true 16 0 (bf [[.int .u8 1,.sl [[.str (nm 99 (a+1))]],.str ⟨#[]⟩,.sl [],.bool false,.int .u8 D,.int .u8 F,.int .i32 G,.str H,.sl I,.sl J,.int .i64 0,.int .i64 0,.sl [],.int .i64 0,.int .i64 0],[.int .u8 1,.sl [[.str (nm 119 (a+2))]],.str ⟨#[]⟩,.sl [],.bool false,.int .u8 12,.int .u8 0,.int .i32 0,.str (nm 99 (a+1)),.sl [[.str cj]],.sl [bU i j k l m n],.int .i64 0,.int .i64 0,.sl [],.int .i64 0,.int .i64 0],[.int .u8 1,.sl [[.str (nm 122 (a+3))]],.str ⟨#[]⟩,.sl [],.bool false,.int .u8 13,.int .u8 0,.int .i32 0,.str (nm 99 (a+1)),.sl [[.str bC],[.str cj],[.str c8]],.sl [bU 12 0 0 (nm 99 (a+1)) [[.str bC]] [bU o p t sb u w],bU 4 0 0 (nm 119 (a+2)) [] [],bU x y z A B C],.int .i64 0,.int .i64 0,.sl [],.int .i64 0,.int .i64 0]])];refine DT.drop 2 (auK _)<|DT.ob func84 W ntmps84 W<|dO [2,2,26] W<|Po (aq PR W W)<|dR [27] W<|Po (aE kV W W)<|dL [] W ?_;apply Ps bN
  ·intro N O;refine fR 1 W<|bg PX W W<|aW dP W W<|fR 7 W<|TF.nil ⟨by kernel_rfl,rfl⟩
  refine dO [2,38] W<|Po (aq QN W W)<|dR [39] W<|Po (aE dP W W)<|dL [] W ?_;apply Ps bN
  ·intro N O;refine fR 5 W<|aW dP W W<|bg TY W W<|fR 4 W<|TF.nil ⟨by kernel_rfl,rfl⟩
  refine dC [] W ?_;apply Ps bN
  ·intro N O;refine fR 5 W<|aW dP W W<|bg Xe W W<|fR 4 W<|TF.nil ⟨by kernel_rfl,rfl⟩
  refine dC [] W ?_;apply Ps bN
  ·intro N O;refine fR 8 W<|aW dP W W<|bg ZO W W<|fR 4 W<|TF.nil ⟨by kernel_rfl,rfl⟩
  refine dC [] W ?_;apply Ps bN
  ·intro N O;refine fR 1 W<|aW dP W W<|bg ah W W<|fR 4 W<|aW co W W<|aW d6 W W<|fR 2 W<|TF.nil ⟨by kernel_rfl,rfl⟩
  refine dO [2,84] W<|Po (aq ge W W)<|dL [1,2] W ?_;apply Ps bN
  ·intro N O;refine fR 5 W<|aW kV W W<|bg d7 W W<|fR 11 W<|yg W W W W W W<|fR 1 W<|TF.nil ⟨by kernel_rfl,rfl⟩
  refine DC.mi 2 W<|Pz [nM 17 (.bH 2 0 3),(12,.loc 12 0),(11,.loc 11 0),(10,.loc 10 0),nD 5 (.bm s.cells 0),nN 3 P,nD 2 (.sl (aI outs)),nR 0 1] (GH v an main g9++ [.row true 16 0 (bf [[.int .u8 1,.sl [[.str (nm 99 (a+1))]],.str ⟨#[]⟩,.sl [],.bool false,.int .u8 D,.int .u8 F,.int .i32 G,.str H,.sl I,.sl J,.int .i64 0,.int .i64 0,.sl [],.int .i64 0,.int .i64 0],[.int .u8 1,.sl [[.str (nm 119 (a+2))]],.str ⟨#[]⟩,.sl [],.bool false,.int .u8 12,.int .u8 0,.int .i32 0,.str (nm 99 (a+1)),.sl [[.str cj]],.sl [bU i j k l m n],.int .i64 0,.int .i64 0,.sl [],.int .i64 0,.int .i64 0],[.int .u8 1,.sl [[.str (nm 122 (a+3))]],.str ⟨#[]⟩,.sl [],.bool false,.int .u8 13,.int .u8 0,.int .i32 0,.str (nm 99 (a+1)),.sl [[.str bC],[.str cj],[.str c8]],.sl [bU 12 0 0 (nm 99 (a+1)) [[.str bC]] [bU o p t sb u w],bU 4 0 0 (nm 119 (a+2)) [] [],bU x y z A B C],.int .i64 0,.int .i64 0,.sl [],.int .i64 0,.int .i64 0]])]) W W<|dO [2,112] W<|Po (aE Vp W W)<|dR [115] W<|Po (aq d8 W W)<|dR [2,2,123] W<|Po (iL true W W W W (by rfl) (by simp) (by intro r R;simp only[auX,au3,avF]at R;rcases R with rfl|rfl|rfl<;>rfl) (by exact qn W))<|dR [2,126] W ?_
  refine Po (fU (cs:=bf [[.int .u8 1,.sl [[.str (nm 99 (a+1))]],.str ⟨#[]⟩,.sl [],.bool false,.int .u8 D,.int .u8 F,.int .i32 G,.str H,.sl I,.sl J,.int .i64 0,.int .i64 0,.sl [],.int .i64 0,.int .i64 0],[.int .u8 1,.sl [[.str (nm 119 (a+2))]],.str ⟨#[]⟩,.sl [],.bool false,.int .u8 12,.int .u8 0,.int .i32 0,.str (nm 99 (a+1)),.sl [[.str cj]],.sl [bU i j k l m n],.int .i64 0,.int .i64 0,.sl [],.int .i64 0,.int .i64 0],[.int .u8 1,.sl [[.str (nm 122 (a+3))]],.str ⟨#[]⟩,.sl [],.bool false,.int .u8 13,.int .u8 0,.int .i32 0,.str (nm 99 (a+1)),.sl [[.str bC],[.str cj],[.str c8]],.sl [bU 12 0 0 (nm 99 (a+1)) [[.str bC]] [bU o p t sb u w],bU 4 0 0 (nm 119 (a+2)) [] [],bU x y z A B C],.int .i64 0,.int .i64 0,.sl [],.int .i64 0,.int .i64 0]]) W W W W W (fB d) (by rw[eC];omega) (by rw[eC];omega))<|dR [129] W<|Po (fU (cs:=bf (aI (c9 99 (a+1) .fJ::⟨nm 119 (a+2),.int,some (cj,nm 99 (a+1)),false,.nil⟩::c9 122 (a+3) .int:: []))) W W W W W (cx h) (by rw[bD];simp only[au4,avt];omega) (by rw[bD];simp only[au4,avt];omega))<|dL [] W<|Pz [nM 8 (.bH 2 1 (3+(bL d).length)),nM 9 (.bH 3 1 (3+(aI h).length))] (GH v an main X++ [.row true 16 1 (bf ([.int .u8 1,.sl [[.str (nm 99 (a+1))]],.str ⟨#[]⟩,.sl [],.bool false,.int .u8 D,.int .u8 F,.int .i32 G,.str H,.sl I,.sl J,.int .i64 0,.int .i64 0,.sl [],.int .i64 0,.int .i64 0]:: [.int .u8 1,.sl [[.str (nm 119 (a+2))]],.str ⟨#[]⟩,.sl [],.bool false,.int .u8 12,.int .u8 0,.int .i32 0,.str (nm 99 (a+1)),.sl [[.str cj]],.sl [bU i j k l m n],.int .i64 0,.int .i64 0,.sl [],.int .i64 0,.int .i64 0]:: [.int .u8 1,.sl [[.str (nm 122 (a+3))]],.str ⟨#[]⟩,.sl [],.bool false,.int .u8 13,.int .u8 0,.int .i32 0,.str (nm 99 (a+1)),.sl [[.str bC],[.str cj],[.str c8]],.sl [bU 12 0 0 (nm 99 (a+1)) [[.str bC]] [bU o p t sb u w],bU 4 0 0 (nm 119 (a+2)) [] [],bU x y z A B C],.int .i64 0,.int .i64 0,.sl [],.int .i64 0,.int .i64 0]::bL d)),.row true 15 1 (bf (aI (c9 99 (a+1) .fJ::⟨nm 119 (a+2),.int,some (cj,nm 99 (a+1)),false,.nil⟩::c9 122 (a+3) .int::h)))]) W W ?_
  have Zi:bL (.df (nm 99 (a+1)) e:: .df (nm 119 (a+2)) (.fI (nm 99 (a+1)) cj f):: .df (nm 122 (a+3)) (.merge (nm 99 (a+1)) bC cj c8 (.fI (nm 99 (a+1)) bC b) (.var (nm 119 (a+2))) L)::d)= [.int .u8 1,.sl [[.str (nm 99 (a+1))]],.str ⟨#[]⟩,.sl [],.bool false,.int .u8 D,.int .u8 F,.int .i32 G,.str H,.sl I,.sl J,.int .i64 0,.int .i64 0,.sl [],.int .i64 0,.int .i64 0]:: [.int .u8 1,.sl [[.str (nm 119 (a+2))]],.str ⟨#[]⟩,.sl [],.bool false,.int .u8 12,.int .u8 0,.int .i32 0,.str (nm 99 (a+1)),.sl [[.str cj]],.sl [bU i j k l m n],.int .i64 0,.int .i64 0,.sl [],.int .i64 0,.int .i64 0]:: [.int .u8 1,.sl [[.str (nm 122 (a+3))]],.str ⟨#[]⟩,.sl [],.bool false,.int .u8 13,.int .u8 0,.int .i32 0,.str (nm 99 (a+1)),.sl [[.str bC],[.str cj],[.str c8]],.sl [bU 12 0 0 (nm 99 (a+1)) [[.str bC]] [bU o p t sb u w],bU 4 0 0 (nm 119 (a+2)) [] [],bU x y z A B C],.int .i64 0,.int .i64 0,.sl [],.int .i64 0,.int .i64 0]::bL d:=by
   have Y:=jl (.df (nm 99 (a+1)) e:: .df (nm 119 (a+2)) (.fI (nm 99 (a+1)) cj f):: .df (nm 122 (a+3)) (.merge (nm 99 (a+1)) bC cj c8 (.fI (nm 99 (a+1)) bC b) (.var (nm 119 (a+2))) L):: []) d;rw[Q1]at Y;exact Y
  refine DC.cw 8 W (lQ W (by simp only[au4];omega) (by simp) (by rw[<-Zi];exact fB _))<|DC.cw 9 W (lQ W (by simp only[bD,au4];omega) (by simp[aI]) (cx _))<|DC.ret ⟨_,rfl,qn W,jO W,p8 v an main X,.df (nm 99 (a+1)) e:: .df (nm 119 (a+2)) (.fI (nm 99 (a+1)) cj f):: .df (nm 122 (a+3)) (.merge (nm 99 (a+1)) bC cj c8 (.fI (nm 99 (a+1)) bC b) (.var (nm 119 (a+2))) L)::d,c9 99 (a+1) .fJ::⟨nm 119 (a+2),.int,some (cj,nm 99 (a+1)),false,.nil⟩::c9 122 (a+3) .int::h,X,by rw[Zi];rfl,rfl,?_,by simp only[au4];omega,by simp only[au4];omega,⟨by have:=M.i;simp only;omega,M.le,by have:=M.n;simp only;omega,M.qQ,by simp only;omega,by have:=M.q1;simp only;omega⟩⟩;refine .mY f b L Q e _ Un R8 d9 f9 Rl (.inl W) ?_;have e2:a+3=g9.n:=by omega
  rw[e2];rw[e2]at SG;exact SG
 ·skip
  have Q1:bL (.df (nm 99 (a+1)) e:: .df (nm 119 (a+2)) (.ga Q (.bin 3 (.var (nm 119 (a+2))) (.fI (nm 99 (a+1)) cj f))):: .df (nm 122 (a+3)) (.merge (nm 99 (a+1)) bC cj c8 (.fI (nm 99 (a+1)) bC b) (.var (nm 119 (a+2))) L):: [])= [[.int .u8 1,.sl [[.str (nm 99 (a+1))]],.str ⟨#[]⟩,.sl [],.bool false,.int .u8 D,.int .u8 F,.int .i32 G,.str H,.sl I,.sl J,.int .i64 0,.int .i64 0,.sl [],.int .i64 0,.int .i64 0],[.int .u8 1,.sl [[.str (nm 119 (a+2))]],.str ⟨#[]⟩,.sl [],.bool false,.int .u8 9,.int .u8 0,.int .i32 0,.str ⟨#[]⟩,.sl [],.sl [bU S T U sl al V,bU 7 3 0 ⟨#[]⟩ [] [bU 4 0 0 (nm 119 (a+2)) [] [],bU 12 0 0 (nm 99 (a+1)) [[.str cj]] [bU i j k l m n]]],.int .i64 0,.int .i64 0,.sl [],.int .i64 0,.int .i64 0],[.int .u8 1,.sl [[.str (nm 122 (a+3))]],.str ⟨#[]⟩,.sl [],.bool false,.int .u8 13,.int .u8 0,.int .i32 0,.str (nm 99 (a+1)),.sl [[.str bC],[.str cj],[.str c8]],.sl [bU 12 0 0 (nm 99 (a+1)) [[.str bC]] [bU o p t sb u w],bU 4 0 0 (nm 119 (a+2)) [] [],bU x y z A B C],.int .i64 0,.int .i64 0,.sl [],.int .i64 0,.int .i64 0]]:=by simp only[bL,aB.cells,E.cells,h4,h5,h6,h7,h9];rfl
  have d8:=jF (by rfl) i7 [.row true 16 0 (bf [[.int .u8 1,.sl [[.str (nm 99 (a+1))]],.str ⟨#[]⟩,.sl [],.bool false,.int .u8 D,.int .u8 F,.int .i32 G,.str H,.sl I,.sl J,.int .i64 0,.int .i64 0,.sl [],.int .i64 0,.int .i64 0],[.int .u8 1,.sl [[.str (nm 119 (a+2))]],.str ⟨#[]⟩,.sl [],.bool false,.int .u8 9,.int .u8 0,.int .i32 0,.str ⟨#[]⟩,.sl [],.sl [bU S T U sl al V,bU 7 3 0 ⟨#[]⟩ [] [bU 4 0 0 (nm 119 (a+2)) [] [],bU 12 0 0 (nm 99 (a+1)) [[.str cj]] [bU i j k l m n]]],.int .i64 0,.int .i64 0,.sl [],.int .i64 0,.int .i64 0],[.int .u8 1,.sl [[.str (nm 122 (a+3))]],.str ⟨#[]⟩,.sl [],.bool false,.int .u8 13,.int .u8 0,.int .i32 0,.str (nm 99 (a+1)),.sl [[.str bC],[.str cj],[.str c8]],.sl [bU 12 0 0 (nm 99 (a+1)) [[.str bC]] [bU o p t sb u w],bU 4 0 0 (nm 119 (a+2)) [] [],bU x y z A B C],.int .i64 0,.int .i64 0,.sl [],.int .i64 0,.int .i64 0]])];refine DT.drop 2 (auK _)<|DT.ob func84 W ntmps84 W<|dO [2,2,26] W<|Po (aq PR W W)<|dR [27] W<|Po (aE kV W W)<|dL [] W ?_;apply Ps bN
  ·intro N O;refine fR 1 W<|bg PX W W<|aW dP W W<|fR 7 W<|TF.nil ⟨by kernel_rfl,rfl⟩
  refine dO [2,38] W<|Po (aq QN W W)<|dR [39] W<|Po (aE dP W W)<|dL [] W ?_;apply Ps bN
  ·intro N O;refine fR 5 W<|aW dP W W<|bg TY W W<|fR 4 W<|TF.nil ⟨by kernel_rfl,rfl⟩
  refine dC [] W ?_;apply Ps bN
  ·intro N O;refine fR 5 W<|aW dP W W<|bg Xe W W<|fR 4 W<|TF.nil ⟨by kernel_rfl,rfl⟩
  refine dC [] W ?_;apply Ps bN
  ·intro N O;refine fR 8 W<|aW dP W W<|bg ZO W W<|fR 4 W<|TF.nil ⟨by kernel_rfl,rfl⟩
  refine dC [] W ?_;apply Ps bN
  ·intro N O;refine fR 1 W<|aW dP W W<|bg ah W W<|fR 4 W<|aW co W W<|aW d6 W W<|fR 2 W<|TF.nil ⟨by kernel_rfl,rfl⟩
  refine dO [2,84] W<|Po (aq ge W W)<|dR [85] W<|Po (aQ (avs.2 (by omega)) W W W W)<|dL [0] W ?_;apply Ps bN
  ·intro N O;refine fR 5 W<|aW kV W W<|bg d7 W W<|fR 11 W<|yg W W W W W W<|fR 1 W<|TF.nil ⟨by kernel_rfl,rfl⟩
  refine DC.mi 2 W<|Pz [nM 17 (.bH 2 0 3),(12,.loc 12 0),(11,.loc 11 0),(10,.loc 10 0),nD 5 (.bm s.cells 0),nN 3 P,nD 2 (.sl (aI outs)),nR 0 1] (GH v an main g9++ [.row true 16 0 (bf [[.int .u8 1,.sl [[.str (nm 99 (a+1))]],.str ⟨#[]⟩,.sl [],.bool false,.int .u8 D,.int .u8 F,.int .i32 G,.str H,.sl I,.sl J,.int .i64 0,.int .i64 0,.sl [],.int .i64 0,.int .i64 0],[.int .u8 1,.sl [[.str (nm 119 (a+2))]],.str ⟨#[]⟩,.sl [],.bool false,.int .u8 9,.int .u8 0,.int .i32 0,.str ⟨#[]⟩,.sl [],.sl [bU S T U sl al V,bU 7 3 0 ⟨#[]⟩ [] [bU 4 0 0 (nm 119 (a+2)) [] [],bU 12 0 0 (nm 99 (a+1)) [[.str cj]] [bU i j k l m n]]],.int .i64 0,.int .i64 0,.sl [],.int .i64 0,.int .i64 0],[.int .u8 1,.sl [[.str (nm 122 (a+3))]],.str ⟨#[]⟩,.sl [],.bool false,.int .u8 13,.int .u8 0,.int .i32 0,.str (nm 99 (a+1)),.sl [[.str bC],[.str cj],[.str c8]],.sl [bU 12 0 0 (nm 99 (a+1)) [[.str bC]] [bU o p t sb u w],bU 4 0 0 (nm 119 (a+2)) [] [],bU x y z A B C],.int .i64 0,.int .i64 0,.sl [],.int .i64 0,.int .i64 0]])]) W W<|dO [2,112] W<|Po (aE Vp W W)<|dR [115] W<|Po (aq d8 W W)<|dR [2,2,123] W<|Po (iL true W W W W (by rfl) (by simp) (by intro r R;simp only[auX,au3,avF]at R;rcases R with rfl|rfl|rfl<;>rfl) (by exact qn W))<|dR [2,126] W ?_
  refine Po (fU (cs:=bf [[.int .u8 1,.sl [[.str (nm 99 (a+1))]],.str ⟨#[]⟩,.sl [],.bool false,.int .u8 D,.int .u8 F,.int .i32 G,.str H,.sl I,.sl J,.int .i64 0,.int .i64 0,.sl [],.int .i64 0,.int .i64 0],[.int .u8 1,.sl [[.str (nm 119 (a+2))]],.str ⟨#[]⟩,.sl [],.bool false,.int .u8 9,.int .u8 0,.int .i32 0,.str ⟨#[]⟩,.sl [],.sl [bU S T U sl al V,bU 7 3 0 ⟨#[]⟩ [] [bU 4 0 0 (nm 119 (a+2)) [] [],bU 12 0 0 (nm 99 (a+1)) [[.str cj]] [bU i j k l m n]]],.int .i64 0,.int .i64 0,.sl [],.int .i64 0,.int .i64 0],[.int .u8 1,.sl [[.str (nm 122 (a+3))]],.str ⟨#[]⟩,.sl [],.bool false,.int .u8 13,.int .u8 0,.int .i32 0,.str (nm 99 (a+1)),.sl [[.str bC],[.str cj],[.str c8]],.sl [bU 12 0 0 (nm 99 (a+1)) [[.str bC]] [bU o p t sb u w],bU 4 0 0 (nm 119 (a+2)) [] [],bU x y z A B C],.int .i64 0,.int .i64 0,.sl [],.int .i64 0,.int .i64 0]]) W W W W W (fB d) (by rw[eC];omega) (by rw[eC];omega)) ?_;refine dR [129] W ?_;refine Po (fU (cs:=bf (aI (c9 99 (a+1) .fJ::⟨nm 119 (a+2),.int,some (cj,nm 99 (a+1)),false,.nil⟩::c9 122 (a+3) .int:: []))) W W W W W (cx h) (by rw[bD];simp only[au4,avt];omega) (by rw[bD];simp only[au4,avt];omega)) ?_;refine dL [] W ?_
  refine Pz [nM 8 (.bH 2 1 (3+(bL d).length)),nM 9 (.bH 3 1 (3+(aI h).length))] (GH v an main X++ [.row true 16 1 (bf ([.int .u8 1,.sl [[.str (nm 99 (a+1))]],.str ⟨#[]⟩,.sl [],.bool false,.int .u8 D,.int .u8 F,.int .i32 G,.str H,.sl I,.sl J,.int .i64 0,.int .i64 0,.sl [],.int .i64 0,.int .i64 0]:: [.int .u8 1,.sl [[.str (nm 119 (a+2))]],.str ⟨#[]⟩,.sl [],.bool false,.int .u8 9,.int .u8 0,.int .i32 0,.str ⟨#[]⟩,.sl [],.sl [bU S T U sl al V,bU 7 3 0 ⟨#[]⟩ [] [bU 4 0 0 (nm 119 (a+2)) [] [],bU 12 0 0 (nm 99 (a+1)) [[.str cj]] [bU i j k l m n]]],.int .i64 0,.int .i64 0,.sl [],.int .i64 0,.int .i64 0]:: [.int .u8 1,.sl [[.str (nm 122 (a+3))]],.str ⟨#[]⟩,.sl [],.bool false,.int .u8 13,.int .u8 0,.int .i32 0,.str (nm 99 (a+1)),.sl [[.str bC],[.str cj],[.str c8]],.sl [bU 12 0 0 (nm 99 (a+1)) [[.str bC]] [bU o p t sb u w],bU 4 0 0 (nm 119 (a+2)) [] [],bU x y z A B C],.int .i64 0,.int .i64 0,.sl [],.int .i64 0,.int .i64 0]::bL d)),.row true 15 1 (bf (aI (c9 99 (a+1) .fJ::⟨nm 119 (a+2),.int,some (cj,nm 99 (a+1)),false,.nil⟩::c9 122 (a+3) .int::h)))]) W W ?_
  have Zi:bL (.df (nm 99 (a+1)) e:: .df (nm 119 (a+2)) (.ga Q (.bin 3 (.var (nm 119 (a+2))) (.fI (nm 99 (a+1)) cj f))):: .df (nm 122 (a+3)) (.merge (nm 99 (a+1)) bC cj c8 (.fI (nm 99 (a+1)) bC b) (.var (nm 119 (a+2))) L)::d)= [.int .u8 1,.sl [[.str (nm 99 (a+1))]],.str ⟨#[]⟩,.sl [],.bool false,.int .u8 D,.int .u8 F,.int .i32 G,.str H,.sl I,.sl J,.int .i64 0,.int .i64 0,.sl [],.int .i64 0,.int .i64 0]:: [.int .u8 1,.sl [[.str (nm 119 (a+2))]],.str ⟨#[]⟩,.sl [],.bool false,.int .u8 9,.int .u8 0,.int .i32 0,.str ⟨#[]⟩,.sl [],.sl [bU S T U sl al V,bU 7 3 0 ⟨#[]⟩ [] [bU 4 0 0 (nm 119 (a+2)) [] [],bU 12 0 0 (nm 99 (a+1)) [[.str cj]] [bU i j k l m n]]],.int .i64 0,.int .i64 0,.sl [],.int .i64 0,.int .i64 0]:: [.int .u8 1,.sl [[.str (nm 122 (a+3))]],.str ⟨#[]⟩,.sl [],.bool false,.int .u8 13,.int .u8 0,.int .i32 0,.str (nm 99 (a+1)),.sl [[.str bC],[.str cj],[.str c8]],.sl [bU 12 0 0 (nm 99 (a+1)) [[.str bC]] [bU o p t sb u w],bU 4 0 0 (nm 119 (a+2)) [] [],bU x y z A B C],.int .i64 0,.int .i64 0,.sl [],.int .i64 0,.int .i64 0]::bL d:=by
   have Y:=jl (.df (nm 99 (a+1)) e:: .df (nm 119 (a+2)) (.ga Q (.bin 3 (.var (nm 119 (a+2))) (.fI (nm 99 (a+1)) cj f))):: .df (nm 122 (a+3)) (.merge (nm 99 (a+1)) bC cj c8 (.fI (nm 99 (a+1)) bC b) (.var (nm 119 (a+2))) L):: []) d;rw[Q1]at Y;exact Y
  refine DC.cw 8 W (lQ W (by simp only[au4];omega) (by simp) (by rw[<-Zi];exact fB _)) ?_;refine DC.cw 9 W (lQ W (by simp only[bD,au4];omega) (by simp[aI]) (cx _)) ?_;refine DC.ret ⟨_,W,qn W,jO W,p8 v an main X,.df (nm 99 (a+1)) e:: .df (nm 119 (a+2)) (.ga Q (.bin 3 (.var (nm 119 (a+2))) (.fI (nm 99 (a+1)) cj f))):: .df (nm 122 (a+3)) (.merge (nm 99 (a+1)) bC cj c8 (.fI (nm 99 (a+1)) bC b) (.var (nm 119 (a+2))) L)::d,c9 99 (a+1) .fJ::⟨nm 119 (a+2),.int,some (cj,nm 99 (a+1)),false,.nil⟩::c9 122 (a+3) .int::h,X,by rw[Zi];rfl,rfl,?_,by simp only[au4];omega,by simp only[au4];omega,⟨by have:=M.i;simp only;omega,M.le,by have:=M.n;simp only;omega,M.qQ,by simp only;omega,by have:=M.q1;simp only;omega⟩⟩;refine .mY f b L Q e _ Un R8 d9 f9 Rl (.inr W) ?_;have e2:a+3=g9.n:=by omega
  rw[e2];rw[e2]at SG;exact SG
end
end Go.Proofs
