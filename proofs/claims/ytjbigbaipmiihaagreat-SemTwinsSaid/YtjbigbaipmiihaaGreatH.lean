/- A part of the proof of the last text of this claim, without conditions. -/
import Derived.Test.YtjbigbaipmiihaaGreatG
set_option maxRecDepth 4000
set_option linter.all false
namespace Go.Sm
open Go.Mt
inductive CK:aW->Prop where
 |mk {vars:List Va} {au:List ay} (h0: ∀v∈vars,v.clock.length<=1000000) (h1: ∀q∈au,(q.kd=1\/q.kd=2\/q.kd=3\/q.kd=4\/q.kd=5)/\(q.kd=3\/q.kd=4\/q.kd=5->q.args= [])/\(q.kd=4->xP q.ex=0))
   (h2: ∀q∈au,∀a∈q.ah,CK a.cp) (h3: ∀q∈au,∀a∈q.ah,∀t:Tr,(t∈a.eT\/t∈a.eU)->je t.e/\xP t.e=0):CK (.mk vars au)
structure uU(P:Pg):Prop where
 d: ∀d∈P.nodes,CK d.b/\(∀v,v∈d.ins\/v∈d.outs->v.clock.length<=1000000)/\d.b.vars.length<=900000
def oH(c:aH)(d:Nd):Path->Nat->Prop
 | [],k=>k<bW d
 |j::σ,k=> ∃q p a,(c.fr σ).au[j]?=some q/\(c.fr σ).pos[j]?=some p/\q.ah[c.bN σ j]?=some a/\dx q p (c.bN σ j)<=k/\k<dx q p (c.bN σ j)+bP a.cp
structure Eh(c:aH)(d:Nd)(J:Path)(b:aW)(s:Nat):Prop where
 sm:tQ b
 wf:CK b
 df:iC b<=1000000
 au:(c.fr J).au=b.au
 pos:(c.fr J).pos=fy b.au (s+aR b.vars)
 eV:s+bP b<=bW d
 i1: ∀k,s<=k->k<s+bP b->oH c d J k
 i2: ∀k,oH c d J k->J≠ []->s<=k/\k<s+bP b
 t:J= []->b=d.b/\s=0
 f:J≠ []->c.fr J=Bh b s
structure sy(P:Pg)(c:aH)(d:Nd):Prop where
 dm:d∈P.nodes
 iG: ∀j J,c.ok (j::J)->c.ok J/\ ∃q,(c.fr J).au[j]?=some q/\(q.kd=3\/q.kd=4\/q.kd=5)
 vx:c.fr []=tq d
 bN: ∀J j q p,c.ok J->(c.fr J).au[j]?=some q->(c.fr J).pos[j]?=some p->(q.kd=3\/q.kd=4\/q.kd=5)-> ∃a,uE c J j q p a
section
variable{P:Pg}{n:Nat}{c:aH}{d:Nd}{u:US}{ins outs:List Int}{u':US}
theorem nW(b:sy P c d): ∀{τ ρ:Path},c.ok (τ++ρ)->c.ok ρ
 | [],_,a=>a
 |e::τ,ρ,a=>nW b (τ:=τ) (b.iG e (τ++ρ) a).1
theorem Ak{l:List ay}{s j:Nat}{q:ay}(h:l[j]?=some q): ∃p,(fy l s)[j]?=some p:=⟨_,uS h⟩
theorem gX.k_(e:gX P (fT P n) c d u ins outs u'):sy P c d:=by
 refine⟨aqk e.nd,e.iG,e.vx,λg h i j k l m r=> ?_⟩;cases (e.eq g h i j k l m).1 with
 |df f=>omega
 |call f=>omega
 |sw f o a b=>exact⟨a,b⟩
 |aL f s p t v w q x y a b=>exact⟨a,b⟩
 |reset f o a b=>exact⟨a,b⟩
theorem Kj{J:Path}{j:Nat}{q:ay}{p:Nat}(b:sy P c d)(e:c.ok J)(f:(c.fr J).au[j]?=some q)(g:(c.fr J).pos[j]?=some p)(h:q.kd=3\/q.kd=4\/q.kd=5): ∃a,uE c J j q p a:=b.bN J j q p e f g h
theorem q_{J:Path}{b:aW}{s j p:Nat}{q:ay}(h:Eh c d J b s)(a:(c.fr J).au[j]?=some q)(e:(c.fr J).pos[j]?=some p):s+aR b.vars<=p/\p+qP q<=s+bP b:=by
 rw[h.au]at a;rw[h.pos]at e;have:=Gq e a;have:=vu b;omega
theorem mI{J:Path}{b:aW}{s j p e m:Nat}{q:ay}(h:Eh c d J b s)(n:(c.fr J).au[j]?=some q)(o:(c.fr J).pos[j]?=some p)(f:(c.fr J).pos[e]?=some m)(w:j<e):p+qP q<=m:=by
 rw[h.au]at n;rw[h.pos]at o f;have r:e<b.au.length:=by
  rcases aqh e b.au.length with g|g
  ·exact g
  ·rw[aqj (by rw[vB];exact g)]at f;cases f
 have t:j<b.au.length:=by omega
 have i:=uS (a:=s+aR b.vars) n;rw[o]at i;injection i with i
 have k:=uS (a:=s+aR b.vars) (aqi r);rw[f]at k;injection k with k
 have u:=(fD qP (l:=b.au) t).1;have v:b.au[j]=q:=by grind
 rw[v]at u;have x:aP ((b.au.take (j+1)).map qP)<=aP ((b.au.take e).map qP):=by
  have:(b.au.take (j+1))=(b.au.take e).take (j+1):=by grind
  rw[this,asN];exact tP _ _
 omega
theorem Ip{b:aW}(h:CK b){q:ay}(c:q∈b.au):(q.kd=1\/q.kd=2\/q.kd=3\/q.kd=4\/q.kd=5)/\(q.kd=3\/q.kd=4\/q.kd=5->q.args= [])/\(q.kd=4->xP q.ex=0)/\(∀a∈q.ah,CK a.cp)/\ ∀a∈q.ah,∀t:Tr,(t∈a.eT\/t∈a.eU)->je t.e/\xP t.e=0:=by
 cases h with
 |mk g d e f=>exact⟨(d q c).1,(d q c).2.1,(d q c).2.2,e q c,f q c⟩
theorem shape(y:pb P)(A:uU P)(m:sy P c d): ∀J,c.ok J-> ∃b s,Eh c d J b s:=by
 have t:=m.dm;intro J
 induction J with
 |nil=>
  intro _;have e:=m.vx;refine⟨d.b,0,(y.d d t).1,(A.d d t).1,(y.i d t).2,by rw[e];rfl,by rw[e];simp[tq],by unfold bW;omega,λk _ n=> ?_,λk _ u=>absurd W u,λ_=>⟨rfl,rfl⟩,λu=>absurd W u⟩;show k<bW d;unfold bW;omega
 |cons r J B=>
  intro C;obtain⟨z,l,f,n⟩:=m.iG r J C;obtain⟨b,s,a⟩:=B z;obtain⟨p,o⟩: ∃p,(c.fr J).pos[r]?=some p:=by rw[a.pos];rw[a.au]at f;exact Ak f
  obtain⟨j,g⟩:=Kj m z f o n;have v:l∈b.au:=by rw[<-a.au];exact aqk f
  have w:=aqk g.ha;have x:=Ip a.wf v;have I:=zV (p:=p) g.ha n x.2.2.1 (x.2.1 n);have Q:=q_ a f o;have H:tQ j.cp:=by
   have:=a.sm;cases this with
   |mk K L D=>exact D l v j w
  refine⟨j.cp,dx l p (c.bN J r),H,x.2.2.2.1 j w,?_,by rw[g.fr];rfl,by rw[g.fr];rfl,by have:=a.eV;omega,λk h i=>⟨l,p,j,f,o,g.ha,h,i⟩,λk E _=> ?_,λe=>(by cases e),λ_=>g.fr⟩
  ·have:=a.df;have h:=Go.Proofs.Sz.uL v;have i:=Go.Proofs.Sz.s9 w;omega
  ·obtain⟨M,N,O,h,i,q,F,G⟩:=E;rw[f]at h;injection h with h;subst h
   rw[o]at i;injection i with i;subst i
   rw[g.ha]at q;injection q with q;subst q
   exact⟨F,G⟩
theorem child(m:pb P)(n:uU P)(i:sy P c d){j:Nat}{σ:Path}(o:c.ok (j::σ)){k:Nat}(r:oH c d (j::σ) k):oH c d σ k/\ ∃q p,(c.fr σ).au[j]?=some q/\(c.fr σ).pos[j]?=some p/\(q.kd=3\/q.kd=4\/q.kd=5)/\q.args= []/\p+ij q.kd+xP q.ex<=k/\k<p+qP q:=by
 obtain⟨s,q,a,g⟩:=i.iG j σ o;obtain⟨b,u,e⟩:=shape m n i σ s;obtain⟨w,p,v,f,l,t,x,y⟩:=r;rw[a]at f;injection f with f;subst f
 have h:=Ip e.wf (by rw[<-e.au];exact aqk a);have z:=zV (p:=p) t g h.2.2.1 (h.2.1 g);have A:=q_ e a l;exact⟨e.i1 k (by omega) (by omega),q,p,a,l,g,h.2.1 g,by omega,by omega⟩
theorem deep(e:pb P)(f:uU P)(b:sy P c d): ∀{τ:Path} {j:Nat} {σ:Path},c.ok (τ++(j::σ))-> ∀{k:Nat},oH c d (τ++(j::σ)) k->oH c d (j::σ) k
 | [],_,_,_,_,a=>a
 |h::τ,j,σ,g,_,a=>deep e f b (τ:=τ) (b.iG h _ g).1 (child e f b g a).1
def lx(c:aH)(d:Nd)(J:Path)(k:Nat):Prop:=oH c d J k/\ ∀j,c.ok (j::J)-> ¬oH c d (j::J) k
theorem CL(h:pb P)(i:uU P)(a:sy P c d){J:Path}{k:Nat}(A:c.ok J)(B:oH c d J k): ∀ρ,c.ok ρ->oH c d ρ k->(∃τ,J=τ++ρ)\/ ∃τ j,ρ=τ++(j::J):=by
 intro ρ
 induction ρ with
 |nil=>intro _ _;exact .inl ⟨J,by simp⟩
 |cons j f r=>
  intro m s;obtain⟨t,x,y,u,o,_,_,C,D⟩:=child h i a m s;rcases r (a.iG j f m).1 t with⟨τ,e⟩|⟨τ,g,e⟩
  ·rcases as0 τ with rfl|⟨n,g,rfl⟩
   ·simp only[aqK]at e;exact .inr ⟨[],j,by rw[e];rfl⟩
   ·have E:J=n++(g::f):=by rw[e];simp
    have w:oH c d (g::f) k:=deep h i a (τ:=n) (by grind) (by grind);obtain⟨_,F,G,v,p,_,_,H,I⟩:=child h i a (nW a (τ:=n) (by grind)) w;obtain⟨b,z,q⟩:=shape h i a f (a.iG j f m).1;rcases arx g j with l|l|l
    ·have:=mI q v p o l;omega
    ·grind
    ·have:=mI q u o p l;omega
  ·grind
theorem lx.own(j:pb P)(l:uU P)(b:sy P c d){J:Path}{k:Nat}(u:c.ok J)(h:lx c d J k):Go.Proofs.Sz.wC c J k:=by
 intro s t f g i v m n x o p q;rcases CL j l b u h.1 (s::t) v ⟨f,g,i,m,n,o,p,q⟩with⟨τ,e⟩|⟨τ,a,e⟩
 ·grind
 ·have w:oH c d (τ++(a::J)) k:=by rw[<-e];exact⟨f,g,i,m,n,o,p,q⟩
  have r:c.ok (τ++(a::J)):=by grind
  exact absurd (deep j l b r w) (h.2 a (nW b (τ:=τ) r))
theorem lx.same(l:pb P)(m:uU P)(i:sy P c d){J a:Path}{k:Nat}(g:c.ok J)(b:c.ok a)(h:lx c d J k)(f:lx c d a k):a=J:=by
 have n: ∀{J a:Path},c.ok J->c.ok a->lx c d J k->lx c d a k-> ∃τ,J=τ++a:=by
  intro J a g b h f;rcases CL l m i g h.1 a b f.1 with p|⟨τ,o,e⟩
  ·exact p
  ·exact absurd (deep l m i (by rw[<-e];exact b) (by rw[<-e];exact f.1)) (h.2 o (nW i (τ:=τ) (by rw[<-e];exact b)))
 obtain⟨τ,e⟩:=n g b h f;obtain⟨q,j⟩:=n b g f h;have r:=arI List.length e;have s:=arI List.length j;simp only[aqg]at r s;have:q= []:=aq4 (by omega);rw[this]at j;exact j
theorem pz(l:pb P)(m:uU P)(n:sy P c d){J:Path}{j p k:Nat}{q:ay}(r:c.ok J)(i:(c.fr J).au[j]?=some q)(g:(c.fr J).pos[j]?=some p)(x:p<=k)(s:k<p+(ij q.kd+xP q.ex+aP (q.args.map xP))):lx c d J k:=by
 obtain⟨b,w,h⟩:=shape l m n J r;have E:=q_ h i g;have y:=jt q;refine⟨h.i1 k (by omega) (by omega),λo t u=> ?_⟩;obtain⟨_,z,A,e,a,B,v,C,D⟩:=child l m n t u;rcases arx o j with f|f|f
 ·have:=mI h e a g f;omega
 ·subst f;rw[i]at e;injection e with e;subst e
  rw[g]at a;injection a with a;subst a
  rw[v]at s;have:aP (([]:List Xp).map xP)=0:=rfl;omega
 ·have:=mI h i g a f;omega
theorem j4(l:pb P)(m:uU P)(h:sy P c d){J:Path}{i k:Nat}(u:c.ok J)(a:(c.fr J).db[i]?=some (some k)):lx c d J k/\k<bW d:=by
 obtain⟨b,s,f⟩:=shape l m h J u;have B:=vu b;have A:(s<=k/\k<s+aR b.vars)\/(J= []/\bP d.b<=k/\k<bW d):=by
  by_cases e:J= []
  ·obtain⟨j,g⟩:=f.t e;subst e;rw[h.vx]at a;simp only[tq]at a;rcases aqh i d.ins.length with v|v
   ·grind
   ·rcases aqh i (d.ins.length+d.outs.length)with n|n
    ·rw[aqD,aqm (by simp;omega),arL,aqf (by rw[ey];omega)]at a;have:=fq a;exact .inr ⟨rfl,this.1,by unfold bW;omega⟩
    ·rw[aqm (by simp[ey];omega)]at a;have:=fq a;rw[j,g];exact .inl (by omega)
  ·rw[f.f e]at a;have:=fq a;exact .inl (by omega)
 rcases A with⟨j,g⟩|⟨rfl,j,g⟩
 ·refine⟨⟨f.i1 k j (by omega),λt o p=> ?_⟩,by have:=f.eV;omega⟩;obtain⟨_,w,x,q,r,_,_,n,y⟩:=child l m h o p;have:=q_ f q r;omega
 ·refine⟨⟨g,λt o p=> ?_⟩,g⟩;obtain⟨_,w,x,q,r,_,_,n,y⟩:=child l m h o p;have:=q_ f q r;obtain⟨z,C⟩:=f.t W;subst z;omega
end
end Go.Sm
namespace Go.Proofs.Sz
open Go.Mt Go.Sm Go.Proofs
section
variable{P:Pg}{n:Nat}{c:aH}{d:Nd}{u:US}{X Y Z:aq}{H K L:Hp}
theorem mX.of{ins outs:List Int}{u':US}(x:pb P)(y:uU P)(k:gX P (fT P n) c d u ins outs u'):mX P n c d u:=by
 have V:=aqk k.nd;have Xm:=x.d d V;have YY:=x.i d V;have d6:=y.d d V;have B:=Go.Sm.shape x y k.k_;have ac:(c.fr []).vars=d.ins++d.outs++d.b.vars:=by rw[k.vx];rfl
 have d7:(c.fr []).db=List.replicate d.ins.length none++cm d.outs (bP d.b)++cm d.b.vars 0:=by rw[k.vx];rfl
 have S: ∀a b p,Eh c d a b p->a≠ []->(c.fr a).vars=b.vars/\(c.fr a).db=cm b.vars p:= λa b p h e=>by rw[h.f e];exact⟨rfl,rfl⟩
 have f4:bW d<=900000000:=by
  have r:aR d.outs<=d.outs.length:=by unfold aR;exact arM _ _
  unfold bW;omega
 have T: ∀{a o},c.ok a->lx c d a o->wC c a o:= λf h=>h.own x y k.k_ f
 have X: ∀{t:aq} {a o},Pu P c d u t->t.fs a=2->wC c a o->(t.ER c o↔fE c o):=by
  intro t a o l z G;constructor
  ·rintro⟨w,m,i,g,E,r,s,A,H,O⟩;exact⟨w,m,i,g,E,(k.iG m w (l.fp m w (by rw[r];decide)).2).1,s,A,H,O⟩
  ·rintro⟨σ,m,i,g,E,r,s,A,H,O,h6,h7,h8⟩;obtain⟨a',L⟩:=Kj k.k_ r s A H;obtain⟨τ,e⟩:=G m σ i g E L.ok s A H h6 h7 h8;exact⟨σ,m,i,g,E,uO l (τ:=τ) (by rw[<-e];exact z),s,A,H,O,h6,h7,h8⟩
 have d8:=k.Gi;have co: ∀{t:aq} {a},Pu P c d u t->t.fs a=2->c.ok a:=by
  intro t a l z;cases a with
  |nil=>exact d8
  |cons m a=>exact(l.fp m a (by rw[z];decide)).2
 have YR: ∀(a:Path) (m:Nat) (i:ay) (w:Path) (F:Nat) (I:ay) (g:Nat),c.ok a->c.ok w->(c.fr a).au[m]?=some i->(c.fr w).au[F]?=some I->i.kd=2->I.kd=2->(c.fr a).pos[m]?=some g->(c.fr w).pos[F]?=some g->w=a/\F=m:=by
  intro a m i w F I g f Tn q MO C Nw l Y;have o1:ij i.kd=1:=by rw[C];rfl
  have o2:ij I.kd=1:=by rw[Nw];rfl
  have r:=pz x y k.k_ f q l (aqd g) (by omega);have s:=pz x y k.k_ Tn MO Y (aqd g) (by omega);have e:=r.same x y k.k_ f Tn s;subst e;obtain⟨b,p,j⟩:=B w f;have e1:=jt i;have e2:=jt I;refine⟨rfl,?_⟩;rcases arx m F with M|M|M
  ·have:=mI j q l Y M;omega
  ·exact M.symm
  ·have:=mI j MO Y l M;omega
 refine{en:=x.e,sz:= λa=> ?_,zq:=k.sz,cl:= λa o v f U=> ?_,H_:=f4,rd:= λt l a o z G C=> ?_,Gi:=d8,lo:= λa o i f h=>T f (j4 x y k.k_ f h).1,gh:=k.gh,Bu:= λa m i f q=> ?_,Jy:= λa=> ?_,iZ:= λa m i f q E L d9 ht=> ?_,pq:= λa m i g f q l=> ?_,oq:= λa m i g f q l o r s=>T f (pz x y k.k_ f q l r s),KU:= λa o i f h=>(j4 x y k.k_ f h).2,rs:= λt l a m i g z q C N hd=> ?_,rp:= λt l a m i g z q C N=> ?_,lh:=k.lh,LP:= λa R lp f h=> ?_,LQ:= λR o h=> ?_,inj:=YR}
 ·by_cases f:c.ok a
  ·obtain⟨b,p,j⟩:=B a f;by_cases e:a= []
   ·subst e;rw[ac];simp only[aqg];have:=d6.2.2;omega
   ·rw[(S a b p j e).1];have:=j.sm;cases this with
    |mk Z=>exact Z
  ·rw[(k.zm a f).1];simp
 ·obtain⟨b,p,j⟩:=B a f;have N9: ∀v∈b.vars,v.clock.length<=1000000:=by
   have:=j.wf;cases this with
   |mk g0=>exact g0
  by_cases e:a= []
  ·obtain⟨r,_⟩:=j.t e;subst e;rw[ac]at U;rcases aql.1 (aqk U)with s|s
   ·exact d6.2.1 v (aql.1 s)
   ·exact N9 v (by rw[r];exact s)
  ·rw[(S a b p j e).1]at U;exact N9 v (aqk U)
 ·have e:=X l z G;have SJ:o<c.sz:=by rw[k.sz];exact C
  by_cases h:t.ER c o
  ·rw[(l.xm o C).1 h,(k.rd o SJ).1 (e.1 h)]
  ·rw[(l.xm o C).2 h,(k.rd o SJ).2 (λJ=>h (e.2 J))]
 ·obtain⟨b,p,j⟩:=B a f;have D:i∈b.au:=by rw[<-j.au];exact aqk q
  have Pp:=j.df;have r:=uL D;have N7:=j.sm;cases N7 with
  |mk Z g2 g3 g4 g5 g6 g7=>exact⟨(g5 i D).1,(g5 i D).2.1,(g5 i D).2.2,g4 i D,λE L=>⟨g3 i D E L,g7 i D E L⟩,g6 i D,by omega⟩
 ·by_cases f:c.ok a
  ·obtain⟨b,p,j⟩:=B a f;rw[j.au];have:=j.sm;cases this with
   |mk Z g2=>exact g2
  ·rw[(k.zm a f).2];simp
 ·obtain⟨b,p,j⟩:=B a f;have D:i∈b.au:=by rw[<-j.au];exact aqk q
  exact(Ip j.wf D).2.2.2.2 E L d9 ht
 ·obtain⟨b,p,j⟩:=B a f;have:=q_ j q l;have:=j.eV;omega
 ·have f:=co l z;have o1:ij i.kd=1:=by rw[C];rfl
  have G:=pz x y k.k_ f q N (aqd g) (by omega);have e:=X l z (T f G);obtain⟨b,p,j⟩:=B a f;have f7:=q_ j q N;have Wm:=jt i;have K:g<bW d:=by have:=j.eV;omega
  have Q:g<c.sz:=by rw[k.sz];exact K
  have M9: ∀w F,¬t.DC c g w F:=by
   rintro w F ⟨r,s,I,A,H,O⟩;obtain⟨e1,e2⟩:=YR a m i w F I g f (co l r) q A C H N O;subst e1;subst e2;rw[hd]at s;cases s
  by_cases h:t.ER c g/\(iM P.aI d)[g]?=some none
  ·rw[(l.xs g K M9).1 h.1 h.2,(k.rs g Q).1 (e.1 h.1) h.2]
  ·rw[(l.xs g K M9).2 h,(k.rs g Q).2 (λJ=>h ⟨e.2 J.1,J.2⟩)]
 ·have f:=co l z;have o1:ij i.kd=1:=by rw[C];rfl
  have G:=pz x y k.k_ f q N (aqd g) (by omega);have e:=X l z (T f G);obtain⟨b,p,j⟩:=B a f;have f7:=q_ j q N;have Wm:=jt i;have K:g<bW d:=by have:=j.eV;omega
  have Q:g<c.sz:=by rw[k.sz];exact K
  by_cases h:t.ER c g/\(iM P.aI d)[g]?=some none
  ·rw[(l.xp g K).1 h.1 h.2,(k.rp g Q).1 (e.1 h.1) h.2]
  ·rw[(l.xp g K).2 h,(k.rp g Q).2 (λJ=>h ⟨e.2 J.1,J.2⟩)]
 ·obtain⟨b,p,j⟩:=B a f;have M:(c.fr a).db.length=(c.fr a).vars.length:=by
   by_cases e:a= []
   ·subst e;rw[ac,d7];simp[ey]
   ·rw[(S a b p j e).1,(S a b p j e).2,ey]
  have hi:R<(c.fr a).vars.length:=by
   rcases aqh R (c.fr a).db.length with r|r
   ·omega
   ·rw[aqj r]at h;cases h
  exact⟨_,aqi hi⟩
 ·rw[d7]at h;rcases aqh R d.ins.length with A|A
  ·rw[aqD,aqf (by simp;omega)]at h;simp[A]at h
  ·exact A
theorem CM(b:pb P)(e:uU P): ∀n,qh P n
 |0=> λg m o j k h i a=>a.elim
 |n+1=> λg m o j k h i a l=>by
  obtain⟨c,d,f⟩:=a;exact Io (mX.of b e f) b f (CM b e n) l
end
end Go.Proofs.Sz
namespace Go.Sm
open Go.Mt
def la(en:List En):List Va->List Int->Bool
 | [],[]=>true
 |v::l,x::xs=>kZ v.tk (((eM en v.tk v.tn).length:Nat):Int) x&&la en l xs
 |_,_=>false
def oW(n:Int):Prop:= -2147483648<=n/\n<=2147483647
theorem yl{en:List En} : ∀{l:List Va} {xs:List Int},la en l xs=true->xs.length=l.length
 | [],[],_=>rfl
 | [],_::_,a=>by simp[la]at a
 |_::_,[],a=>by simp[la]at a
 |v::l,b::xs,a=>by
  simp only[la,aqB]at a;simp[yl a.2]
theorem sC{en:List En} : ∀{l:List Va} {xs:List Int},xs.length=l.length->(la en l xs=true↔ ∀(i:Nat) (v:Va) (x:Int),l[i]?=some v->xs[i]?=some x->kZ v.tk (((eM en v.tk v.tn).length:Nat):Int) x=true)
 | [],[],_=>⟨λ_ i v x a=>(by cases a),λ_=>rfl⟩
 |v::l,x::xs,e=>by
  have d:=sC (en:=en) (l:=l) (xs:=xs) (by grind);simp only[la,aqB];constructor
  ·grind
  ·intro a;exact⟨a 0 v x W W,d.2 λi b c f g=>a (i+1) b c (by grind) (by grind)⟩
end Go.Sm
namespace Go.Proofs.Sz
open Go.Mt Go.Sm Go.Proofs
section
variable{P:Pg}{n:Nat}{d:Nd}{u:US}{H K L:Hp}
theorem Nd.aA(d:Nd):d.cells= [.str d.name,.sl (aC d.ins),.sl (aC d.outs),.sl (aC d.b.vars),.sl (d.b.au.map ay.cells),.int .i64 d.ps.1,.int .i64 d.ps.2]:=rfl
theorem GZ(H:qd P.aI)(d:Nd)(L:d.ins.length<=1000)(xs:List Int)(l: ∀b∈xs,oW b):PT Tryz.prog 19 [.agg P.cells,.agg d.cells,.sl (bI xs)] (·= [.int .i64 (if la P.aI d.ins xs then 0 else 7)]):=by
 have E:(bI xs).length=xs.length:=by simp[bI]
 rw[Nd.aA];refine MP (CT.ob Tryz.func19 W Tryz.ntmps19 W λN O=> ?_);refine tC [2] W ?_;by_cases m:xs.length=d.ins.length;rotate_left
 ·have n:((((bI xs).length:Nat):Int) !=(((aC d.ins).length:Nat):Int))=true:=by rw[E,show(aC d.ins).length=d.ins.length by simp[aC]];simp;omega
  have f:la P.aI d.ins xs=false:=by
   cases e:la P.aI d.ins xs with
   |false=>rfl
   |true=>exact absurd (yl e) m
  rw[f];refine tO [2,18] W<|aN n W W W W<|tL [1,2] W<|TC.ret ⟨_,rfl,[_],rfl,rfl⟩
 have n:((((bI xs).length:Nat):Int) !=(((aC d.ins).length:Nat):Int))=false:=by rw[E,show(aC d.ins).length=d.ins.length by simp[aC]];simp;omega
 refine tO [2,18] W<|aN n W W W W<|tR [0,2,21] W<|bH W W W ?_;rw[show(aC d.ins).length=d.ins.length by simp[aC]];refine tL [3] W<|TC.lp (λw x=> ∃(a:Nat) (y:List (Nat×List M)),x=⟨[nN 18 a,nN 17 d.ins.length,nD 16 (.sl (aC d.ins)),nD 3 (.aZ P.cells 0),nD 2 (.sl (bI xs))],y,[]⟩/\a<=d.ins.length/\w=d.ins.length-a/\ ∀(c:Nat) (v:Va) (b:Int),c<a->d.ins[c]?=some v->xs[c]?=some b->kZ v.tk (((eM P.aI v.tk v.tn).length:Nat):Int) b=true) d.ins.length _
  ⟨0,_,rfl,by omega,rfl,λc v b K=>by omega⟩ W ?_
 rintro w x ⟨a,y,rfl,Q,rfl,z⟩;refine tC [2] W<|TC.cond W (λA=> ?_) (λA=> ?_)
 ·have B:a<d.ins.length:=by grind
  have o:=aqi B;have p:=dM B;generalize d.ins[a]=v at o p;rw[show v.cells= [.str v.name,.int .u8 v.tk,.str v.tn,.sl (rX v.clock),.bool v.last]++v.first.cells++ [.int .i64 v.ps.1,.int .i64 v.ps.2]from rfl,Xp.aA]at p;have q:a<xs.length:=by omega
  have r:=aqi q;have s:(bI xs)[((a:Nat):Int).toNat]?=some [.int .i32 xs[a]]:=by simp[bI,q]
  have C:=l xs[a] (aqz q);generalize xs[a]=b at r s C;have D:=vD H v.tk v.tn;have g:=HV v.tk (((eM P.aI v.tk v.tn).length:Nat):Int) b v.tn C;refine tO [3,2,25] W<|aK W W W (aqe a) p W<|tL [] W ?_;have t:(dq (eM P.aI v.tk v.tn)).length=(eM P.aI v.tk v.tn).length:=by simp[dq]
  rw[<-t]at g;cases k:kZ v.tk (((eM P.aI v.tk v.tn).length:Nat):Int) b with
  |true=>
   have h:=k;rw[<-t]at h;rw[h]at g;refine tC [] W<|TC.draw bT<|fR 6 W<|aS D W W<|fR 3 W<|bK W W W (aqe a) s W<|fR 1 W<|aS g W W<|fR 1 W<|TF.nil ⟨by kernel_rfl,?_⟩;refine tO [0,2,41] W<|ax W W W (by omega)<|tL [] W<|again (k':=d.ins.length-(a+1)) (by omega) ⟨a+1,_,rfl,by omega,rfl,λc F G I i j=> ?_⟩ W W;rcases aq0.1 I with u|u
   ·exact z c F G u i j
   ·subst u;rw[o]at i;injection i with i;subst i
    rw[r]at j;injection j with j;subst j
    exact k
  |false=>
   have h:=k;rw[<-t]at h;rw[h]at g;have f:la P.aI d.ins xs=false:=by
    cases e:la P.aI d.ins xs with
    |false=>rfl
    |true=>rw[(sC m).1 e a v b o r]at k;cases k
   rw[f];refine tC [] W<|TC.draw bT<|fR 6 W<|aS D W W<|fR 3 W<|bK W W W (aqe a) s W<|fR 1 W<|aS g W W<|fR 1 W<|TF.nil ⟨by kernel_rfl,?_⟩;refine tC [1,2] W<|TC.ret ⟨_,rfl,[_],rfl,rfl⟩
 ·have e:a=d.ins.length:=by have:=aqA A;omega
  have f:=(sC m).2 λc v b J l=>z c v b (by
   grind) J l
  rw[f];refine TC.exit<|tC [2] W<|TC.ret ⟨_,rfl,[_],rfl,rfl⟩
end
section
variable{P:Pg}{n:Nat}{d:Nd}{u:US}{H K L:Hp}
structure m_(P:Pg)(n:Nat)(u:US)(im:Nat)(F:Nat->Prop)(H:Hp):Prop where
 self:F im
 iu: ∃iu G,H[im]?=some (.box [.ref iu 0])/\iq P n u iu G H/\(∀a,F a↔a=im\/G a)/\ ¬G im
theorem m_.lt{b:Nat}{F:Nat->Prop}(h:m_ P n u b F H): ∀a,F a->a<H.length:=by
 obtain⟨j,i,c,d,e,k⟩:=h.iu;intro a f;rcases(e a).1 f with rfl|g
 ·exact lr c
 ·exact d.lt a g
theorem m_.frame{b:Nat}{F:Nat->Prop}(h:m_ P n u b F H)(c: ∀a,F a->K[a]?=H[a]?)(f:H.length<=K.length):m_ P n u b F K:=by
 obtain⟨g,e,i,j,d,k⟩:=h.iu;exact⟨h.self,g,e,(c b h.self).trans i,j.frame (λa l=>c a ((d a).2 (.inr l))) f,d,k⟩
theorem Ei{iu:Nat}{F:Nat->Prop}(h:iq P n u iu F H): ∃d a b c,P.nodes[u.i]?=some d/\H[iu]?=some (.box (oP P d a b c)):=by
 cases n with
 |zero=>exact h.elim
 |succ n=>obtain⟨d,l,a,b,c,g,e,i,j,k,f,_⟩:=h;exact⟨d,a,b,c,e,f⟩
structure Iq(F:Nat->Prop)(H:Hp)(F':Nat->Prop)(K:Hp):Prop where
 len:H.length<=K.length
 o: ∀a,a<H.length-> ¬F a->K[a]?=H[a]?
 f: ∀a,F' a->F a\/H.length<=a
theorem wL(g:pb P)(l:1<=n)(x:Nm)(i:Nat)(c:lK P.nodes x=some i)(H:Hp):
  DT Tryz.prog 11 [.d (.agg P.cells),.d (.str x)] H λm K=> ∃h F,m= .cZ [.ref h 0,.d (.int .i64 0)]/\m_ P n (US.init P i) h F K/\Iq (λ_=>False) H F K:=by
 obtain⟨d,o,_⟩:=ww c;have b:=uI P x g.n;rw[c]at b;obtain⟨r,j,⟨p,F,rfl,e,s,u,t⟩,q⟩:=z9 P g x i c d o H;have b:PT Tryz.prog 25 [.agg P.cells,.str x] (·= [iN i]):=b;refine DT.ob Tryz.func11 W Tryz.ntmps11 W<|dO [2,2,12] W<|Mu (aJ b W W)<|dR [13] W<|Mu (aN (aqR (by omega)) W W W W)<|dR [0,2,16] W<|Mu (ap q W W)<|dR [17] W<|Mu (jT W W W W W)<|dR [18] W<|Mu (cA W W W)<|dL [] W ?_;refine DC.ret ⟨_,rfl,j.length,λa=>a=j.length\/F a,rfl,⟨.inl W,p,F,by simp,(iq.Ki e l).frame (λa f=>aqf (e.lt a f)) (by simp),λa=>ari,λk=>by have:=e.lt _ k;omega⟩,by simp;omega,λa f _=> ?_,λa f=> .inr ?_⟩
 ·grind
 ·grind
theorem Al(g:pb P)(v:uU P){c:Nat}{F:Nat->Prop}{xs outs:List Int}{u':US}(w:m_ P n u c F H)(x: ∀s∈xs,oW s){d:Nd}(i:P.nodes[u.i]?=some d)(y:la P.aI d.ins xs=true)(z:fT P n u xs outs u'):
  DT Tryz.prog 15 [.ref c 0,.d (.sl (bI xs))] H λm K=>m= .cZ [.d (.sl (bI outs)),.d (.int .i64 0)]/\ ∃j,m_ P n u' c j K/\Iq F H j K:=by
 obtain⟨k,t,b,l,A,B⟩:=w.iu;obtain⟨I,J,L,M,e,o⟩:=Ei l;rw[i]at e;injection e with e
 subst e;have f:=GZ g.e d (g.i d (aqk i)).1 xs x;rw[y]at f;simp only[arR]at f;rw[Nd.aA]at f;obtain⟨N,O,⟨rfl,p,E,S,C,q⟩,D⟩:=CM g v n u xs outs u' k t H z l;refine DT.ob Tryz.func15 W Tryz.ntmps15 W<|dO [2,2,14] W<|Mu (lG (by kernel_rfl) W W W W W)<|dR [19] W ?_
 first|refine Mu (aE W W) ?_|(refine Mu (aB W) ?_;refine Mu (aw W W b W) ?_)
 refine dR [20] W ?_
 first|refine Mu (aE W W) ?_|(refine Mu (aB W) ?_;refine Mu (lG (by kernel_rfl) W W W W W) ?_)
 refine dL [0] W ?_;apply Mz bT
 ·intro Q R;refine fR 3 W<|av W W b W<|fR 2 W<|fg W W o W W<|fR 3 W<|av W W b W<|fR 2 W<|fg W W o W W<|fR 1 W<|aS f W W<|fR 1 W<|TF.nil ⟨by kernel_rfl,rfl⟩
 refine dO [2,0,2,45] W<|Mu (aw W W b W)<|dR [47] W<|Mu (ap D W W)<|dL [2,0,2] W ?_;refine DC.ret ⟨_,rfl,rfl,λa=>a=c\/p a,⟨.inl W,k,p,(q c (lr b) B).trans b,E,λa=>ari,λh=> ?_⟩,C,λa r G=>q a r (λh=>G ((A a).2 (.inr h))),λa r=> ?_⟩
 ·grind
 ·grind
end
end Go.Proofs.Sz
namespace Go.Mk
open Go.Mt
abbrev Nm:=ByteArray
inductive Ty where
 |bool|int|eO
 deriving DecidableEq
abbrev nL:Nm:=⟨#[99,111,108]⟩
def Ty.kind:Ty->Int
 | .bool=>1| .int=>2| .eO=>3
def Ty.nm:Ty->Nm
 | .bool=>⟨#[]⟩| .int=>⟨#[]⟩| .eO=>nL
abbrev Ty.cells(t:Ty):List D:=[.int .u8 t.kind,.str t.nm]
abbrev bZ:Nm:=⟨#[82,101,100]⟩
abbrev bu:Nm:=⟨#[71,114,101,101,110]⟩
abbrev cQ:Nm:=⟨#[66,108,117,101]⟩
inductive E where
 |nil
 |int (n:Int)|bool (n:Int)|ctor (s:Nm)|var (s:Nm)|last (s:Nm)
 |un (op:Int) (a:E)|bin (op:Int) (a b:E)|ite (a b c:E)
 |fA (a b:E)|pre (a:E)|arrow (a b:E)
 |e_ (x c:Nm) (a:E)|merge (x c1 c2 c3:Nm) (a b c:E)
abbrev bO(k op n:Int)(s:Nm)(names kids:List (List D)):List D:=[.int .u8 k,.int .u8 op,.int .i32 n,.str s,.sl names,.sl kids,.int .i64 0,.int .i64 0]
def E.cells:E->List D
 | .nil=>bO 0 0 0 ⟨#[]⟩ [] []
 | .int n=>bO 1 0 n ⟨#[]⟩ [] []
 | .bool n=>bO 2 0 n ⟨#[]⟩ [] []
 | .ctor s=>bO 3 0 0 s [] []
 | .var s=>bO 4 0 0 s [] []
 | .last s=>bO 5 0 0 s [] []
 | .un op a=>bO 6 op 0 ⟨#[]⟩ [] [a.cells]
 | .bin op a b=>bO 7 op 0 ⟨#[]⟩ [] [a.cells,b.cells]
 | .ite a b c=>bO 8 0 0 ⟨#[]⟩ [] [a.cells,b.cells,c.cells]
 | .fA a b=>bO 9 0 0 ⟨#[]⟩ [] [a.cells,b.cells]
 | .pre a=>bO 10 0 0 ⟨#[]⟩ [] [a.cells]
 | .arrow a b=>bO 11 0 0 ⟨#[]⟩ [] [a.cells,b.cells]
 | .e_ x c a=>bO 12 0 0 x [[.str c]] [a.cells]
 | .merge x c1 c2 c3 a b c=>bO 13 0 0 x [[.str c1],[.str c2],[.str c3]] [a.cells,b.cells,c.cells]
theorem E.shape(e:E): ∃k op n s names kids,e.cells=bO k op n s names kids:=by cases e<;>exact⟨_,_,_,_,_,_,rfl⟩
theorem E.len(e:E):e.cells.length=8:=by obtain⟨c,h,d,f,g,b,a⟩:=e.shape;rw[a];rfl
structure Va where
 name:Nm
 ty:Ty
 clock:Option (Nm×Nm)
 last:Bool
 first:E
def rX:Option (Nm×Nm)->List (List D)
 |none=>[]
 |some (c,x)=>[[.str c,.str x]]
def Va.cells(v:Va):List D:=[.str v.name,.int .u8 v.ty.kind,.str v.ty.nm,.sl (rX v.clock),.bool v.last]++v.first.cells++ [.int .i64 0,.int .i64 0]
theorem Va.len(v:Va):v.cells.length=15:=by simp[Va.cells,E.len]
def aC(l:List Va):List (List D):=l.map Va.cells
theorem bw(l:List Va):(aC l).length=l.length:=by simp[aC]
theorem cc(l:List Va): ∀r∈aC l,r.length=15:=by intro r a;obtain⟨_,_,rfl⟩:=aqM.1 a;exact Va.len _
theorem gC(a b:List Va):aC (a++b)=aC a++aC b:=by simp[aC]
theorem dM{l:List Va}{i:Nat}(h:i<l.length):(aC l)[(i:Int).toNat]?=some l[i].cells:=by simp[aC,h]
structure Tr where
 e:E
 to:Nm
 fb:Bool
def Tr.cells(t:Tr):List D:=t.e.cells++ [.str t.to,.bool t.fb,.int .i64 0,.int .i64 0]
mutual
inductive ay where
 |df (x:Nm) (e:E)
 |call (x y f:Nm) (a b:E) (has:Bool) (e:E)
 |sw (e:E) (ah:List aY)
 |aL (ah:List aY)
 |reset (e:E) (b:aW)
inductive aY where
 |mk (name:Nm) (b:aW) (eT eU:List Tr)
inductive aW where
 |mk (vars:List Va) (au:List ay)
end
abbrev qN(k:Int)(lhs:List (List D))(name:Nm)(args:List (List D))(has:Bool)(e:List D)(ah:List (List D)):List D:=[.int .u8 k,.sl lhs,.str name,.sl args,.bool has]++e++ [.sl ah,.int .i64 0,.int .i64 0]
def eC(l:List Tr):List (List D):=l.map Tr.cells
mutual
def ay.cells:ay->List D
 | .df x e=>qN 1 [[.str x]] ⟨#[]⟩ [] false e.cells []
 | .call x y f a b has e=>qN 2 [[.str x],[.str y]] f [a.cells,b.cells] has e.cells []
 | .sw e ah=>qN 3 [] ⟨#[]⟩ [] false e.cells (b7 ah)
 | .aL ah=>qN 4 [] ⟨#[]⟩ [] false E.nil.cells (b7 ah)
 | .reset e b=>qN 5 [] ⟨#[]⟩ [] false e.cells [[.str ⟨#[]⟩]++b.cells++ [.sl [],.sl [],.int .i64 0,.int .i64 0]]
def aY.cells:aY->List D
 | .mk name b eT eU=>[.str name]++b.cells++ [.sl (eC eT),.sl (eC eU),.int .i64 0,.int .i64 0]
def b7:List aY->List (List D)
 | []=>[]
 |a::l=>a.cells::b7 l
def aW.cells:aW->List D
 | .mk vars au=>[.sl (aC vars),.sl (bF au)]
def bF:List ay->List (List D)
 | []=>[]
 |q::l=>q.cells::bF l
end
theorem mj(l:List aY):b7 l=l.map aY.cells:=by induction l with
 |nil=>rfl
 |cons b l a=>simp[b7,a]
theorem mn(l:List ay):bF l=l.map ay.cells:=by induction l with
 |nil=>rfl
 |cons b l a=>simp[bF,a]
theorem aW.shape(b:aW): ∃v q,b.cells= [.sl v,.sl q]:=by cases b;exact⟨_,_,by rw[aW.cells]⟩
theorem ay.len(q:ay):q.cells.length=16:=by cases q<;>rw[ay.cells]<;>simp[qN,E.len]
theorem aY.len(a:aY):a.cells.length=7:=by
 obtain⟨g,b,d,e⟩:=a;obtain⟨v,f,c⟩:=b.shape;rw[aY.cells,c];rfl
structure Nd where
 name:Nm
 ins:List Va
 outs:List Va
 b:aW
def Nd.cells(n:Nd):List D:=[.str n.name,.sl (aC n.ins),.sl (aC n.outs)]++n.b.cells++ [.int .i64 0,.int .i64 0]
def ly(l:List Nd):List (List D):=l.map Nd.cells
abbrev CN:List D:=[.str nL,.sl [[.str bZ],[.str bu],[.str cQ]],.int .i64 0,.int .i64 0]
abbrev Ir(l:List Nd):List D:=[.sl [CN],.sl (ly l)]
def dg(n:Nat):Nm:=if h:n<10 then strOfNums [IntKind.u8.wrap (48+(n:Int))]else dg (n/10)++strOfNums [IntKind.u8.wrap (48+((n%10:Nat):Int))]
theorem qk(n:Nat):(dg n).size<=n+1:=by
 induction n using Nat.strongRecOn with
 |ind n a=>
  rw[dg];split
  ·simp[strOfNums,ByteArray.size]
  ·have:=a (n/10) (by omega);rw[ByteArray.size_append];have b:(strOfNums [IntKind.u8.wrap (48+((n%10:Nat):Int))]).size=1:=by simp[strOfNums,ByteArray.size]
   omega
def nm(c:UInt8)(k:Nat):Nm:=⟨#[c]⟩++dg k
structure Sc where
 ready:List Va
 all:List Va
 cW:List Va
abbrev Sc.cells(s:Sc):List D:=[.sl (aC s.ready),.sl (aC s.all),.sl (aC s.cW)]
def Sc.more(s:Sc)(l:List Va):Sc:=⟨s.ready++l,s.all,s.cW⟩
inductive GC:Ty->E->Prop where
 |bool {n:Int} (h:n=0\/n=1):GC .bool (.bool n)
 |int {n:Int} (h:n∈ [(0:Int),1,2,-1,7,-2147483648]):GC .int (.int n)
 |eO {s:Nm} (h:s∈ [bZ,bu,cQ]):GC .eO (.ctor s)
def Is(l:List Va)(t:Ty)(x:Nm):Prop:= ∃v∈l,v.ty=t/\v.clock=none/\v.name=x
inductive GV(l:List Va)(t:Ty):E->Prop where
 |vw {e:E} (h:GC t e):GV l t e
 |var {x:Nm} (h:Is l t x):GV l t (.var x)
inductive GE:Sc->Ty->Bool->Nat->E->Prop where
 |v {s t st d e} (h:GV s.ready t e):GE s t st d e
 |c {s t st d e} (h:GC t e):GE s t st (d+1) e
 |ite {s t st d c a b} (hc:GE s .bool st d c) (ha:GE s t st d a) (hb:GE s t st d b):GE s t st (d+1) (.ite c a b)
 |fA {s t d c a} (hc:GC t c) (ha:GE ⟨s.all,s.all,s.cW⟩ t true d a):GE s t true (d+1) (.fA c a)
 |arrow {s t d a b} (ha:GE s t true d a) (hb:GE ⟨s.all,s.all,s.cW⟩ t true d b):GE s t true (d+1) (.arrow a (.pre b))
 |last {s t st d x} (h:Is s.cW t x):GE s t st (d+1) (.last x)
 |neg {s st d a} (ha:GE s .int st d a):GE s .int st (d+1) (.un 2 a)
 |arith {s st d a b} (op:Int) (ho:op∈ [(3:Int),4,5,6,7]) (ha:GE s .int st d a) (hb:GE s .int st d b):GE s .int st (d+1) (.bin op a b)
 |not {s st d a} (ha:GE s .bool st d a):GE s .bool st (d+1) (.un 1 a)
 |kz {s st d a b} (op:Int) (u:Ty) (ho:op∈ [(8:Int),9,10]/\u= .bool\/op∈ [(13:Int),16]/\u= .int\/op=11) (ha:GE s u st d a) (hb:GE s u st d b):GE s .bool st (d+1) (.bin op a b)
inductive NV(n:Nat):List Va->Nat->Prop where
 |nil:NV n [] n
 |snoc {vs:List Va} {n1:Nat} (h:NV n vs n1) (w:Va) (hw:w.name=nm 118 (n1+1)) (hc:w.clock=none) (hl:w.last=false/\w.first= .nil\/w.last=true/\GC w.ty w.first):NV n (vs++ [w]) (n1+1)
def eP(l:List Va):List Va->List Va
 | []=>l
 |w::r=>eP (if w.last&& !(l.any λu=>decide (u.name=w.name))then l++ [w]else l) r
theorem ym(l:List Va)(r:List Va)(w:Va):eP l (r++ [w])=(if w.last&& !((eP l r).any λu=>decide (u.name=w.name))then eP l r++ [w]else eP l r):=by
 induction r generalizing l with
 |nil=>rfl
 |cons b r a=>simp only[arl,eP];exact a _
inductive LS:List Va->List Va->Prop where
 |nil:LS [] []
 |cB {a b:List Va} (h:LS a b) (w:Va):LS (a++ [w]) (b++ [w])
 |drop {a b:List Va} (h:LS a b) (w:Va) (hl:w.last=true):LS (a++ [w]) b
theorem LS.Am: ∀l:List Va,LS l.reverse l.reverse
 | []=> .nil
 |a::l=>by rw[List.reverse_cons];exact .cB (Am l) a
theorem LS.refl(l:List Va):LS l l:=by have:=LS.Am l.reverse;simpa using this
theorem LS.len{a b:List Va}(h:LS a b):b.length<=a.length:=by
 induction h with
 |nil=>simp
 |cB h c d=>simp;omega
 |drop h c e d=>simp;omega
theorem LS.mem{a b:List Va}(h:LS a b): ∀w∈b,w∈a:=by
 induction h with
 |nil=>intro w f;exact f
 |cB h w d=>intro c e;rcases aql.1 e with h|h;exact aqq _ (d c h);exact aqt _ h
 |drop h w g d=>intro c e;exact aqq _ (d c e)
abbrev Sc.bN(s:Sc):Sc:=⟨s.ready,[],s.cW⟩
def yn(s:Sc)(N:Nat)(l:List Tr):Prop:=l.length<=2/\ ∀t∈l,GE s.bN .bool false 2 t.e/\ ∃k,k<N/\t.to=nm 83 k
abbrev oM:Nm:=⟨#[116,114,117,101]⟩
abbrev lI:Nm:=⟨#[102,97,108,115,101]⟩
section
variable(Sub:Sc->List Va->Nat->Nat->aW->Prop)
inductive mu(s:Sc)(outs:List Va)(names:List Nm)(n:Nat):List aY->Nat->Prop where
 |nil:mu s outs names n [] n
 |snoc {ah:List aY} {n1 n2:Nat} (h:mu s outs names n ah n1) (c:Nm) (hn:names[ah.length]?=some c) (l:List Va) (hl:LS outs l) (h0:ah= []->l=outs) (b:aW) (hb:Sub s.bN l n1 n2 b):mu s outs names n (ah++ [.mk c b [] []]) n2
inductive tu(s:Sc)(outs:List Va)(N:Nat)(n:Nat):List aY->Nat->Prop where
 |nil:tu s outs N n [] n
 |snoc {ah:List aY} {n1 n2:Nat} (h:tu s outs N n ah n1) (l:List Va) (hl:LS outs l) (h0:ah= []->l=outs) (eT:List Tr) (hu:yn s N eT) (b:aW) (hb:Sub s.bN l n1 n2 b) (eU:List Tr) (hw:yn (s.more l) N eU):tu s outs N n (ah++ [.mk (nm 83 ah.length) b eT eU]) n2
inductive oX(s:Sc):List Va->List ay->Prop where
 |nil:oX s [] []
 |snoc {l:List Va} {q:List ay} (h:oX s l q) (w:Va) (e:E) (he:GE s w.ty true 3 e):oX s (l++ [w]) (q++ [.df w.name e])
abbrev cR(c:UInt8)(k:Nat)(t:Ty):Va:=⟨nm c k,t,none,false,.nil⟩
inductive GQ(aj:Nat):Sc->List Va->Nat->Nat->List ay->List Va->Prop where
 |rz {s outs n q} (h:oX s outs q):GQ aj s outs n n q []
 |sD {s outs n n' e ah} (he:GE s .eO true 2 e) (ha:mu Sub s outs [cQ,bZ,bu] n ah n') (hl:ah.length=3):GQ aj s outs n n' [.sw e ah] []
 |pA {s outs n n' e ah} (he:GE s .bool true 2 e) (ha:mu Sub s outs [oM,lI] n ah n') (hl:ah.length=2):GQ aj s outs n n' [.sw e ah] []
 |aL {s outs n n' ah} (N:Nat) (hN:1<=N/\N<=3) (ha:tu Sub s outs N n ah n') (hl:ah.length=N):GQ aj s outs n n' [.aL ah] []
 |reset {s outs n n' e b} (he:GE s .bool true 2 e) (hb:Sub s outs n n' b):GQ aj s outs n n' [.reset e b] []
 |call {s outs n n' l vs} (j:Nat) (hj:j<aj) (a b:E) (ha:GE s .int true 2 a) (hb:GE s .bool true 2 b) (has:Bool) (e:E) (he:has=false/\e= .nil\/has=true/\GE s .bool true 2 e)
   (h:GQ aj (s.more [cR 117 (n+1) .int,cR 117 (n+2) .eO]) outs (n+2) n' l vs):
   GQ aj s outs n n' (.call (nm 117 (n+1)) (nm 117 (n+2)) (nm 102 j) a b has e::l) (cR 117 (n+1) .int::cR 117 (n+2) .eO::vs)
 |lN {s outs n n' l vs} (a b k k2 e cB:E) (ha:GE s .int false 2 a) (hb:GE s .int false 2 b) (hk:GC .int k) (M':GC .int k2) (he:GE s .eO true 3 e)
   (OI:cB= .e_ (nm 99 (n+1)) bZ a\/cB= .fA k2 (.bin 3 (.var (nm 119 (n+2))) (.e_ (nm 99 (n+1)) bZ a)))
   (h:GQ aj (s.more [cR 99 (n+1) .eO,cR 122 (n+3) .int]) outs (n+3) n' l vs):
   GQ aj s outs n n' (.df (nm 99 (n+1)) e:: .df (nm 119 (n+2)) cB:: .df (nm 122 (n+3)) (.merge (nm 99 (n+1)) bu bZ cQ (.e_ (nm 99 (n+1)) bu b) (.var (nm 119 (n+2))) k)::l)
    (cR 99 (n+1) .eO::⟨nm 119 (n+2),.int,some (bZ,nm 99 (n+1)),false,.nil⟩::cR 122 (n+3) .int::vs)
end
inductive GL(Q:Sc->List Va->Nat->Nat->List ay->List Va->Prop)(s0:Sc)(t0:List Va)(n0:Nat):Sc->List Va->Nat->List ay->List Va->Prop where
 |start:GL Q s0 t0 n0 s0 t0 n0 [] []
 |step {s todo n n1 q vs q1 To} (h:GL Q s0 t0 n0 s todo n q vs) (k:Nat) (h1:1<=k) (h3:k<=3) (hk:k<=todo.length) (hq:Q s (todo.take k) n n1 q1 To):GL Q s0 t0 n0 (s.more (todo.take k)) (todo.drop k) n1 (q++q1) (vs++To)
def Iu(s:Sc)(vs outs:List Va):Sc:=⟨s.ready,s.ready++vs++outs,eP s.cW (vs++outs)⟩
def CO(Q:Sc->List Va->Nat->Nat->List ay->List Va->Prop)(s:Sc)(outs:List Va)(n n':Nat)(b:aW):Prop:=
 ∃vs n1 s' q vars,NV n vs n1/\vs.length<=3/\GL Q (Iu s vs outs) (vs++outs) n1 s' [] n' q vars/\b= .mk (vs++vars) q
def GB(aj:Nat):Nat->Sc->List Va->Nat->Nat->aW->Prop
 |0=>CO (GQ (λ_ _ _ _ _=>False) aj)
 |d+1=>CO (GQ (GB aj d) aj)
def aV:Va:=⟨⟨#[97]⟩,.int,none,false,.nil⟩
def bV:Va:=⟨⟨#[98]⟩,.bool,none,false,.nil⟩
def yV:Va:=⟨⟨#[121]⟩,.eO,none,false,.nil⟩
def GN(k:Nat)(d:Nd):Prop:=d.name=nm 102 k/\d.ins= [aV,bV]/\(∃(last:Bool) (first:E),(last=false/\first= .nil\/last=true/\GC .int first)/\d.outs= [⟨⟨#[120]⟩,.int,none,last,first⟩,yV])/\ ∃n',n'<=3000/\GB k 3 ⟨d.ins,[],[]⟩ d.outs 0 n' d.b
def GP(l:List Nd):Prop:=1<=l.length/\l.length<=3/\ ∀(k:Nat) (d:Nd),l[k]?=some d->GN k d
end Go.Mk
namespace Go.Proofs
open Go.Mt Go.Mk
structure GS where
 i:Nat
 n:Nat
 q:Int
abbrev eW(v:D)(i:Nat):List M:=[.d v,dN i]
abbrev jM(n:Nat)(q:Int)(aj:Nat)(main:Bool):List M:=[.ref 0 0,dN n,.d (.int .i64 q),dN aj,.d (.bool main)]
abbrev GH(v:D)(aj:Nat)(main:Bool)(g:GS):Hp:=[.box (eW v g.i),.box (jM g.n g.q aj main)]
structure Tape(zs:List Int)(v:D):Prop where
 da:oH .u8 zs v
 hl:zs.length<=1000
structure Rd(zs:List Int)(k j:Nat)(g g':GS):Prop where
 lt:j<k
 n:g'.n=g.n
 q:g'.q=g.q
 i:g.i<=g'.i
 le:g'.i<=zs.length
 pN:j≠0->g.i<g'.i
theorem Iw{n:Int}(h:(Lit.int .u8 n).wf=true):0<=n/\n<256:=by
 simp only[Lit.wf,aqB,decide_eq_true_eq]at h;have a:IntKind.u8.min=0:=by decide
 have b:IntKind.u8.max=255:=by decide
 omega
section
variable{zs:List Int}{v:D}(ht:Tape zs v)(aj:Nat)(main:Bool)
include ht
theorem eQ(k:Nat)(h:0<k)(x:k<=1000)(g:GS)(i:g.i<=zs.length):DT Tryz.prog 23 [.ref 0 0,dN k] (GH v aj main g) λr K=> ∃(j:Nat) (g':GS),r=dN j/\K=GH v aj main g'/\Rd zs k j g g':=by
 obtain⟨⟨p,s,t⟩,y⟩:=ht;obtain⟨a,d,e⟩:=g;simp only at i;refine DT.ob Tryz.func23 W Tryz.ntmps23 W ?_;show DC _ _ _ _ ⟨_,_,[.box (eW v a),.box (jM d e aj main)]⟩ _;refine dC [2] W ?_;rcases aqh a zs.length with c|c
 rotate_left
 ·have f:decide (((a:Nat):Int)>=(zs.length:Int))=true:=aqI (by omega);refine dC [] W ?_;apply Mz bT
  ·intro l m;refine fR 8 W<|wI W W p<|lX W W W (r:= .bool true) (by show some (D.bool (decide _))=_;rw[f])<|TF.nil ⟨by kernel_rfl,rfl⟩
  refine dC [1,2] W<|DC.ret ⟨_,rfl,0,⟨a,d,e⟩,rfl,rfl,h,rfl,rfl,aqd _,i,λq=>absurd W q⟩
 ·have f:decide (((a:Nat):Int)>=(zs.length:Int))=false:=aqR (by omega);obtain rfl:v= .sl (jJ .u8 zs):=s.resolve_left (by grind);have n:(jJ .u8 zs)[((a:Nat):Int).toNat]?=some [.int .u8 zs[a]]:=xI (aqi c);have o:=Iw (t zs[a] (aqz c));generalize zs[a]=b at n o;obtain⟨b,rfl⟩:=asR o.1;have u:((a:Nat):Int)+1-1=(a:Int):=by omega
  have w:Int.tmod (b:Int) (k:Int)=((b%k:Nat):Int):=rfl;refine dC [] W ?_;apply Mz bT
  ·intro l m;refine fR 8 W<|wI W W p<|lX W W W (r:= .bool false) (by show some (D.bool (decide _))=_;rw[f])<|TF.nil ⟨by kernel_rfl,rfl⟩
  refine dO [0,2,23] W<|Mu (ax W W W (by omega))<|dR [999] W<|Mu (bX W W W W W W)<|dL [] W ?_;apply Mz bT
  ·intro l m;refine fR 8 W<|fO W W W (by omega) ?_;rw[u];refine bK W W W (aqe a) n W<|fR 1 W<|rU W W ?_;rw[IntWalk.i64_in _ ⟨by omega,by omega⟩];refine fR 1 W<|DG W W W (by simp;omega) ?_;rw[w];refine fR 1 W<|TF.nil ⟨by kernel_rfl,rfl⟩
  exact DC.ret ⟨_,rfl,b%k,⟨a+1,d,e⟩,rfl,rfl,ar5 _ h,rfl,rfl,Nat.le_succ _,c,λ_=>Nat.lt_succ_self _⟩
end
theorem mw: ∀(k n:Nat),n<k->n<=1000000->PT Tryz.prog 33 [iN n] (·= [.str (dg n)])
 |0,n,c,_=>by omega
 |k+1,n,c,f=>by
  refine MP (CT.ob Tryz.func33 W Tryz.ntmps33 W λg h=> ?_);refine tC [2] W ?_;rcases aqh n 10 with b|b
  ·have a:dg n=strOfNums [IntKind.u8.wrap (48+(n:Int))]:=by rw[dg,asV b]
   refine tO [2,8] W<|fZ W W W (r:= .bool true) (by show some (D.bool (decide _))=_;rw[show decide ((n:Int)<10)=true from aqI (by omega)])<|tR [1,2,10] W<|ax W W W (by omega)<|tR [13] W<|KE W W W<|tL [] W<|TC.ret ⟨_,rfl,[_],rfl,by rw[a]⟩
  ·have a:dg n=dg (n/10)++strOfNums [IntKind.u8.wrap (48+((n%10:Nat):Int))]:=by rw[dg,as3 (by omega)]
   have d:IntKind.i64.wrap (Int.tdiv (n:Int) 10)=((n/10:Nat):Int):=by
    rw[show Int.tdiv (n:Int) 10=((n/10:Nat):Int)from rfl];exact IntWalk.i64_in _ ⟨by omega,by omega⟩
   have e:Int.tmod (n:Int) 10=((n%10:Nat):Int):=rfl;have i:=qk (n/10);have j:(strOfNums [IntKind.u8.wrap (48+((n%10:Nat):Int))]).size=1:=by simp[strOfNums,ByteArray.size]
   refine tO [2,8] W<|fZ W W W (r:= .bool false) (by show some (D.bool (decide _))=_;rw[show decide ((n:Int)<10)=false from aqR (by omega)])<|tL [0] W<|TC.draw bT<|fR 1 W<|KC W W W W ?_;rw[d];refine aS ((mw k (n/10)) (by omega) (by omega)) W W<|fR 1 W<|DG W W W W ?_;rw[e];refine pZ W W W (by omega)<|fR 2 W<|KF W W W<|sZ W W W (by omega)<|fR 1 W<|TF.nil ⟨by kernel_rfl,?_⟩;exact TC.ret ⟨_,rfl,[_],rfl,by rw[a]⟩
theorem du:PT Tryz.prog 34 [] (·= [.agg Ty.int.cells]):=by
 refine MP (CT.ob Tryz.func34 W Tryz.ntmps34 W λa b=> ?_);refine tC [2,2] W<|TC.ret ⟨_,rfl,[_],rfl,rfl⟩
theorem jp:PT Tryz.prog 35 [] (·= [.agg Ty.bool.cells]):=by
 refine MP (CT.ob Tryz.func35 W Tryz.ntmps35 W λa b=> ?_);refine tC [2,2] W<|TC.ret ⟨_,rfl,[_],rfl,rfl⟩
theorem kG:PT Tryz.prog 20 [] (·= [.agg Ty.eO.cells]):=by
 refine MP (CT.ob Tryz.func20 W Tryz.ntmps20 W λa b=> ?_);refine tC [2,2] W<|TC.ret ⟨_,rfl,[_],rfl,rfl⟩
instance:zK Tryz.prog 57:=⟨by kernel_rfl⟩
instance:br Tryz.prog 23:=cK (by kernel_rfl)
instance:br Tryz.prog 33:=cK (by kernel_rfl)
instance:br Tryz.prog 34:=cK (by kernel_rfl)
instance:br Tryz.prog 35:=cK (by kernel_rfl)
instance:br Tryz.prog 20:=cK (by kernel_rfl)
structure Mv(zs:List Int)(g g':GS):Prop where
 n:g'.n=g.n
 q:g'.q=g.q
 i:g.i<=g'.i
 le:g'.i<=zs.length
theorem Rd.mv{a:List Int}{k j:Nat}{g g':GS}(h:Rd a k j g g'):Mv a g g':=⟨h.n,h.q,h.i,h.le⟩
theorem Mv.trans{d:List Int}{a b c:GS}(h:Mv d a b)(k:Mv d b c):Mv d a c:=⟨k.n.trans h.n,k.q.trans h.q,aq1 h.i k.i,k.le⟩
theorem oY(v:D)(a:Nat)(b:Bool)(g:GS):HB 2 (GH v a b g):=Jf (H:=GH v a b g) W
section
variable{zs:List Int}{v:D}(ht:Tape zs v)(aj:Nat)(main:Bool)
include ht
theorem qm(c:UInt8)(g:GS)(f:g.i<=zs.length)(e:g.n<=100000):DT Tryz.prog 50 [.ref 1 0,.d (.str ⟨#[c]⟩)] (GH v aj main g) λr K=>r= .d (.str (nm c (g.n+1)))/\K=GH v aj main ⟨g.i,g.n+1,g.q⟩:=by
 obtain⟨b,a,d⟩:=g;have h:=qk (a+1);simp only at e;refine DT.ob Tryz.func50 W Tryz.ntmps50 W ?_;show DC _ _ _ _ ⟨_,_,[.box (eW v b),.box (jM a d aj main)]⟩ _;refine dO [2,2,13] W<|Mu (ax W W W (by omega))<|dR [999] W<|Mu (bX W W W W W W)<|dR [2,21] W<|Mu (aJ (mw (a+2) (a+1) (by omega) (by grind)) W W)<|dR [22] W<|Mu (pY W W W (by have:(⟨#[c]⟩:ByteArray).size=1:=rfl;omega))<|dL [] W<|DC.ret ⟨_,rfl,rfl,rfl⟩
theorem Fp(g:GS)(c:g.i<=zs.length):DT Tryz.prog 51 [.ref 1 0] (GH v aj main g) λr K=> ∃(t:Ty) (g':GS),r= .d (.agg t.cells)/\K=GH v aj main g'/\Mv zs g g':=by
 obtain⟨r,K,⟨b,g',rfl,rfl,a⟩,d⟩:=eQ ht aj main 4 (by omega) (by omega) g c;refine DT.ob Tryz.func51 W Tryz.ntmps51 W<|dO [2,2,11] W<|Mu (ap d W W)<|dL [] W ?_;have e:b=0\/b=1\/b=2\/b=3:=by have:=a.lt;omega
 refine dC [3] W ?_;rcases e with rfl|rfl|rfl|rfl
 ·refine dO [2,1,1,2,15] W<|Mu (aJ du W W)<|dL [] W<|DC.ret ⟨_,rfl,.int,g',rfl,rfl,a.mv⟩
 ·refine dO [2,0,2,1,2,15] W<|Mu (aJ du W W)<|dL [] W<|DC.ret ⟨_,rfl,.int,g',rfl,rfl,a.mv⟩
 ·refine dO [2,0,2,0,2,1,2,18] W<|Mu (aJ jp W W)<|dL [] W<|DC.ret ⟨_,rfl,.bool,g',rfl,rfl,a.mv⟩
 ·refine dO [2,0,2,0,2,0,2,19] W<|Mu (aJ kG W W)<|dL [] W<|DC.ret ⟨_,rfl,.eO,g',rfl,rfl,a.mv⟩
theorem ir(t:Ty)(g:GS)(l:g.i<=zs.length):DT Tryz.prog 36 [.ref 1 0,.d (.agg t.cells)] (GH v aj main g) λr K=> ∃(e:E) (g':GS),r= .d (.agg e.cells)/\K=GH v aj main g'/\GC t e/\Mv zs g g':=by
 obtain⟨r,K,⟨a,g',rfl,rfl,k⟩,m⟩:=eQ ht aj main 6 (by omega) (by omega) g l;refine DT.ob Tryz.func36 W Tryz.ntmps36 W<|dO [2,2,16] W<|Mu (ap m W W)<|dL [2,3] W ?_;have s:=k.lt;have j:=k.mv;cases t with
 |bool=>
  have c: ∃b:Int,(b=0\/b=1)/\IntKind.i32.wrap (((a:Nat):Int).tmod 2)=b:=by
   have:a=0\/a=1\/a=2\/a=3\/a=4\/a=5:=by omega
   rcases this with rfl|rfl|rfl|rfl|rfl|rfl
   ·exact⟨0,.inl W,by decide⟩
   ·exact⟨1,.inr W,by decide⟩
   ·exact⟨0,.inl W,by decide⟩
   ·exact⟨1,.inr W,by decide⟩
   ·exact⟨0,.inl W,by decide⟩
   ·exact⟨1,.inr W,by decide⟩
  obtain⟨b,n,d⟩:=c;refine dO [2,1,2,22] W<|Mu (oE W W W W)<|dR [23] W<|Mu (xu W W) ?_;rw[d];refine dL [] W<|DC.ret ⟨_,rfl,.bool b,g',rfl,rfl,.bool n,j⟩
 |int=>
  have c: ∃f:Int,f∈ [(0:Int),1,2,-1,7,-2147483648]/\([[D.int .i32 0],[.int .i32 1],[.int .i32 2],[.int .i32 (-1)],[.int .i32 7],[.int .i32 (-2147483648)]]:List (List D))[((a:Nat):Int).toNat]?=some [.int .i32 f]:=by
   have:a=0\/a=1\/a=2\/a=3\/a=4\/a=5:=by omega
   rcases this with rfl|rfl|rfl|rfl|rfl|rfl
   ·exact⟨0,by simp,rfl⟩
   ·exact⟨1,by simp,rfl⟩
   ·exact⟨2,by simp,rfl⟩
   ·exact⟨-1,by simp,rfl⟩
   ·simp_all
   ·simp_all
  obtain⟨f,o,d⟩:=c;refine dO [2,0,2,1,2,2,30] W<|Mu (aK W W W (aqe a) d W)<|dL [] W<|DC.ret ⟨_,rfl,.int f,g',rfl,rfl,.int o,j⟩
 |eO=>
  have c: ∃h:Nm,h∈ [bZ,bu,cQ]/\([[D.str bZ],[.str bu],[.str cQ]]:List (List D))[(((a%3:Nat):Int)).toNat]?=some [.str h]:=by
   have:a%3=0\/a%3=1\/a%3=2:=by omega
   rcases this with i|i|i<;>rw[i]
   ·simp_all
   ·simp_all
   ·simp_all
  obtain⟨h,p,d⟩:=c;have q:Int.tmod (a:Int) 3=((a%3:Nat):Int):=rfl;refine dO [2,0,2,0,2,2,36] W<|Mu (oE W W W W) ?_;rw[q];refine dR [37] W<|Mu (aK W W W (aqe _) d W)<|dL [] W<|DC.ret ⟨_,rfl,.ctor h,g',rfl,rfl,.eO p,j⟩
end
theorem j5(w:Va): ∃c d e f g h i j,w.cells= [.str w.name,.int .u8 w.ty.kind,.str w.ty.nm,.sl (rX w.clock),.bool w.last,c,d,e,f,g,h,i,j,.int .i64 0,.int .i64 0]/\w.first.cells= [c,d,e,f,g,h,i,j]:=by
 obtain⟨k,o,l,m,n,b,a⟩:=w.first.shape;exact⟨_,_,_,_,_,_,_,_,by simp only[Va.cells,a,bO];rfl,a⟩
theorem Ix(a b:Ty):(decide (a.kind=b.kind)&&decide (a.nm=b.nm))=decide (a=b):=by cases a<;>cases b<;>rfl
theorem kP(k op:Int)(a b:E):PT Tryz.prog 113 [.int .u8 k,.int .u8 op,.agg a.cells,.agg b.cells] (·= [.agg (bO k op 0 ⟨#[]⟩ [] [a.cells,b.cells])]):=by
 obtain⟨e,f,g,h,i,j,c⟩:=a.shape;obtain⟨l,m,n,o,p,q,d⟩:=b.shape;rw[c,d];refine MP (CT.ob Tryz.func113 W Tryz.ntmps113 W λr s=> ?_);refine tC [2,2] W<|TC.ret ⟨_,rfl,[_],rfl,rfl⟩
theorem JF(l:List Va)(x:Nm)(m:l.length<=100000):PT Tryz.prog 52 [.sl (aC l),.str x] (·= [.bool (l.any λw=>decide (w.name=x))]):=by
 refine MP (CT.ob Tryz.func52 W Tryz.ntmps52 W λn o=> ?_);refine tC [2,2] W<|Ou [nN 5 0,nD 1 (.str x),nD 0 (.sl (aC l))] [] W W<|tC [3] W<|TC.lp (λe f=> ∃(a:Nat),f=⟨[nI 5 (a:Int),nD 1 (.str x),nD 0 (.sl (aC l))],[],[]⟩/\a<=l.length/\(∀w∈l.take a,¬w.name=x)/\e=l.length-a) l.length _
  ⟨0,rfl,by omega,by simp,rfl⟩ W ?_
 rintro e f ⟨a,rfl,p,g,rfl⟩;refine tO [2,12] W<|bH W W W ?_;rw[bw];refine tL [] W<|TC.cond W (λb=> ?_) (λb=> ?_)
 ·have c:a<l.length:=by grind
  have d:=dM c;have h:=aqz c;have i:=aqu c;generalize l[a]=w at d h i;obtain⟨q,r,s,t,u,v,y,z,j,_⟩:=j5 w;rw[j]at d;refine tO [3,2,18] W<|aK W W W (aqe a) d W<|tL [] W<|TC.cond W (λb=> ?_) (λb=> ?_)
  ·have k:=aqv b;refine tC [2] W<|TC.ret ⟨_,rfl,[_],rfl,by grind⟩
  ·have k:=aqA b;refine tO [2,15] W<|ax W W W (by omega)<|tL [] W<|again (k':=l.length-(a+1)) (by omega) ⟨a+1,rfl,by omega,by grind,rfl⟩ W W
 ·refine TC.exit ?_;have c:a=l.length:=by grind
  subst c;rw[aqQ]at g;refine tC [2] W<|TC.ret ⟨_,rfl,[_],rfl,by grind⟩
theorem sF(s:Sc)(l:List Va)(a:s.ready.length<=10000)(b:l.length<=10000):PT Tryz.prog 54 [.agg s.cells,.sl (aC l)] (·= [.agg (s.more l).cells]):=by
 refine MP (CT.ob Tryz.func54 W Tryz.ntmps54 W λc d=> ?_);refine tO [2,2,2,13] W<|EZ (n:=15) W W W W (by rfl) (cc _) (by rw[bw];omega)<|tR [2,16] W<|Jg (r1:=aC s.ready) (r2:=aC l) W W W W (by rfl) (cc _) (cc _) (by rw[bw,bw];omega) (by rw[bw,bw];omega)<|tL [2] W<|TC.ret ⟨_,rfl,[_],rfl,by rw[<-gC];rfl⟩
section
variable{zs:List Int}{v:D}(ht:Tape zs v)(aj:Nat)(main:Bool)
include ht
theorem CP(l:List Va)(C:l.length<=100000)(t:Ty)(g:GS)(s:g.i<=zs.length):DT Tryz.prog 114 [.ref 1 0,.d (.sl (aC l)),.d (.agg t.cells)] (GH v aj main g) λr K=> ∃(x:Nm) (b:Bool) (g':GS),r= .cZ [.d (.str x),.d (.bool b)]/\K=GH v aj main g'/\Mv zs g g'/\(b=true->Is l t x):=by
 obtain⟨r,K,⟨c,g',rfl,rfl,k⟩,d⟩:=eQ ht aj main 7 (by omega) (by omega) g s;have D:=k.lt;have m:=k.mv;refine DT.ob Tryz.func114 W Tryz.ntmps114 W<|dO [2,2,19] W<|Mu (ap d W W)<|dL [] W<|dC [2] W<|MG [nN 9 0,nN 8 c,nD 5 (.aZ t.cells 0),nD 1 (.sl (aC l))] (GH v aj main g') W W<|dC [3] W<|DC.lp (λi j=> ∃(a:Nat) (n:List (Nat×List M)),j=⟨[nI 9 (a:Int),nN 8 c,nD 5 (.aZ t.cells 0),nD 1 (.sl (aC l))],n,GH v aj main g'⟩/\a<=l.length/\i=l.length-a) l.length _
  ⟨0,_,rfl,by omega,rfl⟩ W ?_
 rintro i j ⟨a,n,rfl,E,rfl⟩;refine dO [2,22] W<|Mu (bH W W W) ?_;rw[bw];refine dL [] W<|DC.cond W (λd=> ?_) (λd=> ?_)
 ·have F:a<l.length:=by grind
  have o:(a+c)%l.length<l.length:=ar5 _ (by omega);have h:=dM o;have p:=aqz o;generalize l[(a+c)%l.length]=e at h p;obtain⟨G,H,I,J,L,N,O,P,u,_⟩:=j5 e;rw[u]at h;have w:((a:Nat):Int)+(c:Int)=((a+c:Nat):Int):=by omega
  have y:Int.tmod ((a+c:Nat):Int) (l.length:Int)=(((a+c)%l.length:Nat):Int):=rfl;refine dO [3,2,29] W<|Mu (ax W W W (by omega)) ?_;rw[w];refine dR [31] W<|Mu (bH W W W) ?_;rw[bw];refine dR [32] W<|Mu (oE W W W (aqV.2 (by omega))) ?_;rw[y];refine dR [33] W<|Mu (aK W W W (aqe _) h W)<|dL [] W ?_;rcases Classical.em (e.ty=t)with f|f
  ·refine dO [2,38] W<|Mu (E6 W W W) ?_;rw[Ix,aqI f];refine dL [] W<|DC.cond W (λd=> ?_) (λd=> ?_)
   ·have z:e.clock=none:=by
     rcases A:e.clock with _|⟨B,b⟩
     ·rfl
     ·rw[A]at d;cases d
    refine dC [2] W<|DC.ret ⟨_,rfl,e.name,true,g',rfl,rfl,m,λ_=>⟨e,p,f,z,rfl⟩⟩
   ·refine dO [2,25] W<|Mu (ax W W W (by omega))<|dL [] W<|bE (k':=l.length-(a+1)) (by omega) ⟨a+1,_,rfl,by omega,rfl⟩ W W
  ·refine dO [2,38] W<|Mu (E6 W W W) ?_;rw[Ix,aqR f];refine dR [0,2,25] W<|Mu (ax W W W (by omega))<|dL [] W<|bE (k':=l.length-(a+1)) (by omega) ⟨a+1,_,rfl,by omega,rfl⟩ W W
 ·refine DC.exit<|dC [2] W<|DC.ret ⟨_,rfl,_,false,g',rfl,rfl,m,λq=>by cases q⟩
end
instance:br Tryz.prog 114:=cK (by kernel_rfl)
instance:br Tryz.prog 36:=cK (by kernel_rfl)
section
variable{zs:List Int}{v:D}(ht:Tape zs v)(aj:Nat)(main:Bool)
include ht
theorem nX(l:List Va)(i:l.length<=100000)(t:Ty)(g:GS)(j:g.i<=zs.length):DT Tryz.prog 112 [.ref 1 0,.d (.sl (aC l)),.d (.agg t.cells)] (GH v aj main g) λr K=> ∃(e:E) (g':GS),r= .d (.agg e.cells)/\K=GH v aj main g'/\GV l t e/\Mv zs g g':=by
 obtain⟨r,K,⟨h,b,g',rfl,rfl,a,k⟩,m⟩:=CP ht aj main l i t g j;obtain⟨q,s,⟨c,n,rfl,rfl,o,p⟩,d⟩:=ir ht aj main t g' a.le;refine DT.ob Tryz.func112 W Tryz.ntmps112 W<|dO [2,2,17] W<|Mu (ap m W W)<|dL [] W ?_;cases b with
 |false=>
  obtain⟨u,w,x,y,z,A,f⟩:=c.shape;rw[f]at d;refine dO [2,1,2,24] W<|Mu (ap d W W)<|dL [] W<|DC.ret ⟨_,rfl,c,n,by rw[f];rfl,rfl,.vw o,a.trans p⟩
 |true=>
  refine dC [2,0,2] W<|DC.ret ⟨_,rfl,.var h,g',rfl,rfl,.var (k W),a⟩
end
instance:br Tryz.prog 112:=cK (by kernel_rfl)
instance:br Tryz.prog 113:=cK (by kernel_rfl)
instance:br Tryz.prog 82:=cK (by kernel_rfl)
instance:br Tryz.prog 115:=cK (by kernel_rfl)
instance:br Tryz.prog 51:=cK (by kernel_rfl)
structure vO(s:Sc):Prop where
 ready:s.ready.length<=100000
 all:s.all.length<=100000
 cW:s.cW.length<=100000
theorem vO.wide{s:Sc}(h:vO s):vO ⟨s.all,s.all,s.cW⟩:=⟨h.all,h.all,h.cW⟩
section
variable(zs:List Int)(v:D)(aj:Nat)(main:Bool)
def uV(d:Nat):Prop:= ∀(s:Sc),vO s-> ∀(t:Ty) (st:Bool) (g:GS),g.i<=zs.length->DT Tryz.prog 82 [.ref 1 0,.d (.agg s.cells),.d (.agg t.cells),dN d,.d (.bool st)] (GH v aj main g) λr K=> ∃(e:E) (g':GS),r= .d (.agg e.cells)/\K=GH v aj main g'/\GE s t st d e/\Mv zs g g'
def JG(d:Nat):Prop:= ∀(s:Sc),vO s-> ∀(t:Ty) (st:Bool) (g:GS),g.i<=zs.length->DT Tryz.prog 115 [.ref 1 0,.d (.agg s.cells),.d (.agg t.cells),dN d,.d (.bool st)] (GH v aj main g) λr K=> ∃(e:E) (g':GS),r= .d (.agg e.cells)/\K=GH v aj main g'/\GE s t st d e/\Mv zs g g'
end
section
variable{zs:List Int}{v:D}(ht:Tape zs v)(aj:Nat)(main:Bool)
include ht
theorem Iy(d:Nat)(hd:d<=100)(t:uV zs v aj main d):JG zs v aj main (d+1):=by
 intro m q d6 st ac hg;obtain⟨r0,K0,⟨n,z,rfl,rfl,hr⟩,y⟩:=eQ ht aj main 6 (by omega) (by omega) ac hg;have hj:=hr.lt;have k:=hr.mv;have o:((d+1:Nat):Int)-1=(d:Int):=by omega
 cases d6 with
 |eO=>
  obtain⟨B,C,⟨a,l,rfl,rfl,Ol,h⟩,g⟩:=nX ht aj main m.ready q.ready .eO z k.le;obtain⟨F,G,H,I,J,K,b⟩:=a.shape;rw[b]at g;refine DT.ob Tryz.func115 W Tryz.ntmps115 W<|dO [2,2,25] W<|Mu (ap y W W)<|dR [2,3,2,0,2,0,2,116] W<|Mu (ap g W W)<|dL [] W<|DC.ret ⟨_,rfl,a,l,by rw[b];rfl,rfl,.v Ol,k.trans h⟩
 |int=>
  obtain⟨B,C,⟨a,l,rfl,rfl,s,h⟩,g⟩:=t m q .int st z k.le;obtain⟨L,M,⟨c,u,rfl,rfl,w,x⟩,i⟩:=t m q .int st l h.le;obtain⟨F,G,H,I,J,K,b⟩:=a.shape;obtain⟨N,O,P,Q,R,S,f⟩:=c.shape;have j:= λA=>kP 7 A a c
  rw[b]at g;rw[f]at i;rw[b,f]at j;rcases aqh n 5 with h5|h5
  ·have hx: ∃A:Int,A∈ [(3:Int),4,5,6,7]/\([[D.int .u8 3],[.int .u8 4],[.int .u8 5],[.int .u8 6],[.int .u8 7]]:List (List D))[((n:Nat):Int).toNat]?=some [.int .u8 A]:=by
    have:n=0\/n=1\/n=2\/n=3\/n=4:=by omega
    rcases this with rfl|rfl|rfl|rfl|rfl
    ·grind
    ·grind
    ·grind
    ·grind
    ·grind
   obtain⟨A,Qf,MC⟩:=hx;have Y:(((n:Nat):Int)==5)=false:=aqV.2 (by omega);refine DT.ob Tryz.func115 W Tryz.ntmps115 W<|dO [2,2,25] W<|Mu (ap y W W)<|dR [2,3,2,1,2,2,32] W<|Mu (aN Y W W W W)<|dR [0,2,46] W<|Mu (cC W W W (by omega)) ?_;rw[o];refine dR [48] W<|Mu (ap g W W)<|dL [] W ?_;apply Mz bT
   ·intro T U;refine fR 2 W<|bK W W W (aqe n) MC W<|fR 6 W<|fO W W W (by omega) ?_;rw[o];refine fR 1 W<|bm i W W<|aS (j A) W W<|fR 1 W<|TF.nil ⟨by kernel_rfl,rfl⟩
   exact DC.ret ⟨_,rfl,.bin A a c,u,by rw[E.cells,b,f];rfl,rfl,.arith A Qf s w,k.trans (h.trans x)⟩
  ·obtain rfl:n=5:=by omega
   refine DT.ob Tryz.func115 W Tryz.ntmps115 W<|dO [2,2,25] W<|Mu (ap y W W)<|dR [2,3,2,1,2,2,1,2,37] W<|Mu (cC W W W (by omega)) ?_;rw[o];refine dR [39] W<|Mu (ap g W W)<|dL [] W<|DC.ret ⟨_,rfl,.un 2 a,l,by rw[E.cells,b];rfl,rfl,.neg s,k.trans h⟩
 |bool=>
  refine DT.mono (p:= λr d7=> ∃(e:E) (g':GS),r= .d (.agg e.cells)/\d7=GH v aj main g'/\GE m .bool st (d+1) e/\Mv zs ac g') ?_ (λ_ _ d8=>d8);have Qp:n=0\/n=1\/n=2\/n=3\/n=4\/n=5:=by omega
  rcases Qp with rfl|rfl|rfl|rfl|rfl|rfl
  ·skip
   obtain⟨r3,K3,⟨j3,Z,rfl,rfl,Sh⟩,X⟩:=eQ ht aj main 3 (by omega) (by omega) z k.le;have V:=Sh.mv;obtain⟨B,C,⟨a,l,rfl,rfl,s,h⟩,g⟩:=t m q .bool st Z V.le;obtain⟨L,M,⟨c,u,rfl,rfl,w,x⟩,i⟩:=t m q .bool st l h.le;obtain⟨F,G,H,I,J,K,b⟩:=a.shape;obtain⟨N,O,P,Q,R,S,f⟩:=c.shape;rw[b]at g;rw[f]at i;rcases aqJ j3 with rfl|d9
   ·skip
    refine DT.ob Tryz.func115 W Tryz.ntmps115 W<|dO [2,2,25] W<|Mu (ap y W W)<|dR [2,3,2,0,2,1,2,2,2,0,2,0,2,80] W ?_
    first|refine Mu (aE W W) ?_|(refine Mu (aB W) ?_;refine Mu (ap X W W) ?_)
    refine dR [1,2,87] W<|Mu (cC W W W (by omega)) ?_;rw[o];refine dR [89] W<|Mu (ap g W W)<|dL [] W<|DC.ret ⟨_,rfl,.un 1 a,l,by rw[E.cells,b];rfl,rfl,.not s,k.trans (V.trans h)⟩
   ·skip
    have Y:(((j3:Nat):Int)==0)=false:=aqV.2 (by omega);refine DT.ob Tryz.func115 W Tryz.ntmps115 W<|dO [2,2,25] W<|Mu (ap y W W)<|dR [2,3,2,0,2,1,2,2,2,0,2,0,2,80] W ?_
    first|refine Mu (aE W W) ?_|(refine Mu (aB W) ?_;refine Mu (ap X W W) ?_)
    refine dR [81] W ?_
    first|refine Mu (aE W W) ?_|(refine Mu (aB W) ?_;refine Mu (aN Y W W W W) ?_)
    refine dL [0] W ?_;have j:=kP 7 8 a c;rw[b,f]at j;refine dO [2,96] W<|Mu (cC W W W (by omega)) ?_;rw[o];refine dR [98] W<|Mu (ap g W W)<|dL [] W ?_;apply Mz bT
    ·intro T U;refine fR 2 W<|bK W W W (by decide) (r:=[.int .u8 8]) W W<|fR 6 W<|fO W W W (by omega) ?_;rw[o];refine fR 1 W<|bm i W W<|aS j W W<|fR 1 W<|TF.nil ⟨by kernel_rfl,rfl⟩
    exact DC.ret ⟨_,rfl,.bin 8 a c,u,by rw[E.cells,b,f];rfl,rfl,.kz 8 _ (.inl ⟨by simp,rfl⟩) s w,k.trans (V.trans (h.trans x))⟩
  ·skip
   obtain⟨B,C,⟨a,l,rfl,rfl,s,h⟩,g⟩:=t m q .bool st z k.le;obtain⟨L,M,⟨c,u,rfl,rfl,w,x⟩,i⟩:=t m q .bool st l h.le;obtain⟨F,G,H,I,J,K,b⟩:=a.shape;obtain⟨N,O,P,Q,R,S,f⟩:=c.shape;rw[b]at g;rw[f]at i;refine DT.ob Tryz.func115 W Tryz.ntmps115 W<|dO [2,2,25] W<|Mu (ap y W W)<|dL [2,3,2,0,2,1,2,2,2,0,2,0,2,0] W ?_;have j:=kP 7 9 a c;rw[b,f]at j;refine dO [2,96] W<|Mu (cC W W W (by omega)) ?_;rw[o];refine dR [98] W<|Mu (ap g W W)<|dL [] W ?_;apply Mz bT
   ·intro T U;refine fR 2 W<|bK W W W (by decide) (r:=[.int .u8 9]) W W<|fR 6 W<|fO W W W (by omega) ?_;rw[o];refine fR 1 W<|bm i W W<|aS j W W<|fR 1 W<|TF.nil ⟨by kernel_rfl,rfl⟩
   exact DC.ret ⟨_,rfl,.bin 9 a c,u,by rw[E.cells,b,f];rfl,rfl,.kz 9 _ (.inl ⟨by simp,rfl⟩) s w,k.trans (h.trans x)⟩
  ·skip
   obtain⟨B,C,⟨a,l,rfl,rfl,s,h⟩,g⟩:=t m q .bool st z k.le;obtain⟨L,M,⟨c,u,rfl,rfl,w,x⟩,i⟩:=t m q .bool st l h.le;obtain⟨F,G,H,I,J,K,b⟩:=a.shape;obtain⟨N,O,P,Q,R,S,f⟩:=c.shape;rw[b]at g;rw[f]at i;refine DT.ob Tryz.func115 W Tryz.ntmps115 W<|dO [2,2,25] W<|Mu (ap y W W)<|dL [2,3,2,0,2,1,2,2,2,0,2,0,2,0] W ?_;have j:=kP 7 10 a c;rw[b,f]at j;refine dO [2,96] W<|Mu (cC W W W (by omega)) ?_;rw[o];refine dR [98] W<|Mu (ap g W W)<|dL [] W ?_;apply Mz bT
   ·intro T U;refine fR 2 W<|bK W W W (by decide) (r:=[.int .u8 10]) W W<|fR 6 W<|fO W W W (by omega) ?_;rw[o];refine fR 1 W<|bm i W W<|aS j W W<|fR 1 W<|TF.nil ⟨by kernel_rfl,rfl⟩
   exact DC.ret ⟨_,rfl,.bin 10 a c,u,by rw[E.cells,b,f];rfl,rfl,.kz 10 _ (.inl ⟨by simp,rfl⟩) s w,k.trans (h.trans x)⟩
  ·skip
   obtain⟨B,C,⟨a,l,rfl,rfl,s,h⟩,g⟩:=t m q .int st z k.le;obtain⟨L,M,⟨c,u,rfl,rfl,w,x⟩,i⟩:=t m q .int st l h.le;obtain⟨F,G,H,I,J,K,b⟩:=a.shape;obtain⟨N,O,P,Q,R,S,f⟩:=c.shape;rw[b]at g;rw[f]at i;refine DT.ob Tryz.func115 W Tryz.ntmps115 W<|dO [2,2,25] W<|Mu (ap y W W)<|dR [2,3,2,0,2,1,2,2,2,1,2,68] W<|Mu (aJ du W W)<|dL [2,0,2,0] W ?_;have j:=kP 7 13 a c;rw[b,f]at j;refine dO [2,96] W<|Mu (cC W W W (by omega)) ?_;rw[o];refine dR [98] W<|Mu (ap g W W)<|dL [] W ?_;apply Mz bT
   ·intro T U;refine fR 2 W<|bK W W W (by decide) (r:=[.int .u8 13]) W W<|fR 6 W<|fO W W W (by omega) ?_;rw[o];refine fR 1 W<|bm i W W<|aS j W W<|fR 1 W<|TF.nil ⟨by kernel_rfl,rfl⟩
   exact DC.ret ⟨_,rfl,.bin 13 a c,u,by rw[E.cells,b,f];rfl,rfl,.kz 13 _ (.inr (.inl ⟨by simp,rfl⟩)) s w,k.trans (h.trans x)⟩
  ·skip
   obtain⟨B,C,⟨a,l,rfl,rfl,s,h⟩,g⟩:=t m q .int st z k.le;obtain⟨L,M,⟨c,u,rfl,rfl,w,x⟩,i⟩:=t m q .int st l h.le;obtain⟨F,G,H,I,J,K,b⟩:=a.shape;obtain⟨N,O,P,Q,R,S,f⟩:=c.shape;rw[b]at g;rw[f]at i;refine DT.ob Tryz.func115 W Tryz.ntmps115 W<|dO [2,2,25] W<|Mu (ap y W W)<|dR [2,3,2,0,2,1,2,2,2,1,2,68] W<|Mu (aJ du W W)<|dL [2,0,2,0] W ?_;have j:=kP 7 16 a c;rw[b,f]at j;refine dO [2,96] W<|Mu (cC W W W (by omega)) ?_;rw[o];refine dR [98] W<|Mu (ap g W W)<|dL [] W ?_;apply Mz bT
   ·intro T U;refine fR 2 W<|bK W W W (by decide) (r:=[.int .u8 16]) W W<|fR 6 W<|fO W W W (by omega) ?_;rw[o];refine fR 1 W<|bm i W W<|aS j W W<|fR 1 W<|TF.nil ⟨by kernel_rfl,rfl⟩
   exact DC.ret ⟨_,rfl,.bin 16 a c,u,by rw[E.cells,b,f];rfl,rfl,.kz 16 _ (.inr (.inl ⟨by simp,rfl⟩)) s w,k.trans (h.trans x)⟩
  ·skip
   obtain⟨r3,K3,⟨co,Z,rfl,rfl,V⟩,X⟩:=Fp ht aj main z k.le;obtain⟨B,C,⟨a,l,rfl,rfl,s,h⟩,g⟩:=t m q co st Z V.le;obtain⟨L,M,⟨c,u,rfl,rfl,w,x⟩,i⟩:=t m q co st l h.le;obtain⟨F,G,H,I,J,K,b⟩:=a.shape;obtain⟨N,O,P,Q,R,S,f⟩:=c.shape;rw[b]at g;rw[f]at i;refine DT.ob Tryz.func115 W Tryz.ntmps115 W<|dO [2,2,25] W<|Mu (ap y W W)<|dR [2,3,2,0,2,1,2,2,2,1,2,68] W<|Mu (aJ du W W)<|dR [2,1,2,72] W<|Mu (ap X W W)<|dL [2,0] W ?_;have j:=kP 7 11 a c;rw[b,f]at j;refine dO [2,96] W<|Mu (cC W W W (by omega)) ?_;rw[o];refine dR [98] W<|Mu (ap g W W)<|dL [] W ?_;apply Mz bT
   ·intro T U;refine fR 2 W<|bK W W W (by decide) (r:=[.int .u8 11]) W W<|fR 6 W<|fO W W W (by omega) ?_;rw[o];refine fR 1 W<|bm i W W<|aS j W W<|fR 1 W<|TF.nil ⟨by kernel_rfl,rfl⟩
   exact DC.ret ⟨_,rfl,.bin 11 a c,u,by rw[E.cells,b,f];rfl,rfl,.kz 11 _ (.inr (.inr W)) s w,k.trans (V.trans (h.trans x))⟩
theorem G0:uV zs v aj main 0:=by
 intro d g e st f h;obtain⟨l,m,⟨a,i,rfl,rfl,j,k⟩,b⟩:=nX ht aj main d.ready g.ready e f h;obtain⟨n,o,p,q,r,s,c⟩:=a.shape;rw[c]at b;refine DT.ob Tryz.func82 W Tryz.ntmps82 W<|dO [2,2,1,2,30] W<|Mu (ap b W W)<|dL [] W<|DC.ret ⟨_,rfl,a,i,by rw[c];rfl,rfl,.v j,k⟩
theorem G1(d:Nat)(hd:d<=100)(z:uV zs v aj main d):uV zs v aj main (d+1):=by
 have A:=Iy ht aj main d hd z;intro c l j st co hg;obtain⟨r0,K0,⟨w,p,rfl,rfl,hr⟩,n⟩:=eQ ht aj main 12 (by omega) (by omega) co hg;have hj:=hr.lt;have a:=hr.mv;have D:((d+1:Nat):Int)-1=(d:Int):=by omega
 have o:decide (((d+1:Nat):Int)<=0)=false:=aqR (by omega);have Qp:w=0\/w=1\/w=2\/w=3\/w=4\/w=5\/w=6\/w=7\/w=8\/w=9\/w=10\/w=11:=by omega
 rcases Qp with rfl|rfl|rfl|rfl|rfl|rfl|rfl|rfl|rfl|rfl|rfl|rfl
 ·skip
  obtain⟨O,P,⟨e,u,rfl,rfl,y,m⟩,k⟩:=ir ht aj main j p a.le;obtain⟨Q,R,S,T,U,V,f⟩:=e.shape;rw[f]at k;refine DT.ob Tryz.func82 W Tryz.ntmps82 W<|dO [2,2,25] W<|Mu (aN o W W W W)<|dR [0,2,35] W<|Mu (ap n W W)<|dR [3,2,1,2,40] W<|Mu (ap k W W)<|dL [] W<|DC.ret ⟨_,rfl,e,u,by rw[f];rfl,rfl,.c y,a.trans m⟩
 ·skip
  obtain⟨O,P,⟨e,u,rfl,rfl,X,m⟩,k⟩:=nX ht aj main c.ready l.ready j p a.le;obtain⟨Q,R,S,T,U,V,f⟩:=e.shape;rw[f]at k;refine DT.ob Tryz.func82 W Tryz.ntmps82 W<|dO [2,2,25] W<|Mu (aN o W W W W)<|dR [0,2,35] W<|Mu (ap n W W)<|dR [3,2,0,2,1,1,2,48] W<|Mu (ap k W W)<|dL [] W<|DC.ret ⟨_,rfl,e,u,by rw[f];rfl,rfl,.v X,a.trans m⟩
 ·skip
  obtain⟨O,P,⟨e,u,rfl,rfl,X,m⟩,k⟩:=nX ht aj main c.ready l.ready j p a.le;obtain⟨Q,R,S,T,U,V,f⟩:=e.shape;rw[f]at k;refine DT.ob Tryz.func82 W Tryz.ntmps82 W<|dO [2,2,25] W<|Mu (aN o W W W W)<|dR [0,2,35] W<|Mu (ap n W W)<|dR [3,2,0,2,0,2,1,2,48] W<|Mu (ap k W W)<|dL [] W<|DC.ret ⟨_,rfl,e,u,by rw[f];rfl,rfl,.v X,a.trans m⟩
 ·skip
  obtain⟨O,P,⟨e,u,rfl,rfl,y,m⟩,k⟩:=z c l .bool st p a.le;obtain⟨Q,R,S,T,U,V,f⟩:=e.shape;rw[f]at k;obtain⟨Y,Z,⟨s,F,rfl,rfl,G,B⟩,x⟩:=z c l j st u m.le;obtain⟨k2,Vb,n2,s2,a2,b2,t⟩:=s.shape;rw[t]at x;obtain⟨r3,K3,⟨e3,g3,rfl,rfl,d7,RL⟩,NP⟩:=z c l j st F B.le;obtain⟨k3,d8,n3,s3,a3,b3,h3⟩:=e3.shape;rw[h3]at NP;refine DT.ob Tryz.func82 W Tryz.ntmps82 W<|dO [2,2,25] W<|Mu (aN o W W W W)<|dR [0,2,35] W<|Mu (ap n W W)<|dL [3,2,0,2,0,2,0,2,1] W ?_;apply Mz bT
  ·intro s0 Oo;refine fR 2 W<|aS jp W W<|fR 1 W<|fO W W W (by omega) ?_;rw[D];refine fR 1 W<|bm k W W<|fR 2 W<|TF.nil ⟨by kernel_rfl,rfl⟩
  refine dO [2,62] W<|Mu (cC W W W (by omega)) ?_;rw[D];refine dR [64] W<|Mu (ap x W W)<|dL [] W ?_;apply Mz bT
  ·intro s0 Oo;refine fR 6 W<|fO W W W (by omega) ?_;rw[D];refine fR 1 W<|bm NP W W<|fR 3 W<|TF.nil ⟨by kernel_rfl,rfl⟩
  exact DC.ret ⟨_,rfl,.ite e s e3,g3,by rw[E.cells,f,t,h3];rfl,rfl,.ite y G d7,a.trans (m.trans (B.trans RL))⟩
 ·skip
  cases st with
  |true=>
   obtain⟨O,P,⟨e,u,rfl,rfl,y,m⟩,k⟩:=ir ht aj main j p a.le;obtain⟨Q,R,S,T,U,V,f⟩:=e.shape;rw[f]at k;obtain⟨Y,Z,⟨s,F,rfl,rfl,G,B⟩,x⟩:=z ⟨c.all,c.all,c.cW⟩ l.wide j true u m.le;obtain⟨k2,Vb,n2,s2,a2,b2,t⟩:=s.shape;rw[t]at x;have C:=kP 9 0 e s;rw[f,t]at C;refine DT.ob Tryz.func82 W Tryz.ntmps82 W<|dO [2,2,25] W<|Mu (aN o W W W W)<|dR [0,2,35] W<|Mu (ap n W W)<|dR [3,2,0,2,0,2,0,2,0,2,1,1,2,1,2,82] W<|Mu (ap k W W)<|dL [2] W ?_;apply Mz bT
   ·intro s0 Oo;refine fR 5 W<|fO W W W (by omega) ?_;rw[D];refine fR 1 W<|bm x W W<|aS C W W<|fR 1 W<|TF.nil ⟨by kernel_rfl,rfl⟩
   exact DC.ret ⟨_,rfl,.fA e s,F,by rw[E.cells,f,t];rfl,rfl,.fA y G,a.trans (m.trans B)⟩
  |false=>
   obtain⟨H,I,⟨g,go,rfl,rfl,q,r⟩,h⟩:=A c l j false p a.le;obtain⟨J,K,no,L,M,N,i⟩:=g.shape;rw[i]at h;refine DT.ob Tryz.func82 W Tryz.ntmps82 W<|dO [2,2,25] W<|Mu (aN o W W W W)<|dR [0,2,35] W<|Mu (ap n W W)<|dR [3,2,0,2,0,2,0,2,0,2,1,1,2,0,2,146] W<|Mu (ap h W W)<|dL [] W<|DC.ret ⟨_,rfl,g,go,by rw[i];rfl,rfl,q,a.trans r⟩
 ·skip
  cases st with
  |true=>
   obtain⟨O,P,⟨e,u,rfl,rfl,y,m⟩,k⟩:=ir ht aj main j p a.le;obtain⟨Q,R,S,T,U,V,f⟩:=e.shape;rw[f]at k;obtain⟨Y,Z,⟨s,F,rfl,rfl,G,B⟩,x⟩:=z ⟨c.all,c.all,c.cW⟩ l.wide j true u m.le;obtain⟨k2,Vb,n2,s2,a2,b2,t⟩:=s.shape;rw[t]at x;have C:=kP 9 0 e s;rw[f,t]at C;refine DT.ob Tryz.func82 W Tryz.ntmps82 W<|dO [2,2,25] W<|Mu (aN o W W W W)<|dR [0,2,35] W<|Mu (ap n W W)<|dR [3,2,0,2,0,2,0,2,0,2,0,2,1,2,1,2,82] W<|Mu (ap k W W)<|dL [2] W ?_;apply Mz bT
   ·intro s0 Oo;refine fR 5 W<|fO W W W (by omega) ?_;rw[D];refine fR 1 W<|bm x W W<|aS C W W<|fR 1 W<|TF.nil ⟨by kernel_rfl,rfl⟩
   exact DC.ret ⟨_,rfl,.fA e s,F,by rw[E.cells,f,t];rfl,rfl,.fA y G,a.trans (m.trans B)⟩
  |false=>
   obtain⟨H,I,⟨g,go,rfl,rfl,q,r⟩,h⟩:=A c l j false p a.le;obtain⟨J,K,no,L,M,N,i⟩:=g.shape;rw[i]at h;refine DT.ob Tryz.func82 W Tryz.ntmps82 W<|dO [2,2,25] W<|Mu (aN o W W W W)<|dR [0,2,35] W<|Mu (ap n W W)<|dR [3,2,0,2,0,2,0,2,0,2,0,2,1,2,0,2,146] W<|Mu (ap h W W)<|dL [] W<|DC.ret ⟨_,rfl,g,go,by rw[i];rfl,rfl,q,a.trans r⟩
 ·skip
  cases st with
  |true=>
   obtain⟨O,P,⟨e,u,rfl,rfl,y,m⟩,k⟩:=z c l j true p a.le;obtain⟨Q,R,S,T,U,V,f⟩:=e.shape;rw[f]at k;obtain⟨Y,Z,⟨s,F,rfl,rfl,G,B⟩,x⟩:=z ⟨c.all,c.all,c.cW⟩ l.wide j true u m.le;obtain⟨k2,Vb,n2,s2,a2,b2,t⟩:=s.shape;rw[t]at x;have C:=kP 11 0 e (.pre s);rw[E.cells,f,t]at C;refine DT.ob Tryz.func82 W Tryz.ntmps82 W<|dO [2,2,25] W<|Mu (aN o W W W W)<|dR [0,2,35] W<|Mu (ap n W W)<|dR [3,2,0,2,0,2,0,2,0,2,0,2,0,2,1,2,1,2,106] W<|Mu (cC W W W (by omega)) ?_;rw[D];refine dR [108] W<|Mu (ap k W W)<|dR [2,2,120] W<|Mu (cC W W W (by omega)) ?_;rw[D];refine dR [122] W<|Mu (ap x W W)<|dR [2,127] W<|Mu (aJ C W W)<|dL [] W<|DC.ret ⟨_,rfl,.arrow e (.pre s),F,by rw[E.cells,E.cells,f,t];rfl,rfl,.arrow y G,a.trans (m.trans B)⟩
  |false=>
   obtain⟨H,I,⟨g,go,rfl,rfl,q,r⟩,h⟩:=A c l j false p a.le;obtain⟨J,K,no,L,M,N,i⟩:=g.shape;rw[i]at h;refine DT.ob Tryz.func82 W Tryz.ntmps82 W<|dO [2,2,25] W<|Mu (aN o W W W W)<|dR [0,2,35] W<|Mu (ap n W W)<|dR [3,2,0,2,0,2,0,2,0,2,0,2,0,2,1,2,0,2,146] W<|Mu (ap h W W)<|dL [] W<|DC.ret ⟨_,rfl,g,go,by rw[i];rfl,rfl,q,a.trans r⟩
 ·skip
  obtain⟨rp,Kp,⟨d6,b,gp,rfl,rfl,ac,hp⟩,QR⟩:=CP ht aj main c.cW l.cW j p a.le;cases b with
  |true=>
   refine DT.ob Tryz.func82 W Tryz.ntmps82 W<|dO [2,2,25] W<|Mu (aN o W W W W)<|dR [0,2,35] W<|Mu (ap n W W)<|dR [3,2,0,2,0,2,0,2,0,2,0,2,0,2,0,2,1,2,135] W<|Mu (ap QR W W)<|dL [2,1,2] W<|DC.ret ⟨_,rfl,.last d6,gp,rfl,rfl,.last (hp W),a.trans ac⟩
  |false=>
   obtain⟨H,I,⟨g,go,rfl,rfl,q,r⟩,h⟩:=A c l j st gp ac.le;obtain⟨J,K,no,L,M,N,i⟩:=g.shape;rw[i]at h;refine DT.ob Tryz.func82 W Tryz.ntmps82 W<|dO [2,2,25] W<|Mu (aN o W W W W)<|dR [0,2,35] W<|Mu (ap n W W)<|dR [3,2,0,2,0,2,0,2,0,2,0,2,0,2,0,2,1,2,135] W<|Mu (ap QR W W)<|dR [2,0,2,146] W<|Mu (ap h W W)<|dL [] W<|DC.ret ⟨_,rfl,g,go,by rw[i];rfl,rfl,q,a.trans (ac.trans r)⟩
 ·skip
  obtain⟨H,I,⟨g,go,rfl,rfl,q,r⟩,h⟩:=A c l j st p a.le;obtain⟨J,K,no,L,M,N,i⟩:=g.shape;rw[i]at h;refine DT.ob Tryz.func82 W Tryz.ntmps82 W<|dO [2,2,25] W<|Mu (aN o W W W W)<|dR [0,2,35] W<|Mu (ap n W W)<|dR [3,2,0,2,0,2,0,2,0,2,0,2,0,2,0,2,0,2,146] W<|Mu (ap h W W)<|dL [] W<|DC.ret ⟨_,rfl,g,go,by rw[i];rfl,rfl,q,a.trans r⟩
 ·skip
  obtain⟨H,I,⟨g,go,rfl,rfl,q,r⟩,h⟩:=A c l j st p a.le;obtain⟨J,K,no,L,M,N,i⟩:=g.shape;rw[i]at h;refine DT.ob Tryz.func82 W Tryz.ntmps82 W<|dO [2,2,25] W<|Mu (aN o W W W W)<|dR [0,2,35] W<|Mu (ap n W W)<|dR [3,2,0,2,0,2,0,2,0,2,0,2,0,2,0,2,0,2,146] W<|Mu (ap h W W)<|dL [] W<|DC.ret ⟨_,rfl,g,go,by rw[i];rfl,rfl,q,a.trans r⟩
 ·skip
  obtain⟨H,I,⟨g,go,rfl,rfl,q,r⟩,h⟩:=A c l j st p a.le;obtain⟨J,K,no,L,M,N,i⟩:=g.shape;rw[i]at h;refine DT.ob Tryz.func82 W Tryz.ntmps82 W<|dO [2,2,25] W<|Mu (aN o W W W W)<|dR [0,2,35] W<|Mu (ap n W W)<|dR [3,2,0,2,0,2,0,2,0,2,0,2,0,2,0,2,0,2,146] W<|Mu (ap h W W)<|dL [] W<|DC.ret ⟨_,rfl,g,go,by rw[i];rfl,rfl,q,a.trans r⟩
 ·skip
  obtain⟨H,I,⟨g,go,rfl,rfl,q,r⟩,h⟩:=A c l j st p a.le;obtain⟨J,K,no,L,M,N,i⟩:=g.shape;rw[i]at h;refine DT.ob Tryz.func82 W Tryz.ntmps82 W<|dO [2,2,25] W<|Mu (aN o W W W W)<|dR [0,2,35] W<|Mu (ap n W W)<|dR [3,2,0,2,0,2,0,2,0,2,0,2,0,2,0,2,0,2,146] W<|Mu (ap h W W)<|dL [] W<|DC.ret ⟨_,rfl,g,go,by rw[i];rfl,rfl,q,a.trans r⟩
theorem dt: ∀(d:Nat),d<=100->uV zs v aj main d
 |0,_=>G0 ht aj main
 |d+1,a=>G1 ht aj main d (by omega) (dt d (by omega))
end
end Go.Proofs
namespace Go.Mt
theorem DT.drop{P:Program}{f:Nat}{ms:List M}{H:Hp}{post:M->Hp->Prop}(n:Nat)(g:H.length<=n)
  (h:DT P f ms H λc a=>n<=a.length/\MB n c/\HB n (a.take n)/\post c (a.take n)):DT P f ms H post:=by
 obtain⟨c,a,⟨l,m,o,i⟩,j⟩:=h;exact⟨c,a.take n,i,CT.drop n g (post:= λe d=>e=c/\d=a.take n) (j.mono λe d ⟨k,b⟩=>by grind)⟩
def Iz(n:Nat)(rs:List (List D)):Hp:=match rs with
 | []=>[]
 |q::r=>[.row true n r.length (aX (q::r))]
theorem CQ(H0:Hp)(n:Nat)(rs:List (List D)):dB H0 n rs=H0++Iz n rs:=by cases rs<;>simp[dB,Iz]
theorem wM{P:Program}{n c:Nat}{a:Nat->St->Prop}{k k':Nat}{sl Na:List (Nat×V)}{bx Ns:List (Nat×List M)}{H H':Hp}(d:k'<k)(e:a k' ⟨Na,Ns,H'⟩)(i: ∀b,get Ns b=get bx b)(f:H=H')(g:keeps sl Na):xK P n c a k ⟨sl,bx,H⟩:=
 ⟨k',_,d,e,λ_ _ _ _ _ h=>by subst f;exact h.nK (gJ g) i⟩
section
variable{X:bD}{ops:Array Oper}{rest:List Oper}{sl:List (Nat×V)}{bx:List (Nat×List M)}{M6:List Ef->St->Prop}{d ty:Nat}{pos:String}{af:Array Edge}
theorem mJ{T e n b:Nat}{x y:Operand}{H0:Hp}{rs:List (List D)}{r:List D}{z:D}[ht:aQ X.P T e][o:bU X.P e n][p:js X.P e b][q:gg X.P e z](c:Nat.blt d X.n=true)
  (f:bj sl x=some (.m (fP H0.length rs))) (g:bj sl y=some (.m (.d (.sl [r])))) (i:Nat.blt 0 n=true) (h:(bf z).length=n) (s:r.length=n) (t:(rs.length+1)*b<=140737488355328) (u:rs.length+1<=140737488355328)
  (k:TF X ops rest ⟨(d,.m (fP H0.length (rs++ [r])))::sl,bx,dB H0 n (rs++ [r])⟩ λj l=>M6 (⟨some d,.m (fP H0.length (rs++ [r])),[],[],none,true,some (dB H0 n (rs++ [r]))⟩::j) l):
  TF X ops (⟨some d,.call ⟨.builtin .append,#[x,y],#[T,T]⟩,ty,pos,af,none⟩::rest) ⟨sl,bx,dB H0 n rs⟩ M6:=by
 cases rs with
 |nil=>exact xz true c f g i h (by simp) (by grind) (by grind) k
 |cons a rs=>
  refine xA (acc:=true) (cs:=aX (a::rs)) c f g (by simp[dB]) h (by grind) (by grind) (by grind) ?_;have e:(dB H0 n (a::rs)).set H0.length (.row true n (rs.length+1) (aX (a::rs)++aX [r]))=dB H0 n (a::rs++ [r]):=by simp[dB,aX]
  have m:M.bB H0.length (rs.length+1) (rs.length+1+1)=fP H0.length (a::rs++ [r]):=by simp[fP]
  rw[<-e,<-m]at k;exact k
end
end Go.Mt
namespace Go.Proofs
open Go.Mt Go.Mk
theorem eh{P:Program}{f:Nat}{ms:List M}{v:D}{a:Nat}{c:Bool}{g g':GS}{r:M}(h:(ms.all (A2 2))=true)(i:CT P f ms (GH v a c g) λr' d=>r'=r/\d=GH v a c g')(n:Nat)(rs:List (List D)):
  CT P f ms (dB (GH v a c g) n rs) λr' d=>r'=r/\d=dB (GH v a c g') n rs:=by
 rw[CQ,CQ];refine(CT.suffix (Iz n rs) (H:=GH v a c g) (oY v a c g) (λm j=>iX (arz.1 h m j)) (i.mono λr' d ⟨e,b⟩=>(⟨by rw[b];rfl,e,b⟩:d.length=(GH v a c g).length/\(r'=r/\d=GH v a c g')))).mono ?_;rintro r' k ⟨l,rfl,_,rfl,rfl⟩;exact⟨rfl,rfl⟩
theorem mK(v:D)(a:Nat)(b:Bool)(g:GS)(n:Nat)(rs:List (List D)):2<=(dB (GH v a b g) n rs).length/\HB 2 ((dB (GH v a b g) n rs).take 2)/\(dB (GH v a b g) n rs).take 2=GH v a b g:=by
 have c:=DV (GH v a b g) n rs;exact⟨(F8 (GH v a b g) n rs),by rw[show(2:Nat)=(GH v a b g).length from rfl,c];exact oY _ _ _ _,c⟩
section
variable{zs:List Int}{v:D}(ht:Tape zs v)(aj:Nat)(main:Bool)
include ht
theorem yo(outs:List Va)(D:outs.length<=1000)(g:GS)(u:g.i<=zs.length):DT Tryz.prog 110 [.ref 1 0,.d (.sl (aC outs))] (GH v aj main g) λr K=> ∃(l:List Va) (g':GS),r= .d (.sl (aC l))/\K=GH v aj main g'/\Mv zs g g'/\LS outs l:=by
 refine DT.drop 2 (aqd _)<|DT.ob Tryz.func110 W Tryz.ntmps110 W<|dC [2,2,2] W<|MG [nN 6 0,nM 5 (fP 2 (aC [])),nD 1 (.sl (aC outs)),nR 0 1] (dB (GH v aj main g) 15 (aC [])) W W<|dC [3] W<|DC.lp (λo p=> ∃(a:Nat) (l:List Va) (g':GS),p=⟨[nI 6 (a:Int),nM 5 (fP 2 (aC l)),nD 1 (.sl (aC outs)),nR 0 1],[],dB (GH v aj main g') 15 (aC l)⟩/\a<=outs.length/\LS (outs.take a) l/\Mv zs g g'/\o=outs.length-a) outs.length _
  ⟨0,[],g,rfl,by omega,.nil,⟨rfl,rfl,aqd _,u⟩,rfl⟩ W ?_
 rintro o p ⟨a,l,e,rfl,E,f,h,rfl⟩;refine dO [2,13] W<|Mu (bH W W W) ?_;rw[bw];refine dL [] W<|DC.cond W (λk=> ?_) (λk=> ?_)
 ·have i:a<outs.length:=by grind
  have c:=dM i;have j:=aqu i;generalize outs[a]=b at c j;have w:=f.len;rw[arX]at w;obtain⟨F,G,H,I,J,L,M,N,x,_⟩:=j5 b;have d:aC (l++ [b])=aC l++ [b.cells]:=by rw[gC];rfl
  rw[x]at c d;obtain⟨r,K,⟨q,m,rfl,rfl,y⟩,k⟩:=eQ ht aj main 2 (by omega) (by omega) e h.le;have s:=eh W k 15 (aC l);have t:=y.mv;refine dC [3] W ?_;cases n:b.last with
  |false=>
   rw[n]at c d;refine dO [2,19] W<|Mu (aK W W W (aqe a) c W)<|dR [1,2,34] W<|Mu (aK W W W (aqe a) c W)<|dR [37] W<|Mu (qK (H0:=GH v aj main e) W W W W (by rfl) W (by rw[bw];omega) (by rw[bw];omega))<|dR [2,16] W<|Mu (ax W W W (by omega))<|dL [] W<|bE (k':=outs.length-(a+1)) (by omega) ⟨a+1,l++ [b],e,rfl,by omega,by rw[j];exact .cB f b,h,rfl⟩ (by rw[d];rfl) (kc W (kc (by rw[d];rfl) W))
  |true=>
   rw[n]at c d;rcases aqJ q with rfl|O
   ·refine dO [2,19] W<|Mu (aK W W W (aqe a) c W)<|dR [27] W ?_
    first|refine Mu (aE W W) ?_|(refine Mu (aB W) ?_;refine Mu (aw W W ((vr _ _ _ 1 (aqd _)).trans W) W) ?_)
    refine dR [28] W ?_
    first|refine Mu (aE W W) ?_|(refine Mu (aB W) ?_;refine Mu (ap s W W) ?_)
    refine dR [1,2,34] W<|Mu (aK W W W (aqe a) c W)<|dR [37] W<|Mu (qK (H0:=GH v aj main m) W W W W (by rfl) W (by rw[bw];omega) (by rw[bw];omega))<|dR [2,16] W<|Mu (ax W W W (by omega))<|dL [] W<|bE (k':=outs.length-(a+1)) (by omega) ⟨a+1,l++ [b],m,rfl,by omega,by rw[j];exact .cB f b,h.trans t,rfl⟩ (by rw[d];rfl) (kc W (kc (by rw[d];rfl) W))
   ·have z:(((q:Nat):Int)==0)=false:=aqV.2 (by omega);refine dO [2,19] W<|Mu (aK W W W (aqe a) c W)<|dR [27] W ?_
    first|refine Mu (aE W W) ?_|(refine Mu (aB W) ?_;refine Mu (aw W W ((vr _ _ _ 1 (aqd _)).trans W) W) ?_)
    refine dR [28] W ?_
    first|refine Mu (aE W W) ?_|(refine Mu (aB W) ?_;refine Mu (ap s W W) ?_)
    refine dR [29] W ?_
    first|refine Mu (aE W W) ?_|(refine Mu (aB W) ?_;refine Mu (aN z W W W W) ?_)
    refine dR [0,2,16] W<|Mu (ax W W W (by omega))<|dL [] W<|bE (k':=outs.length-(a+1)) (by omega) ⟨a+1,l,m,rfl,by omega,by rw[j];exact .drop f b n,h.trans t,rfl⟩ W W
 ·refine DC.exit ?_;have i:a=outs.length:=by grind
  subst i;rw[aqQ]at f;obtain⟨A,B,C⟩:=mK v aj main e 15 (aC l);refine dC [2] W<|DC.b9 4 W (iK (GH v aj main e) 15 (aC l) (cc l))<|DC.ret ⟨_,rfl,A,.d _,B,l,e,rfl,C,h,f⟩
end
instance:br Tryz.prog 110:=cK (by kernel_rfl)
instance:br Tryz.prog 111:=cK (by kernel_rfl)
instance:br Tryz.prog 37:=cK (by kernel_rfl)
instance:br Tryz.prog 54:=cK (by kernel_rfl)
theorem vO.bN{s:Sc}(h:vO s):vO s.bN:=⟨h.ready,aqY _,h.cW⟩
theorem Tr.len(t:Tr):t.cells.length=12:=by simp[Tr.cells,E.len]
theorem Ej(l:List Tr): ∀r∈eC l,r.length=12:=by intro r a;obtain⟨_,_,rfl⟩:=aqM.1 a;exact Tr.len _
theorem An(l:List Tr):(eC l).length=l.length:=by simp[eC]
structure Bm(zs:List Int)(w:Int)(g g':GS):Prop where
 i:g.i<=g'.i
 le:g'.i<=zs.length
 n:g.n<=g'.n
 pN:g'.n<=3*g'.i
 q0:min g.q 0-w<=g'.q
 q1:g'.q<=g.q
def qB:Nat->Int
 |0=>6
 |d+1=>6*(1+3*qB d)
theorem La: ∀d,d<=3->0<=qB d/\qB d<=40000
 |0,_=>by decide
 |1,_=>by decide
 |2,_=>by decide
 |3,_=>by decide
 |d+4,a=>by omega
theorem wN: ∀d,d<=2->0<=qB d/\qB d<=4000
 |0,_=>by decide
 |1,_=>by decide
 |2,_=>by decide
 |d+3,a=>by omega
def ws(W:Int):Nat->Int
 |0=>0
 |i+1=>ws W i+W
theorem vP{W:Int}(h:0<=W): ∀i,i<=3->0<=ws W i/\ws W i<=3*W
 |0,_=>by simp only[ws];omega
 |1,_=>by simp only[ws];omega
 |2,_=>by simp only[ws];omega
 |3,_=>by simp only[ws];omega
 |i+4,h=>by omega
def Iv(H:Hp):Prop:= ∃cs,H[1]?=some (.box cs)/\cs[0]?=some (.ref 0 0)
theorem Fq(v:D)(a:Nat)(b:Bool)(g:GS)(n:Nat)(rs:List (List D)):Iv (dB (GH v a b g) n rs):=⟨_,(vr _ _ _ 1 (aqd _)).trans W,rfl⟩
structure By(c:Nat)(s:Sc):Prop where
 ready:s.ready.length<=c
 all:s.all.length<=1000
 cW:s.cW.length<=c
theorem By.b{c:Nat}{s:Sc}(h:By c s)(a:c<=1000):vO s:=⟨by have:=h.ready;omega,by have:=h.all;omega,by have:=h.cW;omega⟩
theorem By.bN{c:Nat}{s:Sc}(h:By c s):By c s.bN:=⟨h.ready,aqY _,h.cW⟩
section
variable(zs:List Int)(v:D)(aj:Nat)(main:Bool)
def qn(d:Nat):Prop:= ∀(s:Sc),By (800-200*d) s-> ∀(outs:List Va),outs.length<=3-> ∀(g:GS),g.i<=zs.length->g.n<=3*g.i->g.q<=14-> -200000<=g.q->
 DT Tryz.prog 37 [.ref 1 0,.d (.agg s.cells),.d (.sl (aC outs)),dN d] (GH v aj main g) λr K=> ∃(b:aW) (g':GS),r= .d (.agg b.cells)/\K=GH v aj main g'/\GB aj d s outs g.n g'.n b/\Bm zs (qB d) g g'
end
section
variable{zs:List Int}{v:D}(ht:Tape zs v)(aj:Nat)(main:Bool)
include ht
theorem uW(s:Sc)(B:vO s)(N:Nat)(X:1<=N/\N<=3)(g:GS)(C:g.i<=zs.length):DT Tryz.prog 111 [.ref 1 0,.d (.agg s.cells),dN N] (GH v aj main g) λr K=> ∃(l:List Tr) (g':GS),r= .d (.sl (eC l))/\K=GH v aj main g'/\Mv zs g g'/\yn s N l:=by
 obtain⟨Y,Z,⟨m,o,rfl,rfl,p⟩,D⟩:=eQ ht aj main 3 (by omega) (by omega) g C;have RL:=p.lt;refine DT.drop 2 (aqd _)<|DT.ob Tryz.func111 W Tryz.ntmps111 W<|dO [2,2,2,18] W<|Mu (ap D W W)<|dL [2] W<|MG [nN 9 0,nN 8 m,nM 7 (fP 2 (eC [])),nD 4 (.aZ s.cells 0),nN 2 N,nR 0 1] (dB (GH v aj main o) 12 (eC [])) W W<|dC [3] W<|DC.lp (λd h=> ∃(a:Nat) (l:List Tr) (g':GS),h=⟨[nI 9 (a:Int),nN 8 m,nM 7 (fP 2 (eC l)),nD 4 (.aZ s.cells 0),nN 2 N,nR 0 1],[],dB (GH v aj main g') 12 (eC l)⟩/\a<=m/\l.length=a/\(∀f∈l,GE s.bN .bool false 2 f.e/\ ∃d,d<N/\f.to=nm 83 d)/\Mv zs g g'/\d=m-a) m _
  ⟨0,[],o,rfl,by omega,rfl,by simp,p.mv,rfl⟩ W ?_
 rintro d h ⟨a,l,i,rfl,hi,E,z,j,rfl⟩;refine dC [2] W<|DC.cond W (λq=> ?_) (λq=> ?_)
 ·have MN:a<m:=by have:=aqv q;omega
  obtain⟨r1,K1,⟨e,F,rfl,rfl,G,t⟩,u⟩:=dt ht aj main 2 (by omega) s.bN B.bN .bool false i j.le;obtain⟨H,I,J,h,L,M,w⟩:=e.shape;rw[w]at u;obtain⟨r2,K2,⟨c,O,rfl,rfl,k⟩,P⟩:=eQ ht aj main N (by omega) (by omega) F t.le;obtain⟨r3,K3,⟨n,x,rfl,rfl,U⟩,Q⟩:=eQ ht aj main 2 (by omega) (by omega) O k.le;have R:=k.lt;have ac:=qk c;have y:eC (l++ [⟨e,nm 83 c,((n:Nat):Int)==0⟩])=eC l++ [bO H I J h L M++ [.str (⟨#[83]⟩++dg c),.bool (((n:Nat):Int)==0),.int .i64 0,.int .i64 0]]:=by
   simp only[eC,aqO,aqN,arf,Tr.cells,w];rfl
  refine dC [3] W ?_;apply DC.DW Iv (Fq _ _ _ _ _ _) bT
  ·intro s0 Oo;refine iR 7 W ?_;apply MF
   ·skip
    refine aS jp W W<|TF.nil ⟨rfl,rfl⟩
   apply MF
   ·skip
    refine bm (eh W u 12 (eC l)) W W<|TF.nil ⟨rfl,rfl⟩
   refine iR 3 W<|MK W W (λA b=>b)<|iR 1 W ?_;apply MF
   ·skip
    refine bm (eh W P 12 (eC l)) W W<|TF.nil ⟨rfl,rfl⟩
   apply MF
   ·skip
    refine aS (mw (c+1) c (by omega) (by omega)) W W<|TF.nil ⟨rfl,rfl⟩
   apply MF
   ·skip
    refine sZ W W W (by have:(⟨#[83]⟩:ByteArray).size=1:=rfl;omega)<|TF.nil ⟨rfl,rfl⟩
   refine iR 3 W<|MK W W (λA b=>b) ?_;apply MF
   ·skip
    refine bm (eh W Q 12 (eC l)) W W<|TF.nil ⟨rfl,rfl⟩
   refine iR 3 W ?_;apply MF
   ·skip
    refine mJ (H0:=GH v aj main x) W W W W (by rfl) W (by rw[An];omega) (by rw[An];omega)<|TF.nil ⟨rfl,rfl⟩
   refine iR 1 W<|iT.nil ⟨by kernel_rfl,by repeat' first|exact trivial|exact Fq _ _ _ _ _ _|refine⟨?_,?_⟩,rfl⟩
  refine dO [2,23] W<|Mu (ax W W W (by omega))<|dL [] W<|bE (k':=m-(a+1)) (by omega) ⟨a+1,l++ [⟨e,nm 83 c,((n:Nat):Int)==0⟩],x,rfl,by omega,by simp[E],by
   intro f V;rcases aql.1 V with b|b
   ·exact z f b
   ·simp at b;subst b;exact⟨G,c,R,rfl⟩,j.trans (t.trans (k.mv.trans U.mv)),rfl⟩ (by rw[y];rfl) (kc W (kc W (kc (by rw[y];rfl) W)))
 ·refine DC.exit ?_;obtain⟨e,S,T⟩:=mK v aj main i 12 (eC l);refine dC [2] W<|DC.b9 6 W (iK (GH v aj main i) 12 (eC l) (Ej l))<|DC.ret ⟨_,rfl,e,.d _,S,l,i,rfl,T,j,by omega,z⟩
end
instance:br Tryz.prog 80:=cK (by kernel_rfl)
instance:br Tryz.prog 81:=cK (by kernel_rfl)
theorem fF{H:Hp}{d:D}{r ms:List M}(a:h_ H r=some ms):h_ H (.d d::r)=some (.d d::ms):=by simp only[h_,iI,a]
theorem gN{H:Hp}{m:M}{d:D}{r ms:List M}(h:iI H m=some d)(a:h_ H r=some ms):h_ H (m::r)=some (.d d::ms):=by simp only[h_,h,a]
theorem gb(l:List aY):(b7 l).length=l.length:=by rw[mj];simp
theorem sG(l:List aY): ∀r∈b7 l,r.length=7:=by rw[mj];intro r a;obtain⟨_,_,rfl⟩:=aqM.1 a;exact aY.len _
theorem lz(l:List aY)(a:aY):b7 (l++ [a])=b7 l++ [a.cells]:=by rw[mj,mj];simp
theorem ra(H:Hp):h_ H []=some []:=rfl
abbrev G2(k op n:Int)(s:Nm)(a b:List (List D))(m:M):List M:=[.d (.int .u8 3),.d (.sl []),.d (.str ⟨#[]⟩),.d (.sl []),.d (.bool false),.d (.int .u8 k),.d (.int .u8 op),.d (.int .i32 n),.d (.str s),.d (.sl a),.d (.sl b),.d (.int .i64 0),.d (.int .i64 0),m,.d (.int .i64 0),.d (.int .i64 0)]
abbrev G3:List M:=[.d (.int .u8 0),.d (.sl []),.d (.str ⟨#[]⟩),.d (.sl []),.d (.bool false),.d (.int .u8 0),.d (.int .u8 0),.d (.int .i32 0),.d (.str ⟨#[]⟩),.d (.sl []),.d (.sl []),.d (.int .i64 0),.d (.int .i64 0),.d (.sl []),.d (.int .i64 0),.d (.int .i64 0)]
section
variable{zs:List Int}{v:D}(ht:Tape zs v)(aj:Nat)(main:Bool)
include ht
theorem yp(d:Nat)(hd:d<=2)(Z:qn zs v aj main d)(s:Sc)(L:By (800-200*d) s)(outs:List Va)(ho:outs.length<=3)(g:GS)(hg:g.i<=zs.length)(hn:g.n<=3*g.i)(O7:0<g.q)(Vr:g.q<=14):
  DT Tryz.prog 80 [.ref 1 0,.d (.agg s.cells),.d (.sl (aC outs)),dN (d+1)] (GH v aj main g) λr K=> ∃(q:ay) (g':GS),r= .d (.agg q.cells)/\K=GH v aj main g'/\GQ (GB aj d) aj s outs g.n g'.n [q] []/\Bm zs (3*qB d) g g':=by
 obtain⟨r0,K0,⟨d7,g0,rfl,rfl,hr⟩,N_⟩:=eQ ht aj main 2 (by omega) (by omega) g hg;have hj:=hr.lt;have Nq:=hr.mv;have Qd:=L.b (by omega);have hW:=wN d hd;have Ph:((d+1:Nat):Int)-1=(d:Int):=by omega
 have Qp:d7=0\/d7=1:=by omega
 rcases Qp with rfl|rfl
 ·obtain⟨r1,K1,⟨M,N,rfl,rfl,Ol,Nf⟩,O⟩:=dt ht aj main 2 (by omega) s Qd .eO true g0 Nq.le;obtain⟨p,t,u,w,x,y,P⟩:=M.shape;rw[P]at O;have j:=Nq.trans Nf;refine DT.drop 2 (aqd _)<|DT.ob Tryz.func80 W Tryz.ntmps80 W<|dO [2,2,2,2,23] W<|Mu (ap N_ W W)<|dL [1,2] W ?_;apply Mz bT
  ·intro Q R;refine fR 2 W<|aS kG W W<|bm O W W<|fR 2 W<|TF.nil ⟨by kernel_rfl,rfl⟩
  refine dC [2] W<|DC.uC [nN 11 0,nD 10 (.sl [[D.str cQ],[.str bZ],[.str bu]]),(9,.loc 9 0),(8,.loc 8 0),nD 5 (.aZ s.cells 0),nN 3 (d+1),nD 2 (.sl (aC outs)),nR 0 1]
   [(9,G2 p t u w x y (fP 2 (b7 []))),(8,G3)] (dB (GH v aj main N) 7 (b7 [])) W (by intro i;simp only[Go.Mt.get];cases Nat.beq 9 i<;>cases Nat.beq 8 i<;>rfl) W ?_
  refine dC [3] W<|DC.lp (λH S=> ∃(a:Nat) (e:List aY) (g':GS),S=⟨[nI 11 (a:Int),nD 10 (.sl [[D.str cQ],[.str bZ],[.str bu]]),(9,.loc 9 0),(8,.loc 8 0),nD 5 (.aZ s.cells 0),nN 3 (d+1),nD 2 (.sl (aC outs)),nR 0 1],[(9,G2 p t u w x y (fP 2 (b7 e))),(8,G3)],dB (GH v aj main g') 7 (b7 e)⟩/\a<=3/\e.length=a/\mu (GB aj d) s outs [cQ,bZ,bu] g.n e g'.n/\(g.i<=g'.i/\g'.i<=zs.length/\g.n<=g'.n/\g'.n<=3*g'.i/\ -(ws (qB d) a)<=g'.q/\g'.q<=g.q)/\H=3-a) 3 _
   ⟨0,[],N,rfl,by omega,rfl,by have I:=j.n;rw[I];exact .nil,⟨j.i,j.le,by rw[j.n];exact aqd _,by have:=j.n;have:=j.i;omega,by have:=j.q;simp only[ws];omega,by rw[j.q];exact as1 _⟩,rfl⟩ W ?_
  rintro H S ⟨a,e,k,rfl,hi,z,A,⟨ac,B,b3,T,b5,b6⟩,rfl⟩;refine dC [2] W<|DC.cond W (λhc=> ?_) (λhc=> ?_)
  ·have U:a<3:=by grind
   have Zw: ∃c:Nm,([cQ,bZ,bu]:List Nm)[a]?=some c/\([[D.str cQ],[.str bZ],[.str bu]]:List (List D))[((a:Nat):Int).toNat]?=some [.str c]:=by
    grind
   obtain⟨c,Yo,V⟩:=Zw;have co:=vP hW.1 a (by omega);have X:decide ((a:Int)>0)=decide (0<a):=by grind
   refine dC [3] W ?_;rcases aqJ a with h0|h0
   ·obtain⟨r3,K3,⟨b,l,rfl,rfl,C,f⟩,E⟩:=Z s.bN L.bN outs ho k B T (by omega) (by omega);obtain⟨F,G,m⟩:=b.shape;have n:=eh (by rfl) E 7 (b7 e);rw[m]at n;have o:b7 (e++ [.mk c b [] []])=b7 e++ [[.str c,.sl F,.sl G,.sl [],.sl [],.int .i64 0,.int .i64 0]]:=by rw[lz,aY.cells,m];rfl
    refine dO [2,2,44] W<|Mu (fZ W W W (r:= .bool false) (by show some (D.bool (decide _))=_;rw[X,aqR (by omega)]))<|dL [0] W ?_;apply Mz bT
    ·intro Q R;refine fR 4 W<|bK W W W (aqe a) V W<|fR 9 W<|fO W W W (by omega) ?_;rw[Ph];refine bm n W W<|fR 2 W<|mJ (H0:=GH v aj main l) W W W W (by rfl) W (by rw[gb];omega) (by rw[gb];omega)<|fR 1 W<|iH W W W (l_ _ _) W W<|TF.nil ⟨by kernel_rfl,rfl⟩
    refine dO [2,41] W<|Mu (ax W W W (by omega))<|dL [] W<|wM (k':=3-(a+1)) (by omega) ⟨a+1,e++ [.mk c b [] []],l,rfl,by omega,by simp[z],.snoc A c (by grind) outs (LS.refl _) (λ_=>rfl) b C,⟨by have:=f.i;omega,f.le,by have:=f.n;omega,f.pN,by have:=f.q0;simp only[ws];omega,by have:=f.q1;omega⟩,rfl⟩ (by intro i;simp only[Go.Mt.get];rw[o];cases Nat.beq 9 i<;>cases Nat.beq 8 i<;>rfl) (by rw[o];rfl) W
   ·obtain⟨r4,K4,⟨J,g4,rfl,rfl,h,Y⟩,Qk⟩:=yo ht aj main outs (by omega) k B;have Od:=Y.len;have N9:=eh (by rfl) Qk 7 (b7 e);obtain⟨r3,K3,⟨b,l,rfl,rfl,C,f⟩,E⟩:=Z s.bN L.bN J (by omega) g4 h.le (by have:=h.n;have:=h.i;omega) (by have:=h.q;omega) (by have:=h.q;omega);obtain⟨F,G,m⟩:=b.shape;have n:=eh (by rfl) E 7 (b7 e);rw[m]at n;have o:b7 (e++ [.mk c b [] []])=b7 e++ [[.str c,.sl F,.sl G,.sl [],.sl [],.int .i64 0,.int .i64 0]]:=by rw[lz,aY.cells,m];rfl
    refine dO [2,2,44] W<|Mu (fZ W W W (r:= .bool true) (by show some (D.bool (decide _))=_;rw[X,aqI (by omega)]))<|dR [1,2,47] W<|Mu (ap N9 W W)<|dL [] W ?_;apply Mz bT
    ·intro Q R;refine fR 4 W<|bK W W W (aqe a) V W<|fR 9 W<|fO W W W (by omega) ?_;rw[Ph];refine bm n W W<|fR 2 W<|mJ (H0:=GH v aj main l) W W W W (by rfl) W (by rw[gb];omega) (by rw[gb];omega)<|fR 1 W<|iH W W W (l_ _ _) W W<|TF.nil ⟨by kernel_rfl,rfl⟩
    refine dO [2,41] W<|Mu (ax W W W (by omega))<|dL [] W<|wM (k':=3-(a+1)) (by omega) ⟨a+1,e++ [.mk c b [] []],l,rfl,by omega,by simp[z],.snoc A c (by grind) J Y (λI=>by grind) b (by rw[<-h.n];exact C),⟨by have:=f.i;have:=h.i;omega,f.le,by have:=f.n;have:=h.n;omega,f.pN,by have:=f.q0;have:=h.q;simp only[ws];omega,by have:=f.q1;have:=h.q;omega⟩,rfl⟩ (by intro i;simp only[Go.Mt.get];rw[o];cases Nat.beq 9 i<;>cases Nat.beq 8 i<;>rfl) (by rw[o];rfl) W
  ·refine DC.exit ?_;have U:a=3:=by grind
   subst U;obtain⟨d6,e2,e3⟩:=mK v aj main k 7 (b7 e);refine DC.jd (MY:=G2 p t u w x y (.d (.sl (b7 e)))) 9 W (by repeat' first|exact ra _|refine fF ?_|refine gN (iK (GH v aj main k) 7 (b7 e) (sG e)) ?_) ?_;refine dC [2] W ?_;have co:=vP hW.1 3 (by omega);exact DC.ret ⟨_,rfl,d6,.d _,e2,.sw M e,k,by rw[ay.cells,P];rfl,e3,.sD Ol A z,⟨ac,B,b3,T,by omega,b6⟩⟩
 ·obtain⟨r1,K1,⟨M,N,rfl,rfl,Ol,Nf⟩,O⟩:=dt ht aj main 2 (by omega) s Qd .bool true g0 Nq.le;obtain⟨p,t,u,w,x,y,P⟩:=M.shape;rw[P]at O;have j:=Nq.trans Nf;refine DT.drop 2 (aqd _)<|DT.ob Tryz.func80 W Tryz.ntmps80 W<|dO [2,2,2,2,23] W<|Mu (ap N_ W W)<|dL [0] W ?_;apply Mz bT
  ·intro Q R;refine fR 2 W<|aS jp W W<|bm O W W<|fR 2 W<|TF.nil ⟨by kernel_rfl,rfl⟩
  refine dC [2] W<|DC.uC [nN 11 0,nD 10 (.sl [[D.str oM],[.str lI]]),(9,.loc 9 0),(8,.loc 8 0),nD 5 (.aZ s.cells 0),nN 3 (d+1),nD 2 (.sl (aC outs)),nR 0 1]
   [(9,G2 p t u w x y (fP 2 (b7 []))),(8,G3)] (dB (GH v aj main N) 7 (b7 [])) W (by intro i;simp only[Go.Mt.get];cases Nat.beq 9 i<;>cases Nat.beq 8 i<;>rfl) W ?_
  refine dC [3] W<|DC.lp (λH S=> ∃(a:Nat) (e:List aY) (g':GS),S=⟨[nI 11 (a:Int),nD 10 (.sl [[D.str oM],[.str lI]]),(9,.loc 9 0),(8,.loc 8 0),nD 5 (.aZ s.cells 0),nN 3 (d+1),nD 2 (.sl (aC outs)),nR 0 1],[(9,G2 p t u w x y (fP 2 (b7 e))),(8,G3)],dB (GH v aj main g') 7 (b7 e)⟩/\a<=2/\e.length=a/\mu (GB aj d) s outs [oM,lI] g.n e g'.n/\(g.i<=g'.i/\g'.i<=zs.length/\g.n<=g'.n/\g'.n<=3*g'.i/\ -(ws (qB d) a)<=g'.q/\g'.q<=g.q)/\H=2-a) 2 _
   ⟨0,[],N,rfl,by omega,rfl,by have I:=j.n;rw[I];exact .nil,⟨j.i,j.le,by rw[j.n];exact aqd _,by have:=j.n;have:=j.i;omega,by have:=j.q;simp only[ws];omega,by rw[j.q];exact as1 _⟩,rfl⟩ W ?_
  rintro H S ⟨a,e,k,rfl,hi,z,A,⟨ac,B,b3,T,b5,b6⟩,rfl⟩;refine dC [2] W<|DC.cond W (λhc=> ?_) (λhc=> ?_)
  ·have U:a<2:=by grind
   have Zw: ∃c:Nm,([oM,lI]:List Nm)[a]?=some c/\([[D.str oM],[.str lI]]:List (List D))[((a:Nat):Int).toNat]?=some [.str c]:=by
    grind
   obtain⟨c,Yo,V⟩:=Zw;have co:=vP hW.1 a (by omega);have X:decide ((a:Int)>0)=decide (0<a):=by grind
   refine dC [3] W ?_;rcases aqJ a with h0|h0
   ·obtain⟨r3,K3,⟨b,l,rfl,rfl,C,f⟩,E⟩:=Z s.bN L.bN outs ho k B T (by omega) (by omega);obtain⟨F,G,m⟩:=b.shape;have n:=eh (by rfl) E 7 (b7 e);rw[m]at n;have o:b7 (e++ [.mk c b [] []])=b7 e++ [[.str c,.sl F,.sl G,.sl [],.sl [],.int .i64 0,.int .i64 0]]:=by rw[lz,aY.cells,m];rfl
    refine dO [2,2,44] W<|Mu (fZ W W W (r:= .bool false) (by show some (D.bool (decide _))=_;rw[X,aqR (by omega)]))<|dL [0] W ?_;apply Mz bT
    ·intro Q R;refine fR 4 W<|bK W W W (aqe a) V W<|fR 9 W<|fO W W W (by omega) ?_;rw[Ph];refine bm n W W<|fR 2 W<|mJ (H0:=GH v aj main l) W W W W (by rfl) W (by rw[gb];omega) (by rw[gb];omega)<|fR 1 W<|iH W W W (l_ _ _) W W<|TF.nil ⟨by kernel_rfl,rfl⟩
    refine dO [2,41] W<|Mu (ax W W W (by omega))<|dL [] W<|wM (k':=2-(a+1)) (by omega) ⟨a+1,e++ [.mk c b [] []],l,rfl,by omega,by simp[z],.snoc A c (by grind) outs (LS.refl _) (λ_=>rfl) b C,⟨by have:=f.i;omega,f.le,by have:=f.n;omega,f.pN,by have:=f.q0;simp only[ws];omega,by have:=f.q1;omega⟩,rfl⟩ (by intro i;simp only[Go.Mt.get];rw[o];cases Nat.beq 9 i<;>cases Nat.beq 8 i<;>rfl) (by rw[o];rfl) W
   ·obtain⟨r4,K4,⟨J,g4,rfl,rfl,h,Y⟩,Qk⟩:=yo ht aj main outs (by omega) k B;have Od:=Y.len;have N9:=eh (by rfl) Qk 7 (b7 e);obtain⟨r3,K3,⟨b,l,rfl,rfl,C,f⟩,E⟩:=Z s.bN L.bN J (by omega) g4 h.le (by have:=h.n;have:=h.i;omega) (by have:=h.q;omega) (by have:=h.q;omega);obtain⟨F,G,m⟩:=b.shape;have n:=eh (by rfl) E 7 (b7 e);rw[m]at n;have o:b7 (e++ [.mk c b [] []])=b7 e++ [[.str c,.sl F,.sl G,.sl [],.sl [],.int .i64 0,.int .i64 0]]:=by rw[lz,aY.cells,m];rfl
    refine dO [2,2,44] W<|Mu (fZ W W W (r:= .bool true) (by show some (D.bool (decide _))=_;rw[X,aqI (by omega)]))<|dR [1,2,47] W<|Mu (ap N9 W W)<|dL [] W ?_;apply Mz bT
    ·intro Q R;refine fR 4 W<|bK W W W (aqe a) V W<|fR 9 W<|fO W W W (by omega) ?_;rw[Ph];refine bm n W W<|fR 2 W<|mJ (H0:=GH v aj main l) W W W W (by rfl) W (by rw[gb];omega) (by rw[gb];omega)<|fR 1 W<|iH W W W (l_ _ _) W W<|TF.nil ⟨by kernel_rfl,rfl⟩
    refine dO [2,41] W<|Mu (ax W W W (by omega))<|dL [] W<|wM (k':=2-(a+1)) (by omega) ⟨a+1,e++ [.mk c b [] []],l,rfl,by omega,by simp[z],.snoc A c (by grind) J Y (λI=>by grind) b (by rw[<-h.n];exact C),⟨by have:=f.i;have:=h.i;omega,f.le,by have:=f.n;have:=h.n;omega,f.pN,by have:=f.q0;have:=h.q;simp only[ws];omega,by have:=f.q1;have:=h.q;omega⟩,rfl⟩ (by intro i;simp only[Go.Mt.get];rw[o];cases Nat.beq 9 i<;>cases Nat.beq 8 i<;>rfl) (by rw[o];rfl) W
  ·refine DC.exit ?_;have U:a=2:=by grind
   subst U;obtain⟨d6,e2,e3⟩:=mK v aj main k 7 (b7 e);refine DC.jd (MY:=G2 p t u w x y (.d (.sl (b7 e)))) 9 W (by repeat' first|exact ra _|refine fF ?_|refine gN (iK (GH v aj main k) 7 (b7 e) (sG e)) ?_) ?_;refine dC [2] W ?_;have co:=vP hW.1 2 (by omega);exact DC.ret ⟨_,rfl,d6,.d _,e2,.sw M e,k,by rw[ay.cells,P];rfl,e3,.pA Ol A z,⟨ac,B,b3,T,by omega,b6⟩⟩
end
abbrev Lb(m:M):List M:=[.d (.int .u8 4),.d (.sl []),.d (.str ⟨#[]⟩),.d (.sl []),.d (.bool false),.d (.int .u8 0),.d (.int .u8 0),.d (.int .i32 0),.d (.str ⟨#[]⟩),.d (.sl []),.d (.sl []),.d (.int .i64 0),.d (.int .i64 0),m,.d (.int .i64 0),.d (.int .i64 0)]
section
variable{zs:List Int}{v:D}(ht:Tape zs v)(aj:Nat)(main:Bool)
include ht
theorem CR(d:Nat)(hd:d<=2)(RB:qn zs v aj main d)(s:Sc)(k:By (800-200*d) s)(outs:List Va)(ho:outs.length<=3)(g:GS)(hg:g.i<=zs.length)(hn:g.n<=3*g.i)(O7:0<g.q)(Vr:g.q<=14):
  DT Tryz.prog 81 [.ref 1 0,.d (.agg s.cells),.d (.sl (aC outs)),dN (d+1)] (GH v aj main g) λr K=> ∃(q:ay) (g':GS),r= .d (.agg q.cells)/\K=GH v aj main g'/\GQ (GB aj d) aj s outs g.n g'.n [q] []/\Bm zs (3*qB d) g g':=by
 obtain⟨r0,K0,⟨F,g0,rfl,rfl,hr⟩,N_⟩:=eQ ht aj main 3 (by omega) (by omega) g hg;have hj:=hr.lt;have n:=hr.mv;have Qd:=k.b (by omega);have hW:=wN d hd;have Ph:((d+1:Nat):Int)-1=(d:Int):=by omega
 have d8:1+((F:Nat):Int)=((F+1:Nat):Int):=by omega
 refine DT.drop 2 (aqd _)<|DT.ob Tryz.func81 W Tryz.ntmps81 W<|dO [2,2,2,23] W<|Mu (ap N_ W W)<|dR [24] W<|Mu (ax W W W (by omega)) ?_;rw[d8];refine dL [] W ?_;generalize f8:F+1=i;have p:1<=i/\i<=3:=by omega
 refine dC [2] W<|DC.uC [nN 11 0,nN 10 i,(9,.loc 9 0),(8,.loc 8 0),nD 5 (.aZ s.cells 0),nN 3 (d+1),nD 2 (.sl (aC outs)),nR 0 1]
  [(9,Lb (fP 2 (b7 []))),(8,G3)] (dB (GH v aj main g0) 7 (b7 [])) W (by intro co;simp only[Go.Mt.get];cases Nat.beq 9 co<;>cases Nat.beq 8 co<;>rfl) W ?_
 refine dC [3] W<|DC.lp (λd6 s2=> ∃(c:Nat) (a:List aY) (g':GS) (E:List (Nat×List M)),s2=⟨[nI 11 (c:Int),nN 10 i,(9,.loc 9 0),(8,.loc 8 0),nD 5 (.aZ s.cells 0),nN 3 (d+1),nD 2 (.sl (aC outs)),nR 0 1],E,dB (GH v aj main g') 7 (b7 a)⟩/\Go.Mt.get E 9=some (Lb (fP 2 (b7 a)))/\Go.Mt.get E 8=some G3/\c<=i/\a.length=c/\tu (GB aj d) s outs i g.n a g'.n/\(g.i<=g'.i/\g'.i<=zs.length/\g.n<=g'.n/\g'.n<=3*g'.i/\ -(ws (qB d) c)<=g'.q/\g'.q<=g.q)/\d6=i-c) i _
  ⟨0,[],g0,_,rfl,rfl,rfl,by omega,rfl,by have d7:=n.n;rw[d7];exact .nil,⟨n.i,n.le,by rw[n.n];exact aqd _,by have:=n.n;have:=n.i;omega,by have:=n.q;simp only[ws];omega,by rw[n.q];exact as1 _⟩,rfl⟩ W ?_
 rintro d6 s2 ⟨c,a,o,E,rfl,t,G,hi,u,H,⟨d9,I,b3,b4,b5,b6⟩,rfl⟩;refine dC [2] W<|DC.cond W (λhc=> ?_) (λhc=> ?_)
 ·have MN:c<i:=by grind
  have f4:=vP hW.1 c (by omega);have Oc:decide ((c:Int)>0)=decide (0<c):=by grind
  have Xw:=mw (c+1) c (by omega) (by omega);have f9:=qk c;refine dC [3] W ?_;rcases aqJ c with h0|h0
  ·skip
   have w:LS outs outs:=LS.refl _;have e:Mv zs o o:=⟨rfl,rfl,aqd _,I⟩;have Od:=w.len;obtain⟨r5,K5,⟨l,J,rfl,rfl,f,Y⟩,L⟩:=uW ht aj main s Qd i p o e.le;have Z:=eh (by rfl) L 7 (b7 a);obtain⟨r3,K3,⟨b,N,rfl,rfl,O,j⟩,P⟩:=RB s.bN k.bN outs (by omega) J f.le (by have:=e.n;have:=e.i;have:=f.n;have:=f.i;omega) (by have:=e.q;have:=f.q;omega) (by have:=e.q;have:=f.q;omega);obtain⟨Q,R,x⟩:=b.shape;have y:=eh (by rfl) P 7 (b7 a);rw[x]at y;have S:=sF s outs (by have:=k.ready;omega) (by omega);obtain⟨r6,K6,⟨m,z,rfl,rfl,h,ac⟩,T⟩:=uW ht aj main (s.more outs) ⟨by have:=k.ready;simp only[Sc.more,aqg];omega,by have:=k.all;simp only[Sc.more];omega,by have:=k.cW;simp only[Sc.more];omega⟩ i p N j.le;have U:=eh (by rfl) T 7 (b7 a);have A:b7 (a++ [.mk (nm 83 a.length) b l m])=b7 a++ [[.str (⟨#[83]⟩++dg c),.sl Q,.sl R,.sl (eC l),.sl (eC m),.int .i64 0,.int .i64 0]]:=by rw[lz,aY.cells,x,u];rfl
   refine dO [2,2,32] W<|Mu (fZ W W W (r:= .bool false) (by show some (D.bool (decide _))=_;rw[Oc,aqR (by omega)]))<|dR [0,2,37] W<|Mu (aJ Xw W W)<|dR [38] W<|Mu (pY W W W (by have:(⟨#[83]⟩:ByteArray).size=1:=rfl;omega))<|dR [2,43] W<|Mu (ap Z W W)<|dR [2,53] W<|Mu (cC W W W (by omega)) ?_;rw[Ph];refine dR [54] W<|Mu (ap y W W)<|dR [2,59] W<|Mu (aJ S W W)<|dR [61] W<|Mu (ap U W W)<|dR [2,64] W<|Mu (lV W W t W)<|dR [67] W<|Mu (qK (H0:=GH v aj main z) W W W W (by rfl) W (by rw[gb];omega) (by rw[gb];omega))<|dR [999] W<|Mu (ff W W t (l_ _ _) W W)<|dR [2,29] W<|Mu (ax W W W (by omega))<|dL [] W<|bE (k':=i-(c+1)) (by omega) ⟨c+1,a++ [.mk (nm 83 a.length) b l m],z,_,rfl,by rw[A];rfl,G,by omega,by simp[u],by
    have V:=h.n;rw[V];refine .snoc H outs w (λ_=>rfl) l Y b ?_ m ac;have X:=e.n;have B:=f.n;rw[<-X,<-B];exact O,⟨by have:=j.i;have:=e.i;have:=f.i;have:=h.i;omega,h.le,by have:=j.n;have:=e.n;have:=f.n;have:=h.n;omega,by have:=j.pN;have:=h.n;have:=h.i;omega,by have:=j.q0;have:=e.q;have:=f.q;have:=h.q;simp only[ws];omega,by have:=j.q1;have:=e.q;have:=f.q;have:=h.q;omega⟩,rfl⟩ (by rw[A];rfl) W
  ·skip
   obtain⟨r4,K4,⟨C,g4,rfl,rfl,e,w⟩,Qk⟩:=yo ht aj main outs (by omega) o I;have Od:=w.len;obtain⟨r5,K5,⟨l,J,rfl,rfl,f,Y⟩,L⟩:=uW ht aj main s Qd i p g4 e.le;have Z:=eh (by rfl) L 7 (b7 a);obtain⟨r3,K3,⟨b,N,rfl,rfl,O,j⟩,P⟩:=RB s.bN k.bN C (by omega) J f.le (by have:=e.n;have:=e.i;have:=f.n;have:=f.i;omega) (by have:=e.q;have:=f.q;omega) (by have:=e.q;have:=f.q;omega);obtain⟨Q,R,x⟩:=b.shape;have y:=eh (by rfl) P 7 (b7 a);rw[x]at y;have S:=sF s C (by have:=k.ready;omega) (by omega);obtain⟨r6,K6,⟨m,z,rfl,rfl,h,ac⟩,T⟩:=uW ht aj main (s.more C) ⟨by have:=k.ready;simp only[Sc.more,aqg];omega,by have:=k.all;simp only[Sc.more];omega,by have:=k.cW;simp only[Sc.more];omega⟩ i p N j.le;have U:=eh (by rfl) T 7 (b7 a);have A:b7 (a++ [.mk (nm 83 a.length) b l m])=b7 a++ [[.str (⟨#[83]⟩++dg c),.sl Q,.sl R,.sl (eC l),.sl (eC m),.int .i64 0,.int .i64 0]]:=by rw[lz,aY.cells,x,u];rfl
   refine dO [2,2,32] W<|Mu (fZ W W W (r:= .bool true) (by show some (D.bool (decide _))=_;rw[Oc,aqI (by omega)]))<|dR [1,2,35] W<|Mu (ap (eh (by rfl) Qk 7 (b7 a)) W W)<|dR [2,37] W<|Mu (aJ Xw W W)<|dR [38] W<|Mu (pY W W W (by have:(⟨#[83]⟩:ByteArray).size=1:=rfl;omega))<|dR [2,43] W<|Mu (ap Z W W)<|dR [2,53] W<|Mu (cC W W W (by omega)) ?_;rw[Ph];refine dR [54] W<|Mu (ap y W W)<|dR [2,59] W<|Mu (aJ S W W)<|dR [61] W<|Mu (ap U W W)<|dR [2,64] W<|Mu (lV W W t W)<|dR [67] W<|Mu (qK (H0:=GH v aj main z) W W W W (by rfl) W (by rw[gb];omega) (by rw[gb];omega))<|dR [999] W<|Mu (ff W W t (l_ _ _) W W)<|dR [2,29] W<|Mu (ax W W W (by omega))<|dL [] W<|bE (k':=i-(c+1)) (by omega) ⟨c+1,a++ [.mk (nm 83 a.length) b l m],z,_,rfl,by rw[A];rfl,G,by omega,by simp[u],by
    have V:=h.n;rw[V];refine .snoc H C w (λd7=>by grind) l Y b ?_ m ac;have X:=e.n;have B:=f.n;rw[<-X,<-B];exact O,⟨by have:=j.i;have:=e.i;have:=f.i;have:=h.i;omega,h.le,by have:=j.n;have:=e.n;have:=f.n;have:=h.n;omega,by have:=j.pN;have:=h.n;have:=h.i;omega,by have:=j.q0;have:=e.q;have:=f.q;have:=h.q;simp only[ws];omega,by have:=j.q1;have:=e.q;have:=f.q;have:=h.q;omega⟩,rfl⟩ (by rw[A];rfl) W
 ·refine DC.exit ?_;have MN:c=i:=by have:=aqA hc;omega
  subst MN;obtain⟨f7,B,e3⟩:=mK v aj main o 7 (b7 a);refine DC.jd (MY:=Lb (.d (.sl (b7 a)))) 9 t (by repeat' first|exact ra _|refine fF ?_|refine gN (iK (GH v aj main o) 7 (b7 a) (sG a)) ?_) ?_;refine dO [2,999] W<|Mu (ff W W G W W W)<|dL [] W ?_;have f4:=vP hW.1 c (by omega);exact DC.ret ⟨_,rfl,f7,.d _,B,.aL a,o,by rw[ay.cells];rfl,e3,.aL c p H u,⟨d9,I,b3,b4,by omega,b6⟩⟩
end
end Go.Proofs
namespace Go.Mt
section
variable{P:Program}{n B:Nat}{post:Exit->St->Prop}{sl:List (Nat×V)}{bx:List (Nat×List M)}{H:Hp}
theorem DC.kV{c:Code}(j:Nat){ec aG:Nat}{cs:List M}(a:H[j]?=some (.row false ec aG cs))(k:DC P n B c ⟨sl,bx,H.set j (.row true ec aG cs)⟩ post):DC P n B c ⟨sl,bx,H⟩ post:=
 Oj _ (λ_ _ _ d e b=>b.kV a) k
end
theorem kH{H:Hp}{i aG k n:Nat}{rs:List (List D)}(b:H[i]?=some (.row true n aG (aX rs)))(c:k=rs.length)(d:rs≠ [])(e: ∀a∈rs,a.length=n):iI H (.bB i aG k)=some (.sl rs):=
 Acc.view (n:=n) (i:=i) (.inr ⟨d,aG,by rw[c],b⟩) e
section
variable{X:bD}{ops:Array Oper}{rest:List Oper}{sl:List (Nat×V)}{bx:List (Nat×List M)}{H:Hp}{M6:List Ef->St->Prop}{d ty:Nat}{pos:String}{af:Array Edge}
theorem wy{T e n len:Nat}{parts:List (Nat×Operand)}{z:D}{ms:List (Nat×M)}{cs:List M}[ht:aQ X.P T e][q:bU X.P e n][r:gg X.P e z](f:Nat.blt d X.n=true)(g:Nat.blt 0 n=true)(h:(bf z).length=n)
  (o:Nat.ble (len*n) 16777216=true) (i:gH sl parts=some ms) (hf:fN (λc=>some (c*n,n)) (d_ n len (bf z)) ms=some cs)
  (k:TF X ops rest ⟨(d,.m (.bB H.length 0 len))::sl,bx,H++ [Ob.row false n 0 cs]⟩ λj l=>M6 (⟨some d,.m (.bB H.length 0 len),[],[],none,true,some (H++ [Ob.row false n 0 cs])⟩::j) l):TF X ops (⟨some d,.buildSlice T len parts.toArray,ty,pos,af,none⟩::rest) ⟨sl,bx,H⟩ M6:=by
 refine TF.cons (e:=⟨some d,.m (.bB H.length 0 len),[],[],none,true,some (H++ [Ob.row false n 0 cs])⟩) (Oi W W (bL f) λs b=> ?_) W k;have a:=b.H W;simp only at a;exact nt g h o (by rw[b.dU (λp m=>by simp[Op.operands];exact⟨_,m⟩),hJ];exact i) hf (.inl ⟨by rw[a],by rw[a]⟩)
end
end Go.Mt
namespace Go.Proofs
open Go.Mt Go.Mk
instance:br Tryz.prog 50:=cK (by kernel_rfl)
instance:br Tryz.prog 53:=cK (by kernel_rfl)
instance:br Tryz.prog 83:=cK (by kernel_rfl)
instance:br Tryz.prog 84:=cK (by kernel_rfl)
theorem dP(l:List ay):(bF l).length=l.length:=by rw[mn];simp
theorem eH(l:List ay): ∀r∈bF l,r.length=16:=by rw[mn];intro r a;obtain⟨_,_,rfl⟩:=aqM.1 a;exact ay.len _
theorem iv(a b:List ay):bF (a++b)=bF a++bF b:=by rw[mn,mn,mn];simp
theorem qQ{l:List D}(h:l.length=16): ∃a b c d e f g i j k m n o p q r,l= [a,b,c,d,e,f,g,i,j,k,m,n,o,p,q,r]:=by
 match l,h with
 | [a,b,c,d,e,f,g,i,j,k,m,n,o,p,q,r],_=>exact⟨_,_,_,_,_,_,_,_,_,_,_,_,_,_,_,_,rfl⟩
def CS(aj:Nat):Nat->Sc->List Va->Nat->Nat->aW->Prop
 |0=> λ_ _ _ _ _=>False
 |d+1=>GB aj d
def qP:Nat->Int
 |0=>0
 |d+1=>qB d
theorem iO{P:Program}{f:Nat}{ms:List M}{v:D}{a:Nat}{c:Bool}{g g':GS}{r:M}(h:(ms.all (A2 2))=true)(i:CT P f ms (GH v a c g) λr' d=>r'=r/\d=GH v a c g')(F:Hp):
  CT P f ms (GH v a c g++F) λr' d=>r'=r/\d=GH v a c g'++F:=by
 refine(CT.suffix F (H:=GH v a c g) (oY v a c g) (λm j=>iX (arz.1 h m j)) (i.mono λr' d ⟨e,b⟩=>(⟨by rw[b];rfl,e,b⟩:d.length=(GH v a c g).length/\(r'=r/\d=GH v a c g')))).mono ?_;rintro r' k ⟨l,rfl,_,rfl,rfl⟩;exact⟨rfl,rfl⟩
section
variable(zs:List Int)(v:D)(aj:Nat)(main:Bool)
def vQ(dp c:Nat):Prop:= ∀(s:Sc),s.ready.length+2*c<=900-200*dp->s.all.length<=1000->s.cW.length<=900-200*dp-> ∀(outs:List Va),outs.length<=3-> ∀(g:GS),g.i<=zs.length->g.n<=3*g.i->g.q<=c-> -300000<=g.q->g.q<=14->
 DT Tryz.prog 53 [.ref 1 0,.d (.agg s.cells),.d (.sl (aC outs)),dN dp] (GH v aj main g) λr K=> ∃(q:List ay) (vs:List Va) (g':GS),r= .cZ [.d (.sl (bF q)),.d (.sl (aC vs))]/\K=GH v aj main g'/\GQ (CS aj dp) aj s outs g.n g'.n q vs/\q.length<=3*c+3/\vs.length<=3*c/\Bm zs (1+3*qP dp) g g'
end
section
variable{zs:List Int}{v:D}(ht:Tape zs v)(aj:Nat)(main:Bool)
include ht
theorem ss(k c:Nat)(hD:k<=3)(f7:c<=14)(ih:vQ zs v aj main k c)(s:Sc)(m:s.ready.length+2*c+2<=900-200*k)(ha:s.all.length<=1000)(SK:s.cW.length<=900-200*k)(outs:List Va)(ho:outs.length<=3)(RT:0<aj)(SL:aj<=10)
  (g:GS) (H:g.i<=zs.length) (hn:g.n+3<=3*g.i) (O7:0<g.q) (Vr:g.q<=c):
  DT Tryz.prog 83 [.ref 1 0,.d (.agg s.cells),.d (.sl (aC outs)),dN k] (GH v aj main g) λr K=> ∃(q:List ay) (f:List Va) (g':GS),r= .cZ [.d (.sl (bF q)),.d (.sl (aC f))]/\K=GH v aj main g'/\GQ (CS aj k) aj s outs g.n g'.n q f/\q.length<=3*(c+1)+3/\f.length<=3*(c+1)/\Bm zs (1+3*qP k) g g':=by
 have hL:=ht.hl;obtain⟨L,a,M⟩:=g;simp only at H hn O7 Vr;have N:vO s:=⟨by omega,by omega,by omega⟩;obtain⟨r1,K1,⟨rfl,rfl⟩,M0⟩:=qm ht aj main 117 ⟨L,a,M⟩ H (by grind);obtain⟨r2,K2,⟨rfl,rfl⟩,M1⟩:=qm ht aj main 117 ⟨L,a+1,M⟩ H (by grind);obtain⟨r3,K3,⟨d,g3,rfl,rfl,Sh⟩,NP⟩:=eQ ht aj main aj RT (by omega) ⟨L,a+2,M⟩ H;have RL:=Sh.mv;have hj:=Sh.lt;have Xw:=mw (d+1) d (by omega) (by omega);have f8:=qk d;obtain⟨r4,K4,⟨j,g4,rfl,rfl,QE,Of⟩,O⟩:=dt ht aj main 2 (by omega) s N .int true g3 RL.le;obtain⟨n,o,p,t,u,w,P⟩:=j.shape;rw[P]at O;obtain⟨r5,K5,⟨b,g5,rfl,rfl,PI,P2⟩,Q⟩:=dt ht aj main 2 (by omega) s N .bool true g4 Of.le;obtain⟨x,y,z,sb,A,B,R⟩:=b.shape;rw[R]at Q;obtain⟨r6,K6,⟨j6,D,rfl,rfl,d6⟩,VE⟩:=eQ ht aj main 3 (by omega) (by omega) g5 P2.le;have S:=d6.mv;have ac:=RL.trans (Of.trans (P2.trans S));have d7:=ac.n;have d8:=ac.q;have d9:=ac.i;simp only at d7 d8 d9;have RC:=sF s [cR 117 (a+1) .int,cR 117 (a+2) .eO] (by omega) (by simp);rcases aqJ j6 with co|co
 ·skip
  subst co;obtain⟨r7,K7,⟨e,g7,rfl,rfl,Ol,C⟩,Zx⟩:=dt ht aj main 2 (by omega) s N .bool true D S.le;obtain⟨T,U,V,X,Y,Z,h7⟩:=e.shape;rw[h7]at Zx;have f9:=C.n;have gc:=C.q;have ge:=C.i;obtain⟨r8,K8,⟨i,f,l,rfl,rfl,E,QP,QU,h⟩,Zy⟩:=ih (s.more [cR 117 (a+1) .int,cR 117 (a+2) .eO]) (by simp only[Sc.more,aqg,aqw,aqS];omega) ha SK outs ho g7 C.le (by omega) (by omega) (by omega) (by omega);have f4:=h.q0;refine DT.drop 2 (aqd _)<|DT.ob Tryz.func83 W Tryz.ntmps83 W<|dO [2,2,22] W<|Mu (ap M0 W W)<|dR [23] W<|Mu (aJ du W W)<|dR [2,26] W<|Mu (ap M1 W W)<|dR [27] W<|Mu (aJ kG W W)<|dL [] W ?_;apply Mz bT
  ·intro I J;refine fR 8 W<|bm NP W W<|aS Xw W W<|sZ W W W (by have:(⟨#[102]⟩:ByteArray).size=1:=rfl;omega)<|fR 8 W<|TF.nil ⟨by kernel_rfl,rfl⟩
  refine dC [] W ?_;apply Mz bT
  ·intro I J;refine fR 2 W<|aS du W W<|bm O W W<|fR 2 W<|aS jp W W<|bm Q W W<|fR 3 W<|TF.nil ⟨by kernel_rfl,rfl⟩
  refine dO [2,60] W<|Mu (ap VE W W)<|dL [1,2] W ?_;apply Mz bT
  ·intro I J;refine fR 2 W<|aS jp W W<|bm Zx W W<|fR 2 W<|TF.nil ⟨by kernel_rfl,rfl⟩
  refine dO [2,74] W<|Mu (aJ RC W W)<|dR [77] W<|Mu (ap Zy W W)<|dL [] W ?_;have F:(ay.call (nm 117 (a+1)) (nm 117 (a+2)) (nm 102 d) j b true e).cells= [.int .u8 2,.sl [[.str (nm 117 (a+1))],[.str (nm 117 (a+2))]],.str (nm 102 d),.sl [bO n o p t u w,bO x y z sb A B],.bool true,.int .u8 T,.int .u8 U,.int .i32 V,.str X,.sl Y,.sl Z,.int .i64 0,.int .i64 0,.sl [],.int .i64 0,.int .i64 0]:=by rw[ay.cells,P,R,h7];rfl
  refine dO [2,2,83] W<|Mu (iB true W W W W (by rfl) (by simp) (by exact mQ W) (by grind))<|dR [2,86] W<|Mu (fC (cs:=aX [[.int .u8 2,.sl [[.str (nm 117 (a+1))],[.str (nm 117 (a+2))]],.str (nm 102 d),.sl [bO n o p t u w,bO x y z sb A B],.bool true,.int .u8 T,.int .u8 U,.int .i32 V,.str X,.sl Y,.sl Z,.int .i64 0,.int .i64 0,.sl [],.int .i64 0,.int .i64 0]]) W W W W W (eH i) (by rw[dP];simp only[aqH];omega) (by rw[dP];simp only[aqH];omega))<|dR [2,2,91] W<|Mu (iB true W W W W (by rfl) (by simp) (by intro r m;simp only[aqs,aqx,aq9]at m;rcases m with rfl|rfl<;>rfl) (by grind))<|dR [2,95] W<|Mu (fC (cs:=aX (aC [cR 117 (a+1) .int,cR 117 (a+2) .eO])) W W W W W (cc f) (by rw[bw];simp only[aqw,aqS];omega) (by rw[bw];simp only[aqw,aqS];omega))<|dL [] W<|MG [nM 8 (.bB 2 1 (1+(bF i).length)),nM 9 (.bB 3 1 (2+(aC f).length))] (GH v aj main l++ [.row true 16 1 (aX ([.int .u8 2,.sl [[.str (nm 117 (a+1))],[.str (nm 117 (a+2))]],.str (nm 102 d),.sl [bO n o p t u w,bO x y z sb A B],.bool true,.int .u8 T,.int .u8 U,.int .i32 V,.str X,.sl Y,.sl Z,.int .i64 0,.int .i64 0,.sl [],.int .i64 0,.int .i64 0]::bF i)),.row true 15 1 (aX (aC (cR 117 (a+1) .int::cR 117 (a+2) .eO::f)))]) W W<|DC.b9 8 W (kH W (by grind) (by simp) (by rw[<-F];exact eH (.call (nm 117 (a+1)) (nm 117 (a+2)) (nm 102 d) j b true e::i)))<|DC.b9 9 W (kH W (by simp only[bw,aqw];omega) (by simp[aC]) (cc _)) ?_
  refine DC.ret ⟨_,rfl,po W,iX W,oY v aj main l,.call (nm 117 (a+1)) (nm 117 (a+2)) (nm 102 d) j b true e::i,cR 117 (a+1) .int::cR 117 (a+2) .eO::f,l,by rw[bF,F];rfl,rfl,?_,by grind,by grind,⟨by have:=h.i;simp only;omega,h.le,by have:=h.n;simp only;omega,h.pN,by grind,by have:=h.q1;simp only;omega⟩⟩;refine .call d hj j b QE PI _ _ (.inr ⟨rfl,Ol⟩) ?_;have G:a+2=g7.n:=by omega
  rw[G];rw[G]at E;exact E
 ·skip
  have C:Mv zs D D:=⟨rfl,rfl,aqd _,S.le⟩;obtain⟨r8,K8,⟨i,f,l,rfl,rfl,E,QP,QU,h⟩,Zy⟩:=ih (s.more [cR 117 (a+1) .int,cR 117 (a+2) .eO]) (by simp only[Sc.more,aqg,aqw,aqS];omega) ha SK outs ho D C.le (by omega) (by omega) (by omega) (by omega);have f4:=h.q0;refine DT.drop 2 (aqd _)<|DT.ob Tryz.func83 W Tryz.ntmps83 W<|dO [2,2,22] W<|Mu (ap M0 W W)<|dR [23] W<|Mu (aJ du W W)<|dR [2,26] W<|Mu (ap M1 W W)<|dR [27] W<|Mu (aJ kG W W)<|dL [] W ?_;apply Mz bT
  ·intro I J;refine fR 8 W<|bm NP W W<|aS Xw W W<|sZ W W W (by have:(⟨#[102]⟩:ByteArray).size=1:=rfl;omega)<|fR 8 W<|TF.nil ⟨by kernel_rfl,rfl⟩
  refine dC [] W ?_;apply Mz bT
  ·intro I J;refine fR 2 W<|aS du W W<|bm O W W<|fR 2 W<|aS jp W W<|bm Q W W<|fR 3 W<|TF.nil ⟨by kernel_rfl,rfl⟩
  refine dO [2,60] W<|Mu (ap VE W W)<|dR [61] W<|Mu (aN (aqV.2 (by omega)) W W W W)<|dR [0,2,74] W<|Mu (aJ RC W W)<|dR [77] W<|Mu (ap Zy W W)<|dL [] W ?_;have F:(ay.call (nm 117 (a+1)) (nm 117 (a+2)) (nm 102 d) j b false .nil).cells= [.int .u8 2,.sl [[.str (nm 117 (a+1))],[.str (nm 117 (a+2))]],.str (nm 102 d),.sl [bO n o p t u w,bO x y z sb A B],.bool false,.int .u8 0,.int .u8 0,.int .i32 0,.str ⟨#[]⟩,.sl [],.sl [],.int .i64 0,.int .i64 0,.sl [],.int .i64 0,.int .i64 0]:=by rw[ay.cells,P,R];rfl
  refine dO [2,2,83] W<|Mu (iB true W W W W (by rfl) (by simp) (by exact mQ W) (by grind))<|dR [2,86] W<|Mu (fC (cs:=aX [[.int .u8 2,.sl [[.str (nm 117 (a+1))],[.str (nm 117 (a+2))]],.str (nm 102 d),.sl [bO n o p t u w,bO x y z sb A B],.bool false,.int .u8 0,.int .u8 0,.int .i32 0,.str ⟨#[]⟩,.sl [],.sl [],.int .i64 0,.int .i64 0,.sl [],.int .i64 0,.int .i64 0]]) W W W W W (eH i) (by rw[dP];simp only[aqH];omega) (by rw[dP];simp only[aqH];omega))<|dR [2,2,91] W<|Mu (iB true W W W W (by rfl) (by simp) (by intro r m;simp only[aqs,aqx,aq9]at m;rcases m with rfl|rfl<;>rfl) (by grind))<|dR [2,95] W<|Mu (fC (cs:=aX (aC [cR 117 (a+1) .int,cR 117 (a+2) .eO])) W W W W W (cc f) (by rw[bw];simp only[aqw,aqS];omega) (by rw[bw];simp only[aqw,aqS];omega))<|dL [] W<|MG [nM 8 (.bB 2 1 (1+(bF i).length)),nM 9 (.bB 3 1 (2+(aC f).length))] (GH v aj main l++ [.row true 16 1 (aX ([.int .u8 2,.sl [[.str (nm 117 (a+1))],[.str (nm 117 (a+2))]],.str (nm 102 d),.sl [bO n o p t u w,bO x y z sb A B],.bool false,.int .u8 0,.int .u8 0,.int .i32 0,.str ⟨#[]⟩,.sl [],.sl [],.int .i64 0,.int .i64 0,.sl [],.int .i64 0,.int .i64 0]::bF i)),.row true 15 1 (aX (aC (cR 117 (a+1) .int::cR 117 (a+2) .eO::f)))]) W W<|DC.b9 8 W (kH W (by grind) (by simp) (by rw[<-F];exact eH (.call (nm 117 (a+1)) (nm 117 (a+2)) (nm 102 d) j b false .nil::i)))<|DC.b9 9 W (kH W (by simp only[bw,aqw];omega) (by simp[aC]) (cc _)) ?_
  refine DC.ret ⟨_,rfl,po W,iX W,oY v aj main l,.call (nm 117 (a+1)) (nm 117 (a+2)) (nm 102 d) j b false .nil::i,cR 117 (a+1) .int::cR 117 (a+2) .eO::f,l,by rw[bF,F];rfl,rfl,?_,by grind,by grind,⟨by have:=h.i;simp only;omega,h.le,by have:=h.n;simp only;omega,h.pN,by grind,by have:=h.q1;simp only;omega⟩⟩;refine .call d hj j b QE PI _ _ (.inl ⟨rfl,rfl⟩) ?_;have G:a+2=D.n:=by omega
  rw[G];rw[G]at E;exact E
end
section
variable{zs:List Int}{v:D}(ht:Tape zs v)(aj:Nat)(main:Bool)
include ht
theorem CU(P c:Nat)(hD:P<=3)(i8:c<=14)(ih:vQ zs v aj main P c)(s:Sc)(R:s.ready.length+2*c+2<=900-200*P)(ha:s.all.length<=1000)(SK:s.cW.length<=900-200*P)(outs:List Va)(ho:outs.length<=3)
  (g:GS) (Z:g.i<=zs.length) (hn:g.n+3<=3*g.i) (O7:0<g.q) (Vr:g.q<=c):
  DT Tryz.prog 84 [.ref 1 0,.d (.agg s.cells),.d (.sl (aC outs)),dN P] (GH v aj main g) λr K=> ∃(q:List ay) (h:List Va) (g':GS),r= .cZ [.d (.sl (bF q)),.d (.sl (aC h))]/\K=GH v aj main g'/\GQ (CS aj P) aj s outs g.n g'.n q h/\q.length<=3*(c+1)+3/\h.length<=3*(c+1)/\Bm zs (1+3*qP P) g g':=by
 have hL:=ht.hl;obtain⟨gi,a,gq⟩:=g;simp only at Z hn O7 Vr;have Qd:vO s:=⟨by omega,by omega,by omega⟩;obtain⟨r1,K1,⟨rfl,rfl⟩,M0⟩:=qm ht aj main 99 ⟨gi,a,gq⟩ Z (by simp only;omega);obtain⟨r2,K2,⟨rfl,rfl⟩,M1⟩:=qm ht aj main 119 ⟨gi,a+1,gq⟩ Z (by simp only;omega);obtain⟨r3,K3,⟨rfl,rfl⟩,NP⟩:=qm ht aj main 122 ⟨gi,a+2,gq⟩ Z (by simp only;omega);obtain⟨r4,K4,⟨f,g4,rfl,rfl,QE,Of⟩,Qk⟩:=dt ht aj main 2 (by omega) s Qd .int false ⟨gi,a+3,gq⟩ Z;obtain⟨i,j,k,l,m,n,h4⟩:=f.shape;rw[h4]at Qk;obtain⟨r5,K5,⟨b,g5,rfl,rfl,PI,P2⟩,Tg⟩:=dt ht aj main 2 (by omega) s Qd .int false g4 Of.le;obtain⟨o,p,t,sb,u,w,h5⟩:=b.shape;rw[h5]at Tg;obtain⟨r6,K6,⟨L,g6,rfl,rfl,d8,Qr⟩,VE⟩:=ir ht aj main .int g5 P2.le;obtain⟨x,y,z,A,B,C,h6⟩:=L.shape;rw[h6]at VE;obtain⟨r7,K7,⟨Q,g7,rfl,rfl,d9,WB⟩,Zx⟩:=ir ht aj main .int g6 Qr.le;obtain⟨S,T,U,sl,al,V,h7⟩:=Q.shape;rw[h7]at Zx;have ac:=kP 7 3 (.var (nm 119 (a+2))) (.e_ (nm 99 (a+1)) bZ f);have co:=kP 9 0 Q (.bin 3 (.var (nm 119 (a+2))) (.e_ (nm 99 (a+1)) bZ f));simp only[E.cells,h4]at ac;simp only[E.cells,h4,h7]at co;obtain⟨r8,K8,⟨j8,g8,rfl,rfl,f9⟩,Zy⟩:=eQ ht aj main 2 (by omega) (by omega) g7 WB.le;have f4:=f9.mv;obtain⟨r9,K9,⟨e,g9,rfl,rfl,Ol,gc⟩,d6⟩:=dt ht aj main 3 (by omega) s Qd .eO true g8 f4.le;obtain⟨D,F,G,H,I,J,h9⟩:=e.shape;rw[h9]at d6;have YS:=Of.trans (P2.trans (Qr.trans (WB.trans (f4.trans gc))));have ge:=YS.n;have i6:=YS.q;have i7:=YS.i;simp only at ge i6 i7
 have RC:=sF s [cR 99 (a+1) .eO,cR 122 (a+3) .int] (by omega) (by simp);obtain⟨i9,mt,⟨d,h,X,rfl,rfl,PE,QP,QU,M⟩,f7⟩:=ih (s.more [cR 99 (a+1) .eO,cR 122 (a+3) .int]) (by simp only[Sc.more,aqg,aqw,aqS];omega) ha SK outs ho g9 YS.le (by omega) (by omega) (by omega) (by omega);have pm:=M.q0;rcases aqJ j8 with f8|f8
 ·skip
  subst f8;have Pb:bF (.df (nm 99 (a+1)) e:: .df (nm 119 (a+2)) (.e_ (nm 99 (a+1)) bZ f):: .df (nm 122 (a+3)) (.merge (nm 99 (a+1)) bu bZ cQ (.e_ (nm 99 (a+1)) bu b) (.var (nm 119 (a+2))) L):: [])= [[.int .u8 1,.sl [[.str (nm 99 (a+1))]],.str ⟨#[]⟩,.sl [],.bool false,.int .u8 D,.int .u8 F,.int .i32 G,.str H,.sl I,.sl J,.int .i64 0,.int .i64 0,.sl [],.int .i64 0,.int .i64 0],[.int .u8 1,.sl [[.str (nm 119 (a+2))]],.str ⟨#[]⟩,.sl [],.bool false,.int .u8 12,.int .u8 0,.int .i32 0,.str (nm 99 (a+1)),.sl [[.str bZ]],.sl [bO i j k l m n],.int .i64 0,.int .i64 0,.sl [],.int .i64 0,.int .i64 0],[.int .u8 1,.sl [[.str (nm 122 (a+3))]],.str ⟨#[]⟩,.sl [],.bool false,.int .u8 13,.int .u8 0,.int .i32 0,.str (nm 99 (a+1)),.sl [[.str bu],[.str bZ],[.str cQ]],.sl [bO 12 0 0 (nm 99 (a+1)) [[.str bu]] [bO o p t sb u w],bO 4 0 0 (nm 119 (a+2)) [] [],bO x y z A B C],.int .i64 0,.int .i64 0,.sl [],.int .i64 0,.int .i64 0]]:=by simp only[bF,ay.cells,E.cells,h4,h5,h6,h7,h9];rfl
  have d7:=iO (by rfl) f7 [.row true 16 0 (aX [[.int .u8 1,.sl [[.str (nm 99 (a+1))]],.str ⟨#[]⟩,.sl [],.bool false,.int .u8 D,.int .u8 F,.int .i32 G,.str H,.sl I,.sl J,.int .i64 0,.int .i64 0,.sl [],.int .i64 0,.int .i64 0],[.int .u8 1,.sl [[.str (nm 119 (a+2))]],.str ⟨#[]⟩,.sl [],.bool false,.int .u8 12,.int .u8 0,.int .i32 0,.str (nm 99 (a+1)),.sl [[.str bZ]],.sl [bO i j k l m n],.int .i64 0,.int .i64 0,.sl [],.int .i64 0,.int .i64 0],[.int .u8 1,.sl [[.str (nm 122 (a+3))]],.str ⟨#[]⟩,.sl [],.bool false,.int .u8 13,.int .u8 0,.int .i32 0,.str (nm 99 (a+1)),.sl [[.str bu],[.str bZ],[.str cQ]],.sl [bO 12 0 0 (nm 99 (a+1)) [[.str bu]] [bO o p t sb u w],bO 4 0 0 (nm 119 (a+2)) [] [],bO x y z A B C],.int .i64 0,.int .i64 0,.sl [],.int .i64 0,.int .i64 0]])];refine DT.drop 2 (aqd _)<|DT.ob Tryz.func84 W Tryz.ntmps84 W<|dO [2,2,26] W<|Mu (ap M0 W W)<|dR [27] W<|Mu (aJ kG W W)<|dL [] W ?_;apply Mz bT
  ·intro N O;refine fR 1 W<|bm M1 W W<|aS du W W<|fR 7 W<|TF.nil ⟨by kernel_rfl,rfl⟩
  refine dO [2,38] W<|Mu (ap NP W W)<|dR [39] W<|Mu (aJ du W W)<|dL [] W ?_;apply Mz bT
  ·intro N O;refine fR 5 W<|aS du W W<|bm Qk W W<|fR 4 W<|TF.nil ⟨by kernel_rfl,rfl⟩
  refine dC [] W ?_;apply Mz bT
  ·intro N O;refine fR 5 W<|aS du W W<|bm Tg W W<|fR 4 W<|TF.nil ⟨by kernel_rfl,rfl⟩
  refine dC [] W ?_;apply Mz bT
  ·intro N O;refine fR 8 W<|aS du W W<|bm VE W W<|fR 4 W<|TF.nil ⟨by kernel_rfl,rfl⟩
  refine dC [] W ?_;apply Mz bT
  ·intro N O;refine fR 1 W<|aS du W W<|bm Zx W W<|fR 4 W<|aS ac W W<|aS co W W<|fR 2 W<|TF.nil ⟨by kernel_rfl,rfl⟩
  refine dO [2,84] W<|Mu (ap Zy W W)<|dL [1,2] W ?_;apply Mz bT
  ·intro N O;refine fR 5 W<|aS kG W W<|bm d6 W W<|fR 11 W<|wy W W W W W W<|fR 1 W<|TF.nil ⟨by kernel_rfl,rfl⟩
  refine DC.kV 2 W<|MG [nM 17 (.bB 2 0 3),(12,.loc 12 0),(11,.loc 11 0),(10,.loc 10 0),nD 5 (.aZ s.cells 0),nN 3 P,nD 2 (.sl (aC outs)),nR 0 1] (GH v aj main g9++ [.row true 16 0 (aX [[.int .u8 1,.sl [[.str (nm 99 (a+1))]],.str ⟨#[]⟩,.sl [],.bool false,.int .u8 D,.int .u8 F,.int .i32 G,.str H,.sl I,.sl J,.int .i64 0,.int .i64 0,.sl [],.int .i64 0,.int .i64 0],[.int .u8 1,.sl [[.str (nm 119 (a+2))]],.str ⟨#[]⟩,.sl [],.bool false,.int .u8 12,.int .u8 0,.int .i32 0,.str (nm 99 (a+1)),.sl [[.str bZ]],.sl [bO i j k l m n],.int .i64 0,.int .i64 0,.sl [],.int .i64 0,.int .i64 0],[.int .u8 1,.sl [[.str (nm 122 (a+3))]],.str ⟨#[]⟩,.sl [],.bool false,.int .u8 13,.int .u8 0,.int .i32 0,.str (nm 99 (a+1)),.sl [[.str bu],[.str bZ],[.str cQ]],.sl [bO 12 0 0 (nm 99 (a+1)) [[.str bu]] [bO o p t sb u w],bO 4 0 0 (nm 119 (a+2)) [] [],bO x y z A B C],.int .i64 0,.int .i64 0,.sl [],.int .i64 0,.int .i64 0]])]) W W<|dO [2,112] W<|Mu (aJ RC W W)<|dR [115] W<|Mu (ap d7 W W)<|dR [2,2,123] W<|Mu (iB true W W W W (by rfl) (by simp) (by intro r R;simp only[aqs,aqx,aq9]at R;rcases R with rfl|rfl|rfl<;>rfl) (by exact po W))<|dR [2,126] W ?_
  refine Mu (fC (cs:=aX [[.int .u8 1,.sl [[.str (nm 99 (a+1))]],.str ⟨#[]⟩,.sl [],.bool false,.int .u8 D,.int .u8 F,.int .i32 G,.str H,.sl I,.sl J,.int .i64 0,.int .i64 0,.sl [],.int .i64 0,.int .i64 0],[.int .u8 1,.sl [[.str (nm 119 (a+2))]],.str ⟨#[]⟩,.sl [],.bool false,.int .u8 12,.int .u8 0,.int .i32 0,.str (nm 99 (a+1)),.sl [[.str bZ]],.sl [bO i j k l m n],.int .i64 0,.int .i64 0,.sl [],.int .i64 0,.int .i64 0],[.int .u8 1,.sl [[.str (nm 122 (a+3))]],.str ⟨#[]⟩,.sl [],.bool false,.int .u8 13,.int .u8 0,.int .i32 0,.str (nm 99 (a+1)),.sl [[.str bu],[.str bZ],[.str cQ]],.sl [bO 12 0 0 (nm 99 (a+1)) [[.str bu]] [bO o p t sb u w],bO 4 0 0 (nm 119 (a+2)) [] [],bO x y z A B C],.int .i64 0,.int .i64 0,.sl [],.int .i64 0,.int .i64 0]]) W W W W W (eH d) (by rw[dP];omega) (by rw[dP];omega))<|dR [129] W<|Mu (fC (cs:=aX (aC (cR 99 (a+1) .eO::⟨nm 119 (a+2),.int,some (bZ,nm 99 (a+1)),false,.nil⟩::cR 122 (a+3) .int:: []))) W W W W W (cc h) (by rw[bw];simp only[aqw,aqS];omega) (by rw[bw];simp only[aqw,aqS];omega))<|dL [] W<|MG [nM 8 (.bB 2 1 (3+(bF d).length)),nM 9 (.bB 3 1 (3+(aC h).length))] (GH v aj main X++ [.row true 16 1 (aX ([.int .u8 1,.sl [[.str (nm 99 (a+1))]],.str ⟨#[]⟩,.sl [],.bool false,.int .u8 D,.int .u8 F,.int .i32 G,.str H,.sl I,.sl J,.int .i64 0,.int .i64 0,.sl [],.int .i64 0,.int .i64 0]:: [.int .u8 1,.sl [[.str (nm 119 (a+2))]],.str ⟨#[]⟩,.sl [],.bool false,.int .u8 12,.int .u8 0,.int .i32 0,.str (nm 99 (a+1)),.sl [[.str bZ]],.sl [bO i j k l m n],.int .i64 0,.int .i64 0,.sl [],.int .i64 0,.int .i64 0]:: [.int .u8 1,.sl [[.str (nm 122 (a+3))]],.str ⟨#[]⟩,.sl [],.bool false,.int .u8 13,.int .u8 0,.int .i32 0,.str (nm 99 (a+1)),.sl [[.str bu],[.str bZ],[.str cQ]],.sl [bO 12 0 0 (nm 99 (a+1)) [[.str bu]] [bO o p t sb u w],bO 4 0 0 (nm 119 (a+2)) [] [],bO x y z A B C],.int .i64 0,.int .i64 0,.sl [],.int .i64 0,.int .i64 0]::bF d)),.row true 15 1 (aX (aC (cR 99 (a+1) .eO::⟨nm 119 (a+2),.int,some (bZ,nm 99 (a+1)),false,.nil⟩::cR 122 (a+3) .int::h)))]) W W ?_
  have Vd:bF (.df (nm 99 (a+1)) e:: .df (nm 119 (a+2)) (.e_ (nm 99 (a+1)) bZ f):: .df (nm 122 (a+3)) (.merge (nm 99 (a+1)) bu bZ cQ (.e_ (nm 99 (a+1)) bu b) (.var (nm 119 (a+2))) L)::d)= [.int .u8 1,.sl [[.str (nm 99 (a+1))]],.str ⟨#[]⟩,.sl [],.bool false,.int .u8 D,.int .u8 F,.int .i32 G,.str H,.sl I,.sl J,.int .i64 0,.int .i64 0,.sl [],.int .i64 0,.int .i64 0]:: [.int .u8 1,.sl [[.str (nm 119 (a+2))]],.str ⟨#[]⟩,.sl [],.bool false,.int .u8 12,.int .u8 0,.int .i32 0,.str (nm 99 (a+1)),.sl [[.str bZ]],.sl [bO i j k l m n],.int .i64 0,.int .i64 0,.sl [],.int .i64 0,.int .i64 0]:: [.int .u8 1,.sl [[.str (nm 122 (a+3))]],.str ⟨#[]⟩,.sl [],.bool false,.int .u8 13,.int .u8 0,.int .i32 0,.str (nm 99 (a+1)),.sl [[.str bu],[.str bZ],[.str cQ]],.sl [bO 12 0 0 (nm 99 (a+1)) [[.str bu]] [bO o p t sb u w],bO 4 0 0 (nm 119 (a+2)) [] [],bO x y z A B C],.int .i64 0,.int .i64 0,.sl [],.int .i64 0,.int .i64 0]::bF d:=by
   have Y:=iv (.df (nm 99 (a+1)) e:: .df (nm 119 (a+2)) (.e_ (nm 99 (a+1)) bZ f):: .df (nm 122 (a+3)) (.merge (nm 99 (a+1)) bu bZ cQ (.e_ (nm 99 (a+1)) bu b) (.var (nm 119 (a+2))) L):: []) d;rw[Pb]at Y;exact Y
  refine DC.b9 8 W (kH W (by simp only[aqw];omega) (by simp) (by rw[<-Vd];exact eH _))<|DC.b9 9 W (kH W (by simp only[bw,aqw];omega) (by simp[aC]) (cc _))<|DC.ret ⟨_,rfl,po W,iX W,oY v aj main X,.df (nm 99 (a+1)) e:: .df (nm 119 (a+2)) (.e_ (nm 99 (a+1)) bZ f):: .df (nm 122 (a+3)) (.merge (nm 99 (a+1)) bu bZ cQ (.e_ (nm 99 (a+1)) bu b) (.var (nm 119 (a+2))) L)::d,cR 99 (a+1) .eO::⟨nm 119 (a+2),.int,some (bZ,nm 99 (a+1)),false,.nil⟩::cR 122 (a+3) .int::h,X,by rw[Vd];rfl,rfl,?_,by simp only[aqw];omega,by simp only[aqw];omega,⟨by have:=M.i;simp only;omega,M.le,by have:=M.n;simp only;omega,M.pN,by simp only;omega,by have:=M.q1;simp only;omega⟩⟩;refine .lN f b L Q e _ QE PI d8 d9 Ol (.inl W) ?_;have e2:a+3=g9.n:=by omega
  rw[e2];rw[e2]at PE;exact PE
 ·skip
  have Pb:bF (.df (nm 99 (a+1)) e:: .df (nm 119 (a+2)) (.fA Q (.bin 3 (.var (nm 119 (a+2))) (.e_ (nm 99 (a+1)) bZ f))):: .df (nm 122 (a+3)) (.merge (nm 99 (a+1)) bu bZ cQ (.e_ (nm 99 (a+1)) bu b) (.var (nm 119 (a+2))) L):: [])= [[.int .u8 1,.sl [[.str (nm 99 (a+1))]],.str ⟨#[]⟩,.sl [],.bool false,.int .u8 D,.int .u8 F,.int .i32 G,.str H,.sl I,.sl J,.int .i64 0,.int .i64 0,.sl [],.int .i64 0,.int .i64 0],[.int .u8 1,.sl [[.str (nm 119 (a+2))]],.str ⟨#[]⟩,.sl [],.bool false,.int .u8 9,.int .u8 0,.int .i32 0,.str ⟨#[]⟩,.sl [],.sl [bO S T U sl al V,bO 7 3 0 ⟨#[]⟩ [] [bO 4 0 0 (nm 119 (a+2)) [] [],bO 12 0 0 (nm 99 (a+1)) [[.str bZ]] [bO i j k l m n]]],.int .i64 0,.int .i64 0,.sl [],.int .i64 0,.int .i64 0],[.int .u8 1,.sl [[.str (nm 122 (a+3))]],.str ⟨#[]⟩,.sl [],.bool false,.int .u8 13,.int .u8 0,.int .i32 0,.str (nm 99 (a+1)),.sl [[.str bu],[.str bZ],[.str cQ]],.sl [bO 12 0 0 (nm 99 (a+1)) [[.str bu]] [bO o p t sb u w],bO 4 0 0 (nm 119 (a+2)) [] [],bO x y z A B C],.int .i64 0,.int .i64 0,.sl [],.int .i64 0,.int .i64 0]]:=by simp only[bF,ay.cells,E.cells,h4,h5,h6,h7,h9];rfl
  have d7:=iO (by rfl) f7 [.row true 16 0 (aX [[.int .u8 1,.sl [[.str (nm 99 (a+1))]],.str ⟨#[]⟩,.sl [],.bool false,.int .u8 D,.int .u8 F,.int .i32 G,.str H,.sl I,.sl J,.int .i64 0,.int .i64 0,.sl [],.int .i64 0,.int .i64 0],[.int .u8 1,.sl [[.str (nm 119 (a+2))]],.str ⟨#[]⟩,.sl [],.bool false,.int .u8 9,.int .u8 0,.int .i32 0,.str ⟨#[]⟩,.sl [],.sl [bO S T U sl al V,bO 7 3 0 ⟨#[]⟩ [] [bO 4 0 0 (nm 119 (a+2)) [] [],bO 12 0 0 (nm 99 (a+1)) [[.str bZ]] [bO i j k l m n]]],.int .i64 0,.int .i64 0,.sl [],.int .i64 0,.int .i64 0],[.int .u8 1,.sl [[.str (nm 122 (a+3))]],.str ⟨#[]⟩,.sl [],.bool false,.int .u8 13,.int .u8 0,.int .i32 0,.str (nm 99 (a+1)),.sl [[.str bu],[.str bZ],[.str cQ]],.sl [bO 12 0 0 (nm 99 (a+1)) [[.str bu]] [bO o p t sb u w],bO 4 0 0 (nm 119 (a+2)) [] [],bO x y z A B C],.int .i64 0,.int .i64 0,.sl [],.int .i64 0,.int .i64 0]])];refine DT.drop 2 (aqd _)<|DT.ob Tryz.func84 W Tryz.ntmps84 W<|dO [2,2,26] W<|Mu (ap M0 W W)<|dR [27] W<|Mu (aJ kG W W)<|dL [] W ?_;apply Mz bT
  ·intro N O;refine fR 1 W<|bm M1 W W<|aS du W W<|fR 7 W<|TF.nil ⟨by kernel_rfl,rfl⟩
  refine dO [2,38] W<|Mu (ap NP W W)<|dR [39] W<|Mu (aJ du W W)<|dL [] W ?_;apply Mz bT
  ·intro N O;refine fR 5 W<|aS du W W<|bm Qk W W<|fR 4 W<|TF.nil ⟨by kernel_rfl,rfl⟩
  refine dC [] W ?_;apply Mz bT
  ·intro N O;refine fR 5 W<|aS du W W<|bm Tg W W<|fR 4 W<|TF.nil ⟨by kernel_rfl,rfl⟩
  refine dC [] W ?_;apply Mz bT
  ·intro N O;refine fR 8 W<|aS du W W<|bm VE W W<|fR 4 W<|TF.nil ⟨by kernel_rfl,rfl⟩
  refine dC [] W ?_;apply Mz bT
  ·intro N O;refine fR 1 W<|aS du W W<|bm Zx W W<|fR 4 W<|aS ac W W<|aS co W W<|fR 2 W<|TF.nil ⟨by kernel_rfl,rfl⟩
  refine dO [2,84] W<|Mu (ap Zy W W)<|dR [85] W<|Mu (aN (aqV.2 (by omega)) W W W W)<|dL [0] W ?_;apply Mz bT
  ·intro N O;refine fR 5 W<|aS kG W W<|bm d6 W W<|fR 11 W<|wy W W W W W W<|fR 1 W<|TF.nil ⟨by kernel_rfl,rfl⟩
  refine DC.kV 2 W<|MG [nM 17 (.bB 2 0 3),(12,.loc 12 0),(11,.loc 11 0),(10,.loc 10 0),nD 5 (.aZ s.cells 0),nN 3 P,nD 2 (.sl (aC outs)),nR 0 1] (GH v aj main g9++ [.row true 16 0 (aX [[.int .u8 1,.sl [[.str (nm 99 (a+1))]],.str ⟨#[]⟩,.sl [],.bool false,.int .u8 D,.int .u8 F,.int .i32 G,.str H,.sl I,.sl J,.int .i64 0,.int .i64 0,.sl [],.int .i64 0,.int .i64 0],[.int .u8 1,.sl [[.str (nm 119 (a+2))]],.str ⟨#[]⟩,.sl [],.bool false,.int .u8 9,.int .u8 0,.int .i32 0,.str ⟨#[]⟩,.sl [],.sl [bO S T U sl al V,bO 7 3 0 ⟨#[]⟩ [] [bO 4 0 0 (nm 119 (a+2)) [] [],bO 12 0 0 (nm 99 (a+1)) [[.str bZ]] [bO i j k l m n]]],.int .i64 0,.int .i64 0,.sl [],.int .i64 0,.int .i64 0],[.int .u8 1,.sl [[.str (nm 122 (a+3))]],.str ⟨#[]⟩,.sl [],.bool false,.int .u8 13,.int .u8 0,.int .i32 0,.str (nm 99 (a+1)),.sl [[.str bu],[.str bZ],[.str cQ]],.sl [bO 12 0 0 (nm 99 (a+1)) [[.str bu]] [bO o p t sb u w],bO 4 0 0 (nm 119 (a+2)) [] [],bO x y z A B C],.int .i64 0,.int .i64 0,.sl [],.int .i64 0,.int .i64 0]])]) W W<|dO [2,112] W<|Mu (aJ RC W W)<|dR [115] W<|Mu (ap d7 W W)<|dR [2,2,123] W<|Mu (iB true W W W W (by rfl) (by simp) (by intro r R;simp only[aqs,aqx,aq9]at R;rcases R with rfl|rfl|rfl<;>rfl) (by exact po W))<|dR [2,126] W ?_
  refine Mu (fC (cs:=aX [[.int .u8 1,.sl [[.str (nm 99 (a+1))]],.str ⟨#[]⟩,.sl [],.bool false,.int .u8 D,.int .u8 F,.int .i32 G,.str H,.sl I,.sl J,.int .i64 0,.int .i64 0,.sl [],.int .i64 0,.int .i64 0],[.int .u8 1,.sl [[.str (nm 119 (a+2))]],.str ⟨#[]⟩,.sl [],.bool false,.int .u8 9,.int .u8 0,.int .i32 0,.str ⟨#[]⟩,.sl [],.sl [bO S T U sl al V,bO 7 3 0 ⟨#[]⟩ [] [bO 4 0 0 (nm 119 (a+2)) [] [],bO 12 0 0 (nm 99 (a+1)) [[.str bZ]] [bO i j k l m n]]],.int .i64 0,.int .i64 0,.sl [],.int .i64 0,.int .i64 0],[.int .u8 1,.sl [[.str (nm 122 (a+3))]],.str ⟨#[]⟩,.sl [],.bool false,.int .u8 13,.int .u8 0,.int .i32 0,.str (nm 99 (a+1)),.sl [[.str bu],[.str bZ],[.str cQ]],.sl [bO 12 0 0 (nm 99 (a+1)) [[.str bu]] [bO o p t sb u w],bO 4 0 0 (nm 119 (a+2)) [] [],bO x y z A B C],.int .i64 0,.int .i64 0,.sl [],.int .i64 0,.int .i64 0]]) W W W W W (eH d) (by rw[dP];omega) (by rw[dP];omega)) ?_;refine dR [129] W ?_;refine Mu (fC (cs:=aX (aC (cR 99 (a+1) .eO::⟨nm 119 (a+2),.int,some (bZ,nm 99 (a+1)),false,.nil⟩::cR 122 (a+3) .int:: []))) W W W W W (cc h) (by rw[bw];simp only[aqw,aqS];omega) (by rw[bw];simp only[aqw,aqS];omega)) ?_;refine dL [] W ?_
  refine MG [nM 8 (.bB 2 1 (3+(bF d).length)),nM 9 (.bB 3 1 (3+(aC h).length))] (GH v aj main X++ [.row true 16 1 (aX ([.int .u8 1,.sl [[.str (nm 99 (a+1))]],.str ⟨#[]⟩,.sl [],.bool false,.int .u8 D,.int .u8 F,.int .i32 G,.str H,.sl I,.sl J,.int .i64 0,.int .i64 0,.sl [],.int .i64 0,.int .i64 0]:: [.int .u8 1,.sl [[.str (nm 119 (a+2))]],.str ⟨#[]⟩,.sl [],.bool false,.int .u8 9,.int .u8 0,.int .i32 0,.str ⟨#[]⟩,.sl [],.sl [bO S T U sl al V,bO 7 3 0 ⟨#[]⟩ [] [bO 4 0 0 (nm 119 (a+2)) [] [],bO 12 0 0 (nm 99 (a+1)) [[.str bZ]] [bO i j k l m n]]],.int .i64 0,.int .i64 0,.sl [],.int .i64 0,.int .i64 0]:: [.int .u8 1,.sl [[.str (nm 122 (a+3))]],.str ⟨#[]⟩,.sl [],.bool false,.int .u8 13,.int .u8 0,.int .i32 0,.str (nm 99 (a+1)),.sl [[.str bu],[.str bZ],[.str cQ]],.sl [bO 12 0 0 (nm 99 (a+1)) [[.str bu]] [bO o p t sb u w],bO 4 0 0 (nm 119 (a+2)) [] [],bO x y z A B C],.int .i64 0,.int .i64 0,.sl [],.int .i64 0,.int .i64 0]::bF d)),.row true 15 1 (aX (aC (cR 99 (a+1) .eO::⟨nm 119 (a+2),.int,some (bZ,nm 99 (a+1)),false,.nil⟩::cR 122 (a+3) .int::h)))]) W W ?_
  have Vd:bF (.df (nm 99 (a+1)) e:: .df (nm 119 (a+2)) (.fA Q (.bin 3 (.var (nm 119 (a+2))) (.e_ (nm 99 (a+1)) bZ f))):: .df (nm 122 (a+3)) (.merge (nm 99 (a+1)) bu bZ cQ (.e_ (nm 99 (a+1)) bu b) (.var (nm 119 (a+2))) L)::d)= [.int .u8 1,.sl [[.str (nm 99 (a+1))]],.str ⟨#[]⟩,.sl [],.bool false,.int .u8 D,.int .u8 F,.int .i32 G,.str H,.sl I,.sl J,.int .i64 0,.int .i64 0,.sl [],.int .i64 0,.int .i64 0]:: [.int .u8 1,.sl [[.str (nm 119 (a+2))]],.str ⟨#[]⟩,.sl [],.bool false,.int .u8 9,.int .u8 0,.int .i32 0,.str ⟨#[]⟩,.sl [],.sl [bO S T U sl al V,bO 7 3 0 ⟨#[]⟩ [] [bO 4 0 0 (nm 119 (a+2)) [] [],bO 12 0 0 (nm 99 (a+1)) [[.str bZ]] [bO i j k l m n]]],.int .i64 0,.int .i64 0,.sl [],.int .i64 0,.int .i64 0]:: [.int .u8 1,.sl [[.str (nm 122 (a+3))]],.str ⟨#[]⟩,.sl [],.bool false,.int .u8 13,.int .u8 0,.int .i32 0,.str (nm 99 (a+1)),.sl [[.str bu],[.str bZ],[.str cQ]],.sl [bO 12 0 0 (nm 99 (a+1)) [[.str bu]] [bO o p t sb u w],bO 4 0 0 (nm 119 (a+2)) [] [],bO x y z A B C],.int .i64 0,.int .i64 0,.sl [],.int .i64 0,.int .i64 0]::bF d:=by
   have Y:=iv (.df (nm 99 (a+1)) e:: .df (nm 119 (a+2)) (.fA Q (.bin 3 (.var (nm 119 (a+2))) (.e_ (nm 99 (a+1)) bZ f))):: .df (nm 122 (a+3)) (.merge (nm 99 (a+1)) bu bZ cQ (.e_ (nm 99 (a+1)) bu b) (.var (nm 119 (a+2))) L):: []) d;rw[Pb]at Y;exact Y
  refine DC.b9 8 W (kH W (by simp only[aqw];omega) (by simp) (by rw[<-Vd];exact eH _)) ?_;refine DC.b9 9 W (kH W (by simp only[bw,aqw];omega) (by simp[aC]) (cc _)) ?_;refine DC.ret ⟨_,rfl,po W,iX W,oY v aj main X,.df (nm 99 (a+1)) e:: .df (nm 119 (a+2)) (.fA Q (.bin 3 (.var (nm 119 (a+2))) (.e_ (nm 99 (a+1)) bZ f))):: .df (nm 122 (a+3)) (.merge (nm 99 (a+1)) bu bZ cQ (.e_ (nm 99 (a+1)) bu b) (.var (nm 119 (a+2))) L)::d,cR 99 (a+1) .eO::⟨nm 119 (a+2),.int,some (bZ,nm 99 (a+1)),false,.nil⟩::cR 122 (a+3) .int::h,X,by rw[Vd];rfl,rfl,?_,by simp only[aqw];omega,by simp only[aqw];omega,⟨by have:=M.i;simp only;omega,M.le,by have:=M.n;simp only;omega,M.pN,by simp only;omega,by have:=M.q1;simp only;omega⟩⟩;refine .lN f b L Q e _ QE PI d8 d9 Ol (.inr W) ?_;have e2:a+3=g9.n:=by omega
  rw[e2];rw[e2]at PE;exact PE
end
theorem IA: ∀d,d<=3->0<=qP d/\qP d<=4000
 |0,_=>by decide
 |d+1,a=>wN d (by omega)
theorem yq{c:List Int}{w:Int}{a b:Nat}{d:Int}{g:GS}(j:0<=w)(k:b<=3*a)(h:Mv c ⟨a,b,d-1⟩ g):Bm c (1+w) ⟨a,b,d⟩ g:=by
 have f:=h.n;have i:=h.q;have e:=h.i;simp only at f i e;exact⟨e,h.le,by grind,by omega,by grind,by grind⟩
theorem Bz{a:List Int}{w:Int}{d e:Nat}{b:Int}{f g:GS}(l:0<b-1)(m:0<=w)(c:Mv a ⟨d,e,b-1⟩ f)(h:Bm a w f g):Bm a (1+w) ⟨d,e,b⟩ g:=by
 have i:=c.n;have j:=c.q;have k:=c.i;simp only at i j k;have n:=h.i;have o:=h.n;have p:=h.q0;have q:=h.q1;exact⟨by grind,h.le,by grind,h.pN,by grind,by grind⟩
section
variable{zs:List Int}{v:D}(ht:Tape zs v)(aj:Nat)(main:Bool)
include ht
theorem Ao(dp c:Nat)(hD:dp<=3)(gc:c<=14)(SL:aj<=10)(RB: ∀d,dp=d+1->qn zs v aj main d)(ac: ∀c',c=c'+1->vQ zs v aj main dp c'):vQ zs v aj main dp c:=by
 intro i hr ha SK g ho d8 hg hn d9 O7 f4;obtain⟨o,p,n⟩:=d8;simp only at hg hn d9 O7 f4;have Qd:vO i:=⟨by omega,by omega,by omega⟩;have hW:=IA dp hD;have co:0<=3*qP dp:=by omega
 cases dp with
 |zero=>
  refine DT.drop 2 (aqd _)<|DT.ob Tryz.func53 W Tryz.ntmps53 W ?_;show DC _ _ _ _ ⟨_,_,[.box (eW v o),.box (jM p n aj main)]⟩ _;refine dO [2,2,21] W<|Mu (cC W W W (by omega))<|dR [999] W<|Mu (bX W W W W W W)<|dL [2,0] W<|MG [nD 5 (.aZ i.cells 0),nD 2 (.sl (aC g)),nR 0 1] (GH v aj main ⟨o,p,n-1⟩) W W<|dC [2,2] W<|MG [nN 12 0,nM 11 (fP 2 (bF [])),nD 5 (.aZ i.cells 0),nD 2 (.sl (aC g)),nR 0 1] (dB (GH v aj main ⟨o,p,n-1⟩) 16 (bF [])) W W<|dC [3] W<|DC.lp (λy z=> ∃(a:Nat) (f:List ay) (A:GS),z=⟨[nI 12 (a:Int),nM 11 (fP 2 (bF f)),nD 5 (.aZ i.cells 0),nD 2 (.sl (aC g)),nR 0 1],[],dB (GH v aj main A) 16 (bF f)⟩/\a<=g.length/\f.length=a/\oX i (g.take a) f/\Mv zs ⟨o,p,n-1⟩ A/\y=g.length-a) g.length _
   ⟨0,[],⟨o,p,n-1⟩,rfl,by omega,rfl,.nil,⟨rfl,rfl,aqd _,hg⟩,rfl⟩ W ?_
  rintro y z ⟨a,f,h,rfl,hi,V,s,m,rfl⟩;refine dO [2,100] W<|Mu (bH W W W) ?_;rw[bw];refine dL [] W<|DC.cond W (λF=> ?_) (λF=> ?_)
  ·have q:a<g.length:=by grind
   have r:=dM q;have B:=aqu q;generalize g[a]=l at r B;obtain⟨x0,x1,x2,x3,x4,x5,x6,x7,X,_⟩:=j5 l;rw[X]at r;obtain⟨G,H,⟨e,x,rfl,rfl,J,Y⟩,j⟩:=dt ht aj main 3 (by omega) i Qd l.ty true h m.le;obtain⟨O,P,Q,R,S,T,u⟩:=e.shape;rw[u]at j;have Z:=eh (by rfl) j 16 (bF f);have C:bF (f++ [.df l.name e])=bF f++ [[.int .u8 1,.sl [[.str l.name]],.str ⟨#[]⟩,.sl [],.bool false,.int .u8 O,.int .u8 P,.int .i32 Q,.str R,.sl S,.sl T,.int .i64 0,.int .i64 0,.sl [],.int .i64 0,.int .i64 0]]:=by rw[iv,bF,bF,ay.cells,u];rfl
   refine dC [3] W ?_;apply Mz bT
   ·intro s0 Oo;refine fR 3 W<|bK W W W (aqe a) r W<|fR 7 W<|bK W W W (aqe a) r W<|fR 2 W<|bm Z W W<|fR 2 W<|mJ (H0:=GH v aj main x) W W W W (by rfl) W (by rw[dP];omega) (by rw[dP];omega)<|fR 1 W<|TF.nil ⟨by kernel_rfl,rfl⟩
   refine dO [2,103] W<|Mu (ax W W W (by omega))<|dL [] W<|bE (k':=g.length-(a+1)) (by omega) ⟨a+1,f++ [.df l.name e],x,rfl,by omega,by simp[V],by rw[B];exact .snoc s l e J,m.trans Y,rfl⟩ (by rw[C];rfl) (kc W (kc (by rw[C];rfl) W))
  ·refine DC.exit ?_;have q:a=g.length:=by grind
   subst q;rw[aqQ]at s;obtain⟨e1,e2,e3⟩:=mK v aj main h 16 (bF f);refine dC [2] W<|DC.b9 8 W (iK (GH v aj main h) 16 (bF f) (eH f)) ?_;have D:=m.n;simp only at D;exact DC.ret ⟨_,rfl,e1,iX W,e2,f,[],h,rfl,e3,by simp only;rw[D];exact .rz s,by omega,by simp,yq co hn m⟩
 |succ d=>
  have I:decide (((d+1:Nat):Int)>0)=true:=aqI (by omega);rcases Int.lt_or_le 0 (n-1)with U9|U9
  rotate_left
  ·skip
   refine DT.drop 2 (aqd _)<|DT.ob Tryz.func53 W Tryz.ntmps53 W ?_;show DC _ _ _ _ ⟨_,_,[.box (eW v o),.box (jM p n aj main)]⟩ _;refine dO [2,2,21] W<|Mu (cC W W W (by omega))<|dR [999] W<|Mu (bX W W W W W W)<|dR [2,25] W<|Mu (aN I W W W W)<|dR [31] W ?_
   first|refine Mu (aE W W) ?_|(refine Mu (aB W) ?_;refine Mu (aN (aqR (by omega)) W W W W) ?_)
   refine dL [0] W<|MG [nD 5 (.aZ i.cells 0),nD 2 (.sl (aC g)),nR 0 1] (GH v aj main ⟨o,p,n-1⟩) W W<|dC [2,2] W<|MG [nN 12 0,nM 11 (fP 2 (bF [])),nD 5 (.aZ i.cells 0),nD 2 (.sl (aC g)),nR 0 1] (dB (GH v aj main ⟨o,p,n-1⟩) 16 (bF [])) W W<|dC [3] W<|DC.lp (λy z=> ∃(a:Nat) (f:List ay) (A:GS),z=⟨[nI 12 (a:Int),nM 11 (fP 2 (bF f)),nD 5 (.aZ i.cells 0),nD 2 (.sl (aC g)),nR 0 1],[],dB (GH v aj main A) 16 (bF f)⟩/\a<=g.length/\f.length=a/\oX i (g.take a) f/\Mv zs ⟨o,p,n-1⟩ A/\y=g.length-a) g.length _
    ⟨0,[],⟨o,p,n-1⟩,rfl,by omega,rfl,.nil,⟨rfl,rfl,aqd _,hg⟩,rfl⟩ W ?_
   rintro y z ⟨a,f,h,rfl,hi,V,s,m,rfl⟩;refine dO [2,100] W<|Mu (bH W W W) ?_;rw[bw];refine dL [] W<|DC.cond W (λF=> ?_) (λF=> ?_)
   ·have q:a<g.length:=by grind
    have r:=dM q;have B:=aqu q;generalize g[a]=l at r B;obtain⟨x0,x1,x2,x3,x4,x5,x6,x7,X,_⟩:=j5 l;rw[X]at r;obtain⟨G,H,⟨e,x,rfl,rfl,J,Y⟩,j⟩:=dt ht aj main 3 (by omega) i Qd l.ty true h m.le;obtain⟨O,P,Q,R,S,T,u⟩:=e.shape;rw[u]at j;have Z:=eh (by rfl) j 16 (bF f);have C:bF (f++ [.df l.name e])=bF f++ [[.int .u8 1,.sl [[.str l.name]],.str ⟨#[]⟩,.sl [],.bool false,.int .u8 O,.int .u8 P,.int .i32 Q,.str R,.sl S,.sl T,.int .i64 0,.int .i64 0,.sl [],.int .i64 0,.int .i64 0]]:=by rw[iv,bF,bF,ay.cells,u];rfl
    refine dC [3] W ?_;apply Mz bT
    ·intro s0 Oo;refine fR 3 W<|bK W W W (aqe a) r W<|fR 7 W<|bK W W W (aqe a) r W<|fR 2 W<|bm Z W W<|fR 2 W<|mJ (H0:=GH v aj main x) W W W W (by rfl) W (by rw[dP];omega) (by rw[dP];omega)<|fR 1 W<|TF.nil ⟨by kernel_rfl,rfl⟩
    refine dO [2,103] W<|Mu (ax W W W (by omega))<|dL [] W<|bE (k':=g.length-(a+1)) (by omega) ⟨a+1,f++ [.df l.name e],x,rfl,by omega,by simp[V],by rw[B];exact .snoc s l e J,m.trans Y,rfl⟩ (by rw[C];rfl) (kc W (kc (by rw[C];rfl) W))
   ·refine DC.exit ?_;have q:a=g.length:=by grind
    subst q;rw[aqQ]at s;obtain⟨e1,e2,e3⟩:=mK v aj main h 16 (bF f);refine dC [2] W<|DC.b9 8 W (iK (GH v aj main h) 16 (bF f) (eH f)) ?_;have D:=m.n;simp only at D;exact DC.ret ⟨_,rfl,e1,iX W,e2,f,[],h,rfl,e3,by simp only;rw[D];exact .rz s,by omega,by simp,yq co hn m⟩
  have K:=aqI (by omega);obtain⟨c,rfl⟩: ∃c',c=c'+1:=⟨c-1,by omega⟩;have ac:=ac c W;have RB:=RB d W;have hs:By (800-200*d) i:=⟨by omega,ha,by omega⟩;have Ph:((d+1:Nat):Int)-1=(d:Int):=by omega
  obtain⟨r0,K0,⟨U,w,rfl,rfl,TJ⟩,L⟩:=eQ ht aj main 9 (by omega) (by omega) ⟨o,p,n-1⟩ hg;have hj:=TJ.lt;have t:=TJ.mv;have Ux:=t.n;have f7:=t.q;have f8:=t.i;have Ve:=TJ.pN;simp only at Ux f7 f8 Ve;have Qp:U=0\/U=1\/U=2\/U=3\/U=4\/U=5\/U=6\/U=7\/U=8:=by omega
  rcases Qp with rfl|rfl|rfl|rfl|rfl|rfl|rfl|rfl|rfl
  ·skip
   obtain⟨G,H,⟨M,h,rfl,rfl,E,k⟩,j⟩:=yp ht aj main d (by omega) RB i hs g ho w t.le (by omega) (by omega) (by omega);obtain⟨a0,a1,a2,a3,a4,a5,a6,a7,a8,a9,b0,b1,b2,b3,b4,b5,N⟩:=qQ M.len;rw[N]at j;refine DT.ob Tryz.func53 W Tryz.ntmps53 W ?_;show DC _ _ _ _ ⟨_,_,[.box (eW v o),.box (jM p n aj main)]⟩ _;refine dO [2,2,21] W<|Mu (cC W W W (by omega))<|dR [999] W<|Mu (bX W W W W W W)<|dR [2,25] W<|Mu (aN I W W W W)<|dR [31] W ?_
   first|refine Mu (aE W W) ?_|(refine Mu (aB W) ?_;refine Mu (aN K W W W W) ?_)
   refine dR [1,2,37] W<|Mu (ap L W W)<|dR [3,2,1,1,2,45] W<|Mu (ap j W W)<|dL [] W<|DC.ret ⟨_,rfl,[M],[],h,by rw[bF,bF,N];rfl,rfl,by rw[<-Ux];exact E,by simp,by simp,Bz U9 (by grind) t k⟩
  ·skip
   obtain⟨G,H,⟨M,h,rfl,rfl,E,k⟩,j⟩:=yp ht aj main d (by omega) RB i hs g ho w t.le (by omega) (by omega) (by omega);obtain⟨a0,a1,a2,a3,a4,a5,a6,a7,a8,a9,b0,b1,b2,b3,b4,b5,N⟩:=qQ M.len;rw[N]at j;refine DT.ob Tryz.func53 W Tryz.ntmps53 W ?_;show DC _ _ _ _ ⟨_,_,[.box (eW v o),.box (jM p n aj main)]⟩ _;refine dO [2,2,21] W<|Mu (cC W W W (by omega))<|dR [999] W<|Mu (bX W W W W W W)<|dR [2,25] W<|Mu (aN I W W W W)<|dR [31] W ?_
   first|refine Mu (aE W W) ?_|(refine Mu (aB W) ?_;refine Mu (aN K W W W W) ?_)
   refine dR [1,2,37] W<|Mu (ap L W W)<|dR [3,2,0,2,1,2,45] W<|Mu (ap j W W)<|dL [] W<|DC.ret ⟨_,rfl,[M],[],h,by rw[bF,bF,N];rfl,rfl,by rw[<-Ux];exact E,by simp,by simp,Bz U9 (by grind) t k⟩
  ·skip
   obtain⟨G,H,⟨M,h,rfl,rfl,E,k⟩,j⟩:=CR ht aj main d (by omega) RB i hs g ho w t.le (by omega) (by omega) (by omega);obtain⟨a0,a1,a2,a3,a4,a5,a6,a7,a8,a9,b0,b1,b2,b3,b4,b5,N⟩:=qQ M.len;rw[N]at j;refine DT.ob Tryz.func53 W Tryz.ntmps53 W ?_;show DC _ _ _ _ ⟨_,_,[.box (eW v o),.box (jM p n aj main)]⟩ _;refine dO [2,2,21] W<|Mu (cC W W W (by omega))<|dR [999] W<|Mu (bX W W W W W W)<|dR [2,25] W<|Mu (aN I W W W W)<|dR [31] W ?_
   first|refine Mu (aE W W) ?_|(refine Mu (aB W) ?_;refine Mu (aN K W W W W) ?_)
   refine dR [1,2,37] W<|Mu (ap L W W)<|dR [3,2,0,2,0,2,1,1,2,54] W<|Mu (ap j W W)<|dL [] W<|DC.ret ⟨_,rfl,[M],[],h,by rw[bF,bF,N];rfl,rfl,by rw[<-Ux];exact E,by simp,by simp,Bz U9 (by grind) t k⟩
  ·skip
   obtain⟨G,H,⟨M,h,rfl,rfl,E,k⟩,j⟩:=CR ht aj main d (by omega) RB i hs g ho w t.le (by omega) (by omega) (by omega);obtain⟨a0,a1,a2,a3,a4,a5,a6,a7,a8,a9,b0,b1,b2,b3,b4,b5,N⟩:=qQ M.len;rw[N]at j;refine DT.ob Tryz.func53 W Tryz.ntmps53 W ?_;show DC _ _ _ _ ⟨_,_,[.box (eW v o),.box (jM p n aj main)]⟩ _;refine dO [2,2,21] W<|Mu (cC W W W (by omega))<|dR [999] W<|Mu (bX W W W W W W)<|dR [2,25] W<|Mu (aN I W W W W)<|dR [31] W ?_
   first|refine Mu (aE W W) ?_|(refine Mu (aB W) ?_;refine Mu (aN K W W W W) ?_)
   refine dR [1,2,37] W<|Mu (ap L W W)<|dR [3,2,0,2,0,2,0,2,1,2,54] W<|Mu (ap j W W)<|dL [] W<|DC.ret ⟨_,rfl,[M],[],h,by rw[bF,bF,N];rfl,rfl,by rw[<-Ux];exact E,by simp,by simp,Bz U9 (by grind) t k⟩
  ·skip
   obtain⟨G,H,⟨e,h,rfl,rfl,J,m⟩,j⟩:=dt ht aj main 2 (by omega) i Qd .bool true w t.le;obtain⟨O,P,Q,R,S,T,u⟩:=e.shape;rw[u]at j;have f9:=m.n;have ge:=m.q;have i6:=m.i;obtain⟨r2,K2,⟨b,x,rfl,rfl,PI,k⟩,M1⟩:=RB i hs g ho h m.le (by omega) (by omega) (by omega);obtain⟨bv,bq,hb⟩:=b.shape;rw[hb]at M1;refine DT.ob Tryz.func53 W Tryz.ntmps53 W ?_;show DC _ _ _ _ ⟨_,_,[.box (eW v o),.box (jM p n aj main)]⟩ _;refine dO [2,2,21] W<|Mu (cC W W W (by omega))<|dR [999] W<|Mu (bX W W W W W W)<|dR [2,25] W<|Mu (aN I W W W W)<|dR [31] W ?_
   first|refine Mu (aE W W) ?_|(refine Mu (aB W) ?_;refine Mu (aN K W W W W) ?_)
   refine dR [1,2,37] W<|Mu (ap L W W)<|dL [3,2,0,2,0,2,0,2,0,2,1] W ?_;apply Mz bT
   ·intro s0 Oo;refine fR 2 W<|aS jp W W<|bm j W W<|fR 3 W<|TF.nil ⟨by kernel_rfl,rfl⟩
   refine dO [2,67] W<|Mu (cC W W W (by omega)) ?_;rw[Ph];refine dR [68] W<|Mu (ap M1 W W)<|dL [2] W ?_;have Ui:=k.q0;have d6:=k.q1;have QM:=k.i;have Zk:=k.n;have Wl:=wN d (by omega);exact DC.ret ⟨_,rfl,[.reset e b],[],x,by rw[bF,bF,ay.cells,u,hb];rfl,rfl,.reset J (by simp only;rw[<-Ux,<-f9];exact PI),by simp,by simp,⟨by grind,k.le,by grind,k.pN,by simp only[qP];omega,by grind⟩⟩
  ·skip
   rcases aqJ aj with Tj|Tj
   ·skip
    refine DT.drop 2 (aqd _)<|DT.ob Tryz.func53 W Tryz.ntmps53 W ?_;show DC _ _ _ _ ⟨_,_,[.box (eW v o),.box (jM p n aj main)]⟩ _;refine dO [2,2,21] W<|Mu (cC W W W (by omega))<|dR [999] W<|Mu (bX W W W W W W)<|dR [2,25] W<|Mu (aN I W W W W)<|dR [31] W ?_
    first|refine Mu (aE W W) ?_|(refine Mu (aB W) ?_;refine Mu (aN K W W W W) ?_)
    refine dR [1,2,37] W<|Mu (ap L W W)<|dR [3,2,0,2,0,2,0,2,0,2,0,2,1,1,2,81] W<|Mu (aN (aqR (by omega)) W W W W)<|dL [0] W<|MG [nD 5 (.aZ i.cells 0),nD 2 (.sl (aC g)),nR 0 1] (GH v aj main w) W W<|dC [2,2] W<|MG [nN 12 0,nM 11 (fP 2 (bF [])),nD 5 (.aZ i.cells 0),nD 2 (.sl (aC g)),nR 0 1] (dB (GH v aj main w) 16 (bF [])) W W<|dC [3] W<|DC.lp (λy z=> ∃(a:Nat) (f:List ay) (A:GS),z=⟨[nI 12 (a:Int),nM 11 (fP 2 (bF f)),nD 5 (.aZ i.cells 0),nD 2 (.sl (aC g)),nR 0 1],[],dB (GH v aj main A) 16 (bF f)⟩/\a<=g.length/\f.length=a/\oX i (g.take a) f/\Mv zs ⟨o,p,n-1⟩ A/\y=g.length-a) g.length _
     ⟨0,[],w,rfl,by omega,rfl,.nil,t,rfl⟩ W ?_
    rintro y z ⟨a,f,h,rfl,hi,V,s,m,rfl⟩;refine dO [2,100] W<|Mu (bH W W W) ?_;rw[bw];refine dL [] W<|DC.cond W (λF=> ?_) (λF=> ?_)
    ·have q:a<g.length:=by grind
     clear F;have r:=dM q;have B:=aqu q;generalize g[a]=l at r B;obtain⟨x0,x1,x2,x3,x4,x5,x6,x7,X,_⟩:=j5 l;rw[X]at r;obtain⟨G,H,⟨e,x,rfl,rfl,J,Y⟩,j⟩:=dt ht aj main 3 (by omega) i Qd l.ty true h m.le;obtain⟨O,P,Q,R,S,T,u⟩:=e.shape;rw[u]at j;have Z:=eh (by rfl) j 16 (bF f);have C:bF (f++ [.df l.name e])=bF f++ [[.int .u8 1,.sl [[.str l.name]],.str ⟨#[]⟩,.sl [],.bool false,.int .u8 O,.int .u8 P,.int .i32 Q,.str R,.sl S,.sl T,.int .i64 0,.int .i64 0,.sl [],.int .i64 0,.int .i64 0]]:=by rw[iv,bF,bF,ay.cells,u];rfl
     refine dC [3] W ?_;apply Mz bT
     ·intro s0 Oo;refine fR 3 W<|bK W W W (aqe a) r W<|fR 7 W<|bK W W W (aqe a) r W<|fR 2 W<|bm Z W W<|fR 2 W<|mJ (H0:=GH v aj main x) W W W W (by rfl) W (by rw[dP];omega) (by rw[dP];omega)<|fR 1 W<|TF.nil ⟨by kernel_rfl,rfl⟩
     refine dO [2,103] W<|Mu (ax W W W (by omega))<|dL [] W<|bE (k':=g.length-(a+1)) (by omega) ⟨a+1,f++ [.df l.name e],x,rfl,by omega,by simp[V],by rw[B];exact .snoc s l e J,m.trans Y,rfl⟩ (by rw[C];rfl) (kc W (kc (by rw[C];rfl) W))
    ·refine DC.exit ?_;have q:a=g.length:=by grind
     subst q;rw[aqQ]at s;obtain⟨e1,e2,e3⟩:=mK v aj main h 16 (bF f);refine dC [2] W<|DC.b9 8 W (iK (GH v aj main h) 16 (bF f) (eH f)) ?_;have D:=m.n;simp only at D;exact DC.ret ⟨_,rfl,e1,iX W,e2,f,[],h,rfl,e3,by simp only;rw[D];exact .rz s,by omega,by simp,yq co hn m⟩
   ·skip
    have NU:=Ve (by omega);obtain⟨G,H,⟨ql,vs,h,rfl,rfl,E,d7,QU,k⟩,j⟩:=ss ht aj main (d+1) c hD (by omega) ac i (by omega) ha SK g ho Tj SL w t.le (by omega) (by omega) (by omega);refine DT.ob Tryz.func53 W Tryz.ntmps53 W ?_;show DC _ _ _ _ ⟨_,_,[.box (eW v o),.box (jM p n aj main)]⟩ _;refine dO [2,2,21] W<|Mu (cC W W W (by omega))<|dR [999] W<|Mu (bX W W W W W W)<|dR [2,25] W<|Mu (aN I W W W W)<|dR [31] W ?_
    first|refine Mu (aE W W) ?_|(refine Mu (aB W) ?_;refine Mu (aN K W W W W) ?_)
    refine dR [1,2,37] W<|Mu (ap L W W)<|dR [3,2,0,2,0,2,0,2,0,2,0,2,1,1,2,81] W<|Mu (aN (aqI (by omega)) W W W W)<|dR [1,2,86] W<|Mu (ap j W W)<|dL [] W ?_;have Ui:=k.q0;have d6:=k.q1;have QM:=k.i;have Zk:=k.n;exact DC.ret ⟨_,rfl,ql,vs,h,rfl,rfl,by rw[<-Ux];exact E,by omega,by omega,⟨by grind,k.le,by grind,k.pN,by grind,by grind⟩⟩
  ·skip
   rcases aqJ aj with Tj|Tj
   ·skip
    refine DT.drop 2 (aqd _)<|DT.ob Tryz.func53 W Tryz.ntmps53 W ?_;show DC _ _ _ _ ⟨_,_,[.box (eW v o),.box (jM p n aj main)]⟩ _;refine dO [2,2,21] W<|Mu (cC W W W (by omega))<|dR [999] W<|Mu (bX W W W W W W)<|dR [2,25] W<|Mu (aN I W W W W)<|dR [31] W ?_
    first|refine Mu (aE W W) ?_|(refine Mu (aB W) ?_;refine Mu (aN K W W W W) ?_)
    refine dR [1,2,37] W<|Mu (ap L W W)<|dR [3,2,0,2,0,2,0,2,0,2,0,2,0,2,1,2,81] W<|Mu (aN (aqR (by omega)) W W W W)<|dL [0] W<|MG [nD 5 (.aZ i.cells 0),nD 2 (.sl (aC g)),nR 0 1] (GH v aj main w) W W<|dC [2,2] W<|MG [nN 12 0,nM 11 (fP 2 (bF [])),nD 5 (.aZ i.cells 0),nD 2 (.sl (aC g)),nR 0 1] (dB (GH v aj main w) 16 (bF [])) W W<|dC [3] W<|DC.lp (λy z=> ∃(a:Nat) (f:List ay) (A:GS),z=⟨[nI 12 (a:Int),nM 11 (fP 2 (bF f)),nD 5 (.aZ i.cells 0),nD 2 (.sl (aC g)),nR 0 1],[],dB (GH v aj main A) 16 (bF f)⟩/\a<=g.length/\f.length=a/\oX i (g.take a) f/\Mv zs ⟨o,p,n-1⟩ A/\y=g.length-a) g.length _
     ⟨0,[],w,rfl,by omega,rfl,.nil,t,rfl⟩ W ?_
    rintro y z ⟨a,f,h,rfl,hi,V,s,m,rfl⟩;refine dO [2,100] W<|Mu (bH W W W) ?_;rw[bw];refine dL [] W<|DC.cond W (λF=> ?_) (λF=> ?_)
    ·have q:a<g.length:=by grind
     clear F;have r:=dM q;have B:=aqu q;generalize g[a]=l at r B;obtain⟨x0,x1,x2,x3,x4,x5,x6,x7,X,_⟩:=j5 l;rw[X]at r;obtain⟨G,H,⟨e,x,rfl,rfl,J,Y⟩,j⟩:=dt ht aj main 3 (by omega) i Qd l.ty true h m.le;obtain⟨O,P,Q,R,S,T,u⟩:=e.shape;rw[u]at j;have Z:=eh (by rfl) j 16 (bF f);have C:bF (f++ [.df l.name e])=bF f++ [[.int .u8 1,.sl [[.str l.name]],.str ⟨#[]⟩,.sl [],.bool false,.int .u8 O,.int .u8 P,.int .i32 Q,.str R,.sl S,.sl T,.int .i64 0,.int .i64 0,.sl [],.int .i64 0,.int .i64 0]]:=by rw[iv,bF,bF,ay.cells,u];rfl
     refine dC [3] W ?_;apply Mz bT
     ·intro s0 Oo;refine fR 3 W<|bK W W W (aqe a) r W<|fR 7 W<|bK W W W (aqe a) r W<|fR 2 W<|bm Z W W<|fR 2 W<|mJ (H0:=GH v aj main x) W W W W (by rfl) W (by rw[dP];omega) (by rw[dP];omega)<|fR 1 W<|TF.nil ⟨by kernel_rfl,rfl⟩
     refine dO [2,103] W<|Mu (ax W W W (by omega))<|dL [] W<|bE (k':=g.length-(a+1)) (by omega) ⟨a+1,f++ [.df l.name e],x,rfl,by omega,by simp[V],by rw[B];exact .snoc s l e J,m.trans Y,rfl⟩ (by rw[C];rfl) (kc W (kc (by rw[C];rfl) W))
    ·refine DC.exit ?_;have q:a=g.length:=by grind
     subst q;rw[aqQ]at s;obtain⟨e1,e2,e3⟩:=mK v aj main h 16 (bF f);refine dC [2] W<|DC.b9 8 W (iK (GH v aj main h) 16 (bF f) (eH f)) ?_;have D:=m.n;simp only at D;exact DC.ret ⟨_,rfl,e1,iX W,e2,f,[],h,rfl,e3,by simp only;rw[D];exact .rz s,by omega,by simp,yq co hn m⟩
   ·skip
    have NU:=Ve (by omega);obtain⟨G,H,⟨ql,vs,h,rfl,rfl,E,d7,QU,k⟩,j⟩:=ss ht aj main (d+1) c hD (by omega) ac i (by omega) ha SK g ho Tj SL w t.le (by omega) (by omega) (by omega);refine DT.ob Tryz.func53 W Tryz.ntmps53 W ?_;show DC _ _ _ _ ⟨_,_,[.box (eW v o),.box (jM p n aj main)]⟩ _;refine dO [2,2,21] W<|Mu (cC W W W (by omega))<|dR [999] W<|Mu (bX W W W W W W)<|dR [2,25] W<|Mu (aN I W W W W)<|dR [31] W ?_
    first|refine Mu (aE W W) ?_|(refine Mu (aB W) ?_;refine Mu (aN K W W W W) ?_)
    refine dR [1,2,37] W<|Mu (ap L W W)<|dR [3,2,0,2,0,2,0,2,0,2,0,2,0,2,1,2,81] W<|Mu (aN (aqI (by omega)) W W W W)<|dR [1,2,86] W<|Mu (ap j W W)<|dL [] W ?_;have Ui:=k.q0;have d6:=k.q1;have QM:=k.i;have Zk:=k.n;exact DC.ret ⟨_,rfl,ql,vs,h,rfl,rfl,by rw[<-Ux];exact E,by omega,by omega,⟨by grind,k.le,by grind,k.pN,by grind,by grind⟩⟩
  ·skip
   have NU:=Ve (by omega);obtain⟨G,H,⟨ql,vs,h,rfl,rfl,E,d7,QU,k⟩,j⟩:=CU ht aj main (d+1) c hD (by omega) ac i (by omega) ha SK g ho w t.le (by omega) (by omega) (by omega);refine DT.ob Tryz.func53 W Tryz.ntmps53 W ?_;show DC _ _ _ _ ⟨_,_,[.box (eW v o),.box (jM p n aj main)]⟩ _;refine dO [2,2,21] W<|Mu (cC W W W (by omega))<|dR [999] W<|Mu (bX W W W W W W)<|dR [2,25] W<|Mu (aN I W W W W)<|dR [31] W ?_
   first|refine Mu (aE W W) ?_|(refine Mu (aB W) ?_;refine Mu (aN K W W W W) ?_)
   refine dR [1,2,37] W<|Mu (ap L W W)<|dR [3,2,0,2,0,2,0,2,0,2,0,2,0,2,0,2,1,2,95] W<|Mu (ap j W W)<|dL [] W ?_;have Ui:=k.q0;have d6:=k.q1;have QM:=k.i;have Zk:=k.n;exact DC.ret ⟨_,rfl,ql,vs,h,rfl,rfl,by rw[<-Ux];exact E,by omega,by omega,⟨by grind,k.le,by grind,k.pN,by grind,by grind⟩⟩
  ·skip
   refine DT.drop 2 (aqd _)<|DT.ob Tryz.func53 W Tryz.ntmps53 W ?_;show DC _ _ _ _ ⟨_,_,[.box (eW v o),.box (jM p n aj main)]⟩ _;refine dO [2,2,21] W<|Mu (cC W W W (by omega))<|dR [999] W<|Mu (bX W W W W W W)<|dR [2,25] W<|Mu (aN I W W W W)<|dR [31] W ?_
   first|refine Mu (aE W W) ?_|(refine Mu (aB W) ?_;refine Mu (aN K W W W W) ?_)
   refine dR [1,2,37] W<|Mu (ap L W W)<|dL [3,2,0,2,0,2,0,2,0,2,0,2,0,2,0,2,0] W<|MG [nD 5 (.aZ i.cells 0),nD 2 (.sl (aC g)),nR 0 1] (GH v aj main w) W W<|dC [2,2] W<|MG [nN 12 0,nM 11 (fP 2 (bF [])),nD 5 (.aZ i.cells 0),nD 2 (.sl (aC g)),nR 0 1] (dB (GH v aj main w) 16 (bF [])) W W<|dC [3] W<|DC.lp (λy z=> ∃(a:Nat) (f:List ay) (A:GS),z=⟨[nI 12 (a:Int),nM 11 (fP 2 (bF f)),nD 5 (.aZ i.cells 0),nD 2 (.sl (aC g)),nR 0 1],[],dB (GH v aj main A) 16 (bF f)⟩/\a<=g.length/\f.length=a/\oX i (g.take a) f/\Mv zs ⟨o,p,n-1⟩ A/\y=g.length-a) g.length _
    ⟨0,[],w,rfl,by omega,rfl,.nil,t,rfl⟩ W ?_
   rintro y z ⟨a,f,h,rfl,hi,V,s,m,rfl⟩;refine dO [2,100] W<|Mu (bH W W W) ?_;rw[bw];refine dL [] W<|DC.cond W (λF=> ?_) (λF=> ?_)
   ·have q:a<g.length:=by grind
    clear F;have r:=dM q;have B:=aqu q;generalize g[a]=l at r B;obtain⟨x0,x1,x2,x3,x4,x5,x6,x7,X,_⟩:=j5 l;rw[X]at r;obtain⟨G,H,⟨e,x,rfl,rfl,J,Y⟩,j⟩:=dt ht aj main 3 (by omega) i Qd l.ty true h m.le;obtain⟨O,P,Q,R,S,T,u⟩:=e.shape;rw[u]at j;have Z:=eh (by rfl) j 16 (bF f);have C:bF (f++ [.df l.name e])=bF f++ [[.int .u8 1,.sl [[.str l.name]],.str ⟨#[]⟩,.sl [],.bool false,.int .u8 O,.int .u8 P,.int .i32 Q,.str R,.sl S,.sl T,.int .i64 0,.int .i64 0,.sl [],.int .i64 0,.int .i64 0]]:=by rw[iv,bF,bF,ay.cells,u];rfl
    refine dC [3] W ?_;apply Mz bT
    ·intro s0 Oo;refine fR 3 W<|bK W W W (aqe a) r W<|fR 7 W<|bK W W W (aqe a) r W<|fR 2 W<|bm Z W W<|fR 2 W<|mJ (H0:=GH v aj main x) W W W W (by rfl) W (by rw[dP];omega) (by rw[dP];omega)<|fR 1 W<|TF.nil ⟨by kernel_rfl,rfl⟩
    refine dO [2,103] W<|Mu (ax W W W (by omega))<|dL [] W<|bE (k':=g.length-(a+1)) (by omega) ⟨a+1,f++ [.df l.name e],x,rfl,by omega,by simp[V],by rw[B];exact .snoc s l e J,m.trans Y,rfl⟩ (by rw[C];rfl) (kc W (kc (by rw[C];rfl) W))
   ·refine DC.exit ?_;have q:a=g.length:=by grind
    subst q;rw[aqQ]at s;obtain⟨e1,e2,e3⟩:=mK v aj main h 16 (bF f);refine dC [2] W<|DC.b9 8 W (iK (GH v aj main h) 16 (bF f) (eH f)) ?_;have D:=m.n;simp only at D;exact DC.ret ⟨_,rfl,e1,iX W,e2,f,[],h,rfl,e3,by simp only;rw[D];exact .rz s,by omega,by simp,yq co hn m⟩
theorem BA(a:Nat)(f:a<=3)(g:aj<=10)(h: ∀d,a=d+1->qn zs v aj main d): ∀c,c<=14->vQ zs v aj main a c
 |0,b=>Ao ht aj main a 0 f b g h (λi e=>by omega)
 |c+1,b=>Ao ht aj main a (c+1) f b g h (λi e=>by
   have j:i=c:=by omega
   subst j;exact BA a f g h i (by omega))
end
end Go.Proofs
