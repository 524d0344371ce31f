/- A part of the proof of the last text of this claim, without conditions. -/
import Derived.Test.YtjbigbaipmiihaaGreatF
set_option maxRecDepth 4000
set_option linter.all false
namespace Go.Sm
open Go.Mt
def bL(l:List Int):List (List D):=l.map λz=>[.int .i32 z]
end Go.Sm
namespace Go.Proofs.Sz
open Go.Mt Go.Sm Go.Proofs
variable{π:Path}{j p iu a b:Nat}{F:Nat->Prop}{u':US}{q:aB}
def qL(P:Pg)(n:Nat):Prop:=∀(u:US) (c d:List Int) (b:US) (a:Nat) (F:Nat->Prop) (H:Hp),eV P n u c d b->iQ P n u a F H->
 DT Tryz.prog 27 [.ref a 0,.d (.sl (bL c))] H λm K=>m=.di [.d (.sl (bL d)),.d (.bool true)]/\∃c,iQ P n b a c K/\(∀a,c a->F a\/H.length<=a)/\H.length<=K.length/\∀a,a<H.length->¬F a->K[a]?=H[a]?
section
variable{P:Pg}{n:Nat}{c:aI}{d:Nd}{u:US}{X:av}{H K:Hp}
open Classical in
noncomputable def av.gE(X:av)(p:Nat)(u':US)(iu:Nat)(F:Nat->Prop):av:={X with
 own:= λa=>if F a then some (.sb p)else if X.own a=some (.sb p)then none else X.own a
 x:=⟨X.x.m,X.x.p,cd X.x.s p (some u')⟩
 ad:=cd X.ad p iu}
def wG(X:av)(b:∀a,F a->X.own a=some (.sb p)\/H.length<=a)(c:∀a r,X.own a=some r->a<H.length){r:Ro}(d:r≠.sb p):(X.gE p u' iu F).own a=some r↔X.own a=some r:=by
 unfold av.gE;simp only;by_cases h:F a
 .grind
 .grind
def DE(X:av):(X.gE p u' iu F).own a=some (.sb p)↔F a:=by
 unfold av.gE;simp only;by_cases h:F a
 .grind
 .grind
theorem Fh(X:av)(c:∀a,F a->X.own a=some (.sb p)\/H.length<=a)(d:a<H.length)(b:X.own a=none):(X.gE p u' iu F).own a=none:=by
 unfold av.gE;simp only;rw[asu (λh=>by
  grind),asu (by rw[b];simp)]
 exact b
theorem cD.gE(h:cD P n c d X H)(b:iQ P n u' iu F K)(j:∀a,F a->X.own a=some (.sb p)\/H.length<=a)(s:H.length<=K.length)
  (m:∀a,a<H.length->X.own a≠some (.sb p)->a≠X.A .su->K[a]?=H[a]?) (x:K[X.A .su]?=some (.row false 1 0 (bD (bT d) (fb (cd X.x.s p (some u')) (cd X.ad p iu))))):
  cD P n c d (X.gE p u' iu F) K/\bf c (λ_=>False) X H (X.gE p u' iu F) K:=by
 have lt:=h.lt;have l:∀a,a<H.length->X.own a=none->(X.gE p u' iu F).own a=none/\K[a]?=H[a]?:= λa g f=>⟨Fh (H:=H) X j g f,m a g (by rw[f];simp) (by rintro rfl;rw[h.own .su trivial]at f;cases f)⟩
 have A:∀r,X.live c r->(X.gE p u' iu F).live c r/\(X.gE p u' iu F).A r=X.A r:= λr b=>⟨by cases r<;>exact b,W⟩
 have L:∀r,(X.gE p u' iu F).live c r->X.live c r:= λr b=>by cases r<;>exact b
 have y:∀r,X.live c r->r≠.sb p:=by rintro r b rfl;exact b
 refine⟨⟨λr b=>(wG (H:=H) X j lt (y r (L r b))).2 (h.own r (L r b)),λa r f=>?_,λr z=>?_,λk t B i=>?_,λq b=>(h.nx q b).up l A,λq b=>(h.af q b).up l A⟩,?_⟩
 .by_cases o:r=.sb p
  .subst o;exact b.lt a (DE X|>.1 f)
  .have:=lt a r ((wG (H:=H) X j lt o).1 f);omega
 .have q:=L r z;by_cases o:r=.su
  .subst o;exact⟨_,x,W⟩
  .obtain⟨u,v,w⟩:=h.ob r q;have f:=h.own r q;refine⟨u,(m _ (lt _ _ f) (by grind) (h.ne q trivial o)).trans v,?_⟩;cases r with
   |su=>exact absurd W o
   |_=>exact w
 .by_cases e:k=p
  .subst e;have o:(X.gE k u' iu F).x.s k=some u':=by simp[av.gE,cd]
   rw[o]at i;injection i with i
   subst i;have q:(X.gE k u' iu F).ad k=iu:=by simp[av.gE,cd]
   rw[q];exact b.congr λa=>(DE X).symm
  .have o:(X.gE p u' iu F).x.s k=X.x.s k:=by simp[av.gE,cd,e]
   rw[o]at i;have q:(X.gE p u' iu F).ad k=X.ad k:=by simp[av.gE,cd,e]
   rw[q];refine((h.sub k t B i).frame (λa g=>m a (lt a _ g) (by grind) (by rintro rfl;rw[h.own .su trivial]at g;cases g)) s).congr λa=>(wG (H:=H) X j lt (by grind)).symm
 .exact{c0:= λ_ _ h=>h,f0:= λ_ h=>h,len:=s,iD:=l,A:=A,aK:= λ_ _=>⟨rfl,rfl⟩,f2:= λ_ h=>h,f1:= λ_=>atn,c1:= λ_ _ _=>atn,c2:= λ_ _ h=>h,c3:= λ_ _ h=>h,c4:= λ_ _ _ _ _=>atn,dn:= λ_ _ h=>h,rC:= λ_ _ _ _=>rfl,lv:=rfl,S:= λ_ _ h=>h,fi:=rfl,ph:=rfl,F:=⟨[],by simp[av.gE]⟩}
def av.lb(X:av)(π:Path)(j:Nat):av:={X with dn:= λa b=>if(a,b)=(π,j)then true else X.dn a b}
def zd(X:av)(π:Path)(j:Nat):(X.lb π j).dn π j=true:=asB W
def nH(X:av){a:Path}(h:(a,b)≠(π,j)):(X.lb π j).dn a b=X.dn a b:=asu h
def vQ(X:av){a:Path}(h:X.dn a b=true):(X.lb π j).dn a b=true:=by
 by_cases e:(a,b)=(π,j)
 .injection e with c d;subst c;subst d;exact zd X _ _
 .rw[nH X e];exact h
def cD.lb(h:cD P n c d X H)(l:X.cs (j::π) 0≠3):cD P n c d (X.lb π j) H:=by
 refine⟨λr b=>h.own r (by cases r<;>exact b),h.lt,λr b=>?_,h.sub,λp f=>?_,λp f=>h.af p f⟩
 .obtain⟨o,q,m⟩:=h.ob r (by cases r<;>exact b);refine⟨o,q,?_⟩;cases r with
  |am a=>
   obtain⟨s,g,k,t,u⟩:=m;refine⟨s,g,k,λv i w=>?_,u⟩;rw[show(X.lb π j).A=X.A from rfl,t v i w];unfold av.nW;by_cases e:(a,i)=(π,j)
   .injection e with g k
    subst g;subst k;rw[asu (λb:X.dn a i=true/\X.cs (i::a) 0=3=>l b.2),asu (λb:(X.lb a i).dn a i=true/\(X.lb a i).cs (i::a) 0=3=>l b.2)];rfl
   .rw[nH X e];rfl
  |_=>exact m
 .have:=h.nx p f
  revert this
  generalize p.1=a;intro this;cases a<;>exact this
theorem bf.lb(e:X.cs (j::π) 0=1):bf c (·=(j::π,0)) X H (X.lb π j) H:=
 {
  c0:= λ_ _ h=>h,f0:= λ_ h=>h,len:=asj _,iD:= λ_ _ a=>⟨a,rfl⟩,A:= λr d=>⟨by cases r<;>exact d,W⟩,aK:= λ_ _=>⟨rfl,rfl⟩,f2:= λ_ h=>h,f1:= λ_=>atn,c1:= λ_ _ _=>atn,c2:= λ_ _ h=>h,c3:= λ_ _ h=>h,c4:= λ_ _ _ _ _=>atn,dn:= λ_ _ h=>vQ X h,
  rC:= λe b e _=>nH X (by grind),lv:=rfl,S:= λ_ _ h=>h,fi:=rfl,ph:=rfl,F:=⟨[],by simp[av.lb]⟩}
theorem Pu.called(S:nG P n c d u)(h:Pu P c d u X)(hf:X.fs π=2)(r:(c.fr π).aq[j]?=some q)(l:q.kd=2)(g:(c.fr π).pos[j]?=some p)(w:X.cs (j::π) 0=1)(K:X.dn π j=false)(ht:c.ja π q)(x:∀w∈c.ew π j,X.SS c w.1 w.2):
  Pu P c d u ((X.gE p (c.iF π j) iu F).lb π j):=by
 have I:∀k a f,X.DC c k a f->((X.gE p (c.iF π j) iu F).lb π j).DC c k a f:= λk a f i=>⟨i.1,vQ _ i.2.1,i.2.2⟩
 have L:((X.gE p (c.iF π j) iu F).lb π j).DC c p π j:=⟨hf,zd _ _ _,q,r,l,g⟩;have J:∀k a f,((X.gE p (c.iF π j) iu F).lb π j).DC c k a f->¬(a,f)=(π,j)->X.DC c k a f:= λk a f i m=>⟨i.1,by have:=i.2.1;rw[nH _ m]at this;exact this,i.2.2⟩
 have s:∀k,((X.gE p (c.iF π j) iu F).lb π j).x.s k=cd X.x.s p (some (c.iF π j)) k:= λ_=>rfl
 refine{f0:=h.f0,fp:=h.fp,f2:=h.f2,c6:=h.c6,ci:=h.ci,cv:=h.cv,ca:=h.ca,xm:=h.xm,xp:=h.xp,xd:=?_,xs:=?_,s1:=h.s1,s2:=?_,s3:=?_,s4:=h.s4,s5:=h.s5,dl:=?_,nk:=?_,fk:= λp g=>⟨(h.fk p g).ev,(h.fk p g).fs,(h.fk p g).lt,(h.fk p g).wr,(h.fk p g).sm,(h.fk p g).own,(h.fk p g).sz⟩,fl:=h.fl,fn:=h.fn,g0:=?_,dz:=?_,cz:=h.cz}
 .intro k t a f i;rw[s];by_cases e:(a,f)=(π,j)
  .injection e with y z
   subst y;subst z;obtain⟨_,_,A,B,_,o⟩:=i;rw[g]at o;injection o with o
   subst o;simp[cd]
  .have o:=J k a f i e;obtain⟨D,_,A,B,E,C⟩:=id o;have m:k≠p:=by
    rintro rfl;obtain⟨y,z⟩:=S.inj π j q a f A k (Pu.ok S h hf) (Pu.ok S h D) r B l E g C;exact e (by rw[y,z])
   simp only[cd,asu m];exact h.xd k t a f o
 .intro k o t;have m:k≠p:=by grind
  rw[s];simp only[cd,asu m];exact h.xs k o λa f i=>t a f (I k a f i)
 .intro o A v a f y z B C D E G H;obtain⟨t,b,e⟩:=h.s2 o A v a f y z B C D E G H;exact⟨t,b,λl=>vQ _ (e l)⟩
 .intro a f z o;by_cases e:(a,f)=(π,j)
  .injection e with t y
   subst t;subst y;exact⟨⟨q,r,l,ht⟩,x⟩
  .rw[nH _ e]at o;exact h.s3 a f z o
 .intro a f A B o t;by_cases e:(a,f)=(π,j)
  .injection e with y z
   subst y;subst z;have:X.cs (f::a) 0=3:=t;omega
  .rw[nH _ e]at o;exact h.dl a f A B o t
 .intro p g;have o:=h.nk p g
  revert o
  generalize p.1=t;intro o;cases t<;>exact o
 .intro a f y z A;by_cases e:(a,f)=(π,j)
  .injection e with o t
   subst o;subst t;exact .inr (.inl w)
  .rw[nH _ e];exact h.g0 a f y z A
 .intro a f o;by_cases e:(a,f)=(π,j)
  .injection e with t y
   subst t;subst y;exact hf
  .rw[nH _ e]at o;exact h.dz a f o
def HX:((X.gE p u' iu F).lb π j).T c<=X.T c:=by
 refine Co (a:=0) (b:=0) (λi d=>?_) (asj _) (asj _);cases i with
 |call a b=>
  simp only[av.cw,asH,ats,aub]at d⊢;refine⟨?_,d.2⟩;cases e:X.dn a b with
  |false=>rfl
  |true=>have f:=d.1;rw[vQ (X.gE p u' iu F) e]at f;cases f
 |_=>exact d
theorem cD.ze(h:cD P n c d X H)(hf:X.fs π=2)(s:X.fs (j::π)=0)(t:X.dn π j=true)(J:(c.fr π).aq[j]?=some q){es:List (D×M)}(u:H[X.A (.am π)]?=some (.map es)):
  cD P n c d (X.cO (j::π,0) 3) (H.set (X.A (.am π)) (.map (jh (X.A (.pl π j)) 0 (.ref (X.A (.fr π)) 0) es))):=by
 have v:j<(c.fr π).aq.length:=by
  grind
 obtain⟨w,b,K,rfl,m,x,L⟩:=h.ob (.am π) (by show 1<=X.fs π;omega);rw[u]at b;injection b with b
 injection b with b
 subst b;have o:∀a i,i<(c.fr a).aq.length->(i::a,0)≠(j::π,0)->(X.cO (j::π,0) 3).nW a i=X.nW a i:= λa i _ f=>by unfold av.nW;rw[bE X f];rfl
 refine h.y9 (.am π) (by show 1<=X.fs π;omega) _ W W W W W W (λr=>by cases r<;>exact atn) ⟨_,W,oz _ _ _ m,λ_ i g=>?_,λe=>by have:X.fs π=1:=e;omega⟩ (λr w N y k=>?_)
 .rw[pa _ _ _ _ _ m];by_cases e:i=j
  .subst e;rw[asB ⟨rfl,rfl⟩];unfold av.nW;rw[asu (show ¬(X.cO (i::π,0) 3).fs (i::π)≠0 fromλb=>b s),asB ⟨t,cp X (i::π,0) 3⟩];rfl
  .rw[asu (λb=>h.ne (r:=.pl π i) (r':=.pl π j) ⟨hf,g⟩ ⟨hf,v⟩ (by grind) b.1),o π i g (by grind)];exact x hf i g
 .cases r with
  |ce a p=>
   obtain⟨A,B,C,z,l,E,F,G,I⟩:=k;have f:(a,p)≠(j::π,0):=by
    intro e;injection e with l _
    subst l;have:X.fs (j::π)=2:=y.1;omega
   exact⟨A,B,C,z,l,E,by rw[bE X f];exact F,by rw[bE X f];exact G,I⟩
  |am a=>
   obtain⟨C,l,p,z,A⟩:=k;refine⟨C,l,p,λB i g=>?_,A⟩;have f:(i::a,0)≠(j::π,0):=by grind
   rw[o a i g f];exact z B i g
  |_=>exact k
theorem Pu.ze(h:Pu P c d u X)(o:(c.fr π).aq[j]?=some q)(B:q.kd=2)(C:c.val (j::π) 0=none)(D:X.fs (j::π)=0)(r:X.dn π j=true)(E:X.cs (j::π) 0=1)(s:∀x∈q.lhs,∀a,c.find π x=some a->X.cs a.1 a.2=2\/X.cs a.1 a.2=4):Pu P c d u (X.cO (j::π,0) 3):=by
 refine{f0:=h.f0,fp:=h.fp,f2:=h.f2,xm:=h.xm,xp:=h.xp,xd:=h.xd,xs:=h.xs,s3:=h.s3,s4:=h.s4,s5:=h.s5,fl:=h.fl,fn:=h.fn,dz:=h.dz,fk:= λp a=>⟨(h.fk p a).ev,(h.fk p a).fs,(h.fk p a).lt,(h.fk p a).wr,(h.fk p a).sm,(h.fk p a).own,(h.fk p a).sz⟩,c6:=?_,ci:=?_,cv:=?_,ca:=?_,s1:=?_,s2:=?_,dl:=?_,nk:=?_,g0:=?_,cz:=?_}
 .intro b k;by_cases e:(b,k)=(j::π,0)
  .injection e with f g;subst f;subst g;rw[cp X (j::π,0) 3];omega
  .rw[bE X e];exact h.c6 b k
 .intro k b;rw[bE X (by grind)];exact h.ci k b
 .intro f k b;by_cases e:(f,k)=(j::π,0)
  .injection e with g i;subst g;subst i;rw[cp X (j::π,0) 3]at b;cases b
  .rw[bE X e]at b;exact h.cv f k b
 .intro b k f;by_cases e:(b,k)=(j::π,0)
  .grind
  .rw[bE X e]at f;exact h.ca b k f
 .intro b k p v f g;have e:(b,k)≠(j::π,0):=by intro e;injection e with i _;subst i;have:X.fs (j::π)=2:=f;omega
  rw[bE X e]at g;exact h.s1 b k p v f g
 .intro b k v l m n f g;have e:(b.1,b.2)≠(j::π,0):=by intro e;injection e with i _;rw[i]at f;have:X.fs (j::π)=2:=f;omega
  rw[bE X e]at g;exact h.s2 b k v l m n f g
 .intro i k y w z n f x l b m;by_cases e:(k::i,0)=(j::π,0)
  .injection e with g _
   injection g with g t
   subst g;subst t;rw[o]at f;injection f with f
   subst f;have A:(b.1,b.2)≠(k::i,0):=by
    grind
   rw[bE X A];exact s x l b m
  .rw[bE X e]at n;have t:=h.dl i k y w z n f x l b m;have g:(b.1,b.2)≠(j::π,0):=by
    grind
   rw[bE X g];exact t
 .intro p a;have b:=h.nk p a
  revert b
  generalize p.1=i;intro b;cases i with
  |cell t f=>
   obtain⟨k,l,m,n⟩:=b;have g:(f.1,f.2)≠(j::π,0):=by grind
   exact⟨k,l,by rw[bE X g];exact m,n⟩
  |_=>exact b
 .intro f g k l m;by_cases e:(g::f,0)=(j::π,0)
  .injection e with b _
   injection b with b i
   subst b;subst i;exact .inr (.inr ⟨cp X (g::f,0) 3,r⟩)
  .rw[bE X e];exact h.g0 f g k l m
 .intro b k f;by_cases e:(b,k)=(j::π,0)
  .grind
  .rw[bE X e]at f;exact h.cz b k f
theorem bf.ze(h:cD P n c d X H)(hf:X.fs π=2)(f:X.cs (j::π) 0=1)(ob:Ob):bf c (·=(j::π,0)) X H (X.cO (j::π,0) 3) (H.set (X.A (.am π)) ob):=by
 exact{(bf.Cr (c:=c) (X:=X) (H:=H) (σ:=(j::π,0)) (s:=3) (λe=>by grind) (λ_=>rfl) (by decide))with len:=by simp,iD:= λb g a=>⟨a,asv (by rintro rfl;rw[h.own (.am π) (by show 1<=X.fs π;omega)]at a;cases a)⟩}
theorem bf.Jx{E:Path×Nat->Prop}{Y:av}{σ:Path×Nat}(h:bf c (λa=>E a\/a=σ) X H Y K)(a:X.cs σ.1 σ.2=0)(b:Y.cs σ.1 σ.2=3):bf c E X H Y K:=by
 refine{h with c1:= λa k b=>?_,c4:= λa k s b d=>?_,rC:= λa j b f=>?_}
 .by_cases e:(a,k)=σ
  .grind
  .exact h.c1 a k λa=>a.elim b e
 .by_cases e:(a,k)=σ
  .grind
  .exact h.c4 a k s (λa=>a.elim b e) d
 .exact h.rC a j (λa=>a.elim b (by grind)) f
end
end Go.Proofs.Sz
namespace Go.Proofs.Sz
open Go.Mt Go.Sm Go.Proofs
variable{Y:av}{rs:List (List D)}{m:M}{n iu b k:Nat}{f:Nat->Option US}{ad:Nat->Nat}{uu:US}
section
variable{P:Pg}{n:Nat}{c:aI}{d:Nd}{u:US}{X:av}{H K:Hp}
def Av(Y:av)(b:Nat)(rs:List (List D))(m:M)(K:Hp):Prop:=
 (rs=[]/\m=.d (.sl []))\/(rs≠[]/\∃a c,m=.bC a c rs.length/\K[a]?=some (.row true 1 c (aY rs))/\Y.own a=none/\b<=a)
def Av.acc(h:Av Y b rs m K):∃a,Acc 1 a rs m K:=by
 rcases h with⟨c,d⟩|⟨c,a,e,d,f,_⟩
 .exact⟨0,.inl ⟨c,d⟩⟩
 .exact⟨a,.inr ⟨c,e,d,f⟩⟩
def Av.up{Z:av}{L:Hp}(h:Av Y b rs m K)(g:∀a,a<K.length->Y.own a=none->Z.own a=none/\L[a]?=K[a]?):Av Z b rs m L:=by
 rcases h with h|⟨d,a,e,f,c,i,j⟩
 .exact .inl h
 .obtain⟨k,l⟩:=g a (lU c) i;exact .inr ⟨d,a,e,f,l.trans c,k,j⟩
def Av.app{j:av}{H0:Hp}{E:Path×Nat->Prop}(h:Av Y H0.length rs m K)(f:cD P n c d Y K)(g:bf c E j H0 Y K)(r:List D):
  Av Y H0.length (rs++[r]) (h_ m K [r]) (eQ 1 m K [r])/\cD P n c d Y (eQ 1 m K [r])/\bf c E j H0 Y (eQ 1 m K [r]):=by
 rcases h with⟨rfl,rfl⟩|⟨q,a,b,rfl,i,k,l⟩
 .have o:eQ 1 (.d (.sl [])) K [r]=K++[.row true 1 0 (aY [r])]:=rfl;have p:h_ (.d (.sl [])) K [r]=.bC K.length 0 1:=rfl;rw[o,p];refine⟨.inr ⟨by simp,K.length,0,rfl,by simp,?_,g.len⟩,f.grow _,g.trans (bf.grow c E Y K _)⟩;cases e:Y.own K.length with
  |none=>rfl
  |some r=>have:=f.lt _ r e;omega
 .have o:eQ 1 (.bC a b rs.length) K [r]=K.set a (.row true 1 (b+1) (aY rs++aY [r])):=by simp only[eQ,i]
  have p:h_ (.bC a b rs.length) K [r]=.bC a (b+1) (rs.length+1):=rfl;rw[o,p];refine⟨.inr ⟨by simp,a,b+1,by simp,?_,k,l⟩,f.free _ k i (λm e=>by cases e),g.free l _⟩;rw[gJ i];simp[aY]
def iQ.Ma{P:Pg}{u:US}{F:Nat->Prop}(h:iQ P 1 u iu F K)(b:1<=n):iQ P n u iu F K:=by
 induction n with
 |zero=>omega
 |succ m a=>
  rcases asR m with e|e
  .grind
  .exact(a e).up
theorem xj{l:List Nd}{x:Nm}{i:Nat}(h:fG l x=some i):∃d,l[i]?=some d/\d.name=x:=by
 unfold fG at h;rw[as4]at h;obtain⟨a,b,_⟩:=h;exact⟨l[i],aso a,by grind⟩
def HY(h:k<n):dV (bD n (fb f ad)) (((k:Nat):Int).toNat*1) [.ref iu 0]=some (bD n (fb (cd f k (some uu)) (cd ad k iu))):=by
 rw[nj _ h];refine atB some (atB (bD n) (funext λj=>?_));unfold sX fb cd;by_cases e:j=k
 .subst e;simp
 .simp[e]
def Fi{a:US} :bD n (fb (cd f k (some uu)) (cd ad k iu))=bD n (fb (cd f k (some a)) (cd ad k iu)):=by
 refine atB (bD n) (funext λj=>?_);unfold fb cd;by_cases e:j=k
 .subst e;simp
 .simp[e]
end
end Go.Proofs.Sz
namespace Go.Proofs.Sz
open Go.Mt Go.Sm Go.Proofs
section
variable{P:Pg}{n:Nat}{c:aI}{d:Nd}{u:US}{X:av}{H K:Hp}
def tf{ins outs:List Int}{u':US}(S:nG P n c d u)(Pk:mw P)(hC:gW P (eV P n) c d u ins outs u')(Ys:qL P n){r:Nat}(hV:eH P n c d u r):A4 P n c d u r:=by
 intro X H hI hT π j q hf w V hr Ru Tu W0 Uz d9 hE;have h:=hI.lay;have OI:=Pu.ok S hI.pu hf;obtain⟨p,hp,OX⟩:=h.fI hf w;have Qz:j<(c.fr π).aq.length:=by
  rcases asp j (c.fr π).aq.length with h|h
  .exact h
  .rw[asr h]at w;cases w
 have zb7:=S.pq π j q p OI w hp;have Yp:=jk q;have Qt:gR q.kd=1:=by rw[V];rfl
 have PV:=S.Js;have P2:=S.Cq π j q OI w;have hg:=S.gh π j q w V;have VR:=(hC.eq π j q p OI w hp).1;obtain⟨TK,G,f4,N,w1,o,h0,g,hw,hs,rx,Yg⟩:p<c.sz/\∃G,fG P.nodes q.f=some G/\∃(N w1:List (Nat×Int)) (o:List Int),(if q.has then gI P.aG c π (c.ek π j) q.ex (p+1) (c.ev π j) N else c.ev π j=0/\N=[])/\vy P.aG c π (c.ek π j) q.args (p+1+xP q.ex) o w1/\c.ew π j=N++w1/\eV P n (((if c.ev π j=0 then c.rs p else none)).getD (US.init P G)) o (c.outs π j) (c.iF π j)/\(∀u,c.rs p=some u->u.i=G)/\q.lhs.length<=(c.outs π j).length:=by
  cases VR with
  |df Q=>omega
  |sw Q=>omega
  |aN Q=>omega
  |reset Q=>omega
  |call Q TK G f4 N w1 o h0 g hw hs rx Yg=>exact⟨TK,G,f4,N,w1,o,h0 Ru,g Ru,hw,hs Ru,rx Ru,Yg Ru⟩
 have XT:p<bT d:=by rw[<-S.Au];exact TK
 have RL:=(hC.wq π j q OI w).1 V Ru;obtain⟨Q1,ge,QK,Ou⟩:=DD hC hI w V Tu W0 RL.1;have Zr:lH c (X.cO (j::π,0) 1) r:=by
  refine⟨λt k e=>?_,Uz.f1,λt k=>?_,Uz.tp⟩
  .by_cases Q:(t,k)=(j::π,0)
   .injection Q with T U;subst T;subst U;rw[hg.1];omega
   .rw[bE X Q]at e;exact Uz.c1 _ _ e
  .by_cases Q:(t,k)=(j::π,0)
   .injection Q with T U;subst T;subst U;rw[cp X (j::π,0) 1];omega
   .rw[bE X Q];exact Uz.c4 _ _
 rw[hr]at h0 g;have t3:∀E∈c.ew π j,mQ c E.1 E.2:= λE hw=>.inl ⟨π,j,q,OI,w,Ru,hw⟩
 have VO:=S.oq π j q p OI w hp;have UF:(c.ew π j).length=N.length+w1.length:=by rw[hw];simp
 obtain⟨I,XU⟩:∃I,I=X.cO (j::π,0) 1:=⟨_,rfl⟩;have t4:I.fs=X.fs:=by rw[XU];rfl
 have d8:I.A=X.A:=by rw[XU];rfl
 have Oy:I.dn=X.dn:=by rw[XU];rfl
 have t5:I.cs (j::π) 0=1:=by rw[XU];exact cp X (j::π,0) 1
 have Oz:∀t k,(t,k)≠(j::π,0)->I.cs t k=X.cs t k:= λt k e=>by rw[XU];exact bE X e
 rw[<-XU]at ge QK Ou Zr;have Vk:I.fs π=2:=by rw[t4];exact hf
 refine DT.ob Tryz.func62 W Tryz.ntmps62 W<|dO [2,23] W<|Oq (ax W W OX W)<|dR [24] W<|Oq (ay W W W (by omega))<|dL [2] W<|Ps (λa=>∃Y K,cT P n c d u I H N.length N Y K/\a=⟨[nD 8 (.bool (c.ev π j !=0)),nN 6 (p+1),nD 7 (.sl []),nR 0 (X.A .it),nR 1 (X.A (.fr π)),nR 2 (X.A (.pl π j))],[],K⟩) ?_ ?_
 .cases Q:q.has with
  |false=>
   rw[Q]at h0;simp at h0;unfold dB at OX;rw[Q]at OX;refine dO [2,29] W<|Oq (ax W W OX W)<|dL [] W<|⟨_,⟨I,H,⟨ge,bf.refl ..,by omega,by rw[h0.2];intro p hp;cases hp⟩,rfl⟩,cN W (kc (by rw[h0.1];rfl) W)⟩
  |true=>
   rw[Q]at h0;simp at h0;obtain⟨m2,U,⟨rfl,Y,Py⟩,T⟩:=dD S hV π q.ex P2.1 (p+1) (c.ev π j) N h0 I H ge (by omega) Zr Vk (by omega) (λk a b=>VO k (by omega) (by omega)) (λE a=>t3 E (by rw[hw];exact asw _ a));rw[Xp.aA,d8]at T;unfold dB at OX;rw[Q]at OX;refine dO [2,29] W<|Oq (ax W W OX W)<|dR [37] W ?_
   first|refine Oq (aH W W) ?_|(refine Oq (aC W) ?_;refine Oq (kF W W OX W W) ?_)
   refine dR [39] W ?_
   first|refine Oq (aH W W) ?_|(refine Oq (aC W) ?_;refine Oq (au T W W) ?_)
   refine dL [] W<|⟨_,⟨Y,U,Py,W⟩,cN W W⟩
 rintro _ ⟨Y0,K0,Sa,rfl⟩;have Zm:K0[X.A (.pl π j)]?=some (.box (dB q p)):=by
  obtain⟨U,Q,T⟩:=Sa.1.lay.fI (Sa.2.1.f2 π Vk) w;rw[hp]at Q;injection Q with Q
  subst Q;rw[(Sa.2.1.A (.pl π j) ⟨Vk,Qz⟩).2,d8]at T;exact T
 have Yq:=jN q.ex P2.1 (by omega);rw[Xp.aA]at Yq;refine dO [2,47] W<|Oq (kF W W Zm W W)<|dR [48] W<|Oq (aL Yq W W)<|dR [49] W<|Oq (ay W W W (by omega))<|dR [2,54] W<|Oq (ax W W Zm W)<|dR [55] W<|Oq (bK W W W) ?_;rw[asD];refine dL [] W<|OB [nN 52 0,nN 51 q.args.length,nD 50 (.sl (q.args.map Xp.cells)),nD 7 (.sl []),nN 6 (p+1+xP q.ex),nD 8 (.bool (c.ev π j !=0)),nR 0 (X.A .it),nR 1 (X.A (.fr π)),nR 2 (X.A (.pl π j))] K0 (kc W (kc W (kc W (kc W (kc (by rw[show(((p+1+xP q.ex:Nat):Int))=((p+1:Nat):Int)+((xP q.ex:Nat):Int) by omega];rfl) W))))) W<|dC [] W<|Ps (λa=>∃Y K D,cT P n c d u I H (c.ew π j).length (c.ew π j) Y K/\a=⟨[nD 7 (.sl (bL o)),nD 8 (.bool (c.ev π j !=0)),nR 0 (X.A .it),nR 1 (X.A (.fr π)),nR 2 (X.A (.pl π j))],D,K⟩) ?_ ?_
 .refine dC [3] W<|DC.lp (λk s=>∃(i:Nat) (Y:av) (K:Hp) (m:M) (a:Nat) (T ws:List (Nat×Int)) (D:List (Nat×List M)),s=⟨[nN 52 i,nN 51 q.args.length,nD 50 (.sl (q.args.map Xp.cells)),(7,.m m),nN 6 a,nD 8 (.bool (c.ev π j !=0)),nR 0 (X.A .it),nR 1 (X.A (.fr π)),nR 2 (X.A (.pl π j))],D,K⟩/\i<=q.args.length/\k=q.args.length-i/\
    cT P n c d u I H (N.length+T.length) (N++T) Y K/\w1=T++ws/\vy P.aG c π r (q.args.drop i) a (o.drop i) ws/\a=p+1+xP q.ex+aR ((q.args.take i).map xP)/\Av Y H.length (bL (o.take i)) m K/\i<=o.length) q.args.length _
   ⟨0,Y0,K0,_,p+1+xP q.ex,[],w1,_,rfl,by omega,rfl,by simpa using Sa,rfl,by simpa using g,by simp[aR],.inl ⟨rfl,rfl⟩,by omega⟩ W ?_
  rintro k s1 ⟨i,Y,K,m,a,T,ws,D,rfl,hi,rfl,A,Yh,Q,J,hL,In⟩;refine dC [2] W<|DC.cond W (λhc=>?_) (λhc=>?_);rotate_left
  .have e:i=q.args.length:=by have:=asG hc;omega
   rw[e,atQ]at Q;generalize U:o.drop q.args.length=vd at Q;cases Q;have e2:o.take i=o:=by
    have:=as9 i o;rw[e,U,asL]at this;rw[e];exact this
   rw[e2]at hL;obtain⟨a',Qh⟩:=hL.acc;rw[asL]at Yh;rw[<-Yh,<-hw]at A;refine DC.cq 7 W (Qh.view (λr hr=>by unfold bL at hr;obtain⟨_,_,rfl⟩:=asK.1 hr;rfl))<|DC.exit ?_;rw[<-UF]at A;refine⟨_,⟨Y,K,D,A,W⟩,?_⟩;exact cN W W
  have OY:i<q.args.length:=by have:=asC hc;omega
  have Ue:=aso OY;have W6:(q.args.map Xp.cells)[((i:Nat):Int).toNat]?=some (bQ q.args[i].kd q.args[i].op q.args[i].num q.args[i].nm q.args[i].names (q.args[i].kids.map Xp.cells) q.args[i].ps):=by simp[OY,Xp.aA]
  have PY:=asE OY;have Zo:=P2.2.2.1 _ PY;have SC:=fY xP (l:=q.args) OY;rw[atk OY]at Q;generalize U:o.drop i=vd at Q;generalize q.args[i]=e at Ue W6 PY Zo Q SC;cases Q with
  |cons he Fr=>
   rename_i v E FS gc;have d7:i<o.length:=by
    rcases asp i o.length with h|h
    .exact h
    .rw[auU h]at U;cases U
   have qr:o[i]?=some v:=by
    have:=atB (λl=>l[0]?) U;simpa using this
   have GT:o.drop (i+1)=FS:=by
    have y:=atk d7;rw[U]at y;injection y with _ y
    exact y.symm
   have Qj:=A.2.1.f2 π Vk;have IO:(c.ew π j).length=N.length+T.length+(E.length+gc.length):=by rw[UF,Yh];simp;omega
   have Ug:=A.2.2.1;obtain⟨m2,K2,⟨rfl,Y2,Py⟩,Pt⟩:=dD S hV π e Zo a v E he Y K A.1 (by omega) (Zr.next A.2.1) Qj (by omega) (λk a b=>VO k (by omega) (by omega)) (λg a=>t3 g (by rw[hw,Yh];exact asz _ (asz _ (asw _ a))));rw[Xp.aA,(A.2.1.A .it trivial).2,(A.2.1.A (.fr π) (by show 1<=I.fs π;omega)).2,d8]at Pt;have rg:=hL.up (Z:=Y2) (L:=K2) Py.2.1.iD;have P8:=A.trans Py;obtain⟨Ui,Id,Wm⟩:=rg.app P8.1.lay P8.2.1 [.int .i32 v];obtain⟨a2,Qh⟩:=rg.acc;have t6:=jN e Zo (by omega);rw[Xp.aA]at t6;have LE:(bL (o.take i)).length<=1000000:=by simp[bL];omega
   have Pp:bL (o.take (i+1))=bL (o.take i)++[[.int .i32 v]]:=by
    rw[asA d7];have:o[i]=v:=by rw[aso d7]at qr;injection qr
    simp[bL,this]
   refine dO [3,2,58] W<|Oq (aP W W W (asm i) W6 W)<|dR [2,65] W<|Oq (au Pt W W)<|dR [67] W<|Oq (mj Qh W W W W W (mi W) (by simp;omega) (by simp;omega))<|dR [2,70] W<|Oq (aL t6 W W)<|dR [71] W<|Oq (ay W W W (by omega))<|dR [2,72] W<|Oq (ay W W W (by omega))<|dL [] W<|bG (k':=q.args.length-(i+1)) (by omega) ⟨i+1,Y2,_,_,a+xP e,T++E,gc,_,rfl,by omega,rfl,⟨⟨Id,P8.1.pu⟩,Wm,?_,?_⟩,by rw[Yh];simp,by rw[GT];exact Fr,by omega,by rw[Pp];exact Ui,by omega⟩ W W
   .have:=P8.2.2.1;simp;omega
   .intro p' OW;rw[<-asM]at OW;exact P8.2.2.2 p' OW
 rintro _ ⟨Y,K,D,A,rfl⟩;have Pz:=A.2.1;have Qj:=Pz.f2 π Vk;have i6:=(Pz.c1 _ _ (λh=>h)).1 t5;have i7:Y.dn π j=false:=by rw[Pz.rC π j (λh=>h) t5,Oy];exact Tu
 have t7:=S.rs Y A.1.pu π j q p Qj w V hp i7;have i8:=((Pz.A .it trivial).2).trans (by rw[d8]);have Vm:=((Pz.A (.pl π j) ⟨Vk,Qz⟩).2).trans (by rw[d8]);have QZ:K[X.A (.pl π j)]?=some (.box (dB q p)):=by
  obtain⟨U,Q,T⟩:=A.1.lay.fI Qj w;rw[hp]at Q;injection Q with Q
  subst Q;rw[Vm]at T;exact T
 have O:=A.1.lay;have S4:=O.inst;rw[i8]at S4;have XV:=O.unit;have f8:=O.an;have i9:=O.own .su trivial;have Vi:=asm p;have Zs:((p:Nat):Int)<((bT d:Nat):Int):=by exact_mod_cast XT
 have UD:∀(f:Nat->Option US),cd f p (f p)=f:= λf=>by funext k;unfold cd;split;rename_i e;rw[e];rfl
 refine dC [2] W<|Ps (λg=>∃K1,K1[Y.A .su]?=some (.row false 1 0 (bD (bT d) (fb (cd Y.x.s p (if c.ev π j=0 then c.rs p else none)) Y.ad)))/\K1.length=K.length/\(∀a,a≠Y.A .su->K1[a]?=K[a]?)/\g=⟨[nD 7 (.sl (bL o)),nR 0 (X.A .it),nR 1 (X.A (.fr π)),nR 2 (X.A (.pl π j))],D,K1⟩) ?_ ?_
 .refine DC.cond W (λQ=>?_) (λQ=>?_)
  .have U:c.ev π j≠0:=by simpa using Q
   rw[asu U];have T:=s9 (n:=bT d) (f:=Y.x.s) (ad:=Y.ad) (k:=p) XT;refine dC [] W ?_;apply Ow bX
   .intro s0 Oo;refine fR 3 W<|aw W W S4 W<|fR 2 W<|aw W W XV W<|fR 3 W<|aw W W QZ W<|cZ W W W f8 Vi Zs<|fL W W f8 W W T<|TF.nil ⟨by kernel_rfl,rfl⟩
   exact⟨_,⟨_,gJ f8 _,by simp,λa J=>asv (atf J),rfl⟩,cN W W⟩
  .have T:c.ev π j=0:=by simpa using Q
   rw[asB T];refine dC [] W<|⟨_,⟨K,by rw[<-t7,UD];exact f8,W,λ_ _=>rfl,rfl⟩,cN W W⟩
 rintro _ ⟨K1,Vn,zb8,R5,rfl⟩;generalize ho:(if c.ev π j=0 then c.rs p else none)=d6 at Vn hs;have Wa:=(R5 _ (atf (by rw[<-i8];exact O.ne (r:=.su) (r':=.it) trivial trivial (by simp)))).trans S4;have Vo:=(R5 _ (atf (O.ne (r:=.su) (r':=.un) trivial trivial (by simp)))).trans XV;have XW:=(R5 _ (atf (by rw[<-Vm];exact O.ne (r:=.su) (r':=.pl π j) trivial ⟨Qj,Qz⟩ (by simp)))).trans QZ;have Yu:=iO (n:=bT d) (f:=fb (cd Y.x.s p d6) Y.ad) XT;refine dC [] W<|DC.Gm (λg=>∃iu F K3,iQ P n (d6.getD (US.init P G)) iu F K3/\K3[Y.A .su]?=some (.row false 1 0 (bD (bT d) (fb (cd Y.x.s p (some (d6.getD (US.init P G)))) (cd Y.ad p iu))))/\(∀a,F a->Y.own a=some (.sb p)\/K.length<=a)/\K.length<=K3.length/\(∀a,a<K.length->Y.own a≠some (.sb p)->a≠Y.A .su->K3[a]?=K[a]?)/\g=⟨[nD 7 (.sl (bL o)),nR 0 (X.A .it),nR 1 (X.A (.fr π)),nR 2 (X.A (.pl π j))],D,K3⟩) ?_ ?_
 .have UE:1<=n:=by
   cases n with
   |zero=>exact hs.elim
   |succ n=>omega
  cases d6 with
  |none=>
   have e1:fb (cd Y.x.s p none) Y.ad p=.d .bU:=by simp[fb,cd]
   rw[e1]at Yu;obtain⟨dc,d7,qr⟩:=xj f4;obtain⟨m2,K2,⟨iu,F,rfl,PU,hF,rg,Q⟩,PD⟩:=AZ P Pk q.f G f4 dc d7 K1;have T:=(Q _ (lU Vn)).trans Vn;have U:=HY (n:=bT d) (f:=cd Y.x.s p none) (ad:=Y.ad) (k:=p) (iu:=iu) (uu:=US.init P G) XT;have e3:cd (cd Y.x.s p none) p (some (US.init P G))=cd Y.x.s p (some (US.init P G)):=by funext k;unfold cd;split<;>rfl
   rw[e3]at U;refine dC [] W ?_;apply Ow bX
   .intro s0 Oo;refine fR 3 W<|aw W W Wa W<|fR 2 W<|aw W W Vo W<|fR 3 W<|aw W W XW W<|cZ W W W Vn Vi Zs<|jK W W Vn Yu<|vP (by kernel_rfl) W W W W W<|TF.nil ⟨by kernel_rfl,rfl⟩
   refine dC [1] W ?_;apply PL (λL=>L[X.A .it]?=K[X.A .it]?/\L[Y.A .un]?=K[Y.A .un]?/\L[X.A (.pl π j)]?=K[X.A (.pl π j)]?) (⟨Wa.trans S4.symm,Vo.trans XV.symm,XW.trans QZ.symm⟩) bX
   .intro s0 Oo;refine iR 3 W<|OH W W (λL h=>⟨_,h.1.trans S4,rfl⟩)<|iR 2 W<|OH W W (λL h=>⟨_,h.2.1.trans XV,rfl⟩)<|iR 3 W<|OH W W (λL h=>⟨_,h.2.2.trans QZ,rfl⟩)<|iR 3 W ?_;apply OA
    .skip
     refine aw W W Wa W<|TF.nil ⟨W,W⟩
    refine iR 2 W ?_;apply OA
    .skip
     refine fJ W W Vo W W<|TF.nil ⟨W,W⟩
    refine iR 4 W ?_;apply OA
    .skip
     refine aw W W XW W<|TF.nil ⟨W,W⟩
    apply OA
    .skip
     refine bp PD W W<|TF.nil ⟨W,W⟩
    apply OA
    .skip
     refine cZ W W W T Vi Zs<|TF.nil ⟨W,W⟩
    apply OA
    .skip
     refine fL W W T W W U<|TF.nil ⟨W,W⟩
    exact jr.nil ⟨by kernel_rfl,by repeat' first|exact trivial|exact .inl ((by exact⟨((Q _ (lU Wa)).trans Wa).trans S4.symm,((Q _ (lU Vo)).trans Vo).trans XV.symm,((Q _ (lU XW)).trans XW).trans QZ.symm⟩))|exact .inr (by kernel_rfl)|refine⟨?_,?_⟩,rfl⟩
   have gc:¬F (Y.A .su):= λa=>by have:=hF _ a;have:=lU Vn;omega
   exact⟨_,⟨iu,F,_,(iQ.Ma PU UE).frame (λa J=>asv (by rintro rfl;exact gc J)) (by simp),gJ T _,λa J=>.inr (by have:=hF a J;omega),by simp;omega,λa J g y=>((asv (atf y)).trans (Q a (by omega))).trans (R5 a y),rfl⟩,cN W W⟩
  |some Q=>
   have T:fb (cd Y.x.s p (some Q)) Y.ad p=.ref (Y.ad p) 0:=by simp[fb,cd]
   rw[T]at Yu;have d7:Y.x.s p=some Q:=by
    rw[t7];by_cases e:c.ev π j=0
    .rw[asB e]at ho;exact ho
    .rw[asu e]at ho;cases ho
   have PU:=O.sub p XT Q d7;refine dC [] W ?_;apply Ow bX
   .intro s0 Oo;refine fR 3 W<|aw W W Wa W<|fR 2 W<|aw W W Vo W<|fR 3 W<|aw W W XW W<|cZ W W W Vn Vi Zs<|jK W W Vn Yu<|vP (by kernel_rfl) W W W W W<|TF.nil ⟨by kernel_rfl,rfl⟩
   refine dC [0] W ?_;have U:cd Y.ad p (Y.ad p)=Y.ad:=by funext k;unfold cd;split;rename_i e;rw[e];rfl
   refine⟨_,⟨Y.ad p,λa=>Y.own a=some (.sb p),K1,PU.frame (λa J=>R5 a (by rintro rfl;rw[i9]at J;cases J)) (by omega),?_,λa J=>.inl J,by omega,λa _ _ y=>R5 a y,rfl⟩,cN W W⟩;rw[U];exact Vn
 rintro _ ⟨iu,F,K3,PU,f9,hF,zb9,t8,rfl⟩;obtain⟨m4,K4,⟨rfl,F4,ST,UH,zc0,UO⟩,UV⟩:=Ys _ o (c.outs π j) (c.iF π j) iu F K3 hs PU;have t9:∀a r,Y.own a=some r->r≠.sb p->¬F a:= λa r g y h3=>by
  rcases hF a h3 with Q|Q
  .rw[g]at Q;injection Q with Q;exact y Q
  .have:=O.lt a r g;omega
 have cH:∀a r,Y.own a=some r->r≠.sb p->r≠.su->∀ob,K[a]?=some ob->K3[a]?=some ob/\K4[a]?=some ob:=by
  intro a r g y h3 ob T;have Q:=(t8 a (lU T) (by rw[g];intro e;injection e with e;exact y e) (by rintro rfl;rw[i9]at g;injection g with g;exact h3 g.symm)).trans T;exact⟨Q,(UO a (lU Q) (t9 a r g y)).trans Q⟩
 obtain⟨Xn,mt⟩:=cH _ _ (by rw[<-i8];exact O.own .it trivial) (by simp) (by simp) _ S4;obtain⟨YL,zc1⟩:=cH _ _ (O.own .un trivial) (by simp) (by simp) _ XV;obtain⟨WY,za0⟩:=cH _ _ (by rw[<-Vm];exact O.own _ ⟨Qj,Qz⟩) (by simp) (by simp) _ QZ;have za1:K4[Y.A .su]?=some (.row false 1 0 (bD (bT d) (fb (cd Y.x.s p (some (c.iF π j))) (cd Y.ad p iu)))):=by
  rw[UO _ (lU f9) (t9 _ _ i9 (by simp)),f9,Fi]
 have ut:=iO (n:=bT d) (f:=fb (cd Y.x.s p (some (d6.getD (US.init P G)))) (cd Y.ad p iu)) XT;rw[show fb (cd Y.x.s p (some (d6.getD (US.init P G)))) (cd Y.ad p iu) p=.ref iu 0 by simp[fb,cd]]at ut;refine dC [] W ?_;apply Ow bX
 .intro Q T;refine fR 3 W<|aw W W Xn W<|fR 2 W<|aw W W YL W<|fR 3 W<|aw W W WY W<|cZ W W W f9 Vi Zs<|jK W W f9 ut<|fR 1 W<|bp UV W W<|fR 5 W<|TF.nil ⟨by kernel_rfl,rfl⟩
 refine dO [2,147] W<|Oq (ax W W mt W)<|dR [999] W<|Oq (cc W W mt W W W)<|dL [] W ?_;obtain⟨v6,wd⟩:=O.gE ST (λa J=>by
  rcases UH a J with g|g
  .exact hF a g
  .exact .inr (by omega)) (by omega) (λa g y h3=>(UO a (by omega) (λT=>by
   rcases hF a T with Q|Q
   .exact y Q
   .omega)).trans (t8 a g y h3)) za1
 have wn:(Y.gE p (c.iF π j) iu F4).cs (j::π) 0=1:=i6;have Do:=v6.lb (π:=π) (j:=j) (by rw[wn];decide);have Eq:=bf.lb (c:=c) (H:=K4) (X:=Y.gE p (c.iF π j) iu F4) wn;have Fd:Pu P c d u ((Y.gE p (c.iF π j) iu F4).lb π j):=Pu.called S A.1.pu Qj w V hp i6 i7 Ru (λE a=>.inl (A.2.2.2 E a));have za2:=HX (c:=c) (X:=Y) (π:=π) (j:=j) (p:=p) (iu:=iu) (u':=c.iF π j) (F:=F4);have Ug:=A.2.2.1;have Fn:∀(i:Nat) (x:Nm) (σ:Path×Nat),q.lhs[i]?=some x->c.find π x=some σ->X.fs σ.1=2/\(X.cs σ.1 σ.2=0\/X.cs σ.1 σ.2=1)/\Y.cs σ.1 σ.2=X.cs σ.1 σ.2:=by
  intro i x σ B T;obtain⟨OQ,nv,g,y,h3,h4,h5,h6,s,j0,h7,h8,h9,Ry,TD⟩:=hC.lhs π j q OI w V Ru i x B;rw[T]at g;injection g with g
  subst g;have Q:=(ta hI.pu hf T).1;have OP:(σ.1,σ.2)≠(j::π,0):=by intro e;injection e with e1 _;rw[e1]at Q;exact Q1 Q
  have U:∀(Z:av) (L:Hp),cS P n c d u Z L->Z.fs σ.1=2->Z.dn π j=false->Z.cs σ.1 σ.2<=3->Z.cs σ.1 σ.2=0\/Z.cs σ.1 σ.2=1:=by
   intro Z L z Rl Wp d7;have n3:Z.cs σ.1 σ.2≠3:= λe=>by have:=z.pu.ca _ _ e;rw[y]at this;cases this
   have n2:Z.cs σ.1 σ.2≠2:= λe=>by
    have:=(z.pu.s2 σ j0 s π j q Rl (.inl e) TD h9 h7 (by rw[h8];exact Ry) w).2.2 V;rw[Wp]at this;cases this
   omega
  have a0:=U X H hI Q Tu (Uz.c4 _ _);have a1:=U Y K A.1 (Pz.f2 _ (by rw[t4];exact Q)) i7 ((Zr.next Pz).c4 _ _);have a2:=Pz.c1 σ.1 σ.2 (λh=>h);rw[Oz _ _ OP]at a2;exact⟨Q,a0,by omega⟩
 obtain⟨Z5,ac⟩:∃Z,Z=(Y.gE p (c.iF π j) iu F4).lb π j:=⟨_,rfl⟩;have za3:cS P n c d u Z5 K4:=ac▸⟨Do,Fd⟩;have XD:bf c (λC=>d9 C\/C=(j::π,0)) X H Z5 K4:=by
  rw[ac];exact((QK.mono λ_ h=>.inr h).trans (Pz.mono λ_=>False.elim)).trans ((wd.mono λ_=>False.elim).trans (Eq.mono λ_ h=>.inr h))
 have za4:Z5.T c<=X.T c:=by rw[ac];omega
 have za5:Z5.dn π j=true:=by rw[ac];exact zd _ _ _
 have za6:Z5.cs (j::π) 0=1:=by rw[ac];exact i6
 have za7:Z5.cs=Y.cs:=by rw[ac];rfl
 clear ac Do Fd za2 Eq v6 wd;have zc2:=P2.2.2.2.2.2.1;have pm:K4.set (X.A .it) (Ob.box [.ref (Y.A .un) 0,.ref (Y.A (.fr [])) 0,.d (.bool (!true)),bI (Y.A .af) Y.vF Y.F.length,bI (Y.A .nx) Y.vN Y.N.length])=K4:=A3 mt;refine dO [2,158] W<|Oq (ax W W (by rw[pm];exact za0) W)<|dR [159] W<|Oq (bK W W W) ?_;rw[asD];refine dL [] W<|OB [nN 156 0,nN 155 q.lhs.length,nD 154 (.sl (dM q.lhs)),nD 11 (.sl (bL (c.outs π j))),nR 0 (X.A .it),nR 1 (X.A (.fr π)),nR 2 (X.A (.pl π j))] K4 W pm ?_;clear pm;refine dC [] W<|Ps (λa=>∃Z L D,cS P n c d u Z L/\bf c (λC=>d9 C\/C=(j::π,0)) X H Z L/\Z.T c<=X.T c/\Z.dn π j=true/\Z.cs (j::π) 0=1/\(∀(i:Nat) (x:Nm) (σ:Path×Nat),q.lhs[i]?=some x->c.find π x=some σ->Z.cs σ.1 σ.2=if X.cs σ.1 σ.2=1 then 4 else 2)/\a=⟨[nR 0 (X.A .it),nR 1 (X.A (.fr π)),nR 2 (X.A (.pl π j))],D,L⟩) ?_ ?_
 .refine dC [3] W<|DC.lp (λk s=>∃(i:Nat) (Z:av) (L:Hp) (D:List (Nat×List M)),s=⟨[nN 156 i,nN 155 q.lhs.length,nD 154 (.sl (dM q.lhs)),nD 11 (.sl (bL (c.outs π j))),nR 0 (X.A .it),nR 1 (X.A (.fr π)),nR 2 (X.A (.pl π j))],D,L⟩/\i<=q.lhs.length/\k=q.lhs.length-i/\
    cS P n c d u Z L/\bf c (λC=>d9 C\/C=(j::π,0)) X H Z L/\Z.T c<=X.T c/\Z.dn π j=true/\Z.cs (j::π) 0=1/\∀(a:Nat) (x:Nm) (σ:Path×Nat),q.lhs[a]?=some x->c.find π x=some σ->(a<i->Z.cs σ.1 σ.2=if X.cs σ.1 σ.2=1 then 4 else 2)/\(i<=a->Z.cs σ.1 σ.2=X.cs σ.1 σ.2)) q.lhs.length _
   ⟨0,Z5,K4,_,rfl,by omega,rfl,za3,XD,za4,za5,za6,λg x σ B a=>⟨by omega,λ_=>by rw[za7];exact(Fn g x σ B a).2.2⟩⟩ W ?_
  rintro k s1 ⟨i,Z,L,D,rfl,hi,rfl,z,R,W2,Yv,ah,co⟩;refine dC [2] W<|DC.cond W (λhc=>?_) (λhc=>?_);rotate_left
  .have e:i=q.lhs.length:=by have:=asG hc;omega
   refine DC.exit<|⟨_,⟨Z,L,_,z,R,W2,Yv,ah,λQ x σ B Qd=>(co Q x σ B Qd).1 (by
    rcases asp Q q.lhs.length with h|h
    .omega
    .rw[asr h]at B;cases B),rfl⟩,cN W W⟩
  have OY:i<q.lhs.length:=by have:=asC hc;omega
  have B:=aso OY;have SG:=kK OY;generalize q.lhs[i]=x at B SG;obtain⟨σ,nv,Qd,PG,XO,zc3,zc4,za8,s,j0,Ux,Q9,UP,Vd,W7⟩:=hC.lhs π j q OI w V Ru i x B;obtain⟨qr,za9,_⟩:=Fn i x σ B Qd;have t6:=(co i x σ B Qd).2 (asj _);have Rl:=R.f2 π hf;have T:=R.f2 _ qr;have Wb:=(R.A (.fr π) (by show 1<=X.fs π;omega)).2;have Uy:σ.2<(c.fr σ.1).vars.length:=by
   rcases asp σ.2 (c.fr σ.1).vars.length with h|h
   .exact h
   .rw[asr h]at UP;cases UP
  have PI:=pv z.lay z.pu S.sz π Rl x;rw[Wb]at PI;have S8:Z.gC c π x=.ref (Z.A (.ce σ.1 σ.2)) 0:=by unfold av.gC;rw[Qd]
  rw[S8]at PI;obtain⟨U,eq,O8,Pt,TX⟩:=z.lay.cell T UP;have Zb:c.get (σ.1,σ.2)=nv:=by unfold aI.get;rw[PG];rfl
  have Fr:(bL (c.outs π j))[((i:Nat):Int).toNat]?=some [.int .i32 nv]:=by simp[bL,XO]
  have zb0:(bL (c.outs π j)).length=(c.outs π j).length:=by simp[bL]
  have QL:=Pu.ok S z.pu T;have zb1:∀Q,U=some Q->Q<bT d:= λQ e=>by subst e;exact S.ML _ _ _ QL O8
  have Rn:∀(Q:Path) (j':Nat) (q':aB),σ=(j'::Q,0)->(c.fr Q).aq[j']?=some q'->q'.kd=2->False:= λQ j' q' e OK O4=>by
   subst e;obtain⟨_,q2,Wk,Pq⟩:=hC.iK j' Q QL;rw[OK]at Wk;injection Wk with Wk;subst Wk;omega
  have FS:(σ.1,σ.2)≠(j::π,0):=by intro e;injection e with e1 _;rw[e1]at qr;exact Q1 qr
  have GT:=hC.wc σ.1 σ.2 s QL UP W7;have Xz:∀(Q:av),Q.fs π=2->Q.dn π j=true->∀j1 v1 OF j' q',(c.fr σ.1).vars[σ.2]?=some v1->ic (c.fr σ.1) σ.2 v1 j1->Src c (c.sb σ.1 σ.2) σ.1 j1 v1.name (some (OF,j'))->(c.fr OF).aq[j']?=some q'->Q.fs OF=2/\(q'.kd=1->∀E∈c.ew OF j',Q.SS c E.1 E.2)/\(q'.kd=2->Q.dn OF j'=true):=by
   intro Q d7 gc j1 v1 OF j' q' g y h3 h4;rw[UP]at g;injection g with g
   subst g;obtain rfl:=Ux.uo y;rw[Q9]at h3;have e:=Vd.uo h3;injection e with e
   injection e with e1 e2
   subst e1;subst e2;rw[w]at h4;injection h4 with h4
   subst h4;exact⟨d7,λg=>by omega,λ_=>gc⟩
  refine dO [3,2,163] W<|Oq (aP W W W (asm i) SG W)<|dR [2,167] W<|Oq (au PI W W)<|dR [2,169] W<|Oq (kI (by kernel_rfl) W W W W W)<|dR [173] W ?_
  first|refine Oq (aH W W) ?_|(refine Oq (aC W) ?_;refine Oq (bK W W W) ?_;rw[zb0])
  refine dR [174] W ?_
  first|refine Oq (aH W W) ?_|(refine Oq (aC W) ?_;refine Oq (aQ (asP (by omega)) W W W W) ?_)
  refine dL [1] W ?_;have Id:∀(Q:av) (L':Hp),cS P n c d u Q L'->bf c (λC=>d9 C\/C=(j::π,0)) X H Q L'->Q.T c<=X.T c->Q.dn π j=true->Q.cs (j::π) 0=1->(Q.cs σ.1 σ.2=if X.cs σ.1 σ.2=1 then 4 else 2)->(∀t k,(t,k)≠(σ.1,σ.2)->Q.cs t k=Z.cs t k)->
    ∀(gc:Nat) (rg:Nm) (OQ:Path×Nat),q.lhs[gc]?=some rg->c.find π rg=some OQ->(gc<i+1->Q.cs OQ.1 OQ.2=if X.cs OQ.1 OQ.2=1 then 4 else 2)/\(i+1<=gc->Q.cs OQ.1 OQ.2=X.cs OQ.1 OQ.2):=by
   intro Q L' Zt Uj LT Om On IO In i' x' d7 PF RG;refine⟨λhl=>?_,λhl=>?_⟩
   .by_cases e:d7=σ
    .subst e;exact IO
    .have LE:i'<i:=by
      rcases asp i' i with h|h
      .exact h
      .have:i'=i:=by omega
       subst this;rw[B]at PF;injection PF with PF;subst PF
       rw[Qd]at RG;injection RG with RG
       exact absurd RG.symm e
     rw[In _ _ (λa=>e a)];exact(co i' x' d7 PF RG).1 LE
   .have e:d7≠σ:=by
     rintro rfl;have:=za8 i' x' d7 PF RG W;omega
    rw[In _ _ (λa=>e a)];exact(co i' x' d7 PF RG).2 (by omega)
  refine dC [] W ?_;rcases za9 with Tv|rg
  .have Yw:=t6.trans Tv;rw[Yw]at Pt;refine dO [2,179] W<|Oq (aP W W W (asm i) Fr W)<|dR [999] W<|Oq (cc W W Pt W W W)<|dL [] W ?_;have Zc:=z.lay.cO (σ:=σ) 5 T UP O8 TX;have In:=bf.cO z.lay (s:=5) (σ:=σ) ⟨T,Uy⟩ (Ob.box (c_ s U eq (Z.A (.fr σ.1)) (nF 5) (if zB 5 then c.get (σ.1,σ.2)else 0))) (λe=>by rw[Yw]at e;cases e) (λe=>by rw[Yw]at e;cases e) (by decide);have zc5:=Ju (c:=c) (X:=Z) (σ:=σ) (s:=5) (by decide) Yw GT.1;refine OB [nN 156 i,nN 155 q.lhs.length,nD 154 (.sl (dM q.lhs)),nD 11 (.sl (bL (c.outs π j))),nR 15 (Z.A (.ce σ.1 σ.2)),nR 0 (X.A .it),nR 1 (X.A (.fr π)),nR 2 (X.A (.pl π j))] (L.set (Z.A (.ce σ.1 σ.2)) (Ob.box (c_ s U eq (Z.A (.fr σ.1)) (nF 5) (if zB 5 then c.get (σ.1,σ.2)else 0)))) W (by rw[Zb];rfl) ?_;have Zu:(L.set (Z.A (.ce σ.1 σ.2)) (Ob.box (c_ s U eq (Z.A (.fr σ.1)) (nF 5) (if zB 5 then c.get (σ.1,σ.2)else 0))))[Z.A (.ce σ.1 σ.2)]?=some (Ob.box (c_ s U eq (Z.A (.fr σ.1)) (nF 5) (if zB 5 then c.get (σ.1,σ.2)else 0))):=gJ Pt _;generalize L.set (Z.A (.ce σ.1 σ.2)) (Ob.box (c_ s U eq (Z.A (.fr σ.1)) (nF 5) (if zB 5 then c.get (σ.1,σ.2)else 0)))=L1 at Zc In Zu⊢;have Vp:=cp Z σ 5;obtain⟨m7,L2,⟨Q,d7,P0,OV,IO,Pi,zc6,zc7,zb2⟩,Qw⟩:=Jp (X:=Z.cO σ 5) ⟨Zc,(z.pu.cO (by omega) W7 (λ_=>by rw[PG];rfl) (λe=>by cases e) (λe=>by rw[Yw]at e;cases e) (λe=>by rw[Yw]at e;omega) (λe=>by cases e) (λe=>by omega) (λg h i e o a=>(Rn g h i e o a).elim) (.inl T))⟩ (by omega) T UP O8 (by rw[Vp];rfl) zb1 W7
   rw[show(Z.cO σ 5).A=Z.A from rfl,(R.A .it trivial).2]at Qw;have gc:Q.fs σ.1=2:=by rw[IO];exact T
   obtain⟨zc8,Z3,RC,R9,zb3⟩:=d7.lay.cell gc UP;rw[O8]at RC;injection RC with RC
   subst RC;have Wq:=(P0.A (.ce σ.1 σ.2) ⟨T,Uy⟩).2;have LE:Q.cs σ.1 σ.2=5:=by rw[OV];exact Vp
   rw[Wq,LE]at R9;refine dO [2,186] W<|Oq (ax W W Zu W)<|dL [] W<|Ps (λa=>a=⟨[nN 156 i,nN 155 q.lhs.length,nD 154 (.sl (dM q.lhs)),nD 11 (.sl (bL (c.outs π j))),nR 15 (Z.A (.ce σ.1 σ.2)),nR 0 (X.A .it),nR 1 (X.A (.fr π)),nR 2 (X.A (.pl π j))],D,L2⟩) ?_ ?_
   .refine dO [1,2,190] W<|Oq (au Qw W W)<|dL [] W<|⟨_,W,cN W W⟩
   rintro _ rfl;have Ui:=d7.lay.cO (σ:=σ) 2 gc UP O8 zb3;have Yl:Q.dn π j=true:=by rw[Pi];exact Yv
   have Zv:=d7.pu.cO (by omega) W7 (λ_=>by rw[PG];rfl) (λe=>by cases e) (λ_=>rfl) (λ_=>.inl W) (λ_ p' v' OW QM=>by
    rw[O8]at OW;injection OW with OW
    exact .inl (zb2 p' OW v' QM)) (λ_=>Xz Q (by rw[IO];exact Rl) Yl) (λg h i e o a=>(Rn g h i e o a).elim) (.inl gc)
   have LT:=bf.cO d7.lay (s:=2) (σ:=σ) ⟨gc,Uy⟩ (Ob.box (c_ s U Z3 (Q.A (.fr σ.1)) (nF 2) (if zB 2 then c.get (σ.1,σ.2)else 0))) (λ_=>rfl) (λe=>by rw[LE]at e;cases e) (by decide);have zc9:=rD (c:=c) (X:=Q) (σ:=σ) (s:=2) (by decide);rw[Wq]at Ui LT;have zb4:bf c (λ_=>False) Z L (Q.cO σ 2) (L2.set (Z.A (.ce σ.1 σ.2)) (Ob.box (c_ s U Z3 (Q.A (.fr σ.1)) (nF 2) (if zB 2 then c.get (σ.1,σ.2)else 0)))):=
    bf.close ((In.trans (P0.mono λ_=>False.elim)).trans LT) (by rw[Yw,cp];omega) (λs hs=>by rw[Yw,cp];omega) (by rw[Yw];decide)
   have Om:∀t k,(t,k)≠(σ.1,σ.2)->(Q.cO σ 2).cs t k=Z.cs t k:= λt k e=>by rw[bE Q e,OV];exact bE Z e
   have On:(Q.cO σ 2).cs (j::π) 0=1:=by rw[Om _ _ (atf FS)];exact ah
   have SW:=R.trans (zb4.mono λ_=>False.elim);have PW:(Q.cO σ 2).cs σ.1 σ.2=if X.cs σ.1 σ.2=1 then 4 else 2:=by rw[cp,Tv];rfl
   have VP:(Q.cO σ 2).T c<=X.T c:=by have:=GT.2.1;omega
   have Tq:=Id _ _ ⟨Ui,Zv⟩ SW VP Yl On PW Om;refine dO [2,999] W<|Oq (cc W W R9 W W W)<|dR [2,194] W<|Oq (ay W W W (by omega))<|dL [] W<|bG (k':=q.lhs.length-(i+1)) (by omega) ⟨i+1,_,_,_,rfl,by omega,rfl,⟨Ui,Zv⟩,SW,VP,Yl,On,Tq⟩ (by rfl) W
  .have Q:=t6.trans rg;rw[Q]at Pt;refine dO [2,179] W<|Oq (aP W W W (asm i) Fr W)<|dR [999] W<|Oq (cc W W Pt W W W)<|dL [] W ?_;have Zu:=gJ Pt (Ob.box (c_ s U eq (Z.A (.fr σ.1)) 1 nv));refine dO [2,186] W<|Oq (ax W W Zu W)<|dL [] W<|Ps (λa=>a=⟨[nN 156 i,nN 155 q.lhs.length,nD 154 (.sl (dM q.lhs)),nD 11 (.sl (bL (c.outs π j))),nR 15 (Z.A (.ce σ.1 σ.2)),nR 0 (X.A .it),nR 1 (X.A (.fr π)),nR 2 (X.A (.pl π j))],D,L.set (Z.A (.ce σ.1 σ.2)) (Ob.box (c_ s U eq (Z.A (.fr σ.1)) 1 nv))⟩) ?_ ?_
   .refine dC [0] W<|⟨_,W,cN W W⟩
   rintro _ rfl;have Ui:=z.lay.cO (σ:=σ) 4 T UP O8 TX;have Zv:=z.pu.cO (by omega) W7 (λ_=>by rw[PG];rfl) (λe=>by cases e) (λ_=>rfl) (λ_=>.inr W) (λe=>by cases e) (λ_=>Xz Z Rl Yv) (λg h i e o a=>(Rn g h i e o a).elim) (.inl T);have In:=bf.cO z.lay (s:=4) (σ:=σ) ⟨T,Uy⟩ (Ob.box (c_ s U eq (Z.A (.fr σ.1)) (nF 4) (if zB 4 then c.get (σ.1,σ.2)else 0))) (λe=>by rw[Q]at e;cases e) (λe=>by rw[Q]at e;cases e) (by decide);have IO:=rD (c:=c) (X:=Z) (σ:=σ) (s:=4) (by decide);have d7:∀t k,(t,k)≠(σ.1,σ.2)->(Z.cO σ 4).cs t k=Z.cs t k:= λt k e=>bE Z e
   have gc:(Z.cO σ 4).cs (j::π) 0=1:=by rw[d7 _ _ (atf FS)];exact ah
   have SW:=R.trans (In.mono (λC e=>.inl (e▸(hE x (asn B) σ Qd rg))));have PW:(Z.cO σ 4).cs σ.1 σ.2=if X.cs σ.1 σ.2=1 then 4 else 2:=by rw[cp,rg];rfl
   have Tq:=Id _ _ ⟨Ui,Zv⟩ SW (by omega) Yv gc PW d7;refine dO [2,999] W<|Oq (cc W W Zu W W W)<|dR [2,194] W<|Oq (ay W W W (by omega))<|dL [] W<|bG (k':=q.lhs.length-(i+1)) (by omega) ⟨i+1,_,_,_,rfl,by omega,rfl,⟨Ui,Zv⟩,SW,by omega,Yv,gc,Tq⟩ (by rw[List.set_set,Zb];rfl) W
 rintro _ ⟨Z,L,D,z,R,W2,Yv,ah,co,rfl⟩;have Rl:=R.f2 π hf;have Wb:=(R.A (.fr π) (by show 1<=X.fs π;omega)).2;have Zw:=(R.A (.pl π j) ⟨hf,Qz⟩).2;have Tt:Z.fs (j::π)=0:=by
  rcases asR (Z.fs (j::π))with e|e
  .exact e
  .obtain⟨_,U,Q,T⟩:=hC.iK j π (z.pu.fp j π (by omega)).2;rw[w]at Q;injection Q with Q;subst Q;omega
 have rt:=z.lay.frame Rl;rw[Wb]at rt;obtain⟨ob,Uk,es,rfl,VV,R4,_⟩:=z.lay.ob (.am π) (by show 1<=Z.fs π;omega);have R4:=R4 Rl j Qz;have Vq:Z.nW π j=none:=by
  unfold av.nW;rw[asu (λa=>a Tt),asu (by rw[ah];simp)]
 rw[Vq,Zw]at R4;have Ot:=z.lay.ze Rl Tt Yv w Uk;have zb5:=z.pu.ze w V hg.2 Tt Yv ah (λx B σ T=>by
  obtain⟨i,Q⟩:=asJ.1 B;have:=co i x σ Q T;split at this
  .exact .inr this
  .exact .inl this)
 have SW:=bf.ze z.lay Rl ah (.map (jh (Z.A (.pl π j)) 0 (.ref (Z.A (.fr π)) 0) es));have zd0:=rD (c:=c) (X:=Z) (σ:=(j::π,0)) (s:=3) (by decide);rw[Wb,Zw]at Ot SW;refine dO [2,198] W<|Oq (ax W W rt W)<|dR [200] W<|Oq (o8 W W W W W Uk VV) ?_;rw[R4];refine dR [201] W<|Oq (mn (by kernel_rfl) W W W W W)<|dR [1,2,205] W<|Oq (ax W W rt W)<|dR [999] W<|Oq (qa W W W W W Uk VV)<|dL [] W<|⟨_,rfl,Z.cO (j::π,0) 3,⟨Ot,zb5⟩,?_,by omega,Yv,λx B C QW zb6=>?_⟩
 .exact(R.trans (SW.mono λ_ e=>.inr e)).Jx W0 (cp Z (j::π,0) 3)
 .obtain⟨i,U⟩:=asJ.1 B;have g:=co i x C U QW;rw[zb6,asB W]at g;have Q:=(ta hI.pu hf QW).1;have d7:(C.1,C.2)≠(j::π,0):=by intro e;injection e with T _;rw[T]at Q;exact Q1 Q
  rw[bE Z d7];exact g
end
variable{k e i:Nat}{π:Path}{H:Hp}{C:List M}{a b c d:M}
structure Fl(g:wA)(st z:Nat->Int)(up:M)(X:av)(π:Path)(k e:Nat)(L:Nat->Nm->Prop)(H:Hp):Prop where
 lt:∀a r,X.own a=some r->a<H.length
 lc:X.own (X.A (.fr π))=some (.fr π)
 mS:0<k->X.own (X.A (.cr π))=some (.cr π)
 nJ:0<e->X.own (X.A (.er π))=some (.er π)
 nX:∀x,x<k->X.own (X.A (.ce π x))=some (.ce π x)
 nY:∀x,x<e->X.own (X.A (.pl π x))=some (.pl π x)
 fr:H[X.A (.fr π)]?=some (.box [up,bI (X.A (.cr π)) (X.vc π) k,bI (X.A (.er π)) (X.ve π) e,.mp (X.A (.am π)),.mp (X.A (.tk π))])
 cr:0<k->H[X.A (.cr π)]?=some (.row true 1 (X.vc π) ((List.range k).map λx=>.ref (X.A (.ce π x)) 0))
 er:0<e->H[X.A (.er π)]?=some (.row true 1 (X.ve π) ((List.range e).map λx=>.ref (X.A (.pl π x)) 0))
 ce:∀x,x<k->∃v b eq,g.vars[x]?=some v/\g.cK[x]?=some b/\H[X.A (.ce π x)]?=some (.box (c_ v b eq (X.A (.fr π)) (st x) (z x)))/\∀j,ic g x v j->L j v.name->eq=.ref (X.A (.pl π j)) 0
 pl:∀x,x<e->∃q p,g.aq[x]?=some q/\g.pos[x]?=some p/\H[X.A (.pl π x)]?=some (.box (dB q p))
def Ro.qM(π:Path):Ro->Prop
 |.cr a=>a=π|.er a=>a=π|.ce a _=>a=π|.pl a _=>a=π|_=>False
structure mB(π:Path)(X:av)(H:Hp)(Y:av)(K:Hp):Prop where
 eq:∃A own vc ve,Y={X with A:=A,own:=own,vc:=vc,ve:=ve}
 len:H.length<=K.length
 A:∀r,¬r.qM π->Y.A r=X.A r
 v:∀ρ,ρ≠π->Y.vc ρ=X.vc ρ/\Y.ve ρ=X.ve ρ
 own:∀a,a<H.length->Y.own a=X.own a
 new:∀a r,Y.own a=some r->a<H.length\/r.qM π
 iD:∀a,a<H.length->(∀r,X.own a=some r->¬r.qM π/\r≠.fr π)->K[a]?=H[a]?
def mB.refl{X:av}(lt:∀a r,X.own a=some r->a<H.length):mB π X H X H:=⟨⟨_,_,_,_,rfl⟩,asj _,λ_ _=>rfl,λ_ _=>⟨rfl,rfl⟩,λ_ _=>rfl,λa r h=>.inl (lt a r h),λ_ _ _=>rfl⟩
def mB.trans{X Y Z:av}{K L:Hp}(h:mB π X H Y K)(k:mB π Y K Z L):mB π X H Z L:=by
 refine⟨?_,ata h.len k.len,λr b=>(k.A r b).trans (h.A r b),λd f=>⟨(k.v d f).1.trans (h.v d f).1,(k.v d f).2.trans (h.v d f).2⟩,λa c=>(k.own a (atm c h.len)).trans (h.own a c),λa r b=>?_,λa c b=>?_⟩
 .obtain⟨A,o,v,e,rfl⟩:=h.eq;obtain⟨g,i,j,l,rfl⟩:=k.eq;exact⟨g,i,j,l,W⟩
 .rcases k.new a r b with g|g
  .rw[k.own a g]at b;exact h.new a r b
  .exact .inr g
 .exact(k.iD a (atm c h.len) (λr d=>b r (by rw[<-h.own a c];exact d))).trans (h.iD a c b)
section
variable{g:wA}{st z:Nat->Int}{up:M}{X:av}{π:Path}{H K:Hp}{L:Nat->Nm->Prop}
def xk{a:Type}(f:Nat->a)(k:Nat):(List.range (k+1)).map f=(List.range k).map f++[f k]:=by rw[List.range_succ];simp
def av.e_(X:av)(π:Path)(k:Nat)(H:Hp):av:={X with
 A:= λr=>if r=.ce π k then H.length else if r=.cr π/\k=0 then H.length+2 else X.A r
 own:= λa=>if a=H.length then some (.ce π k)else if a=H.length+2/\k=0 then some (.cr π)else X.own a
 vc:= λa=>if a=π then(if k=0 then 0 else X.vc π+1)else X.vc a}
def av.qf(X:av)(π:Path)(k:Nat)(H:Hp)(C:List M)(a b c d:M):Hp:=
 if k=0 then(((H++[Ob.box C])++[Ob.row false 1 0 [M.ref H.length 0]])++[Ob.row true 1 0 [M.ref H.length 0]]).set (X.A (.fr π)) (Ob.box ([a,.bC (H.length+2) 0 1,b,c,d]))
 else(((H++[Ob.box C])++[Ob.row false 1 0 [M.ref H.length 0]]).set (X.A (.cr π)) (Ob.row true 1 (X.vc π+1) (((List.range k).map λx=>M.ref (X.A (.ce π x)) 0)++[M.ref H.length 0]))).set (X.A (.fr π)) (Ob.box ([a,.bC (X.A (.cr π)) (X.vc π+1) (k+1),b,c,d]))
def Fl.e_(h:Fl g st z up X π k 0 (λ_ _=>False) H)(T:a=up/\b=.d (.sl [])/\c=.mp (X.A (.am π))/\d=.mp (X.A (.tk π)))
  (N:∃v l eq,g.vars[k]?=some v/\g.cK[k]?=some l/\C=c_ v l eq (X.A (.fr π)) (st k) (z k)):
  Fl g st z up (X.e_ π k H) π (k+1) 0 (λ_ _=>False) (X.qf π k H C a b c d)/\mB π X H (X.e_ π k H) (X.qf π k H C a b c d):=by
 obtain⟨rfl,rfl,rfl,rfl⟩:=T;have O:=h.lt _ _ h.lc;have s:∀r,¬r.qM π->(X.e_ π k H).A r=X.A r:= λr m=>by
  simp only[av.e_];rw[asu (by rintro rfl;exact m W),asu (by rintro⟨rfl,_⟩;exact m W)]
 have n:(X.e_ π k H).A (.fr π)=X.A (.fr π):=s _ id;have R:(X.e_ π k H).A (.am π)=X.A (.am π):=s _ id;have S:(X.e_ π k H).A (.tk π)=X.A (.tk π):=s _ id;have o:(X.e_ π k H).A (.er π)=X.A (.er π):=by simp[av.e_]
 have p:(X.e_ π k H).A (.ce π k)=H.length:=by simp[av.e_]
 have F:∀x,x≠k->(X.e_ π k H).A (.ce π x)=X.A (.ce π x):= λx f=>by simp[av.e_,f]
 have y:∀x,(X.e_ π k H).A (.pl π x)=X.A (.pl π x):= λx=>by simp[av.e_]
 have B:(X.e_ π k H).ve=X.ve:=rfl;have j:∀a,a<H.length->(X.e_ π k H).own a=X.own a:= λa t=>by
  simp only[av.e_];rw[asu (by omega),asu (by omega)]
 have D:∀a,H.length<=a->X.own a=none:= λa t=>by
  cases e:X.own a with
  |none=>rfl
  |some r=>have:=h.lt a r e;omega
 have E:(X.e_ π k H).own H.length=some (.ce π k):=by simp[av.e_]
 rcases asR k with rfl|q
 .have Q:X.qf π 0 H C a (.d (.sl [])) (.mp (X.A (.am π))) (.mp (X.A (.tk π)))=(((H++[Ob.box C])++[Ob.row false 1 0 [M.ref H.length 0]])++[Ob.row true 1 0 [M.ref H.length 0]]).set (X.A (.fr π)) (Ob.box ([a,.bC (H.length+2) 0 1,.d (.sl []),.mp (X.A (.am π)),.mp (X.A (.tk π))])):=asB W;rw[Q];have w:(X.e_ π 0 H).A (.cr π)=H.length+2:=by simp[av.e_]
  have I:(X.e_ π 0 H).vc π=0:=by simp[av.e_]
  have J:(X.e_ π 0 H).own (H.length+2)=some (.cr π):=by simp[av.e_]
  generalize u:(((H++[Ob.box C])++[Ob.row false 1 0 [M.ref H.length 0]])++[Ob.row true 1 0 [M.ref H.length 0]]).set (X.A (.fr π)) (Ob.box ([a,.bC (H.length+2) 0 1,.d (.sl []),.mp (X.A (.am π)),.mp (X.A (.tk π))]))=K;have U:K.length=H.length+3:=by rw[<-u];simp
  have L:∀a,a<H.length->a≠X.A (.fr π)->K[a]?=H[a]?:= λa i j=>by
   rw[<-u,asv (atf j),asl (by simp;omega),asl (by simp;omega),asl i]
  have V:K[X.A (.fr π)]?=some (Ob.box ([a,.bC (H.length+2) 0 1,.d (.sl []),.mp (X.A (.am π)),.mp (X.A (.tk π))])):=by rw[<-u];exact as7 (by simp;omega)
  have Y:K[H.length]?=some (Ob.box C):=by
   rw[<-u,asv (by omega),asl (by simp),asl (by simp)];simp
  have Z:K[H.length+2]?=some (Ob.row true 1 0 [M.ref H.length 0]):=by
   rw[<-u,asv (by omega),ass (by simp)];simp
  have nf:∀{r},X.own (X.A r)=some r->r≠.fr π->X.A r≠X.A (.fr π):= λ{r} i G e=>by rw[e,h.lc]at i;injection i with i;exact G i.symm
  constructor
  .exact{
       lt:= λa r G=>by
        by_cases P:a<H.length
        .omega
        .rw[U];by_cases i:a=H.length
         .omega
         .by_cases e3:a=H.length+2
          .omega
          .simp only[av.e_]at G;rw[asu i,asu (by omega),D a (by omega)]at G;cases G
       lc:=by rw[n,j _ O];exact h.lc
       mS:= λ_=>by rw[w];exact J
       nJ:= λi=>by rw[o,j _ (h.lt _ _ (h.nJ i))];exact h.nJ i
       nX:= λx f=>by
        obtain rfl:x=0:=by omega
        rw[p];exact E
       nY:= λx f=>by rw[y,j _ (h.lt _ _ (h.nY x f))];exact h.nY x f
       fr:=by rw[n,R,S,o,B,w,I];exact V
       cr:= λ_=>by rw[w,I,Z];simp[p]
       er:= λi=>by
        rw[o,B,L _ (h.lt _ _ (h.nJ i)) (nf (h.nJ i) (by simp)),h.er i]
        congr 2
        try exact as6 λx _=>by rw[y]
       ce:= λx f=>by
        obtain rfl:x=0:=by omega
        obtain⟨v,l,eq,P,e2,rfl⟩:=N;exact⟨v,l,eq,P,e2,by rw[p,n];exact Y,λ_ _ j=>j.elim⟩
       pl:= λx f=>by omega}
  .exact{
       eq:=⟨_,_,_,_,rfl⟩,len:=by omega,A:=s,v:= λρ P=>⟨by simp[av.e_,P],by simp[av.e_,P]⟩,own:=j,new:= λa r i=>by
        by_cases e1:a<H.length
        .exact .inl e1
        .by_cases G:a=H.length
         .subst G;rw[E]at i;injection i with i;subst i;exact .inr W
         .by_cases e3:a=H.length+2
          .subst e3;rw[J]at i;injection i with i;subst i;exact .inr W
          .simp only[av.e_]at i;rw[asu G,asu (by omega),D a (by omega)]at i;cases i
       iD:= λa t m=>L a t (by rintro rfl;exact(m _ h.lc).2 W)}
 .have L:k≠0:=by omega
  have U:X.qf π k H C a (.d (.sl [])) (.mp (X.A (.am π))) (.mp (X.A (.tk π)))=(((H++[Ob.box C])++[Ob.row false 1 0 [M.ref H.length 0]]).set (X.A (.cr π)) (Ob.row true 1 (X.vc π+1) (((List.range k).map λx=>M.ref (X.A (.ce π x)) 0)++[M.ref H.length 0]))).set (X.A (.fr π)) (Ob.box ([a,.bC (X.A (.cr π)) (X.vc π+1) (k+1),.d (.sl []),.mp (X.A (.am π)),.mp (X.A (.tk π))])):=asu L;rw[U];have G:(X.e_ π k H).A (.cr π)=X.A (.cr π):=by simp[av.e_,L]
  have P:(X.e_ π k H).vc π=X.vc π+1:=by simp[av.e_,L]
  have P1:=h.lt _ _ (h.mS q);generalize u:(((H++[Ob.box C])++[Ob.row false 1 0 [M.ref H.length 0]]).set (X.A (.cr π)) (Ob.row true 1 (X.vc π+1) (((List.range k).map λx=>M.ref (X.A (.ce π x)) 0)++[M.ref H.length 0]))).set (X.A (.fr π)) (Ob.box ([a,.bC (X.A (.cr π)) (X.vc π+1) (k+1),.d (.sl []),.mp (X.A (.am π)),.mp (X.A (.tk π))]))=K;have V:K.length=H.length+2:=by rw[<-u];simp
  have w:∀{r r'},X.own (X.A r)=some r->X.own (X.A r')=some r'->r≠r'->X.A r≠X.A r':= λ{r r'} i J I e=>by rw[e,J]at i;injection i with i;exact I i.symm
  have I:∀a,a<H.length->a≠X.A (.fr π)->a≠X.A (.cr π)->K[a]?=H[a]?:= λa i j l=>by
   rw[<-u,asv (atf j),asv (atf l),asl (by simp;omega),asl i]
  have Y:K[X.A (.fr π)]?=some (Ob.box ([a,.bC (X.A (.cr π)) (X.vc π+1) (k+1),.d (.sl []),.mp (X.A (.am π)),.mp (X.A (.tk π))])):=by rw[<-u];exact as7 (by simp;omega)
  have Z:K[H.length]?=some (Ob.box C):=by
   rw[<-u,asv (by omega),asv (by omega),asl (by simp)];simp
  have kR:K[X.A (.cr π)]?=some (Ob.row true 1 (X.vc π+1) (((List.range k).map λx=>M.ref (X.A (.ce π x)) 0)++[M.ref H.length 0])):=by
   rw[<-u,asv (atf (w (h.mS q) h.lc (by simp))),as7 (by simp;omega)]
  constructor
  .exact{
       lt:= λa r J=>by
        by_cases Q:a<H.length
        .omega
        .rw[V];by_cases i:a=H.length
         .omega
         .simp only[av.e_]at J;rw[asu i,asu (by omega),D a (by omega)]at J;cases J
       lc:=by rw[n,j _ O];exact h.lc
       mS:= λ_=>by rw[G,j _ P1];exact h.mS q
       nJ:= λi=>by rw[o,j _ (h.lt _ _ (h.nJ i))];exact h.nJ i
       nX:= λx f=>by
        by_cases e:x=k
        .subst e;rw[p];exact E
        .rw[F x e,j _ (h.lt _ _ (h.nX x (by omega)))];exact h.nX x (by omega)
       nY:= λx f=>by rw[y,j _ (h.lt _ _ (h.nY x f))];exact h.nY x f
       fr:=by rw[n,R,S,o,B,G,P];exact Y
       cr:= λ_=>by
        rw[G,P,kR,xk,p]
        congr 3
        exact as6 λx f=>by rw[F x (by have:=atW.1 f;omega)]
       er:= λi=>by
        rw[o,B,I _ (h.lt _ _ (h.nJ i)) (w (h.nJ i) h.lc (by simp)) (w (h.nJ i) (h.mS q) (by simp)),h.er i]
        congr 2
        try exact as6 λx _=>by rw[y]
       ce:= λx f=>by
        by_cases e:x=k
        .subst e;obtain⟨v,l,eq,Q,e2,rfl⟩:=N;exact⟨v,l,eq,Q,e2,by rw[p,n];exact Z,λ_ _ j=>j.elim⟩
        .obtain⟨v,l,eq,Q,e2,e3,e4⟩:=h.ce x (by omega);exact⟨v,l,eq,Q,e2,by rw[F x e,n,I _ (h.lt _ _ (h.nX x (by omega))) (w (h.nX x (by omega)) h.lc (by simp)) (w (h.nX x (by omega)) (h.mS q) (by simp))];exact e3,λ_ _ j=>j.elim⟩
       pl:= λx f=>by omega}
  .exact{
       eq:=⟨_,_,_,_,rfl⟩,len:=by omega,A:=s,v:= λρ Q=>⟨by simp[av.e_,Q],by simp[av.e_,Q]⟩,own:=j,new:= λa r i=>by
        by_cases e1:a<H.length
        .exact .inl e1
        .by_cases J:a=H.length
         .subst J;rw[E]at i;injection i with i;subst i;exact .inr W
         .simp only[av.e_]at i;rw[asu J,asu (by omega),D a (by omega)]at i;cases i
       iD:= λa t m=>I a t (by rintro rfl;exact(m _ h.lc).2 W) (by rintro rfl;exact(m _ (h.mS q)).1 W)}
def av.fD(X:av)(π:Path)(k:Nat)(H:Hp):av:={X with
 A:= λr=>if r=.pl π k then H.length else if r=.er π/\k=0 then H.length+2 else X.A r
 own:= λa=>if a=H.length then some (.pl π k)else if a=H.length+2/\k=0 then some (.er π)else X.own a
 ve:= λa=>if a=π then(if k=0 then 0 else X.ve π+1)else X.ve a}
def av.wH(X:av)(π:Path)(k:Nat)(H:Hp)(C:List M)(a b c d:M):Hp:=
 if k=0 then(((H++[Ob.box C])++[Ob.row false 1 0 [M.ref H.length 0]])++[Ob.row true 1 0 [M.ref H.length 0]]).set (X.A (.fr π)) (Ob.box ([a,b,.bC (H.length+2) 0 1,c,d]))
 else(((H++[Ob.box C])++[Ob.row false 1 0 [M.ref H.length 0]]).set (X.A (.er π)) (Ob.row true 1 (X.ve π+1) (((List.range k).map λx=>M.ref (X.A (.pl π x)) 0)++[M.ref H.length 0]))).set (X.A (.fr π)) (Ob.box ([a,b,.bC (X.A (.er π)) (X.ve π+1) (k+1),c,d]))
def Fl.fD(h:Fl g st z up X π e k (λ_ _=>False) H)(Y:a=up/\b=bI (X.A (.cr π)) (X.vc π) e/\c=.mp (X.A (.am π))/\d=.mp (X.A (.tk π)))
  (R:∃q p,g.aq[k]?=some q/\g.pos[k]?=some p/\C=dB q p):
  Fl g st z up (X.fD π k H) π e (k+1) (λ_ _=>False) (X.wH π k H C a b c d)/\mB π X H (X.fD π k H) (X.wH π k H C a b c d):=by
 obtain⟨rfl,rfl,rfl,rfl⟩:=Y;have S:=h.lt _ _ h.lc;have B:∀r,¬r.qM π->(X.fD π k H).A r=X.A r:= λr l=>by
  simp only[av.fD];rw[asu (by rintro rfl;exact l W),asu (by rintro⟨rfl,_⟩;exact l W)]
 have s:(X.fD π k H).A (.fr π)=X.A (.fr π):=B _ id;have U:(X.fD π k H).A (.am π)=X.A (.am π):=B _ id;have V:(X.fD π k H).A (.tk π)=X.A (.tk π):=B _ id;have t:(X.fD π k H).A (.cr π)=X.A (.cr π):=by simp[av.fD]
 have u:(X.fD π k H).A (.pl π k)=H.length:=by simp[av.fD]
 have L:∀x,x≠k->(X.fD π k H).A (.pl π x)=X.A (.pl π x):= λx f=>by simp[av.fD,f]
 have w:∀x,(X.fD π k H).A (.ce π x)=X.A (.ce π x):= λx=>by simp[av.fD]
 have F:(X.fD π k H).vc=X.vc:=rfl;have j:∀a,a<H.length->(X.fD π k H).own a=X.own a:= λa D=>by
  simp only[av.fD];rw[asu (by omega),asu (by omega)]
 have G:∀a,H.length<=a->X.own a=none:= λa D=>by
  cases e:X.own a with
  |none=>rfl
  |some r=>have:=h.lt a r e;omega
 have I:(X.fD π k H).own H.length=some (.pl π k):=by simp[av.fD]
 rcases asR k with rfl|m
 .have Z:X.wH π 0 H C a (bI (X.A (.cr π)) (X.vc π) e) (.mp (X.A (.am π))) (.mp (X.A (.tk π)))=(((H++[Ob.box C])++[Ob.row false 1 0 [M.ref H.length 0]])++[Ob.row true 1 0 [M.ref H.length 0]]).set (X.A (.fr π)) (Ob.box ([a,bI (X.A (.cr π)) (X.vc π) e,.bC (H.length+2) 0 1,.mp (X.A (.am π)),.mp (X.A (.tk π))])):=asB W;rw[Z];have E:(X.fD π 0 H).A (.er π)=H.length+2:=by simp[av.fD]
  have O:(X.fD π 0 H).ve π=0:=by simp[av.fD]
  have P:(X.fD π 0 H).own (H.length+2)=some (.er π):=by simp[av.fD]
  generalize n:(((H++[Ob.box C])++[Ob.row false 1 0 [M.ref H.length 0]])++[Ob.row true 1 0 [M.ref H.length 0]]).set (X.A (.fr π)) (Ob.box ([a,bI (X.A (.cr π)) (X.vc π) e,.bC (H.length+2) 0 1,.mp (X.A (.am π)),.mp (X.A (.tk π))]))=K;have hl:K.length=H.length+3:=by rw[<-n];simp
  have J:∀a,a<H.length->a≠X.A (.fr π)->K[a]?=H[a]?:= λa i j=>by
   rw[<-n,asv (atf j),asl (by simp;omega),asl (by simp;omega),asl i]
  have kf:K[X.A (.fr π)]?=some (Ob.box ([a,bI (X.A (.cr π)) (X.vc π) e,.bC (H.length+2) 0 1,.mp (X.A (.am π)),.mp (X.A (.tk π))])):=by rw[<-n];exact as7 (by simp;omega)
  have kN:K[H.length]?=some (Ob.box C):=by
   rw[<-n,asv (by omega),asl (by simp),asl (by simp)];simp
  have kR:K[H.length+2]?=some (Ob.row true 1 0 [M.ref H.length 0]):=by
   rw[<-n,asv (by omega),ass (by simp)];simp
  have Q:∀{r},X.own (X.A r)=some r->r≠.fr π->X.A r≠X.A (.fr π):= λ{r} i o e=>by rw[e,h.lc]at i;injection i with i;exact o i.symm
  constructor
  .exact{
       lt:= λa r N=>by
        by_cases y:a<H.length
        .omega
        .rw[hl];by_cases o:a=H.length
         .omega
         .by_cases T:a=H.length+2
          .omega
          .simp only[av.fD]at N;rw[asu o,asu (by omega),G a (by omega)]at N;cases N
       lc:=by rw[s,j _ S];exact h.lc
       nJ:= λ_=>by rw[E];exact P
       mS:= λi=>by rw[t,j _ (h.lt _ _ (h.mS i))];exact h.mS i
       nY:= λx f=>by
        obtain rfl:x=0:=by omega
        rw[u];exact I
       nX:= λx f=>by rw[w,j _ (h.lt _ _ (h.nX x f))];exact h.nX x f
       fr:=by rw[s,U,V,t,F,E,O];exact kf
       er:= λ_=>by rw[E,O,kR];simp[u]
       cr:= λi=>by
        rw[t,F,J _ (h.lt _ _ (h.mS i)) (Q (h.mS i) (by simp)),h.cr i]
        congr 2
        try exact as6 λx _=>by rw[w]
       pl:= λx f=>by
        obtain rfl:x=0:=by omega
        obtain⟨q,p,y,o,rfl⟩:=R;exact⟨q,p,y,o,by rw[u];exact kN⟩
       ce:= λx f=>by obtain⟨v,lp,eq,y,o,T,e4⟩:=h.ce x f;exact⟨v,lp,eq,y,o,by rw[w,s,J _ (h.lt _ _ (h.nX x f)) (Q (h.nX x f) (by simp))];exact T,λ_ _ j=>j.elim⟩}
  .exact{
       eq:=⟨_,_,_,_,rfl⟩,len:=by omega,A:=B,v:= λρ y=>⟨by simp[av.fD,y],by simp[av.fD,y]⟩,own:=j,new:= λa r i=>by
        by_cases N:a<H.length
        .exact .inl N
        .by_cases o:a=H.length
         .subst o;rw[I]at i;injection i with i;subst i;exact .inr W
         .by_cases T:a=H.length+2
          .subst T;rw[P]at i;injection i with i;subst i;exact .inr W
          .simp only[av.fD]at i;rw[asu o,asu (by omega),G a (by omega)]at i;cases i
       iD:= λa D l=>J a D (by rintro rfl;exact(l _ h.lc).2 W)}
 .have Q:k≠0:=by omega
  have Z:X.wH π k H C a (bI (X.A (.cr π)) (X.vc π) e) (.mp (X.A (.am π))) (.mp (X.A (.tk π)))=(((H++[Ob.box C])++[Ob.row false 1 0 [M.ref H.length 0]]).set (X.A (.er π)) (Ob.row true 1 (X.ve π+1) (((List.range k).map λx=>M.ref (X.A (.pl π x)) 0)++[M.ref H.length 0]))).set (X.A (.fr π)) (Ob.box ([a,bI (X.A (.cr π)) (X.vc π) e,.bC (X.A (.er π)) (X.ve π+1) (k+1),.mp (X.A (.am π)),.mp (X.A (.tk π))])):=asu Q;rw[Z];have N:(X.fD π k H).A (.er π)=X.A (.er π):=by simp[av.fD,Q]
  have T:(X.fD π k H).ve π=X.ve π+1:=by simp[av.fD,Q]
  have P1:=h.lt _ _ (h.nJ m);generalize E:(((H++[Ob.box C])++[Ob.row false 1 0 [M.ref H.length 0]]).set (X.A (.er π)) (Ob.row true 1 (X.ve π+1) (((List.range k).map λx=>M.ref (X.A (.pl π x)) 0)++[M.ref H.length 0]))).set (X.A (.fr π)) (Ob.box ([a,bI (X.A (.cr π)) (X.vc π) e,.bC (X.A (.er π)) (X.ve π+1) (k+1),.mp (X.A (.am π)),.mp (X.A (.tk π))]))=K;have hl:K.length=H.length+2:=by rw[<-E];simp
  have i:∀{r r'},X.own (X.A r)=some r->X.own (X.A r')=some r'->r≠r'->X.A r≠X.A r':= λ{r r'} n y o e=>by rw[e,y]at n;injection n with n;exact o n.symm
  have J:∀a,a<H.length->a≠X.A (.fr π)->a≠X.A (.er π)->K[a]?=H[a]?:= λa i j m=>by
   rw[<-E,asv (atf j),asv (atf m),asl (by simp;omega),asl i]
  have kf:K[X.A (.fr π)]?=some (Ob.box ([a,bI (X.A (.cr π)) (X.vc π) e,.bC (X.A (.er π)) (X.ve π+1) (k+1),.mp (X.A (.am π)),.mp (X.A (.tk π))])):=by rw[<-E];exact as7 (by simp;omega)
  have kN:K[H.length]?=some (Ob.box C):=by
   rw[<-E,asv (by omega),asv (by omega),asl (by simp)];simp
  have kR:K[X.A (.er π)]?=some (Ob.row true 1 (X.ve π+1) (((List.range k).map λx=>M.ref (X.A (.pl π x)) 0)++[M.ref H.length 0])):=by
   rw[<-E,asv (atf (i (h.nJ m) h.lc (by simp))),as7 (by simp;omega)]
  constructor
  .exact{
       lt:= λa r O=>by
        by_cases y:a<H.length
        .omega
        .rw[hl];by_cases n:a=H.length
         .omega
         .simp only[av.fD]at O;rw[asu n,asu (by omega),G a (by omega)]at O;cases O
       lc:=by rw[s,j _ S];exact h.lc
       nJ:= λ_=>by rw[N,j _ P1];exact h.nJ m
       mS:= λo=>by rw[t,j _ (h.lt _ _ (h.mS o))];exact h.mS o
       nY:= λx f=>by
        by_cases e:x=k
        .subst e;rw[u];exact I
        .rw[L x e,j _ (h.lt _ _ (h.nY x (by omega)))];exact h.nY x (by omega)
       nX:= λx f=>by rw[w,j _ (h.lt _ _ (h.nX x f))];exact h.nX x f
       fr:=by rw[s,U,V,t,F,N,T];exact kf
       er:= λ_=>by
        rw[N,T,kR,xk,u]
        congr 3
        exact as6 λx f=>by rw[L x (by have:=atW.1 f;omega)]
       cr:= λo=>by
        rw[t,F,J _ (h.lt _ _ (h.mS o)) (i (h.mS o) h.lc (by simp)) (i (h.mS o) (h.nJ m) (by simp)),h.cr o]
        congr 2
        try exact as6 λx _=>by rw[w]
       pl:= λx f=>by
        by_cases e:x=k
        .subst e;obtain⟨q,p,y,n,rfl⟩:=R;exact⟨q,p,y,n,by rw[u];exact kN⟩
        .obtain⟨q,p,y,n,P⟩:=h.pl x (by omega);exact⟨q,p,y,n,by rw[L x e,J _ (h.lt _ _ (h.nY x (by omega))) (i (h.nY x (by omega)) h.lc (by simp)) (i (h.nY x (by omega)) (h.nJ m) (by simp))];exact P⟩
       ce:= λx f=>by obtain⟨v,lp,eq,y,n,P,e4⟩:=h.ce x f;exact⟨v,lp,eq,y,n,by rw[w,s,J _ (h.lt _ _ (h.nX x f)) (i (h.nX x f) h.lc (by simp)) (i (h.nX x f) (h.nJ m) (by simp))];exact P,λ_ _ i=>i.elim⟩}
  .exact{
       eq:=⟨_,_,_,_,rfl⟩,len:=by omega,A:=B,v:= λP y=>⟨by simp[av.fD,y],by simp[av.fD,y]⟩,own:=j,new:= λa r n=>by
        by_cases O:a<H.length
        .exact .inl O
        .by_cases o:a=H.length
         .subst o;rw[I]at n;injection n with n;subst n;exact .inr W
         .simp only[av.fD]at n;rw[asu o,asu (by omega),G a (by omega)]at n;cases n
       iD:= λa D l=>J a D (by rintro rfl;exact(l _ h.lc).2 W) (by rintro rfl;exact(l _ (h.nJ m)).1 W)}
def Fl.link(h:Fl g st z up X π k e L H){x:Nat}{v:Va}{b:Option Nat}{eq:M}(m:x<k)(t:g.vars[x]?=some v)(u:fN g.vars v.name=some x)(A:g.cK[x]?=some b){q:aB}(B:g.aq[i]?=some q)(C:v.name∈cm q)(D:∀j nm,L j nm->j<=i)(E:H[X.A (.ce π x)]?=some (.box (c_ v b eq (X.A (.fr π)) (st x) (z x)))):
  Fl g st z up X π k e (λj nm=>L j nm\/(j=i/\nm=v.name)) (H.set (X.A (.ce π x)) (.box (c_ v b (.ref (X.A (.pl π i)) 0) (X.A (.fr π)) (st x) (z x))))/\mB π X H X (H.set (X.A (.ce π x)) (.box (c_ v b (.ref (X.A (.pl π i)) 0) (X.A (.fr π)) (st x) (z x)))):=by
 have c:∀{r},X.own (X.A r)=some r->r≠.ce π x->(H.set (X.A (.ce π x)) (.box (c_ v b (.ref (X.A (.pl π i)) 0) (X.A (.fr π)) (st x) (z x))))[X.A r]?=H[X.A r]?:= λ{r} a F=>
  asv (by intro e;rw[<-e,h.nX x m]at a;injection a with a;exact F a.symm)
 constructor
 .refine{h with lt:= λs r G=>by simpa using h.lt s r G,fr:=(c h.lc (by simp)).trans h.fr,cr:= λn=>(c (h.mS n) (by simp)).trans (h.cr n),er:= λo=>(c (h.nJ o) (by simp)).trans (h.er o),ce:= λy d=>?_,pl:= λy d=>?_}
  .by_cases e:y=x
   .subst e;refine⟨v,b,_,t,A,gJ E _,λj l f=>?_⟩;rcases f with f|f
    .rcases asp j i with p|w
     .exact absurd C (l.2.2 i q p B)
     .have:=D j _ f;obtain rfl:j=i:=by omega
      rfl
    .rw[f.1]
   .obtain⟨w,I,J,K,N,O,P⟩:=h.ce y d;refine⟨w,I,J,K,N,(c (h.nX y d) (by intro l;injection l with _ l;exact e l)).trans O,λj p f=>?_⟩;rcases f with f|f
    .exact P j p f
    .have a:=p.1;rw[f.2,u]at a;injection a with a
     exact absurd a.symm e
  .obtain⟨w,I,f,l,p⟩:=h.pl y d;exact⟨w,I,f,l,(c (h.nY y d) (by simp)).trans p⟩
 .exact⟨⟨_,_,_,_,W⟩,by simp,λ_ _=>rfl,λ_ _=>⟨rfl,rfl⟩,λ_ _=>rfl,λd r f=>.inl (h.lt d r f),λd n l=>asv (by rintro rfl;exact(l _ (h.nX x m)).1 W)⟩
def Fl.skip(h:Fl g st z up X π k e L H){nm:Nm}(d:∀x v,x<k->g.vars[x]?=some v->fN g.vars v.name=some x->v.name≠nm):Fl g st z up X π k e (λj n=>L j n\/(j=i/\n=nm)) H:=
by
 refine{h with ce:= λx b=>?_};obtain⟨v,f,eq,c,l,m,p⟩:=h.ce x b;refine⟨v,f,eq,c,l,m,λj o a=>?_⟩;rcases a with a|a
 .grind
 .exact absurd a.2 (d x v b c o.1)
def Fl.mono{a:Nat->Nm->Prop}(h:Fl g st z up X π k e L H)(c:∀j v,v∈g.vars->∀x,ic g x v j->a j v.name->L j v.name):Fl g st z up X π k e a H:=
by
 refine{h with ce:= λx d=>?_};obtain⟨v,f,eq,b,i,j,l⟩:=h.ce x d;exact⟨v,f,eq,b,i,j,λj a d=>l j a (c j v (asn b) x a d)⟩
end
end Go.Proofs.Sz
namespace Go.Sm
open Go.Mt
variable{c:aI}{x:Nm}{σ:Path×Nat}{π:Path}
def zf{l:List Va} :∀{a i:Nat} {v:Va},l[i]?=some v->(b_ l a)[i]?=some (if v.last then some (a+aS (l.take i))else none):=by
 induction l with
 |nil=>intro a i v h;cases h
 |cons w l b=>
  intro a i v h;cases i with
  |zero=>
   injection h with h
   subst h;unfold b_;split<;>simp[aS]
  |succ i=>
   unfold b_;rw[atZ,sY];split
   .grind
   .grind
def vR{l:List aB} :∀{a i:Nat} {q:aB},l[i]?=some q->(dJ l a)[i]?=some (a+aR ((l.take i).map qP)):=by
 induction l with
 |nil=>intro a i v h;cases h
 |cons w l b=>
  intro a i v h;cases i with
  |zero=>simp[dJ,aR]
  |succ i=>
   have c:l[i]?=some v:=by simpa using h
   rw[dJ,List.getElem?_cons_succ,b c,atZ,asT,i_,atd]
def wI:∀{ρ:Path},c.find ρ x=some σ->(∃τ,ρ=τ++σ.1)/\fN (c.fr σ.1).vars x=some σ.2
 |[],h=>by
  change Option.map _ _=_ at h;cases a:fN (c.fr []).vars x with
  |none=>rw[a]at h;cases h
  |some k=>rw[a]at h;injection h with h;subst h;exact⟨⟨[],W⟩,a⟩
 |j::ρ,h=>by
  rw[show c.find (j::ρ) x=match fN (c.fr (j::ρ)).vars x with|some k=>some (j::ρ,k)|none=>c.find ρ x from rfl]at h;cases a:fN (c.fr (j::ρ)).vars x with
  |none=>
   rw[a]at h;obtain⟨⟨τ,d⟩,b⟩:=wI h;exact⟨⟨j::τ,by simp_all⟩,b⟩
  |some k=>rw[a]at h;injection h with h;subst h;exact⟨⟨[],W⟩,a⟩
def wJ{k:Nat}(h:fN (c.fr π).vars x=some k):c.find π x=some (π,k):=by
 cases π with
 |nil=>show Option.map _ _=_;rw[h];rfl
 |cons j a=>rw[show c.find (j::a) x=match fN (c.fr (j::a)).vars x with|some k=>some (j::a,k)|none=>c.find a x from rfl,h]
def Fj(h:fN (c.fr π).vars x=none)(hf:c.find π x=some σ):∃j ρ,π=j::ρ/\c.find ρ x=some σ:=by
 cases π with
 |nil=>change Option.map _ _=_ at hf;rw[h]at hf;cases hf
 |cons j ρ=>rw[show c.find (j::ρ) x=match fN (c.fr (j::ρ)).vars x with|some k=>some (j::ρ,k)|none=>c.find ρ x from rfl,h]at hf;exact⟨j,ρ,W,hf⟩
end Go.Sm
namespace Go.Proofs.Sz
open Go.Mt Go.Sm Go.Proofs
open Tryz
section
variable{c:aI}{g:wA}{st z:Nat->Int}{X:av}{π:Path}{H K:Hp}
def A6{H:Hp}{a b:Ob} :(H++[a]).set H.length b=H++[b]:=by simp
structure HZ(X:av)(c:aI)(H:Hp)(σ:Path):Prop where
 r:Jo X c H σ
 fr:X.own (X.A (.fr σ))=some (.fr σ)
 cr:(c.fr σ).vars≠[]->X.own (X.A (.cr σ))=some (.cr σ)
 ce:∀k,k<(c.fr σ).vars.length->X.own (X.A (.ce σ k))=some (.ce σ k)
def cD.Oe{P:Pg}{n:Nat}{d:Nd}(h:cD P n c d X H){ρ:Path}(hf:X.fs ρ=2):HZ X c H ρ:=
 ⟨h.K_ hf,h.own _ (by show 1<=X.fs ρ;omega),λa=>h.own _ ⟨hf,a⟩,λk a=>h.own _ ⟨hf,a⟩⟩
def HZ.up{Y:av}{σ:Path}(h:HZ X c H σ)(e:mB π X H Y K)(d:σ≠π):HZ Y c K σ:=by
 have A:=e.A;have g:¬(Ro.fr σ).qM π:=id;have i:¬(Ro.cr σ).qM π:=d;have j:∀k,¬(Ro.ce σ k).qM π:= λ_=>d
 have n:∀{r ob},X.own (X.A r)=some r->¬r.qM π->r≠.fr π->H[X.A r]?=some ob->K[Y.A r]?=some ob:= λ{r ob} b f m l=>by
  rw[A r f,e.iD _ (lU l) (λo a=>by rw[b]at a;injection a with a;subst a;exact⟨f,m⟩)];exact l
 have l:∀{r},X.own (X.A r)=some r->¬r.qM π->X.A r<H.length->Y.own (Y.A r)=some r:= λ{r} b a d=>by rw[A r a,e.own _ d];exact b
 obtain⟨p,q,t,o⟩:=h.r.fr;have u:Y.up σ=X.up σ:=by cases σ with
  |nil=>rfl
  |cons m σ=>simp only[av.up];rw[A _ (id:¬(Ro.fr σ).qM π)]
 refine⟨⟨⟨p,q,t,?_⟩,λa=>?_,λk v a=>?_⟩,l h.fr g (lU o),λa=>l (h.cr a) i (lU (h.r.cr a)),λk f=>?_⟩
 .rw[u,A _ i,(e.v σ d).1];exact n h.fr g (by intro m;injection m with m;exact d m) o
 .rw[(e.v σ d).1,n (h.cr a) i (by simp) (h.r.cr a)]
  congr 2
  exact as6 λk _=>by rw[A _ (j k)]
 .obtain⟨m,eq,s,y,b⟩:=h.r.ce k v a;have f:k<(c.fr σ).vars.length:=by
   rcases asp k (c.fr σ).vars.length with h|h
   .exact h
   .rw[asr h]at a;cases a
  exact⟨m,eq,s,y,by rw[A _ g];exact n (h.ce k f) (j k) (by simp) b⟩
 .obtain⟨m,eq,s,y,b⟩:=h.r.ce k _ (aso f);exact l (h.ce k f) (j k) (lU b)
theorem Fl.K_{e:Nat}{L:Nat->Nm->Prop}(h:Fl (c.fr π) st z (X.up π) X π (c.fr π).vars.length e L H):Jo X c H π:=by
 refine⟨⟨_,_,_,h.fr⟩,λb=>h.cr (auE.2 b),λk v b=>?_⟩;have d:k<(c.fr π).vars.length:=by
  grind
 obtain⟨i,f,eq,a,j,g,_⟩:=h.ce k d;rw[b]at a;injection a with a
 subst a;exact⟨f,eq,_,_,g⟩
def eb{l:List Va}{i:Nat}(h:i<l.length):(aE l)[((i:Nat):Int).toNat]?=some l[i].cells:=by simp[aE,h]
def DF(PV:∀π,(c.fr π).vars.length<=1000000)(b:bF)(hb:uc b)(gc:fZ b<=1000000)(a:Nat)(ha:a+bP b<=1000000000)(o:Nat)(Yf:(c.fr π).vars.length=o+b.vars.length)(ac:∀i v,b.vars[i]?=some v->(c.fr π).vars[o+i]?=some v)(Ts:∀i t,(b_ b.vars a)[i]?=some t->(c.fr π).cK[o+i]?=some t)
  (N:(c.fr π).aq=b.aq) (ah:(c.fr π).pos=dJ b.aq (a+aS b.vars)) (Pm:∀x,o<=x->st x=0/\z x=0) (m0:M) (hF:Fl (c.fr π) st z (X.up π) X π o 0 (λ_ _=>False) H) (XO:∀j d,π=j::d->∀h g,d=h++g->HZ X c H g):
  DT prog 43 [m0,.ref (X.A (.fr π)) 0,.d (.agg b.cells),dN a] H λ_ K=>∃Y,Fl (c.fr π) st z (X.up π) Y π (c.fr π).vars.length (c.fr π).aq.length (λ_ _=>True) K/\mB π X H Y K:=by
 have d9:=qb b;obtain⟨vars,aq⟩:=b;cases hb with
 |mk Pv Ti Sq PO U Vl W_=>
 rw[bF.aA];simp only[bF.vars,bF.aq]at Yf ac Ts N ah d9⊢;refine DT.ob func43 W ntmps43 W<|dO [2,2,25] W<|Oq (bK W W W) ?_;rw[show(aE vars).length=vars.length by simp[aE]];refine dL [] W<|OB [nN 22 0,nN 21 vars.length,nD 20 (.sl (aE vars)),nD 6 (.aZ [.sl (aE vars),.sl (aq.map aB.cells)] 0),nR 1 (X.A (.fr π)),nN 3 a] H W W<|dC [] W<|Ps (λd=>∃Y K h,Fl (c.fr π) st z (X.up π) Y π (o+vars.length) 0 (λ_ _=>False) K/\mB π X H Y K/\d=⟨[nD 6 (.aZ [.sl (aE vars),.sl (aq.map aB.cells)] 0),nR 1 (X.A (.fr π)),nN 3 (a+aS vars)],h,K⟩) ?_ ?_
 .refine dC [3] W<|DC.lp (λk A=>∃(i:Nat) (Y:av) (K:Hp) (h:List (Nat×List M)),A=⟨[nN 22 i,nN 21 vars.length,nD 20 (.sl (aE vars)),nD 6 (.aZ [.sl (aE vars),.sl (aq.map aB.cells)] 0),nR 1 (X.A (.fr π)),nN 3 (a+aS (vars.take i))],h,K⟩/\i<=vars.length/\k=vars.length-i/\
    Fl (c.fr π) st z (X.up π) Y π (o+i) 0 (λ_ _=>False) K/\mB π X H Y K) vars.length _
   ⟨0,X,H,_,rfl,by omega,rfl,hF,mB.refl hF.lt⟩ (kc W (kc W (kc W (kc W (kc W (kc (by simp;rfl) W)))))) ?_
  rintro k s1 ⟨i,Y,K,h,rfl,hi,rfl,w,I⟩;refine dC [2] W<|DC.cond W (λd=>?_) (λd=>?_);rotate_left
  .have e:i=vars.length:=by have:=asG d;omega
   subst e;rw[asU];refine DC.exit<|⟨_,⟨Y,K,_,w,I,W⟩,cN W W⟩
  have p:i<vars.length:=by have:=asC d;omega
  have O:=aso p;have Q:=eb p;have D:aS (vars.take (i+1))=aS (vars.take i)+(if vars[i].last then 1 else 0):=by rw[asA p,pQ]
  have OO:=lS vars i;generalize vars[i]=v at O Q D;have n:Y.A (.fr π)=X.A (.fr π):=I.A _ id;have u:=w.fr;rw[n]at u;have R:=zf (a:=a) O;rw[show v.cells=[.str v.name,.int .u8 v.tk,.str v.tn,.sl (sU v.clock),.bool v.last]++v.first.cells++[.int .i64 v.ps.1,.int .i64 v.ps.2]from rfl,Xp.aA]at Q;refine dO [3,2,28] W<|Oq (aP W W W (asm i) Q W)<|dR [2,32] W<|Oq (kD W W W W W)<|dR [33] W<|Oq (cF W W W)<|dL [2] W<|Ps (λd=>∃Po,d=⟨[nR 10 K.length,nN 22 i,nN 21 vars.length,nD 20 (.sl (aE vars)),nD 6 (.aZ [.sl (aE vars),.sl (aq.map aB.cells)] 0),nR 1 (X.A (.fr π)),nN 3 (a+aS (vars.take (i+1)))],Po,K++[Ob.box (c_ v (if v.last then some (a+aS (vars.take i))else none) (.d .bU) (X.A (.fr π)) 0 0)]⟩) ?_ ?_
  .have d6:(K++[Ob.box (c_ v none (.d .bU) (X.A (.fr π)) 0 0)])[K.length]?=some (Ob.box (c_ v none (.d .bU) (X.A (.fr π)) 0 0)):=uT K _;refine DC.cond W (λd=>?_) (λd=>?_)
   .rw[asB d]at D;refine dO [2,999] W<|Oq (cc W W d6 W W W)<|dR [2,41] W<|Oq (ay W W W (by omega))<|dL [] W<|⟨_,⟨_,rfl⟩,cN (by rw[asB d];exact A6) (kc W (kc W (kc W (kc W (kc W (kc W (kc (by rw[D];rfl) W)))))))⟩
   .rw[asu (by rw[d];simp)]at D;refine dC [] W<|⟨_,⟨_,W⟩,cN (by rw[asu (by rw[d];simp)];rfl) (kc W (kc W (kc W (kc W (kc W (kc W (kc (by rw[D];rfl) W)))))))⟩
  rintro _ ⟨Po,rfl⟩;generalize f8:(if v.last then some (a+aS (vars.take i))else none)=t at R;have Vs:=Pm (o+i) (by omega);obtain⟨SI,P0⟩:=w.e_ (C:=c_ v t (.d .bU) (X.A (.fr π)) 0 0) (k:=o+i) ⟨rfl,rfl,rfl,rfl⟩ ⟨v,t,.d .bU,ac i v O,Ts i t R,by rw[Vs.1,Vs.2,n]⟩;have f9:=lU u;have y:=bu (T:=[Ob.box (c_ v t (.d .bU) (X.A (.fr π)) 0 0)]) u;have YM:=PV π;have VY:vars.length-(i+1)<vars.length-i:=by omega
  rcases asR (o+i)with E|E
  .have e0:bI (Y.A (.cr π)) (Y.vc π) (o+i)=.d (.sl []):=by rw[E];rfl
   rw[e0]at y;refine dO [2,46] W<|Oq (ax W W y W)<|dR [48] W<|Oq (iM (cs:=[_]) W W W W W W)<|dR [49] W<|Oq (yM true W W W (lV _ _) W W (by decide) (by decide))<|dR [999] W<|Oq (cc W W (bu (bu y)) W W W)<|dR [2,52] W<|Oq (ay W W W (by omega))<|dL [] W<|bG (k':=vars.length-(i+1)) VY ⟨i+1,_,_,_,rfl,by omega,rfl,SI,I.trans P0⟩ ?_ W;simp only[av.qf,asB E,n,asq,asS];rfl
  .have e0:bI (Y.A (.cr π)) (Y.vc π) (o+i)=.bC (Y.A (.cr π)) (Y.vc π) (o+i):=by unfold bI;rw[asu (by omega)]
   rw[e0]at y;have OP:Y.A (.cr π)≠X.A (.fr π):=by intro e;have:=w.mS E;rw[e,<-n,w.lc]at this;cases this
   refine dO [2,46] W<|Oq (ax W W y W)<|dR [48] W<|Oq (iM (cs:=[_]) W W W W W W)<|dR [49] W<|Oq (yN W W W (lV _ _) (bu (bu (w.cr E))) W (by omega) (by omega))<|dR [999] W<|Oq (cc W W (fV (bu y) OP) W W W)<|dR [2,52] W<|Oq (ay W W W (by omega))<|dL [] W<|bG (k':=vars.length-(i+1)) VY ⟨i+1,_,_,_,rfl,by omega,rfl,SI,I.trans P0⟩ ?_ W;simp only[av.qf,asu (show ¬o+i=0 by omega),n];rfl
 rintro _ ⟨Y0,K0,ge,co,VS,rfl⟩;rw[<-Yf]at co;refine dO [2,55] W<|Oq (bK W W W) ?_;rw[asD];refine dL [] W<|OB [nN 52 0,nN 51 aq.length,nD 50 (.sl (aq.map aB.cells)),nR 1 (X.A (.fr π)),nN 3 (a+aS vars)] K0 W W<|dC [] W<|Ps (λd=>∃Y K h,Fl (c.fr π) st z (X.up π) Y π (c.fr π).vars.length aq.length (λ_ _=>False) K/\mB π X H Y K/\d=⟨[nR 1 (X.A (.fr π))],h,K⟩) ?_ ?_
 .refine dC [3] W<|DC.lp (λk A=>∃(i:Nat) (Y:av) (K:Hp) (h:List (Nat×List M)),A=⟨[nN 52 i,nN 51 aq.length,nD 50 (.sl (aq.map aB.cells)),nR 1 (X.A (.fr π)),nN 3 (a+aS vars+aR ((aq.take i).map qP))],h,K⟩/\i<=aq.length/\k=aq.length-i/\
    Fl (c.fr π) st z (X.up π) Y π (c.fr π).vars.length i (λ_ _=>False) K/\mB π X H Y K) aq.length _
   ⟨0,Y0,K0,_,rfl,by omega,rfl,co,VS⟩ (kc W (kc W (kc W (kc W (kc (by simp;rfl) W))))) ?_
  rintro k s1 ⟨i,Y,K,h,rfl,hi,rfl,w,E⟩;refine dC [2] W<|DC.cond W (λd=>?_) (λd=>?_);rotate_left
  .have e:i=aq.length:=by have:=asG d;omega
   subst e;refine DC.exit<|⟨_,⟨Y,K,_,w,E,W⟩,cN W W⟩
  have p:i<aq.length:=by have:=asC d;omega
  have B:=aso p;have r:=asE p;have O:(aq.map aB.cells)[((i:Nat):Int).toNat]?=some (aq[i].cells):=by simp[p]
  have SC:=fY qP (l:=aq) p;have V:=vR (a:=a+aS vars) B;have I:=Ch aq[i] (U _ r).1 (U _ r).2.1 (U _ r).2.2 (by omega) (PO _ r) (λd g=>lF d.cy (Sq _ r d g) (by
   have h1:=jM (as1 (f:=fP) g);rw[nC]at h1;have h2:=jk aq[i];omega))
  generalize aq[i]=q at B r O SC V I;have n:Y.A (.fr π)=X.A (.fr π):=E.A _ id;have u:=w.fr;rw[n]at u;rw[q.aA,q.ex.aA]at O I;refine dO [3,2,58] W<|Oq (aP W W W (asm i) O W)<|dR [2,63] W<|Oq (cF W W W)<|dL [] W ?_;have y:=bu (T:=[Ob.box (dB q (a+aS vars+aR ((aq.take i).map qP)))]) u;have VY:aq.length-(i+1)<aq.length-i:=by omega
  obtain⟨Q,R⟩:=w.fD (C:=dB q (a+aS vars+aR ((aq.take i).map qP))) ⟨rfl,rfl,rfl,rfl⟩ ⟨q,a+aS vars+aR ((aq.take i).map qP),by rw[N];exact B,by rw[ah];exact V,W⟩;have d6:a+aS vars+aR ((aq.take (i+1)).map qP)=a+aS vars+aR ((aq.take i).map qP)+qP q:=by omega
  rcases asR i with D|D
  .have e0:bI (Y.A (.er π)) (Y.ve π) i=.d (.sl []):=by rw[D];rfl
   rw[e0]at y;refine dO [2,68] W<|Oq (ax W W y W)<|dR [70] W<|Oq (iM (cs:=[_]) W W W W W W)<|dR [71] W<|Oq (yM true W W W (lV _ _) W W (by decide) (by decide))<|dR [999] W<|Oq (cc W W (bu (bu y)) W W W)<|dR [2,76] W<|Oq (aL I W W)<|dR [77] W<|Oq (ay W W W (by omega))<|dR [2,78] W<|Oq (ay W W W (by omega))<|dL [] W<|bG (k':=aq.length-(i+1)) VY ⟨i+1,_,_,_,rfl,by omega,rfl,Q,E.trans R⟩ ?_ (kc W (kc W (kc W (kc W (kc (by rw[d6];rfl) W)))));simp only[av.wH,asB D,n,asq,asS];rfl
  .have e0:bI (Y.A (.er π)) (Y.ve π) i=.bC (Y.A (.er π)) (Y.ve π) i:=by unfold bI;rw[asu (by omega)]
   rw[e0]at y;have P:=w.er D;have OP:Y.A (.er π)≠X.A (.fr π):=by intro e;have:=w.nJ D;rw[e,<-n,w.lc]at this;cases this
   refine dO [2,68] W<|Oq (ax W W y W)<|dR [70] W<|Oq (iM (cs:=[_]) W W W W W W)<|dR [71] W<|Oq (yN W W W (lV _ _) (bu (bu P)) W (by omega) (by omega))<|dR [999] W<|Oq (cc W W (fV (bu y) OP) W W W)<|dR [2,76] W<|Oq (aL I W W)<|dR [77] W<|Oq (ay W W W (by omega))<|dR [2,78] W<|Oq (ay W W W (by omega))<|dL [] W<|bG (k':=aq.length-(i+1)) VY ⟨i+1,_,_,_,rfl,by omega,rfl,Q,E.trans R⟩ ?_ (kc W (kc W (kc W (kc W (kc (by rw[d6];rfl) W)))));simp only[av.wH,asu (show ¬i=0 by omega),n];rfl
 rintro _ ⟨Y,K1,i6,Yy,QK,rfl⟩;have n:Y.A (.fr π)=X.A (.fr π):=QK.A _ id;have u:=Yy.fr;rw[n]at u;refine dO [2,82] W<|Oq (ax W W u W)<|dR [83] W<|Oq (po W W)<|dL [] W<|OB [nN 80 0,nN 79 aq.length,nM 78 (bI (Y.A (.er π)) (Y.ve π) aq.length),nR 1 (X.A (.fr π))] K1 W W<|dC [3] W<|DC.lp (λk A=>∃(i:Nat) (K:Hp) (h:List (Nat×List M)),A=⟨[nN 80 i,nN 79 aq.length,nM 78 (bI (Y.A (.er π)) (Y.ve π) aq.length),nR 1 (X.A (.fr π))],h,K⟩/\i<=aq.length/\k=aq.length-i/\
   Fl (c.fr π) st z (X.up π) Y π (c.fr π).vars.length aq.length (λj _=>j<i) K/\mB π X H Y K) aq.length _
  ⟨0,K1,_,rfl,by omega,rfl,Yy.mono (λj v _ x _ d=>by omega),QK⟩ W ?_
 rintro k s1 ⟨i,K,h,rfl,hi,rfl,S,d7⟩;refine dC [2] W<|DC.cond W (λd=>?_) (λd=>?_);rotate_left
 .have e:i=aq.length:=by have:=asG d;omega
  subst e;refine DC.exit<|⟨_,W,Y,?_,d7⟩;rw[N];exact S.mono (λj v _ x s _=>by
   obtain⟨_,⟨q,y,_⟩,_⟩:=s;rw[N]at y;rcases asp j aq.length with w|w
   .exact w
   .rw[asr w]at y;cases y)
 have p:i<aq.length:=by have:=asC d;omega
 obtain⟨q,f4,B,V,OX⟩:=S.pl i p;have r:q∈aq:=asn (by rw[<-N];exact B);have i7:=vJ (b:=.mk vars aq) (q:=q) r;have Rm:=vK q (PO _ r) (Sq _ r) (by omega);rw[q.aA,q.ex.aA]at Rm;have P6:=mR q;have P:=S.er (by omega);have Ox:((List.range aq.length).map λk=>M.ref (Y.A (.pl π k)) 0)[((i:Nat):Int).toNat*1]?=some (.ref (Y.A (.pl π i)) 0):=by simp[p]
 refine dO [3,2,86] W<|Oq (lI W W W P (asm i) (by omega))<|dR [87] W<|Oq (mH W W P Ox)<|dR [2,91] W<|Oq (kF W W OX W W)<|dR [92] W<|Oq (aL Rm W W)<|dR [93] W<|Oq (bK W W W) ?_;rw[asD];refine dL [] W<|OB [nN 90 0,nN 89 ((cm q).length),nD 88 (.sl (dM (cm q))),nR 15 (Y.A (.pl π i)),nN 80 i,nN 79 aq.length,nM 78 (bI (Y.A (.er π)) (Y.ve π) aq.length),nR 1 (X.A (.fr π))] K W W<|dC [3] W<|DC.lp (λk A=>∃(m:Nat) (L:Hp) (h:List (Nat×List M)),A=⟨[nN 90 m,nN 89 ((cm q).length),nD 88 (.sl (dM (cm q))),nR 15 (Y.A (.pl π i)),nN 80 i,nN 79 aq.length,nM 78 (bI (Y.A (.er π)) (Y.ve π) aq.length),nR 1 (X.A (.fr π))],h,L⟩/\m<=(cm q).length/\k=(cm q).length-m/\
   Fl (c.fr π) st z (X.up π) Y π (c.fr π).vars.length aq.length (λj nm=>j<i\/(j=i/\nm∈(cm q).take m)) L/\mB π X H Y L) (cm q).length _
  ⟨0,K,_,rfl,by omega,rfl,S.mono (λj v _ x _ s=>by
   rcases s with s|⟨_,s⟩
   .exact s
   .simp at s),d7⟩ W ?_
 rintro k s2 ⟨m,L,h,rfl,hm,rfl,J,G⟩;refine dC [2] W<|DC.cond W (λd=>?_) (λd=>?_);rotate_left
 .have e:m=(cm q).length:=by have:=asG d;omega
  subst e;refine DC.exit<|dO [2,116] W<|Oq (ay W W W (by omega))<|dL [] W<|bG (k':=aq.length-(i+1)) (by omega) ⟨i+1,L,_,rfl,by omega,rfl,J.mono (λj v _ x E D=>?_),G⟩ W W;rcases as8.1 D with y|y
  .exact .inl y
  .subst y;obtain⟨_,⟨O,w,I⟩,_⟩:=E;rw[B]at w;injection w with w
   subst w;exact .inr ⟨W,by rw[asU];exact I⟩
 have Z:m<(cm q).length:=by have:=asC d;omega
 have SD:=asE Z;have SG:=kK Z;have Pp:=asA Z;generalize (cm q)[m]=x at SD SG Pp;have S_:(cm q).length-(m+1)<(cm q).length-m:=by omega
 have hR:∀y w,π=y++w->Jo Y c L w:=by
  intro y w e;cases y with
  |nil=>
   have D:=e;subst D;have:=J;have E:Y.up π=X.up π:=by cases π with
    |nil=>rfl
    |cons j g=>simp only[av.up];rw[G.A _ (id:¬(Ro.fr g).qM _)]
   rw[<-E]at this;exact this.K_
  |cons j y=>
   have D:w≠π:=by
    intro E;have:=atB List.length e;rw[E]at this;simp at this;omega
   exact((XO j (y++w) e y w W).up G D).r
 have F:=A1 PV π hR x;rw[n]at F;refine dO [3,2,96] W<|Oq (aP W W W (asm m) SG W)<|dL [] W ?_;have d8:fN (c.fr π).vars x=none->Fl (c.fr π) st z (X.up π) Y π (c.fr π).vars.length aq.length (λj nm=>j<i\/(j=i/\nm∈(cm q).take (m+1))) L:=by
  intro R;refine(J.skip (i:=i) (nm:=x) (λQ v _ D s e=>by rw[e,R]at s;cases s)).mono (λj v _ Q _ D=>?_);rcases D with D|⟨I,O⟩
  .exact .inl (.inl D)
  .rw[Pp]at O;rcases ast.1 O with E|E
   .exact .inl (.inr ⟨I,E⟩)
   .exact .inr ⟨I,asx.1 E⟩
 cases s:c.find π x with
 |none=>
  have D:fN (c.fr π).vars x=none:=by
   cases e:fN (c.fr π).vars x with
   |none=>rfl
   |some k=>rw[wJ e]at s;cases s
  have E:Y.gC c π x=.d .bU:=by unfold av.gC;rw[s]
  rw[E]at F;refine dO [2,100] W<|Oq (au F W W)<|dR [2,102] W<|Oq (kI (by kernel_rfl) W W W W W)<|dR [0,2,115] W<|Oq (ay W W W (by omega))<|dL [] W<|bG (k':=(cm q).length-(m+1)) S_ ⟨m+1,L,_,rfl,by omega,rfl,d8 D,G⟩ W W
 |some g=>
  have S8:Y.gC c π x=.ref (Y.A (.ce g.1 g.2)) 0:=by unfold av.gC;rw[s]
  rw[S8]at F;obtain⟨⟨y,QW⟩,Qr⟩:=wI s;obtain⟨v,I,T4⟩:=Dz Qr;by_cases Q:g.1=π
  .rw[Q]at F Qr I;have hk:g.2<(c.fr π).vars.length:=by
    rcases asp g.2 (c.fr π).vars.length with D|D
    .exact D
    .rw[asr D]at I;cases I
   obtain⟨v',t,eq,D,O,R,h4⟩:=J.ce g.2 hk;rw[I]at D;injection D with D
   subst D;obtain⟨SI,P0⟩:=J.link (i:=i) (q:=q) hk I (by rw[T4];exact Qr) O B (by rw[T4];exact SD) (λj nm E=>by rcases E with E|E<;>omega) R;rw[n]at R SI P0;have d6:(Nat.beq (X.A (.fr π)) (X.A (.fr π))&&Nat.beq 0 0)=true:=by simp
   refine dO [2,100] W<|Oq (au F W W)<|dR [2,102] W<|Oq (kI (by kernel_rfl) W W W W W)<|dR [107] W ?_
   first|refine Oq (aH W W) ?_|(refine Oq (aC W) ?_;refine Oq (ax W W R W) ?_)
   refine dR [109] W ?_
   first|refine Oq (aH W W) ?_|(refine Oq (aC W) ?_;refine Oq (Gl W (by kernel_rfl) W W) ?_;rw[d6])
   refine dR [1,2,999] W<|Oq (cc W W R W W W)<|dR [2,115] W<|Oq (ay W W W (by omega))<|dL [] W<|bG (k':=(cm q).length-(m+1)) S_ ⟨m+1,_,_,rfl,by omega,rfl,SI.mono (λj f9 _ f8 _ E=>?_),G.trans P0⟩ W W;rcases E with E|⟨D,O⟩
   .exact .inl (.inl E)
   .rw[Pp]at O;rcases ast.1 O with h3|h3
    .exact .inl (.inr ⟨D,h3⟩)
    .exact .inr ⟨D,by rw[asx.1 h3,T4]⟩
  .have E:fN (c.fr π).vars x=none:=by
    cases e:fN (c.fr π).vars x with
    |none=>rfl
    |some k=>rw[wJ e]at s;injection s with s;exact absurd (by rw[<-s]) Q
   obtain⟨t,eq,A,f8,Pt⟩:=(hR y g.1 QW).ce _ _ I;have hO:HZ Y c L g.1:=by
    obtain⟨j,w,e1,R⟩:=Fj E s;obtain⟨⟨RP,D⟩,_⟩:=wI R;exact(XO j w e1 RP g.1 D).up G Q
   have O:Y.A (.fr g.1)≠X.A (.fr π):=by
    intro e;have D:=hO.fr;rw[e,<-n,J.lc]at D;injection D with D
    injection D with D
    exact Q D.symm
   have d6:(Nat.beq (Y.A (.fr g.1)) (X.A (.fr π))&&Nat.beq 0 0)=false:=by
    cases e:Nat.beq (Y.A (.fr g.1)) (X.A (.fr π))with
    |false=>rfl
    |true=>exact absurd (asy e) O
   refine dO [2,100] W<|Oq (au F W W)<|dR [2,102] W<|Oq (kI (by kernel_rfl) W W W W W)<|dR [107] W ?_
   first|refine Oq (aH W W) ?_|(refine Oq (aC W) ?_;refine Oq (ax W W Pt W) ?_)
   refine dR [109] W ?_
   first|refine Oq (aH W W) ?_|(refine Oq (aC W) ?_;refine Oq (Gl W (by kernel_rfl) W W) ?_;rw[d6])
   refine dR [0,2,115] W<|Oq (ay W W W (by omega))<|dL [] W<|bG (k':=(cm q).length-(m+1)) S_ ⟨m+1,L,_,rfl,by omega,rfl,d8 E,G⟩ W W
end
variable{π:Path}{j:Nat}{es:List (D×M)}
section
variable{P:Pg}{n:Nat}{c:aI}{d:Nd}{u:US}{X Y Z:av}{H K L:Hp}
def Lf(h:cD P n c d X H){a:Nat}(b:H.length<=a):X.own a=none:=by
 cases e:X.own a with
 |none=>rfl
 |some r=>have:=h.lt a r e;omega
def av.bB(X:av)(ρ:Path)(H:Hp):av:={X with
 A:= λr=>if r=.fr ρ then H.length+2 else if r=.am ρ then H.length else if r=.tk ρ then H.length+1 else X.A r
 own:= λa=>if a=H.length then some (.am ρ)else if a=H.length+1 then some (.tk ρ)else if a=H.length+2 then some (.fr ρ)else X.own a
 fs:= λa=>if a=ρ then 1 else X.fs a}
def cD.bB(h:cD P n c d X H)(hf:X.fs π=2)(Y:X.fs (j::π)=0)(Z:∀i,X.fs (i::j::π)=0){q:aB}(T:(c.fr π).aq[j]?=some q)(Y9:H[X.A (.am π)]?=some (.map es)):
  cD P n c d (X.bB (j::π) H) ((((H++[Ob.map []])++[Ob.map []])++[Ob.box [.ref (X.A (.fr π)) 0,.d (.sl []),.d (.sl []),.mp H.length,.mp (H.length+1)]]).set (X.A (.am π)) (.map (jh (X.A (.pl π j)) 0 (.ref (H.length+2) 0) es))):=by
 have hj:j<(c.fr π).aq.length:=by
  rcases asp j (c.fr π).aq.length with h|h
  .exact h
  .rw[asr h]at T;cases T
 obtain⟨b,t⟩:∃b,b=j::π:=⟨_,rfl⟩;have F:π≠b:=by rw[t];intro e;have:=atB List.length e;simp at this
 have d7:X.fs b=0:=by rw[t];exact Y
 have ac:∀l,X.fs (l::b)=0:=by rw[t];exact Z
 have G:=h.own (.am π) (by show 1<=X.fs π;omega);have ah:=h.lt _ _ G;rw[<-t];generalize A:(((H++[Ob.map []])++[Ob.map []])++[Ob.box [M.ref (X.A (.fr π)) 0,.d (.sl []),.d (.sl []),.mp H.length,.mp (H.length+1)]]).set (X.A (.am π)) (.map (jh (X.A (.pl π j)) 0 (.ref (H.length+2) 0) es))=K;have hl:K.length=H.length+3:=by rw[<-A];simp
 have N:∀k,k<H.length->k≠X.A (.am π)->K[k]?=H[k]?:= λk g x=>by
  rw[<-A,asv (atf x),asl (by simp;omega),asl (by simp;omega),asl g]
 have k1:K[H.length]?=some (.map []):=by
  rw[<-A,asv (by omega),asl (by simp),asl (by simp)];simp
 have k2:K[H.length+1]?=some (.map []):=by
  rw[<-A,asv (by omega),asl (by simp),ass (by simp)];simp
 have k3:K[H.length+2]?=some (.box [.ref (X.A (.fr π)) 0,.d (.sl []),.d (.sl []),.mp H.length,.mp (H.length+1)]):=by
  rw[<-A,asv (by omega),ass (by simp)];simp
 have k4:K[X.A (.am π)]?=some (.map (jh (X.A (.pl π j)) 0 (.ref (H.length+2) 0) es)):=by rw[<-A];exact as7 (by simp;omega)
 have O:(X.bB b H).A (.fr b)=H.length+2:=by simp[av.bB]
 have Q:(X.bB b H).A (.am b)=H.length:=by simp[av.bB]
 have R:(X.bB b H).A (.tk b)=H.length+1:=by simp[av.bB]
 have i:∀r,r≠.fr b->r≠.am b->r≠.tk b->(X.bB b H).A r=X.A r:= λr g x C=>by simp[av.bB,g,x,C]
 have I:∀k,k<H.length->(X.bB b H).own k=X.own k:= λk D=>by
  simp only[av.bB];rw[asu (by omega),asu (by omega),asu (by omega)]
 have S:∀k,H.length<=k->X.own k=none:= λk D=>Lf h D
 have w:(X.bB b H).fs b=1:=asB W;have m:∀a,a≠b->(X.bB b H).fs a=X.fs a:= λa Ri=>asu Ri
 have y:∀a,1<=X.fs a->a≠b:=by rintro a g rfl;omega
 have V:∀r,X.live c r->(X.bB b H).live c r/\(X.bB b H).A r=X.A r:=by
  intro r f;cases r with
  |fr a=>have e:=y a f;exact⟨by show 1<=(X.bB b H).fs a;rw[m a e];exact f,i _ (by simp[e]) (by simp) (by simp)⟩
  |am a=>have e:=y a f;exact⟨by show 1<=(X.bB b H).fs a;rw[m a e];exact f,i _ (by simp) (by simp[e]) (by simp)⟩
  |tk a=>have e:=y a f;exact⟨by show 1<=(X.bB b H).fs a;rw[m a e];exact f,i _ (by simp) (by simp) (by simp[e])⟩
  |cr a=>have e:=y a (by rw[f.1];decide);exact⟨⟨by rw[m a e];exact f.1,f.2⟩,i _ (by simp) (by simp) (by simp)⟩
  |er a=>have e:=y a (by rw[f.1];decide);exact⟨⟨by rw[m a e];exact f.1,f.2⟩,i _ (by simp) (by simp) (by simp)⟩
  |ce a u=>have e:=y a (by rw[f.1];decide);exact⟨⟨by rw[m a e];exact f.1,f.2⟩,i _ (by simp) (by simp) (by simp)⟩
  |pl a u=>have e:=y a (by rw[f.1];decide);exact⟨⟨by rw[m a e];exact f.1,f.2⟩,i _ (by simp) (by simp) (by simp)⟩
  |_=>exact⟨f,i _ (by simp) (by simp) (by simp)⟩
 have co:∀r,(X.bB b H).live c r->¬(r=.fr b\/r=.am b\/r=.tk b)->X.live c r:=by
  intro r f s;cases r with
  |fr a=>
       have e:a≠b:=by rintro rfl;exact s (.inl W)
       have g:1<=(X.bB b H).fs a:=f;rw[m a e]at g;exact g
  |am a=>
       have e:a≠b:=by rintro rfl;exact s (.inr (.inl W))
       have g:1<=(X.bB b H).fs a:=f;rw[m a e]at g;exact g
  |tk a=>
       have e:a≠b:=by rintro rfl;exact s (.inr (.inr W))
       have g:1<=(X.bB b H).fs a:=f;rw[m a e]at g;exact g
  |cr a=>
       have e:a≠b:=by rintro rfl;have:=f.1;rw[w]at this;cases this
       exact⟨by rw[<-m a e];exact f.1,f.2⟩
  |er a=>
       have e:a≠b:=by rintro rfl;have:=f.1;rw[w]at this;cases this
       exact⟨by rw[<-m a e];exact f.1,f.2⟩
  |ce a u=>
        have e:a≠b:=by rintro rfl;have:=f.1;rw[w]at this;cases this
        exact⟨by rw[<-m a e];exact f.1,f.2⟩
  |pl a u=>
        have e:a≠b:=by rintro rfl;have:=f.1;rw[w]at this;cases this
        exact⟨by rw[<-m a e];exact f.1,f.2⟩
  |_=>exact f
 have U:∀a l,l::a≠b->a≠b->(X.bB b H).nW a l=X.nW a l:= λa l B z=>by
  unfold av.nW;rw[m _ B,i (.fr (l::a)) (by simp[B]) (by simp) (by simp),i (.fr a) (by simp[z]) (by simp) (by simp)];rfl
 refine h.Ao (λr=>(r=.fr b\/r=.am b\/r=.tk b)\/r=.am π) (by omega) (λk D o=>⟨by rw[I k D];exact o,N k D (by rintro rfl;rw[G]at o;cases o)⟩) (λk u o=>N k (h.lt k _ o) (by rintro rfl;rw[G]at o;cases o)) (λk u=>?_) W W (λk r o=>?_) V (λr f s=>?_) (λr f s=>?_) (λp b=>.inl b) (λp b=>.inl b)
 .rcases asp k H.length with g|g
  .rw[I k g]
  .rw[S k g];simp only[av.bB];constructor
   .intro e;split at e
    .cases e
    .split at e
     .cases e
     .split at e
      .cases e
      .rw[S k g]at e;cases e
   .intro e;cases e
 .rcases asp k H.length with g|g
  .omega
  .simp only[av.bB]at o;split at o
   .omega
   .split at o
    .omega
    .split at o
     .omega
     .rw[S k g]at o;cases o
 .have E:=co r f (λe=>s (.inl e));have o:=h.own r E;refine⟨E,by rw[I _ (h.lt _ _ o)];exact o,N _ (h.lt _ _ o) (h.ne E (by show 1<=X.fs π;omega) (λe=>s (.inr e))),λob p=>?_⟩;cases r with
  |fr a=>
   have e:a≠b:=by rintro rfl;exact s (.inl (.inl W))
   have J:(X.bB b H).up a=X.up a:=by
    cases a with
    |nil=>rfl
    |cons l a=>
     have z:a≠b:=by rintro rfl;have g:1<=X.fs (l::a):=E;rw[ac l]at g;omega
     simp only[av.up];rw[i _ (by simp[z]) (by simp) (by simp)]
   simp only[av.dY]at p⊢;rw[J,m a e,i _ (by simp) (by simp) (by simp),i _ (by simp) (by simp) (by simp),i _ (by simp) (by simp[e]) (by simp),i _ (by simp) (by simp) (by simp[e])];exact p
  |am a=>
   have e:a≠b:=by rintro rfl;exact s (.inl (.inr (.inl W)))
   obtain⟨d6,B,z,e3,e4⟩:=p;refine⟨d6,B,z,λJ l hi=>?_,λJ=>e4 (by rw[<-m a e];exact J)⟩;rw[m a e]at J;have e5:l::a≠b:=by
    intro L;rw[t]at L;injection L with _ L
    subst L;exact s (.inr W)
   rw[i _ (by simp) (by simp) (by simp),U a l e5 e];exact e3 J l hi
  |tk a=>
   have e:a≠b:=by rintro rfl;exact s (.inl (.inr (.inr W)))
   obtain⟨d6,B,z,e3⟩:=p;refine⟨d6,B,z,λL l J=>?_⟩;rw[m a e]at L;have e5:l::a≠b:=by
    intro e6;rw[e6,w]at J;cases J
   rw[m _ e5]at J;rw[i _ (by simp) (by simp) (by simp)];exact e3 L l J
  |cr a=>
   simp only[av.dY]at p⊢;rw[p,show(X.bB b H).vc=X.vc from rfl]
   congr 1
   try exact as6 λu _=>by rw[i _ (by simp) (by simp) (by simp)]
  |er a=>
   simp only[av.dY]at p⊢;rw[p,show(X.bB b H).ve=X.ve from rfl]
   congr 1
   try exact as6 λu _=>by rw[i _ (by simp) (by simp) (by simp)]
  |ce a u=>
   have e:=y a (by rw[E.1];decide);obtain⟨v,L,eq,J,g,x,C,h4,h5⟩:=p;exact⟨v,L,eq,J,g,x,by rw[i (.fr a) (by simp[e]) (by simp) (by simp)];exact C,h4,λl b=>by rw[i _ (by simp) (by simp) (by simp)];exact h5 l b⟩
  |pl a u=>exact p
  |it=>simp only[av.dY]at p⊢;rw[i _ (by simp) (by simp) (by simp),i (.fr []) (by simp[t]) (by simp) (by simp),i _ (by simp) (by simp) (by simp),i _ (by simp) (by simp) (by simp)];exact p
  |un=>simp only[av.dY]at p⊢;rw[i _ (by simp) (by simp) (by simp),i _ (by simp) (by simp) (by simp),i _ (by simp) (by simp) (by simp)];exact p
  |_=>exact p
 .rcases s with(rfl|rfl|rfl)|rfl
  .refine⟨by rw[O];simp[av.bB],_,by rw[O];exact k3,?_⟩;simp only[av.dY];rw[w,Q,R,asu (by decide),asu (by decide)];have:(X.bB b H).up b=.ref (X.A (.fr π)) 0:=by
    rw[t];show M.ref ((X.bB (j::π) H).A (.fr π)) 0=_;rw[<-t,i _ (by simp[F]) (by simp) (by simp)]
   rw[this]
  .exact⟨by rw[Q];simp[av.bB],_,by rw[Q];exact k1,[],W,W,λ(e:(X.bB b H).fs b=2)=>by(rw[w]at e;cases e),λ_=>rfl⟩
  .exact⟨by rw[R];simp[av.bB],_,by rw[R];exact k2,[],W,W,λ(e:(X.bB b H).fs b=2)=>by(rw[w]at e;cases e)⟩
  .have J:(X.bB b H).A (.am π)=X.A (.am π):=i _ (by simp) (by simp[F]) (by simp);obtain⟨ob,g,SN,rfl,x,C,h4⟩:=h.ob (.am π) (by show 1<=X.fs π;omega);rw[Y9]at g;injection g with g
   injection g with g
   subst g;refine⟨by rw[J,I _ ah];exact G,_,by rw[J];exact k4,_,W,oz _ _ _ x,λ_ l E=>?_,λe=>by rw[m π F]at e;omega⟩;rw[i (.pl π l) (by simp) (by simp) (by simp),pa _ _ _ _ _ x];by_cases e:l=j
   .subst e;rw[asB ⟨rfl,rfl⟩];unfold av.nW;rw[<-t,w,asB (by decide),O]
   .rw[asu (λL=>h.ne (r:=.pl π l) (r':=.pl π j) ⟨hf,E⟩ ⟨hf,hj⟩ (by intro p;injection p with _ p;exact e p) L.1),U π l (by rw[t];intro p;injection p with p _;exact e p) F];exact C hf l E
theorem Pu.NH(h:Pu P c d u X)(b:∀i,Y.fs i=2↔X.fs i=2)(y:∀j a,Y.fs (j::a)≠0->Y.fs a=2/\c.ok (j::a))(z:∀a,Y.fs a<=2)(ec:Y.cs=X.cs)(l:Y.dn=X.dn)(A:Y.lv=X.lv)(m:Y.x=X.x)(n:Y.N=X.N)(p:Y.F=X.F)(q:Y.fi=X.fi)(B:Y.ph=X.ph):Pu P c d u Y:=by
 have o:∀k v,Y.SS c k v↔X.SS c k v:= λk v=>by unfold av.SS av.S;rw[n,p,q,B]
 have r:∀k,Y.ER c k↔X.ER c k:= λk=>by unfold av.ER;simp only[b]
 have s:∀k a j,Y.DC c k a j↔X.DC c k a j:= λk a j=>by unfold av.DC;rw[b,l]
 have K:∀e,NI.ok c d X e->NI.ok c d Y e:= λe h=>by cases e<;>simp only[NI.ok,b,ec]at h⊢ <;>exact h
 refine⟨(b _).2 h.f0,y,z,by rw[ec];exact h.c6,by rw[ec];exact h.ci,by rw[ec];exact h.cv,by rw[ec];exact h.ca,?_,?_,?_,?_,?_,?_,?_,?_,?_,?_,?_,?_,by rw[q,p];exact h.fl,by rw[q,n];exact h.fn,by rw[ec,l];exact h.g0,λa j e=>(b _).2 (h.dz a j (by grind)),λa k f=>?_⟩
 .intro k g;rw[r,m];exact h.xm k g
 .intro k g;rw[r,m];exact h.xp k g
 .intro k g a j e;rw[m];exact h.xd k g a j ((s _ _ _).1 e)
 .intro k g e;rw[r,m];exact h.xs k g λa j b=>e a j ((s _ _ _).2 b)
 .intro a k t v g f w x C;rw[b]at g;rw[ec]at f;exact(o _ _).2 (h.s1 a k t v g f w x C)
 .intro i C v D E t g f w x F G H;rw[b]at g;rw[ec]at f;obtain⟨I,J,L⟩:=h.s2 i C v D E t g f w x F G H;exact⟨(b _).2 I,λa w b=>(o _ _).2 (J a w b),λa=>by grind⟩
 .intro a j g e;rw[b]at g;rw[l]at e;obtain⟨t,x⟩:=h.s3 a j g e;exact⟨t,λw a=>(o _ _).2 (x w a)⟩
 .intro a j g w t;rw[b]at g;exact(o _ _).2 (h.s4 a j g w t)
 .intro a j g;rw[A]at g;rw[n];exact h.s5 a j g
 .intro a j w g e t D x E i C;rw[b]at g;rw[l]at e;rw[ec]at t⊢;exact h.dl a j w g e t D x E i C
 .intro t g;rw[n]at g;exact K _ (h.nk t g)
 .intro w t;rw[p]at t;have g:=h.fk w t;exact⟨g.ev,(b _).2 g.fs,g.lt,g.wr,g.sm,g.own,g.sz⟩
 .rw[ec]at f;rcases h.cz a k f with g|g
  .grind
  .exact .inr g
theorem Pu.bB(h:Pu P c d u X)(hf:X.fs π=2)(l:X.fs (j::π)=0)(m:c.ok (j::π)):Pu P c d u (X.bB (j::π) H):=by
 have n:(X.bB (j::π) H).fs (j::π)=1:=asB W;have b:∀a,a≠j::π->(X.bB (j::π) H).fs a=X.fs a:= λa a=>asu a
 refine h.NH (λa=>?_) (λi a f=>?_) (λa=>?_) W W W W W W W W
 .grind
 .by_cases e:i::a=j::π
  .grind
  .rw[b _ e]at f;obtain⟨g,k⟩:=h.fp i a f;refine⟨?_,k⟩;rw[b a (by grind)];exact g
 .by_cases e:a=j::π
  .grind
  .rw[b a e];exact h.f2 a
theorem cD.MO(h:cD P n c d X H)(hf:X.fs π=2)(p:X.fs (j::π)≠2)(f:j<(c.fr π).aq.length)(o:∀i,X.fs (i::π)=2->i<(c.fr π).aq.length)(g:H[X.A (.tk π)]?=some (.map es))(m:M):
  gQ es=true/\cD P n c d X (H.set (X.A (.tk π)) (.map (jh (X.A (.pl π j)) 0 m es))):=by
 obtain⟨k,a,q,rfl,b,l⟩:=h.ob (.tk π) (by show 1<=X.fs π;omega);rw[g]at a;injection a with a
 injection a with a
 subst a;refine⟨b,h.y9 (.tk π) (by show 1<=X.fs π;omega) _ W W W W W W (λ_=>atn) ⟨_,rfl,oz _ _ _ b,λ_ i e=>?_⟩ (λr k _ _ a=>a)⟩;rw[pa _ _ _ _ _ b,asu (λa=>h.ne (r:=.pl π i) (r':=.pl π j) ⟨hf,o i e⟩ ⟨hf,f⟩ (by grind) a.1)];exact l hf i e
end
end Go.Proofs.Sz
namespace Go.Proofs.Sz
open Go.Mt Go.Sm Go.Proofs
section
variable{P:Pg}{n:Nat}{c:aI}{d:Nd}{u:US}{X Y Z W:av}{H K L:Hp}
def Gu(P:Pg)(d:Nd)(X:av):Mc:=⟨X.A .it,X.A .un,X.A .me,X.A .pe,X.A .su,P,d,X.ad,.ref (X.A (.fr [])) 0,.d (.bool false),bI (X.A .af) X.vF X.F.length,bI (X.A .nx) X.vN X.N.length⟩
def cD.mm(h:cD P n c d X H)(a:bT d<=1000000000):MM (Gu P d X) X.x H:=by
 have t:∀r a:Ro,X.live c r->X.live c a->r≠a->X.A r≠X.A a:= λr a a b e=>h.ne a b e
 exact⟨h.inst,h.unit,h.mem,h.cw,h.an,t .me .pe trivial trivial (by simp),t .me .su trivial trivial (by simp),t .pe .su trivial trivial (by simp),
  ⟨t .it .me trivial trivial (by simp),t .it .pe trivial trivial (by simp),t .it .su trivial trivial (by simp)⟩,⟨t .un .me trivial trivial (by simp),t .un .pe trivial trivial (by simp),t .un .su trivial trivial (by simp)⟩,a⟩
theorem cD.reset(h:cD P n c d X H){e:Kp}(g:MS (Gu P d X) H e K)(o:∀k,k<bT d->∀b,e.s k=some b->X.x.s k=some b):cD P n c d {X with x:=e} K/\∀a,a<H.length->X.own a≠some .me->X.own a≠some .pe->X.own a≠some .su->K[a]?=H[a]?:=by
 have i:∀a,a<H.length->X.own a≠some .me->X.own a≠some .pe->X.own a≠some .su->K[a]?=H[a]?:= λa b j k f=>
  g.iD a b (by rintro rfl;exact j (h.own .me trivial)) (by rintro rfl;exact k (h.own .pe trivial)) (by rintro rfl;exact f (h.own .su trivial))
 have l:∀a,a<H.length->X.own a=none->({X with x:=e} :av).own a=none/\K[a]?=H[a]?:= λa e b=>⟨b,i a e (by rw[b];simp) (by rw[b];simp) (by rw[b];simp)⟩
 have A:∀r,X.live c r->({X with x:=e} :av).live c r/\({X with x:=e} :av).A r=X.A r:= λr f=>⟨by cases r<;>exact f,W⟩
 have B:∀r,({X with x:=e} :av).live c r->X.live c r:= λr f=>by cases r<;>exact f
 refine⟨⟨λr f=>h.own r (B r f),λa r b=>atm (h.lt a r b) g.len,λr f=>?_,λk e b f=>(h.sub k e b (o k e b f)).frame (λa b=>i a (h.lt a _ b) (by rw[b];simp) (by rw[b];simp) (by rw[b];simp)) g.len,λp b=>(h.nx p b).up l A,λp b=>(h.af p b).up l A⟩,i⟩;have m:=B r f;have b:=h.own r m;obtain⟨p,j,k⟩:=h.ob r m;cases r with
 |me=>exact⟨_,g.mm.mem,W⟩
 |pe=>exact⟨_,g.mm.cw,W⟩
 |su=>exact⟨_,g.mm.an,W⟩
 |_=>exact⟨p,(i _ (h.lt _ _ b) (by rw[b];simp) (by rw[b];simp) (by rw[b];simp)).trans j,k⟩
def av.full(Z:av)(ρ:Path):av:={Z with fs:= λa=>if a=ρ then 2 else Z.fs a}
theorem cD.filled{st z:Nat->Int}(h:cD P n c d Y K){ρ:Path}(T:Y.fs ρ=1)(U:∀i,Y.fs (i::ρ)=0)(Tu:∀i,Y.dn ρ i=false)(Pm:∀x,x<(c.fr ρ).vars.length->st x=nF (Y.cs ρ x)/\z x=if zB (Y.cs ρ x)then c.get (ρ,x)else 0)
  (Pp:∀j b,ρ=j::b->∃u,K[Y.A (.tk b)]?=some (.map u)/\gT (Y.A (.pl b j)) 0 u=some (dN (c.br b j)))
  (q:Fl (c.fr ρ) st z (Y.up ρ) Z ρ (c.fr ρ).vars.length (c.fr ρ).aq.length (λ_ _=>True) L) (p:mB ρ Y K Z L):
  cD P n c d (Z.full ρ) L/\(∀r,Y.live c r->(Z.full ρ).live c r/\(Z.full ρ).A r=Y.A r)/\∀a,a<K.length->Y.own a=none->(Z.full ρ).own a=none/\L[a]?=K[a]?:=by
 have j:∀r,¬r.qM ρ->(Z.full ρ).A r=Y.A r:=p.A;obtain⟨A0,o0,v0,e0,s⟩:=id p.eq;have w:∀b,(Z.full ρ).fs b=if b=ρ then 2 else Y.fs b:= λb=>by unfold av.full;rw[s]
 have O:(Z.full ρ).fs ρ=2:=by rw[w,asB W]
 have o:∀b,b≠ρ->(Z.full ρ).fs b=Y.fs b:= λb e=>by rw[w,asu e]
 have B:(Z.full ρ).cs=Y.cs:=by unfold av.full;rw[s]
 have ac:(Z.full ρ).dn=Y.dn:=by unfold av.full;rw[s]
 have C:(Z.full ρ).N=Y.N:=by unfold av.full;rw[s]
 have D:(Z.full ρ).F=Y.F:=by unfold av.full;rw[s]
 have G:(Z.full ρ).x=Y.x:=by unfold av.full;rw[s]
 have ah:(Z.full ρ).ad=Y.ad:=by unfold av.full;rw[s]
 have co:(Z.full ρ).vF=Y.vF:=by unfold av.full;rw[s]
 have d6:(Z.full ρ).vN=Y.vN:=by unfold av.full;rw[s]
 have H:∀b,b≠ρ->(Z.full ρ).vc b=Y.vc b/\(Z.full ρ).ve b=Y.ve b:=p.v;have V:∀i:Nat,i::ρ≠ρ:= λi e=>by have:=atB List.length e;simp at this
 have d7:∀r,(Z.full ρ).live c r->¬r.qM ρ->Y.live c r:=by
  intro r f m;cases r with
  |nx=>show Y.N≠[];rw[<-C];exact f
  |af=>show Y.F≠[];rw[<-D];exact f
  |fr b=>
       show 1<=Y.fs b;have l:1<=(Z.full ρ).fs b:=f;rw[w]at l;split at l
       .rename_i e;subst e;omega
       .exact l
  |am b=>
       show 1<=Y.fs b;have l:1<=(Z.full ρ).fs b:=f;rw[w]at l;split at l
       .rename_i e;subst e;omega
       .exact l
  |tk b=>
       show 1<=Y.fs b;have l:1<=(Z.full ρ).fs b:=f;rw[w]at l;split at l
       .rename_i e;subst e;omega
       .exact l
  |cr b=>exact⟨by rw[<-o b m];exact f.1,f.2⟩
  |er b=>exact⟨by rw[<-o b m];exact f.1,f.2⟩
  |ce b k=>exact⟨by rw[<-o b m];exact f.1,f.2⟩
  |pl b k=>exact⟨by rw[<-o b m];exact f.1,f.2⟩
  |_=>exact f
 have d8:∀r,Y.live c r->¬r.qM ρ:=by
  intro r f m;cases r with
  |cr b=>
       have e:=m;subst e;have:=f.1;omega
  |er b=>
       have e:=m;subst e;have:=f.1;omega
  |ce b k=>
        have e:=m;subst e;have:=f.1;omega
  |pl b k=>
        have e:=m;subst e;have:=f.1;omega
  |_=>exact m
 have I:∀b,Y.fs b=2->(Z.full ρ).fs b=2:= λb g=>by rw[o b (by rintro rfl;omega)];exact g
 have R:∀b,1<=Y.fs b->1<=(Z.full ρ).fs b:= λb g=>by rw[w];split<;>omega
 have A:∀r,Y.live c r->(Z.full ρ).live c r/\(Z.full ρ).A r=Y.A r:=by
  intro r f;refine⟨?_,j r (d8 r f)⟩;cases r with
  |nx=>show(Z.full ρ).N≠[];rw[C];exact f
  |af=>show(Z.full ρ).F≠[];rw[D];exact f
  |fr b=>exact R b f
  |am b=>exact R b f
  |tk b=>exact R b f
  |cr b=>exact⟨I b f.1,f.2⟩
  |er b=>exact⟨I b f.1,f.2⟩
  |ce b k=>exact⟨I b f.1,f.2⟩
  |pl b k=>exact⟨I b f.1,f.2⟩
  |_=>exact f
 have M:∀a,a<K.length->Y.own a=none->(Z.full ρ).own a=none/\L[a]?=K[a]?:= λa E t=>
  ⟨(p.own a E).trans t,p.iD a E (λr f=>by rw[t]at f;cases f)⟩
 have cH:∀r,Y.live c r->r≠.fr ρ->L[Y.A r]?=K[Y.A r]?:= λr f hn=>p.iD _ (h.lt _ _ (h.own r f)) (λm l=>by
  rw[h.own r f]at l;injection l with l;subst l;exact⟨d8 r f,hn⟩)
 have up:∀b,(Z.full ρ).up b=Y.up b:= λb=>by
  cases b with
  |nil=>rfl
  |cons i b=>simp only[av.up];rw[j _ (id:¬(Ro.fr b).qM ρ)]
 have J:∀{S:Type} {N:List S},N≠[]->0<N.length:= λ{S} {N} OP=>auE.2 OP
 refine⟨⟨λr f=>?_,q.lt,λr f=>?_,λk hk u' X=>?_,λy F=>?_,λy F=>?_⟩,A,M⟩
 .by_cases m:r.qM ρ
  .cases r with
   |cr b=>
        have e:=m;subst e;exact q.mS (J f.2)
   |er b=>
        have e:=m;subst e;exact q.nJ (J f.2)
   |ce b k=>
         have e:=m;subst e;exact q.nX k f.2
   |pl b k=>
         have e:=m;subst e;exact q.nY k f.2
   |_=>exact m.elim
  .rw[j r m];exact(λr f=>(p.own _ (h.lt _ _ (h.own r f))).trans (h.own r f)) r (d7 r f m)
 .by_cases m:r.qM ρ
  .cases r with
   |cr b=>
        have e:=m;subst e;exact⟨_,q.cr (J f.2),W⟩
   |er b=>
        have e:=m;subst e;exact⟨_,q.er (J f.2),W⟩
   |ce b k=>
         have e:=m;subst e;obtain⟨v,x,eq,l,g,Q,h4⟩:=q.ce k f.2;obtain⟨h5,h6⟩:=Pm k f.2;exact⟨_,Q,v,x,eq,z k,l,g,by rw[h5,B];rfl,by rw[h6,B],λi m=>h4 i m trivial⟩
   |pl b k=>
         have e:=m;subst e;obtain⟨x,y,l,g,Q⟩:=q.pl k f.2;exact⟨_,Q,x,y,l,g,W⟩
   |_=>exact m.elim
  .have QY:=d7 r f m;by_cases Q:r=.fr ρ
   .subst Q;refine⟨_,q.fr,?_⟩;simp only[av.dY];rw[O,asB W,asB W,up];rfl
   obtain⟨ob,l,g⟩:=h.ob r QY;refine⟨ob,by rw[j r m,cH r QY Q];exact l,?_⟩;cases r with
   |it=>
    simp only[av.dY]at g⊢;rw[j .un id,j (.fr []) id,j .af id,j .nx id,co,d6,C,D];exact g
   |un=>simp only[av.dY]at g⊢;rw[j .me id,j .pe id,j .su id];exact g
   |me=>simp only[av.dY]at g⊢;rw[G];exact g
   |pe=>simp only[av.dY]at g⊢;rw[G];exact g
   |su=>simp only[av.dY]at g⊢;rw[G,ah];exact g
   |nx=>simp only[av.dY]at g⊢;rw[d6,C];exact g
   |af=>simp only[av.dY]at g⊢;rw[co,D];exact g
   |fr b=>
    have e:b≠ρ:=by rintro rfl;exact Q W
    simp only[av.dY]at g⊢;rw[up,o b e,j (.cr b) e,j (.er b) e,j (.am b) id,j (.tk b) id,(H b e).1,(H b e).2];exact g
   |am b=>
    obtain⟨u,e1,e2,e3,e4⟩:=g;by_cases e:b=ρ
    .subst e;refine⟨u,e1,e2,λ_ i m=>?_,λx=>by rw[O]at x;cases x⟩;rw[e4 T];unfold av.nW;rw[o _ (V i),U i,ac,Tu i];simp[gT]
    .refine⟨u,e1,e2,λx i m=>?_,λx=>e4 (by rw[<-o b e];exact x)⟩;rw[o b e]at x;rw[j (.pl b i) e,e3 x i m];unfold av.nW;rw[j (.fr (i::b)) id,j (.fr b) id,ac,B];by_cases h5:i::b=ρ
     .rw[h5,O,T];rfl
     .rw[o _ h5]
   |tk b=>
    obtain⟨u,e1,e2,e3⟩:=g;refine⟨u,e1,e2,λhf i m=>?_⟩;by_cases e:b=ρ
    .subst e;rw[o _ (V i),U i]at m;cases m
    .rw[o b e]at hf;rw[j (.pl b i) e];by_cases h5:i::b=ρ
     .obtain⟨SN,x,h7⟩:=Pp i b h5.symm;rw[l,e1]at x;injection x with x
      injection x with x
      subst x;exact h7
     .rw[o _ h5]at m;exact e3 hf i m
   |cr b=>
    have e:=m;simp only[av.dY]at g⊢;rw[g,(H b e).1]
    congr 1
    exact as6 λk _=>by rw[j (.ce b k) e]
   |er b=>
    have e:=m;simp only[av.dY]at g⊢;rw[g,(H b e).2]
    congr 1
    exact as6 λk _=>by rw[j (.pl b k) e]
   |ce b k=>
    have e:=m;obtain⟨v,lp,eq,x,h3,h4,h5,h6,h7⟩:=g;exact⟨v,lp,eq,x,h3,h4,by rw[j (.fr b) id,B];exact h5,by rw[B];exact h6,λi m=>by rw[j (.pl b i) e];exact h7 i m⟩
   |pl b k=>exact g
   |sb k=>exact g
 .rw[G]at X;rw[ah];have x:∀a,(Z.full ρ).own a=some (.sb k)↔Y.own a=some (.sb k):= λa=>by
   constructor
   .intro t;rcases p.new a _ t with m|m
    .rw[<-p.own a m];exact t
    .exact m.elim
   .intro t;exact(p.own a (h.lt a _ t)).trans t
  exact((h.sub k hk u' X).frame (λa E=>p.iD a (h.lt a _ E) (λr f=>by rw[E]at f;injection f with f;subst f;exact⟨id,by simp⟩)) p.len).congr λa=>(x a).symm
 .rw[C]at F;exact(h.nx y F).up M A
 .rw[D]at F;exact(h.af y F).up M A
end
variable{π ρ:Path}{j:Nat}
section
variable{P:Pg}{n:Nat}{c:aI}{d:Nd}{u:US}{X Y Z W:av}{H K L:Hp}
def lf(c:aI)(π:Path)(j:Nat)(q:aB)(p:Nat)(a:a_)(k:Nat):Prop:=c.iE π j=true/\cG q p (c.br π j)<=k/\k<cG q p (c.br π j)+bP a.cy
theorem Pu.zg(V:nG P n c d u)(h:Pu P c d u Y){q:aB}{p:Nat}{a:a_}(QG:Y.fs (j::π)=1)(G:(c.fr π).aq[j]?=some q)(z:q.kd=3\/q.kd=4\/q.kd=5)(x:(c.fr π).pos[j]?=some p)(K:q.aj[c.br π j]?=some a)(D:∀w∈c.ew π j,Y.SS c w.1 w.2)
  (L:∀k,k<bT d->(lf c π j q p a k->W.x.m k=bZ (gH P.aG d) k)/\(¬lf c π j q p a k->W.x.m k=Y.x.m k))
  (U:∀k,k<bT d->(lf c π j q p a k->(gH P.aG d)[k]?=some none->W.x.p k=false)/\(¬(lf c π j q p a k/\(gH P.aG d)[k]?=some none)->W.x.p k=Y.x.p k))
  (H:∀k,k<bT d->(lf c π j q p a k->(gH P.aG d)[k]?=some none->W.x.s k=none)/\(¬(lf c π j q p a k/\(gH P.aG d)[k]?=some none)->W.x.s k=Y.x.s k))
  (M:∀b,W.fs b=if b=j::π then 2 else Y.fs b) (ec:W.cs=Y.cs) (A:W.dn=Y.dn) (el:W.lv=Y.lv) (I:W.N=Y.N) (N:W.F=Y.F) (O:W.fi=Y.fi) (Yi:W.ph=Y.ph):Pu P c d u W:=by
 have Q:∀i,i≠j::π->W.fs i=Y.fs i:= λi e=>by rw[M,asu e]
 have r:∀i,Y.fs i=2->W.fs i=2:= λi l=>by rw[Q i (by rintro rfl;omega)];exact l
 have J:∀i,W.fs i=2->i≠j::π->Y.fs i=2:= λi l e=>by rw[Q i e]at l;exact l
 have R:=h.fp j π (by rw[QG];decide);have E:∀k v,W.SS c k v↔Y.SS c k v:= λk v=>by unfold av.SS av.S;rw[I,N,O,Yi]
 have ac:∀k,Y.cs (j::π) k=0:= λk=>by
  rcases asR (Y.cs (j::π) k)with e|e
  .exact e
  .rcases h.cz (j::π) k (by omega)with C|⟨_,f,i,T,C,o,Z⟩
   .omega
   .injection C with F S
    subst F;subst S;rw[G]at o;injection o with o;subst o;omega
 have y:∀k,W.ER c k↔Y.ER c k\/lf c π j q p a k:= λk=>by
  constructor
  .rintro⟨b,f,q',p',a',g,l,C,h4,S,F,T,Z⟩;by_cases e:f::b=j::π
   .injection e with e1 o
    subst e1;subst o;rw[G]at l;injection l with l;subst l
    rw[x]at C;injection C with C;subst C
    rw[K]at F;injection F with F;subst F
    exact .inr ⟨S,T,Z⟩
   .exact .inl ⟨b,f,q',p',a',J _ g e,l,C,h4,S,F,T,Z⟩
  .rintro(⟨b,f,C,F,S,g,l⟩|⟨T,Z,h8⟩)
   .exact⟨b,f,C,F,S,r _ g,l⟩
   .exact⟨π,j,q,p,a,(by rw[M,asB rfl]),G,x,z,T,K,Z,h8⟩
 have Za:∀k b f,W.DC c k b f↔Y.DC c k b f:= λk b f=>by
  unfold av.DC;rw[A];constructor
  .rintro⟨g,l,C⟩;exact⟨h.dz _ _ l,l,C⟩
  .rintro⟨g,l,C⟩;exact⟨r _ g,l,C⟩
 have ah:∀k b f,Y.DC c k b f->¬lf c π j q p a k:=by
  rintro k b f ⟨g,l,C,F,S,T⟩ ⟨r1,Z,r3⟩;have hO:=V.oq b f C k (Pu.ok V h g) F T k (asj _) (by
                                     have:gR C.kd=1:=by rw[S];rfl
                                     omega)
  obtain⟨τ,e⟩:=hO j π q p a R.2 G x z K Z r3;have:=vM h (τ:=τ) (ρ:=j::π) (by rw[<-e];exact g);omega
 have co:∀F,NI.ok c d Y F->NI.ok c d W F:= λF g=>by
  cases F with
  |cell d6 i=>obtain⟨C,S,T,Z⟩:=g;exact⟨r _ C,S,by rw[ec];exact T,Z⟩
  |aN b f=>obtain⟨C,S⟩:=g;exact⟨r _ C,S⟩
  |_=>exact g
 refine⟨r _ h.f0,λX i B=>?_,λi=>?_,by rw[ec];exact h.c6,by rw[ec];exact h.ci,by rw[ec];exact h.cv,by rw[ec];exact h.ca,λk m=>⟨λe=>?_,λe=>?_⟩,λk m=>⟨λe o=>?_,λe=>?_⟩,?_,?_,?_,?_,?_,?_,?_,?_,?_,?_,by rw[O,N];exact h.fl,by rw[O,I];exact h.fn,by rw[ec,A];exact h.g0,λπ j s=>r _ (h.dz π j (by rw[<-A];exact s)),λπ k t=>?_⟩
 .by_cases e:X::i=j::π
  .injection e with C o
   subst C;subst o;exact⟨r _ R.1,R.2⟩
  .rw[Q _ e]at B;obtain⟨g,l⟩:=h.fp X i B;exact⟨r _ g,l⟩
 .rw[M];split
  .omega
  .exact h.f2 i
 .by_cases C:lf c π j q p a k
  .exact(L k m).1 C
  .rw[(L k m).2 C];rcases(y k).1 e with S|S
   .exact(h.xm k m).1 S
   .exact absurd S C
 .have S:¬lf c π j q p a k:= λC=>e ((y k).2 (.inr C))
  rw[(L k m).2 S];exact(h.xm k m).2 λC=>e ((y k).2 (.inl C))
 .by_cases C:lf c π j q p a k
  .exact(U k m).1 C o
  .rw[(U k m).2 λb=>C b.1];rcases(y k).1 e with S|S
   .exact(h.xp k m).1 S o
   .exact absurd S C
 .rw[(U k m).2 λC=>e ⟨(y k).2 (.inr C.1),C.2⟩];exact(h.xp k m).2 λC=>e ⟨(y k).2 (.inl C.1),C.2⟩
 .intro k m b f s;have C:=(Za _ _ _).1 s;rw[(H k m).2 λb=>ah _ _ _ C b.1];exact h.xd k m b f C
 .intro k m O1;have Z:∀b f,¬Y.DC c k b f:= λb f T=>O1 b f ((Za _ _ _).2 T)
  refine⟨λe o=>?_,λe=>?_⟩
  .by_cases C:lf c π j q p a k
   .exact(H k m).1 C o
   .rw[(H k m).2 λT=>C T.1];rcases(y k).1 e with S|S
    .exact(h.xs k m Z).1 S o
    .exact absurd S C
  .rw[(H k m).2 λr=>e ⟨(y k).2 (.inr r.1),r.2⟩];exact(h.xs k m Z).2 λr=>e ⟨(y k).2 (.inl r.1),r.2⟩
 .intro b k C v S t B T Z;rw[ec]at t;have OP:b≠j::π:=by rintro rfl;rw[ac]at t;cases t
  exact(E _ _).2 (h.s1 b k C v (J _ S OP) t B T Z)
 .intro i j0 v b f C T t B Z he hs OK;rw[ec]at t;have OP:i.1≠j::π:=by intro e;rw[e,ac]at t;omega
  obtain⟨g,l,S⟩:=h.s2 i j0 v b f C (J _ T OP) t B Z he hs OK;exact⟨r _ g,λz w D=>(E _ _).2 (l z w D),λz=>by rw[A];exact S z⟩
 .intro b f C s;rw[A]at s;obtain⟨g,l⟩:=h.s3 b f (h.dz _ _ s) s;exact⟨g,λw D=>(E _ _).2 (l w D)⟩
 .intro b f T w C;by_cases e:f::b=j::π
  .injection e with S o
   subst S;subst o;exact(E _ _).2 (D w C)
  .exact(E _ _).2 (h.s4 b f (J _ T e) w C)
 .intro b f C;rw[el]at C;rw[I];exact h.s5 b f C
 .intro b f T hf s C OK S hx i Z;rw[A]at s;rw[ec]at C⊢;exact h.dl b f T (h.dz _ _ s) s C OK S hx i Z
 .intro p x;rw[I]at x;exact co _ (h.nk p x)
 .intro p x;rw[N]at x;have g:=h.fk p x;exact⟨g.ev,r _ g.fs,g.lt,g.wr,g.sm,g.own,g.sz⟩
 .rw[ec]at t;rcases h.cz π k t with g|g
  .exact .inl (r _ g)
  .exact .inr g
theorem bf.zg{i h:Hp}(Q:X.fs ρ=0)(b:bf c (λ_=>False) (X.bB ρ H) i Y h)(R:H.length<=i.length)(O:∀d,d<H.length->X.own d=none->(X.bB ρ H).own d=none/\i[d]?=H[d]?)(w:∀r,X.live c r->(X.bB ρ H).live c r/\(X.bB ρ H).A r=X.A r)
  (T:h.length<=L.length) (P:∀d,d<h.length->Y.own d=none->W.own d=none/\L[d]?=h[d]?) (x:∀r,Y.live c r->W.live c r/\W.A r=Y.A r)
  (y:∀a,a≠ρ->W.vc a=Y.vc a/\W.ve a=Y.ve a) (U:∀a,W.fs a=if a=ρ then 2 else Y.fs a) (ec:W.cs=Y.cs) (n:W.dn=Y.dn) (z:W.lv=Y.lv) (B:W.N=Y.N) (o:W.F=Y.F) (p:W.fi=Y.fi) (C:W.ph=Y.ph):bf c (λ_=>False) X H W L:=by
 have l:∀a,a≠ρ->W.fs a=Y.fs a:= λa e=>by grind
 have q:∀a,a≠ρ->(X.bB ρ H).fs a=X.fs a:= λa D=>asu D
 refine{c0:= λf k e=>b.c0 f k (by grind),f0:= λa e=>?_,len:=by have:=b.len;omega,iD:= λd E G=>?_,A:= λr I=>?_,aK:= λa e=>?_,f2:= λa e=>?_,f1:= λa=>?_,c1:= λf k g=>by rw[ec];exact b.c1 f k g,c2:= λf k e=>by rw[ec];exact b.c2 f k e,c3:= λf k e=>by rw[ec];exact b.c3 f k e,c4:= λf k u g m=>by rw[ec];exact b.c4 f k u g m,dn:= λf j e=>by rw[n];exact b.dn f j e,rC:= λf j g e=>by rw[n];exact b.rC f j g e,lv:=by rw[z];exact b.lv,S:= λk v m=>?_,fi:=by rw[p];exact b.fi,ph:=by rw[C];exact b.ph,F:=by rw[o];exact b.F}
 .have s:a≠ρ:=by grind
  rw[l a s]at e;have:=b.f0 a e;rw[q a s]at this;exact this
 .obtain⟨s,t⟩:=O d E G;obtain⟨J,K⟩:=b.iD d (by omega) s;obtain⟨M,N⟩:=P d (by have:=b.len;omega) J;exact⟨M,(N.trans K).trans t⟩
 .obtain⟨s,t⟩:=w r I;obtain⟨J,K⟩:=b.A r s;obtain⟨M,N⟩:=x r J;exact⟨M,(N.trans K).trans t⟩
 .have J:a≠ρ:=by grind
  have s:=b.aK a (by grind);have t:=y a J;exact⟨t.1.trans s.1,t.2.trans s.2⟩
 .have s:a≠ρ:=by grind
  rw[l a s];exact b.f2 a (by grind)
 .by_cases s:a=ρ
  .grind
  .rw[l a s,<-b.f1 a,q a s]
 .have s:=b.S k v m;unfold av.S;rw[B,o,p];exact s
def Jy(e:X.fs (j::π)=0)(f:It.br π j∈c.ap):(X.bB (j::π) H).T c+c.wt (.br π j)<=X.T c:=by
 refine vL (a:=0) (b:=0) (λi d=>?_) f (by simp[av.cw,e]) (by simp[av.cw,av.bB]) (asj _) (asj _);cases i with
 |br a b=>
  simp only[av.cw,av.bB,aub]at d⊢;split at d
  .cases d
  .exact d
 |_=>exact d
theorem Lg(e:∀d,W.fs d=if d=ρ then 2 else Y.fs d)(ec:W.cs=Y.cs)(f:W.dn=Y.dn)(g:W.lv=Y.lv)(l:W.N=Y.N)(m:W.F=Y.F)(n:W.fi=Y.fi):W.T c<=Y.T c:=by
 refine Co (a:=0) (b:=0) (λi d=>?_) (by grind) (by grind);cases i with
 |cell h k=>simp only[av.cw]at d⊢;rw[<-ec];exact d
 |call h j=>simp only[av.cw]at d⊢;rw[<-ec,<-f];exact d
 |br a b=>
  simp only[av.cw,aub]at d⊢;rw[e]at d;split at d
  .cases d
  .exact d
 |lv a b=>simp only[av.cw]at d⊢;rw[<-g];exact d
theorem H3(en:List En)(d:Nd)(x:Kp)(fr a:Nat)(n:a<=bT d)(k:Nat)(o:k<bT d):
  let b:=(x.fF (gx en d.outs) (bP d.b) fr a).fF (kZ en d.b) 0 fr a
  (fr<=k/\k<a->b.m k=bZ (gH en d) k/\((gH en d)[k]?=some none->b.p k=false/\b.s k=none))/\(¬(fr<=k/\k<a)->b.m k=x.m k/\b.p k=x.p k/\b.s k=x.s k)/\((gH en d)[k]?≠some none->b.p k=x.p k/\b.s k=x.s k):=by
 have g:=vD en d.b;have p:bT d=bP d.b+aS d.outs:=rfl;have h:gH en d=kZ en d.b++gx en d.outs:=rfl;simp only[Kp.fF,Go.Sm.lP,Go.Sm.pR,Go.Sm.pS];rw[g,nE en d.outs,h];rcases asp k (bP d.b)with i|i
 .have c:(kZ en d.b++gx en d.outs)[k]?=(kZ en d.b)[k]?:=asl (by omega);have j:bZ (kZ en d.b++gx en d.outs) k=bZ (kZ en d.b) k:=by unfold bZ;rw[c]
  rw[c,j];have f:¬(bP d.b<=k/\k<bP d.b+aS d.outs/\fr<=k/\k<a):=by omega
  have l:∀q:Prop,¬((bP d.b<=k/\k<bP d.b+aS d.outs/\fr<=k/\k<a)/\q):= λq a=>f a.1
  simp only[asu f,asu (l _),Nat.sub_zero,atH,as2,true_and];refine⟨λm=>⟨by grind,λe=>by grind⟩,λm=>?_,λe=>?_⟩
  .grind
  .grind
 .have c:(kZ en d.b++gx en d.outs)[k]?=(gx en d.outs)[k-bP d.b]?:=by grind
  have j:bZ (kZ en d.b++gx en d.outs) k=bZ (gx en d.outs) (k-bP d.b):=by unfold bZ;rw[c]
  rw[c,j];have f:¬(0<=k/\k<0+bP d.b/\fr<=k/\k<a):=by omega
  have l:∀q:Prop,¬((0<=k/\k<0+bP d.b/\fr<=k/\k<a)/\q):= λq a=>f a.1
  simp only[asu f,asu (l _)];refine⟨λm=>⟨by grind,λe=>by grind⟩,λm=>?_,λe=>?_⟩
  .grind
  .grind
end
end Go.Proofs.Sz
namespace Go.Proofs.Sz
open Go.Mt Go.Sm Go.Proofs
open Tryz
section
variable{P:Pg}{n:Nat}{c:aI}{d:Nd}{u:US}{X Y Z W:av}{H K L:Hp}
theorem A7{ins outs:List Int}{u':US}(S:nG P n c d u)(Pk:mw P)(U:gW P (eV P n) c d u ins outs u'){r:Nat}(hV:eH P n c d u r):y' P n c d u r:=by
 intro X H K hT π j q I o hk f In Uz;have l:=K.lay;have OI:=Pu.ok S K.pu I;obtain⟨p,D,OX⟩:=l.fI I o;have V:j<(c.fr π).aq.length:=by
  rcases asp j (c.fr π).aq.length with l|l
  .exact l
  .rw[asr l]at o;cases o
 have QA:=l.frame I;obtain⟨ob,Uk,es,rfl,VV,O,_⟩:=l.ob (.am π) (by show 1<=X.fs π;omega);have O:=O I j V;have P2:=S.Cq π j q OI o;have IO:=S.pq π j q p OI o D;have LE:=S.Js;have VR:=(U.eq π j q p OI o D).1;obtain⟨a,m⟩:∃a,pf c π j q p a:=by
  cases VR with
  |df x=>omega
  |call x=>omega
  |sw x B a m=>exact⟨a,m⟩
  |aN C T x a0 hs h0 B hu ht a m=>exact⟨a,m⟩
  |reset x B a m=>exact⟨a,m⟩
 have RL:=(U.wq π j q OI o).2.1 hk;have Zy:=Pk.d d (asn U.nd);refine DT.ob func63 rfl ntmps63 rfl ?_;rcases asp (X.fs (j::π)) 2 with OO|P_
 rotate_left
 .have x:X.fs (j::π)=2:=by have:=K.pu.f2 (j::π);omega
  have Vq:X.nW π j=some (.ref (X.A (.fr (j::π))) 0):=by unfold av.nW;rw[asB (by omega)]
  rw[Vq]at O;refine dO [2,2,20] rfl<|Oq (ax rfl rfl QA rfl)<|dR [22] rfl<|Oq (o8 rfl rfl rfl rfl rfl Uk VV) ?_;rw[O];refine dR [2,24] rfl<|Oq (kI (by kernel_rfl) rfl rfl rfl rfl rfl)<|dL [1,2] rfl<|DC.ret ⟨_,rfl,X,rfl,⟨K,bf.refl ..,by omega,by intro p D;cases D⟩,x⟩
 have Tt:X.fs (j::π)=0:=by omega
 have rg:X.dn π j=false:=by
  cases e:X.dn π j with
  |false=>rfl
  |true=>
       obtain⟨⟨C,x,B,_⟩,_⟩:=K.pu.s3 π j I e;rw[o]at x;injection x with x;subst x;omega
 have Vq:X.nW π j=none:=by unfold av.nW;rw[asu (by omega),asu (by rw[rg];simp)]
 rw[Vq]at O;have VZ:∀i,X.fs (i::j::π)=0:= λi=>by
  rcases asR (X.fs (i::j::π))with e|e
  .exact e
  .have:=(K.pu.fp i (j::π) (by omega)).1;omega
 have Zc:=l.bB I Tt VZ o Uk;have LT:=Jy (c:=c) (X:=X) (H:=H) Tt RL.1;have y:∀r,r≠.fr (j::π)->r≠.am (j::π)->r≠.tk (j::π)->(X.bB (j::π) H).A r=X.A r:= λr s h h3=>by simp[av.bB,s,h,h3]
 have rt:π≠j::π:=by intro e;have:=atB List.length e;simp at this
 have RY:(X.bB (j::π) H).A .it=X.A .it:=y _ (by simp) (by simp) (by simp);have f4:(X.bB (j::π) H).A (.fr π)=X.A (.fr π):=y _ (by simp) (by simp) (by simp);have f8:(X.bB (j::π) H).A (.pl π j)=X.A (.pl π j):=y _ (by simp) (by simp) (by simp);have rx:(X.bB (j::π) H).fs (j::π)=1:=asB rfl;have E:∀b,b≠j::π->(X.bB (j::π) H).fs b=X.fs b:= λb b=>asu b
 have Vk:(X.bB (j::π) H).fs π=2:=by rw[E π rt];exact I
 have t3:lH c (X.bB (j::π) H) (c.ek π j):=by
  rw[f];refine⟨Uz.c1,λi b e=>?_,Uz.c4,Uz.tp⟩;by_cases x:i::b=j::π
  .injection x with x B;subst x;subst B;omega
  .rw[E _ x]at e;exact Uz.f1 i b e
 have t4:∀a,a<H.length->X.own a=none->(X.bB (j::π) H).own a=none:= λa s h=>by
  simp only[av.bB];rw[asu (by omega),asu (by omega),asu (by omega)];exact h
 have t5:∀r,X.live c r->(X.bB (j::π) H).live c r/\(X.bB (j::π) H).A r=X.A r:=by
  have x:∀b,1<=X.fs b->b≠j::π:=by rintro b s rfl;omega
  intro r f;cases r with
  |fr b=>have e:=x b f;exact⟨by show 1<=(X.bB (j::π) H).fs b;rw[E b e];exact f,y _ (by simp[e]) (by simp) (by simp)⟩
  |am b=>have e:=x b f;exact⟨by show 1<=(X.bB (j::π) H).fs b;rw[E b e];exact f,y _ (by simp) (by simp[e]) (by simp)⟩
  |tk b=>have e:=x b f;exact⟨by show 1<=(X.bB (j::π) H).fs b;rw[E b e];exact f,y _ (by simp) (by simp) (by simp[e])⟩
  |cr b=>have e:=x b (by rw[f.1];decide);exact⟨⟨by rw[E b e];exact f.1,f.2⟩,y _ (by simp) (by simp) (by simp)⟩
  |er b=>have e:=x b (by rw[f.1];decide);exact⟨⟨by rw[E b e];exact f.1,f.2⟩,y _ (by simp) (by simp) (by simp)⟩
  |ce b k=>have e:=x b (by rw[f.1];decide);exact⟨⟨by rw[E b e];exact f.1,f.2⟩,y _ (by simp) (by simp) (by simp)⟩
  |pl b k=>have e:=x b (by rw[f.1];decide);exact⟨⟨by rw[E b e];exact f.1,f.2⟩,y _ (by simp) (by simp) (by simp)⟩
  |_=>exact⟨f,y _ (by simp) (by simp) (by simp)⟩
 refine dO [2,2,20] rfl<|Oq (ax rfl rfl QA rfl)<|dR [22] rfl<|Oq (o8 rfl rfl rfl rfl rfl Uk VV) ?_;rw[O];refine dR [2,24] rfl<|Oq (kI (by kernel_rfl) rfl rfl rfl rfl rfl)<|dR [0,2,27] rfl<|Oq (re rfl)<|dR [28] rfl<|Oq (re rfl)<|dR [29] rfl<|Oq (kD rfl rfl rfl rfl rfl)<|dR [30] rfl<|Oq (cF rfl rfl rfl)<|dR [2,34] rfl<|Oq (ax rfl rfl (bu (bu (bu QA))) rfl)<|dR [999] rfl<|Oq (qa rfl rfl rfl rfl rfl (bu (bu (bu Uk))) VV)<|dL [] rfl ?_;obtain⟨K1,ah⟩:∃K1,(((H++[Ob.map []])++[Ob.map []])++[Ob.box [.ref (X.A (.fr π)) 0,.d (.sl []),.d (.sl []),.mp H.length,.mp (H.length+1)]]).set (X.A (.am π)) (.map (jh (X.A (.pl π j)) 0 (.ref (H.length+2) 0) es))=K1:=⟨_,rfl⟩;have t6:∀a,a<H.length->X.own a=none->(X.bB (j::π) H).own a=none/\K1[a]?=H[a]?:= λa s h=>by
  refine⟨t4 a s h,?_⟩;rw[<-ah,asv (by rintro rfl;rw[l.own (.am π) (by show 1<=X.fs π;omega)]at h;cases h),asl (by simp;omega),asl (by simp;omega),asl s]
 rw[ah]at Zc;refine OB [nR 8 (H.length+2),nR 0 (X.A .it),nR 1 (X.A (.fr π)),nR 2 (X.A (.pl π j))] K1 (kc (by simp;rfl) rfl) (by rw[<-ah];simp) ?_;obtain⟨m2,w,⟨rfl,Y,A⟩,Xu⟩:=Ff S U (f▸hV) ⟨Zc,(K.pu.bB I Tt m.ok)⟩ (by omega) t3 Vk o hk D;rw[RY,f4,f8]at Xu;have L:=A.2.1;have Q:=L.f2 π Vk;have f9:=(L.f1 _).1 rx;have Vm:=((L.A (.pl π j) ⟨Vk,V⟩).2).trans f8;have gc:Y.A (.fr (j::π))=H.length+2:=((L.A (.fr (j::π)) (by show 1<=(X.bB (j::π) H).fs (j::π);omega)).2).trans (by simp[av.bB]);have QZ:w[X.A (.pl π j)]?=some (.box (dB q p)):=by
  obtain⟨C,x,B⟩:=A.1.lay.fI Q o;rw[D]at x;injection x with x
  subst x;rw[Vm]at B;exact B
 have QN:c.br π j<q.aj.length:=by
  rcases asp (c.br π j) q.aj.length with l|l
  .exact l
  .have:=m.ha;rw[asr l]at this;cases this
 have VU:=asn m.ha;have W6:=te m.ha;have Yp:=jk q;have Om:gy q p+aR (q.aj.map fP)<=p+qP q:=by
  unfold gy;rcases hk with e|e|e
  .rw[asu (by omega)];omega
  .rw[asB e];have:gR q.kd=1:=by rw[e];rfl
   omega
  .rw[asu (by omega)];omega
 have t7:=fY fP QN;have SJ:q.aj[c.br π j]=a:=by have:=m.ha;rw[aso QN]at this;injection this
 rw[SJ,nC]at t7;have Qs:cG q p (c.br π j)=gy q p+aR ((q.aj.take (c.br π j)).map fP):=rfl;have Zz:=lF a.cy (P2.2.2.2.2.1 a VU).1 (by omega);rw[bF.aA]at Zz;refine dO [2,41] rfl<|Oq (au Xu rfl rfl)<|dL [2] rfl<|OB [nN 42 0,nN 41 (c.br π j),nN 10 (gy q p),nN 9 (c.br π j),nD 11 (.bool (c.iE π j)),nR 8 (H.length+2),nR 0 (X.A .it),nR 1 (X.A (.fr π)),nR 2 (X.A (.pl π j))] w rfl rfl<|dC [] rfl<|Ps (λb=>∃R,b=⟨[nN 10 (cG q p (c.br π j)),nN 9 (c.br π j),nD 11 (.bool (c.iE π j)),nR 8 (H.length+2),nR 0 (X.A .it),nR 1 (X.A (.fr π)),nR 2 (X.A (.pl π j))],R,w⟩) ?_ ?_
 .refine dC [3] rfl<|DC.lp (λk s=>∃(i:Nat) (R:List (Nat×List M)),s=⟨[nN 42 i,nN 41 (c.br π j),nN 10 (gy q p+aR ((q.aj.take i).map fP)),nN 9 (c.br π j),nD 11 (.bool (c.iE π j)),nR 8 (H.length+2),nR 0 (X.A .it),nR 1 (X.A (.fr π)),nR 2 (X.A (.pl π j))],R,w⟩/\i<=c.br π j/\k=c.br π j-i) (c.br π j) _
   ⟨0,_,rfl,by omega,rfl⟩ (kc rfl (kc rfl (kc (by simp;rfl) rfl))) ?_
  rintro k s1 ⟨i,R,rfl,hi,rfl⟩;refine dC [2] rfl<|DC.cond rfl (λx=>?_) (λx=>?_);rotate_left
  .have e:i=c.br π j:=by have:=asG x;omega
   subst e;refine DC.exit<|⟨_,⟨_,rfl⟩,cN rfl rfl⟩
  have OY:i<c.br π j:=by have:=asC x;omega
  have T:i<q.aj.length:=by omega
  have B:=aso T;have ge:=fY fP T;generalize q.aj[i]=C at B ge;rw[nC]at ge;have i6:=lF C.cy (P2.2.2.2.2.1 C (asn B)).1 (by omega);rw[bF.aA]at i6;have Pm:gy q p+aR ((q.aj.take (i+1)).map fP)=gy q p+aR ((q.aj.take i).map fP)+bP C.cy:=by omega
  refine dO [3,2,2,54] rfl<|Oq (ax rfl rfl QZ rfl)<|dR [56] rfl<|Oq (aP rfl rfl rfl (asm i) (te B) rfl)<|dR [59] rfl<|Oq (aL i6 rfl rfl)<|dR [60] rfl<|Oq (ay rfl rfl rfl (by omega))<|dR [2,61] rfl<|Oq (ay rfl rfl rfl (by omega))<|dL [] rfl<|bG (k':=c.br π j-(i+1)) (by omega) ⟨i+1,_,rfl,by omega,rfl⟩ rfl (kc rfl (kc rfl (kc (by rw[Pm];rfl) rfl)))
 rintro _ ⟨R,rfl⟩;have N:=A.1.lay;have t8:=N.mm (by omega);refine dC [2] rfl<|Ps (λb=>∃g t,cD P n c d {Y with x:=g} t/\w.length<=t.length/\(∀a,a<w.length->Y.own a≠some .me->Y.own a≠some .pe->Y.own a≠some .su->t[a]?=w[a]?)/\
   (∀k,k<bT d->(lf c π j q p a k->g.m k=bZ (gH P.aG d) k)/\(¬lf c π j q p a k->g.m k=Y.x.m k))/\
   (∀k,k<bT d->(lf c π j q p a k->(gH P.aG d)[k]?=some none->g.p k=false)/\(¬(lf c π j q p a k/\(gH P.aG d)[k]?=some none)->g.p k=Y.x.p k))/\
   (∀k,k<bT d->(lf c π j q p a k->(gH P.aG d)[k]?=some none->g.s k=none)/\(¬(lf c π j q p a k/\(gH P.aG d)[k]?=some none)->g.s k=Y.x.s k))/\
   b=⟨[nN 10 (cG q p (c.br π j)),nN 9 (c.br π j),nR 8 (H.length+2),nR 0 (X.A .it),nR 1 (X.A (.fr π)),nR 2 (X.A (.pl π j))],R,t⟩) ?_ ?_
 .cases ge:c.iE π j with
  |true=>
   refine dC [1] rfl ?_;obtain⟨m3,t,t9,Tl⟩:=AY (Gu P d Y) Pk.e (cG q p (c.br π j)) (cG q p (c.br π j)+bP a.cy) (by show _<=bT d;omega) Zy.1 (by show d.outs.length<=_;have:=Zy.2.1;omega) (by show bP d.b<=_;have:=Zy.2.2;omega) Y.x w t8;have Tl:CT prog 42 [.ref (Y.A .it) 0,dN (cG q p (c.br π j)),dN (cG q p (c.br π j)+bP a.cy)] w _:=Tl;rw[((L.A .it trivial).2).trans RY]at Tl;have B:=H3 P.aG d Y.x (cG q p (c.br π j)) (cG q p (c.br π j)+bP a.cy) (by omega);obtain⟨g,PF⟩:∃g,g=(Y.x.fF (gx P.aG d.outs) (bP d.b) (cG q p (c.br π j)) (cG q p (c.br π j)+bP a.cy)).fF (kZ P.aG d.b) 0 (cG q p (c.br π j)) (cG q p (c.br π j)+bP a.cy):=⟨_,rfl⟩;rw[<-PF]at B;have i6:MS (Gu P d Y) w g t:=by rw[PF];exact t9
   simp only at B;have T:∀k,lf c π j q p a k↔(cG q p (c.br π j)<=k/\k<cG q p (c.br π j)+bP a.cy):= λk=>by unfold lf;rw[ge];simp
   obtain⟨Ui,co⟩:=N.reset i6 (λk x u' F=>by
    obtain⟨r1,r2,r3⟩:=B k x;by_cases e:cG q p (c.br π j)<=k/\k<cG q p (c.br π j)+bP a.cy
    .by_cases C:(gH P.aG d)[k]?=some none
     .rw[((r1 e).2 C).2]at F;cases F
     .rw[(r3 C).2]at F;exact F
    .rw[(r2 e).2.2]at F;exact F)
   refine dO [2,70] rfl<|Oq (ax rfl rfl QZ rfl)<|dR [72] rfl<|Oq (aP rfl rfl rfl (asm _) W6 rfl)<|dR [75] rfl<|Oq (aL Zz rfl rfl)<|dR [76] rfl<|Oq (ay rfl rfl rfl (by omega))<|dR [77] rfl<|Oq (au Tl rfl rfl)<|dL [] rfl<|⟨_,⟨g,t,Ui,i6.len,co,λk x=>⟨λe=>((B k x).1 ((T k).1 e)).1,λe=>((B k x).2.1 (λb=>e ((T k).2 b))).1⟩,λk x=>⟨λe C=>(((B k x).1 ((T k).1 e)).2 C).1,λe=>?_⟩,λk x=>⟨λe C=>(((B k x).1 ((T k).1 e)).2 C).2,λe=>?_⟩,rfl⟩,cN rfl rfl⟩
   .by_cases e1:cG q p (c.br π j)<=k/\k<cG q p (c.br π j)+bP a.cy
    .exact((B k x).2.2 (λC=>e ⟨(T k).2 e1,C⟩)).1
    .exact((B k x).2.1 e1).2.1
   .by_cases e1:cG q p (c.br π j)<=k/\k<cG q p (c.br π j)+bP a.cy
    .exact((B k x).2.2 (λC=>e ⟨(T k).2 e1,C⟩)).2
    .exact((B k x).2.1 e1).2.2
  |false=>
   refine dC [0] rfl ?_;have x:∀k,¬lf c π j q p a k:= λk B=>by have:=B.1;rw[ge]at this;cases this
   exact⟨_,⟨Y.x,w,N,asj _,λ_ _ _ _ _=>rfl,λk _=>⟨λe=>absurd e (x k),λ_=>rfl⟩,λk _=>⟨λe=>absurd e (x k),λ_=>rfl⟩,λk _=>⟨λe=>absurd e (x k),λ_=>rfl⟩,rfl⟩,cN rfl rfl⟩
 rintro _ ⟨g,t,Ui,On,co,ut,Yq,Yj,rfl⟩;have v6:∀r,Y.live c r->r≠.me->r≠.pe->r≠.su->t[Y.A r]?=w[Y.A r]?:= λr h0 s h h3=>by
  have x:=N.own r h0;refine co _ (N.lt _ _ x) ?_ ?_ ?_<;>(rw[x];intro e;injection e with e)
  .exact s e
  .exact h e
  .exact h3 e
 have WY:t[X.A (.pl π j)]?=some (.box (dB q p)):=by
  have:=v6 (.pl π j) ⟨Q,V⟩ (by simp) (by simp) (by simp);rw[Vm]at this;exact this.trans QZ
 have i7:=Ui.frame (π:=π) Q;rw[show({Y with x:=g} :av).A=Y.A from rfl,((L.A (.fr π) (by show 1<=(X.bB (j::π) H).fs π;omega)).2).trans f4]at i7;obtain⟨Ot,W5,wd,rfl,i8,_⟩:=Ui.ob (.tk π) (by show 1<=Y.fs π;omega);have W5:=W5;have wn:∀i,Y.fs (i::π)=2->i<(c.fr π).aq.length:= λi e=>by
  obtain⟨_,B,x,_⟩:=U.iK i π (A.1.pu.fp i π (by omega)).2;rcases asp i (c.fr π).aq.length with l|l
  .exact l
  .rw[asr l]at x;cases x
 obtain⟨_,F⟩:=Ui.MO (j:=j) (show({Y with x:=g} :av).fs π=2 from Q) (show({Y with x:=g} :av).fs (j::π)≠2 by show Y.fs (j::π)≠2;omega) V wn W5 (dN (c.br π j));have F:=F;rw[Vm]at F;have i9:=N.own (.tk π) (by show 1<=Y.fs π;omega);have mt:Y.own (X.A (.pl π j))=some (.pl π j):=by rw[<-Vm];exact N.own _ ⟨Q,V⟩
 obtain⟨J,ac⟩:∃J,t.set (Y.A (.tk π)) (.map (jh (X.A (.pl π j)) 0 (dN (c.br π j)) wd))=J:=⟨_,rfl⟩;have Ou:J.length=t.length:=by rw[<-ac];simp
 have UO:∀a,a≠Y.A (.tk π)->J[a]?=t[a]?:= λa m=>by rw[<-ac];exact asv (atf m)
 rw[ac]at F;have ZA:=m.fr;have Do:J[Y.A (.fr (j::π))]?=some (.box [Y.up (j::π),.d (.sl []),.d (.sl []),.mp (Y.A (.am (j::π))),.mp (Y.A (.tk (j::π)))]):=by
  obtain⟨ob,s,h⟩:=F.ob (.fr (j::π)) (by show 1<=Y.fs (j::π);omega);have x:=h;subst x;rw[show({Y with x:=g} :av).A=Y.A from rfl]at s;rw[s,asu (by show Y.fs (j::π)≠2;omega),asu (by show Y.fs (j::π)≠2;omega)];rfl
 have Eq:Fl (c.fr (j::π)) (λ_=>0) (λ_=>0) (({Y with x:=g} :av).up (j::π)) {Y with x:=g} (j::π) 0 0 (λ_ _=>False) J:=
  {lt:=F.lt,lc:=F.own (.fr (j::π)) (by show 1<=Y.fs (j::π);omega),mS:= λb=>by omega,nJ:= λb=>by omega,nX:= λx b=>by omega,nY:= λx b=>by omega,fr:=Do,cr:= λb=>by omega,er:= λb=>by omega,ce:= λx b=>by omega,pl:= λx b=>by omega}
 have Oy:=tY (q:=q) (a:=a) VU;obtain⟨m5,qr,⟨Z,Fd,d6⟩,Tk⟩:=DF (c:=c) (st:= λ_=>0) (z:= λ_=>0) (X:={Y with x:=g}) (π:=j::π) (H:=J) S.sz a.cy (P2.2.2.2.2.1 a VU).1 (by omega) (cG q p (c.br π j)) (by omega) 0 (by rw[ZA];simp[uN]) (λi v b=>by rw[ZA,atH];exact b) (λi b b=>by rw[ZA,atH];exact b) (by rw[ZA];rfl) (by rw[ZA];rfl) (λ_ _=>⟨rfl,rfl⟩) (.ref (X.A .it) 0) Eq
  (λi ρ e τ b B=>by
   injection e with x C
   subst x;subst C;exact F.Oe (show Y.fs b=2 from vM A.1.pu (τ:=τ) (by rw[<-B];exact Q)))
 have Tk:=Tk;rw[gc,bF.aA]at Tk;have Fn:∀i,Y.fs (i::j::π)=0:= λi=>by
  rcases asR (Y.fs (i::j::π))with e|e
  .exact e
  .have:=(A.1.pu.fp i (j::π) (by omega)).1;omega
 have Fr:∀i,Y.dn (j::π) i=false:= λi=>by
  cases e:Y.dn (j::π) i with
  |false=>rfl
  |true=>have:=A.1.pu.dz _ _ e;omega
 have FS:∀k,Y.cs (j::π) k=0:= λk=>by
  rcases asR (Y.cs (j::π) k)with e|e
  .exact e
  .rcases A.1.pu.cz (j::π) k (by omega)with B|⟨_,j',b,q',B,x,e3⟩
   .omega
   .injection B with C T
    subst C;subst T;rw[o]at x;injection x with x;subst x;omega
 obtain⟨GT,pm,Id⟩:=F.filled (ρ:=j::π) (show Y.fs (j::π)=1 from f9) Fn Fr (λx _=>by
   show(0:Int)=nF (Y.cs (j::π) x)/\(0:Int)=if zB (Y.cs (j::π) x)then c.get (j::π,x)else 0
   rw[FS x];exact⟨rfl,rfl⟩) (λi b e=>by
   injection e with x B
   subst x;subst B;refine⟨_,(by rw[<-ac];exact gJ W5 _),?_⟩;show gT (Y.A (.pl π j)) 0 _=_;rw[Vm,pa _ _ _ _ _ i8,asB ⟨rfl,rfl⟩]) Fd d6
 obtain⟨A0,o0,v0,e0,G⟩:=id d6.eq;have T7:∀b,(Z.full (j::π)).fs b=if b=j::π then 2 else Y.fs b:= λb=>by unfold av.full;rw[G]
 have Yz:(Z.full (j::π)).cs=Y.cs:=by unfold av.full;rw[G]
 have d7:(Z.full (j::π)).dn=Y.dn:=by unfold av.full;rw[G]
 have d8:(Z.full (j::π)).lv=Y.lv:=by unfold av.full;rw[G]
 have eN:(Z.full (j::π)).N=Y.N:=by unfold av.full;rw[G]
 have eF:(Z.full (j::π)).F=Y.F:=by unfold av.full;rw[G]
 have d9:(Z.full (j::π)).fi=Y.fi:=by unfold av.full;rw[G]
 have Yi:(Z.full (j::π)).ph=Y.ph:=by unfold av.full;rw[G]
 have ex:(Z.full (j::π)).x=g:=by unfold av.full;rw[G]
 have SW:bf c (λ_=>False) X H (Z.full (j::π)) qr:=by
  refine bf.zg Tt L (by rw[<-ah];simp) t6 t5 (by have:=d6.len;omega) (λa s h=>?_) (λr f=>?_) (λb e=>d6.v b e) T7 Yz d7 d8 eN eF d9 Yi
  .obtain⟨x,B⟩:=Id a (by omega) h;refine⟨x,?_⟩;rw[B,UO a (by rintro rfl;rw[i9]at h;cases h)];exact co a s (by rw[h];simp) (by rw[h];simp) (by rw[h];simp)
  .exact pm r (by cases r<;>exact f)
 have Oz:=Lg (c:=c) (W:=Z.full (j::π)) (Y:=Y) T7 Yz d7 d8 eN eF d9;have Ug:=A.2.2.1;refine dO [2,81] rfl<|Oq (ax rfl rfl i7 rfl)<|dR [999] rfl<|Oq (qa rfl rfl rfl rfl rfl W5 i8)<|dL [] rfl<|OB [nN 10 (cG q p (c.br π j)),nN 9 (c.br π j),nR 8 (H.length+2),nR 0 (X.A .it),nR 2 (X.A (.pl π j))] J rfl ac<|dO [2,90] rfl<|Oq (ax rfl rfl ((UO _ (by intro e;rw[e,i9]at mt;cases mt)).trans WY) rfl)<|dR [92] rfl<|Oq (aP rfl rfl rfl (asm _) W6 rfl)<|dR [96] rfl<|Oq (au Tk rfl rfl)<|dL [2] rfl<|DC.ret ⟨_,rfl,Z.full (j::π),by rw[(pm (.fr (j::π)) (by show 1<=Y.fs (j::π);omega)).2.trans gc];rfl,⟨⟨GT,(Pu.zg S A.1.pu f9 o hk D m.ha (λw b=>.inl (A.2.2.2 w b)) (by rw[ex];exact ut) (by rw[ex];exact Yq) (by rw[ex];exact Yj) T7 Yz d7 d8 eN eF d9 Yi)⟩,SW,by omega,by intro p D;cases D⟩,by rw[T7,asB rfl]⟩
end
variable{π σ τ:Path}{j i:Nat}{q:aB}
section
variable{P:Pg}{n:Nat}{c:aI}{d:Nd}{u:US}{X Y Z:av}{H K L:Hp}
theorem Jz{ins outs:List Int}{u':US}(S:nG P n c d u)(f:mw P)(b:gW P (eV P n) c d u ins outs u')(i:qL P n):∀r,eH P n c d u r/\DA P n c d u r:=by
 intro r
 induction r using Nat.strongRecOn with
 |ind r g=>
  have j:=HS S b (λa h=>(g a h).1) (λa h=>(g a h).2);have e:∀a≤r,eH P n c d u a:= λa h=>by
   grind
  refine⟨j,λX H k B l I J q K L h v m z o p s t w x y A C D E F G=>?_⟩;exact Fe S b t e (λa h=>tf S f b i (e a h)) (λa h=>A7 S f b (e a h)) X H k B l q h v m z o p s w x y A C D E F G
def lH.down{r r':Nat}(h:lH c X r)(b:r'<=r):lH c X r':=⟨λa k e=>ata b (h.c1 a k e),λj a e=>ata b (h.f1 j a e),h.c4,by have:=h.tp;omega⟩
structure iy(c:aI)(X:av)(H:Hp)(Y:av)(K:Hp):Prop where
 e:bf c (λ_=>False) {X with lv:=Y.lv} H Y K
 m:∀π j,X.lv π j=true->Y.lv π j=true
def bf.NJ{E:Path×Nat->Prop}(h:bf c E X H Y K)(l:Path->Nat->Bool):bf c E {X with lv:=l} H {Y with lv:=l} K:=
 {c0:=h.c0,f0:=h.f0,len:=h.len,iD:=h.iD,A:= λr a=>(by
   have:=h.A r (by cases r<;>exact a);exact⟨by have b:=this.1;revert b;cases r<;>exact id,this.2⟩),aK:=h.aK,f2:=h.f2,f1:=h.f1,c1:=h.c1,c2:=h.c2,c3:=h.c3,c4:=h.c4,dn:=h.dn,rC:=h.rC,lv:=rfl,S:=h.S,fi:=h.fi,ph:=h.ph,F:=h.F}
def iy.of(h:bf c (λ_=>False) X H Y K):iy c X H Y K:=by
 refine⟨?_,λa j e=>by rw[h.lv];exact e⟩;have e:({X with lv:=Y.lv} :av)=X:=by rw[h.lv]
 rw[e];exact h
def iy.trans(h:iy c X H Y K)(k:iy c Y K Z L):iy c X H Z L:=
 ⟨(h.e.NJ Z.lv).trans k.e,λa j e=>k.m a j (h.m a j e)⟩
def iy.MP(h:bf c (λ_=>False) (X.jV π j) H Y K):iy c X H Y K:=by
 refine⟨?_,λa b e=>?_⟩
 .have e:({X with lv:=Y.lv} :av)=X.jV π j:=by rw[h.lv];rfl
  rw[e];exact h
 .rw[h.lv];show(if(a,b)=(π,j)then true else X.lv a b)=true;split
  .rfl
  .exact e
structure DG(c:aI)(Y:av)(σ:Path)(j:Nat)(q:aB):Prop where
 w:c.ja σ q->(∀w∈c.ew σ j,Y.SS c w.1 w.2)/\(q.kd=2->Y.dn σ j=true)
 l:q.kd=4->Y.lv σ j=true
 v:∀k v,(c.fr σ).vars[k]?=some v->ic (c.fr σ) k v j->(c.val σ k).isSome=true->Y.cs σ k=2
structure rH(c:aI)(Y:av)(σ:Path):Prop where
 f:Y.fs σ=2
 q:∀j q,(c.fr σ).aq[j]?=some q->DG c Y σ j q
def DG.up(h:DG c X σ j q)(e:iy c X H Y K):DG c Y σ j q:=
 ⟨λt=>⟨λw a=>e.e.SS _ _ ((h.w t).1 w a),λa=>e.e.dn _ _ ((h.w t).2 a)⟩,λa=>e.m _ _ (h.l a),λk v a b i=>e.e.c2 _ _ (h.v k v a b i)⟩
def rH.up(h:rH c X σ)(e:iy c X H Y K):rH c Y σ:=⟨e.e.f2 _ h.f,λj q a=>(h.q j q a).up e⟩
theorem JA{a:Path}(h:τ++(i::π)=a++(j::π)):τ=a/\i=j:=by
 have a:=List.append_inj' h (by simp);exact⟨a.1,by grind⟩
def Cs:τ++(i::π)≠π:=by
 intro h;have:=atB List.length h;simp at this;omega
theorem Fk(S:nG P n c d u)(a:cS P n c d u X H)(hf:X.fs π=2)(e:(c.fr π).aq[j]?=some q)(m:q.kd=3\/q.kd=5)(f g:M):
  DT prog 64 [.ref (X.A .it) 0,f,.ref (X.A (.pl π j)) 0,g] H λ_ K=>cS P n c d u X K/\bf c (λ_=>False) X H X K:=by
 have h:=a.lay;obtain⟨p,o,i⟩:=h.fI hf e;have k:(H++[Ob.box [.ref (X.A .it) 0]]++[Ob.box [.ref (X.A (.pl π j)) 0]])[(H++[Ob.box [M.ref (X.A .it) 0]]).length]?=some (Ob.box [.ref (X.A (.pl π j)) 0]):=by simp
 have b:=bu (T:=[Ob.box [.ref (X.A (.pl π j)) 0]]) (bu (T:=[Ob.box [.ref (X.A .it) 0]]) i);refine DT.ob func64 W ntmps64 W ?_;unfold dB at b;refine dO [2,8] W<|Oq (cF W W W)<|dR [10] W<|Oq (cF W W W)<|dL [] W ?_;have l:(q.kd !=4)=true:=by grind
 refine dO [2,17] W<|Oq (ax W W k W)<|dR [21] W<|Oq (ax W W b W)<|dR [22] W<|Oq (gG W W W (r:=.bool true) (by show some (D.bool (_ !=_))=_;rw[<-l]))<|dL [1] W<|DC.ret ⟨_,rfl,⟨((h.grow [Ob.box [.ref (X.A .it) 0]]).grow [Ob.box [.ref (X.A (.pl π j)) 0]]),a.pu⟩,((bf.grow c (λ_=>False) X H [Ob.box [.ref (X.A .it) 0]]).trans (bf.grow c (λ_=>False) X _ [Ob.box [.ref (X.A (.pl π j)) 0]]))⟩
end
end Go.Proofs.Sz
