/- A part of the proof of the last text of this claim, without conditions. -/
import Derived.Test.YtjbigbaipmiihaaGreatJ
set_option maxRecDepth 4000
set_option linter.all false
namespace Go.Ex
open Go.Mt Go.Mk
open Go.Sm (Path US)
variable{rs:Rs}{π:Path}{q:aB}{p s j k sb i:Nat}{b:bF}{x:Nm}{e:E}
structure M5(P:Sm.Pg)(step:US->List Int->List Int->US->Prop)(Ov:Nat->US->List Int->List Int->US->Prop)(az:Nat->US):Prop where
 st:∀j u i o u',Ov j u i o u'->step u i o u'/\Sm.fG P.nodes (nm 102 j)=some j
 az:∀j,az j=US.init P j
section
variable{P:Sm.Pg}{T:fB}{F:List (Option Int)}{A:Env}{d:Nd}{u:US}{Ov:Nat->US->List Int->List Int->US->Prop}{az:Nat->US}{ap:List Sm.It}{step:US->List Int->List Int->US->Prop}
theorem zR(X:bW P T F A d u Ov az)(f:dw T F A d u π=some (b,s,rs))(g:jp T F A d u π x){q:Sm.aB}{l:List Nm}(i:q.lhs=x::l)(j:q.kd=1\/q.kd=2):Sm.aI.ja (aJ T F A d u Ov az ap) π q↔(sf A x).isSome=true:=by
 obtain⟨e,k,v,c⟩:=qT X (ap:=ap) f g;have m:=c.get.2.2.1;unfold Sm.aI.ja;rw[i];constructor
 .intro h;obtain⟨o,a,n⟩:=h j;rw[c.f]at a;injection a with a
  subst a;rw[<-m];exact n
 .intro h _;exact⟨(e,k),c.f,by grind⟩
theorem CI(X:bW P T F A d u Ov az)(e:dw T F A d u π=some (b,s,rs)){r:Nat} :∀(l:List Tr),(∀w∈l,eI T A (jp T F A d u π) (A.length+1) r w.e/\xE w.e=0/\dU T A rs.rd w.e 0=[])->Sm.pd cQ (aJ T F A d u Ov az ap) π r (l.map uV) ((je T A rs.rd l).map uV)
 |[],_=>.nil
 |w::l,h=>by
  obtain⟨f,i,g⟩:=h w (asV ..);have a:=u4 X (ap:=ap) e (p:=0) f (λk _ a=>by omega);rw[g]at a;simp only[asT,je];by_cases c:cE T A rs.rd w.e 0=0
  .rw[asu (by grind)];rw[c]at a;exact .no a (CI X e l (λw a=>h w (asI _ a)))
  .rw[asB c];exact .xv a c
def J3(X:bW P T F A d u Ov az)(a:dw T F A d u π=some (b,s,rs))(c:(cP b)[j]?=some q)(e:(j7 b s)[j]?=some p)(f:p<=k)(g:k<p+(Sm.gR (dv q)+Sm.xP (dx q).ex+Sm.aR ((dx q).args.map Sm.xP))):Sm.lW (aJ T F A d u Ov az ap) (cM d) π k:=
 Sm.pU X.sp X.wf X.lg (g_ a) (lz a c) (show(eO T F A d u π).pos[j]?=some p by rw[(pW a).2];exact e) f (by rw[eM];exact g)
def GX(X:bW P T F A d u Ov az)(h:Sm.lW (aJ T F A d u Ov az ap) (cM d) π k)(a:Sm.aI.ok (aJ T F A d u Ov az ap) π):k<Sm.aI.sz (aJ T F A d u Ov az ap):=CG X a h.1
def lM{o:Option Int}(h:get A x=some (o,sb,i)):iU A x=sb/\Ay A x=i/\sf A x=o:=by unfold iU Ay sf;rw[h];exact⟨W,W,W⟩
def rQ{o:Int}(h:get A x=some (some o,sb,i)):val A x=o:=by unfold val;rw[h]
def Lx{V:Nm->Prop}(h:zy T F A Ov az V rs p q):wT A q<=A.length:=by
 cases q with
 |df x e=>
  obtain⟨_,⟨i,a,_⟩|⟨i,a⟩⟩:=h
  .have:=ub a;show iU A x<=_;rw[(lM a).1];omega
  .have:=ub a;show iU A x<=_;rw[(lM a).1];omega
 |call x y f c b l e=>
  obtain⟨_,_,_,d,i,g,j,k,_,a,_⟩:=h;have:=ub a;show iU A x<=_;rw[(lM a).1];omega
 |sw e a=>rw[rP (by simp[dv])];exact(nP _ _).1
 |aN a=>rw[rP (by simp[dv])];exact(nP _ _).1
 |reset e b=>rw[rP (by simp[dv])];exact(nP _ _).1
def FH{V:Nm->Prop}{t:Nat}(h:eI T A V (A.length+1) t e)(a:dv q=3\/dv q=4\/dv q=5)(ht:t<=A.length)(b:∀x∈dQ q,V x/\t<=iU A x):eI T A V (A.length+1) (wT A q) e:=by
 have c:t<=wT A q:=by rw[rP a];exact(nP _ _).2.2 t ht (λx a=>(b x a).2)
 have:=eI.app [] h (asj _) c;rw[asL]at this;exact this
theorem J4(L:M5 P step Ov az){V:Nm->Prop}{y f:Nm}{a b:E}{c:Bool}(h:zy T F A Ov az V rs p (.call x y f a b c e)):∃j,f=nm 102 j/\Sm.fG P.nodes f=some j/\Ov j ((if c=true/\cE T A rs.rd e (p+1)≠0 then none else rs.rs p).getD (az j)) [cE T A rs.rd a (p+1+xE e),cE T A rs.rd b (p+1+xE e+xE a)] [val A x,val A y] (xr T A Ov az rs p (.call x y f a b c e))/\∀u,rs.rs p=some u->u.i=j:=by
 obtain⟨_,_,_,j,t,v,w,i,d,m,n,_,_,_,k,o⟩:=h;have q:GM T A Ov az rs p (.call x y f a b c e) i:=by
  refine⟨j,d,?_⟩;rw[rQ m,rQ n];exact k
 have g:∃d,GM T A Ov az rs p (.call x y f a b c e) d:=⟨i,q⟩;have z:xr T A Ov az rs p (.call x y f a b c e)=Classical.choose g:=by unfold xr;rw[auW g]
 obtain⟨r,l,B⟩:=atO g;have s:j=r:=by rw[d]at l;exact(iC l).2
 subst s;exact⟨j,d,by rw[d];exact(L.st _ _ _ _ _ k).2,by grind,o⟩
def zS(h:kz T F A d u π j=some (q,p,rs)):Sm.aI.outs (aJ T F A d u Ov az ap) π j=GK A q/\Sm.aI.iF (aJ T F A d u Ov az ap) π j=xr T A Ov az rs p q/\Sm.aI.k7 (aJ T F A d u Ov az ap) π j=D2 T F A rs p q/\Sm.aI.nan (aJ T F A d u Ov az ap) π j=Lu T F A rs p q:=by
 refine⟨?_,?_,?_,?_⟩
 .show(match kz T F A d u π j with|some (q,p,rs)=>GK A q|none=>[])=_;rw[h]
 .show(match kz T F A d u π j with|some (q,p,rs)=>xr T A Ov az rs p q|none=>az 0)=_;rw[h]
 .show(match kz T F A d u π j with|some (q,p,rs)=>D2 T F A rs p q|none=>0)=_;rw[h]
 .show(match kz T F A d u π j with|some (q,p,rs)=>Lu T F A rs p q|none=>false)=_;rw[h]
def wQ:aB->Nat
 |.df _ e=>xE e
 |.call _ _ _ a b _ e=>1+xE e+(xE a+xE b)
 |.sw e _=>xE e
 |.aN _=>1
 |.reset e _=>xE e
def FI(q:aB):Sm.gR (dv q)+Sm.xP (dx q).ex+Sm.aR ((dx q).args.map Sm.xP)=wQ q:=by
 cases q with
 |df x e=>show 0+xE e+0=xE e;omega
 |call x y f a b c e=>show 1+xE e+(xE a+(xE b+0))=_;rfl
 |sw e a=>show 0+xE e+0=xE e;omega
 |aN a=>rfl
 |reset e b=>show 0+xE e+0=xE e;omega
def Oi(X:bW P T F A d u Ov az)(L:M5 P step Ov az)(f:dw T F A d u π=some (b,s,rs))(n:(cP b)[j]?=some q)(o:(j7 b s)[j]?=some p):Sm.KU P step (aJ T F A d u Ov az ap) π j (dx q) p/\Sm.aI.ek (aJ T F A d u Ov az ap) π j<Sm.aI.dX (aJ T F A d u Ov az ap):=by
 obtain⟨d8,g1,g2,g3,g4,g5⟩:=fM X.hL X.hU X.hS f;obtain⟨h,_⟩:=(oI g1).2.2.1 j q p n o;rw[funext λx=>propext (g4 x)]at h;have l:=v5 f n o;have m:=Bq (Ov:=Ov) (az:=az) (ap:=ap) l;have k:=Mf (Ov:=Ov) (az:=az) (ap:=ap) l;have r:=GU (Ov:=Ov) (az:=az) (ap:=ap) l;have v:=uZ (Ov:=Ov) (az:=az) (ap:=ap) l;have H:=GO (Ov:=Ov) (az:=az) (ap:=ap) l;have G:Sm.aI.ok (aJ T F A d u Ov az ap) π:=g_ f;have w:∀k,p<=k->k<p+wQ q->Sm.lW (aJ T F A d u Ov az ap) (cM d) π k:= λk a c=>J3 X f n o a (by rw[FI];exact c)
 have I:dv q=3\/dv q=4\/dv q=5->∀a,(cB q)[fC T A rs p q]?=some a->Sm.pf (aJ T F A d u Ov az ap) π j (dx q) p (oF a):= λg t i=>by
  obtain⟨x,c⟩:=(X.lg (ap:=ap)).br π j (dx q) p G (lz (Ov:=Ov) (az:=az) (ap:=ap) f n) (by show(eO T F A d u π).pos[j]?=some p;rw[(pW f).2];exact o) (by rw[eM];exact g);have a:=c.ha;rw[v,mW,asF,i]at a;injection a with a
  rw[a];exact c
 refine⟨?_,by rw[m];have:=Lx h;show _<A.length+1;omega⟩;rw[show P=P from rfl];have i:=X.en;cases q with
 |df x e=>
  refine .df W x W λy=>?_
  rw[m,k,r,i];have g:=(zR X f h.1 W (.inl W)).1 y;obtain⟨_,⟨c,a,t⟩|⟨c,a⟩⟩:=h
  .have:wT A (.df x e)=c:=(lM a).1;rw[this];exact u4 X f t (λk a c=>w k a c)
  .rw[(lM a).2.2]at g;cases g
 |call y z B a b c e=>
  obtain⟨C,Z,M,N,O⟩:=J4 L h;obtain⟨hx,hy,ac,j',x,ox,oy,u',PC,Q,k2,R,S,U,_,_⟩:=h;have t:∀k,p<=k->k<p+(1+xE e+(xE a+xE b))->Sm.lW (aJ T F A d u Ov az ap) (cM d) π k:= λk a c=>w k a c
  have D:=t p (asj _) (by omega);have J:=(v8 X f (τ:=[]) W D).2.2;have E:wT A (.call y z B a b c e)=x:=(lM Q).1;obtain⟨K,Y,_⟩:=zS (Ov:=Ov) (az:=az) (ap:=ap) l;refine .call W (GX X D G) C M (if c then dU T A rs.rd e (p+1)else []) (dU T A rs.rd a (p+1+xE e)++(dU T A rs.rd b (p+1+xE e+xE a)++[])) [cE T A rs.rd a (p+1+xE e),cE T A rs.rd b (p+1+xE e+xE a)] (λ_=>?_) (λ_=>?_) (by rw[r];rfl) (λ_=>?_) (λ_ u a=>O u (by rw[J];exact a)) (λ_=>by rw[K];exact asj 2)
  .rw[m,k,i,E];cases c with
   |false=>exact⟨W,W⟩
   |true=>exact u4 X f (R W) (λk a a=>t k (by omega) (by omega))
  .rw[m,i,E];show Sm.vy cQ (aJ T F A d u Ov az ap) π x [cx a,cx b] (p+1+xE e) _ _;refine .cons (u4 X f S (λk a a=>t k (by omega) (by omega))) (.cons ?_ .nil);show Sm.gI cQ (aJ T F A d u Ov az ap) π x (cx b) (p+1+xE e+xE a) _ _;exact u4 X f U (λk a a=>t k (by omega) (by omega))
  .rw[k,K,Y,<-J,<-L.az C];have V:(if Lt T A rs p (.call y z B a b c e)=0 then rs.rs p else none)=(if c=true/\cE T A rs.rd e (p+1)≠0 then none else rs.rs p):=by
    show(if(if c then cE T A rs.rd e (p+1)else 0)=0 then _ else _)=_;cases c with
    |false=>simp
    |true=>
     simp only[auz];by_cases g:cE T A rs.rd e (p+1)=0
     .rw[asB g,asu (by simpa using g)]
     .rw[asu g,asB ⟨trivial,g⟩]
   rw[V];exact(L.st _ _ _ _ _ N).1
 |sw e D=>
  obtain⟨M,c,C,z,B,E,J,K,N⟩:=h;refine .sw W ?_ (oF c) (I (.inl W) c E) ?_ (λx b y a=>?_) H
  .rw[m,k,r,i];exact u4 X f (FH z (.inl W) C B) (λk a c=>w k a c)
  .rw[k,i];have:(oF c).name=jW c:=by cases c;rfl
   rw[this];exact J
  .rw[v]at y;rw[mW,asF]at a;cases t:(cB (.sw e D))[x]? with
   |none=>rw[t]at a;cases a
   |some g=>
    rw[t]at a;injection a with a
    subst a;rw[k,i];have:(oF g).name=jW g:=by cases g;rfl
    rw[this];exact K x g y t
 |aN a=>
  obtain⟨t,c,g,ht,h0,N,B,h3,y,Q,h6⟩:=h;have O:=w p (asj _) (by show p<p+1;omega);obtain⟨r1,r2,r3⟩:=v8 X f (τ:=[]) W O;have ac:((a[(rs.rd p).toNat]?).map jF).getD []=jF g:=by rw[N];rfl
  have hK:fC T A rs p (.aN a)=match je T A rs.rd (jF g)with|none=>(rs.rd p).toNat|some t=>rN a t.to:=by
   show(match je T A rs.rd (((a[(rs.rd p).toNat]?).map jF).getD [])with|none=>(rs.rd p).toNat|some t=>rN a t.to)=_;rw[ac]
  have hN:Aw T A rs p (.aN a)=match je T A rs.rd (jF g)with|none=>rs.rp p|some t=> !t.fF:=by
   show(match je T A rs.rd (((a[(rs.rd p).toNat]?).map jF).getD [])with|none=>rs.rp p|some t=> !t.fF)=_;rw[ac]
  have R:=xM f n o (show(cB (.aN a))[fC T A rs p (.aN a)]?=some c from y);have Q5:(oF g).fm=(jF g).map uV:=by cases g;rfl
  have d7:(oF c).fo=(kS c).map uV:=by cases c;rfl
  have J:(dx (.aN a)).aj=eG a:=rfl;obtain⟨_,_,C,D⟩:=zS (Ov:=Ov) (az:=az) (ap:=ap) l;have S:vZ T F A rs p (.aN a)=je T A (oG T F A rs p (.aN a) c).rd (kS c):=by
   show(match a[fC T A rs p (.aN a)]? with|some c=>je T A (oG T F A rs p (.aN a) c).rd (kS c)|none=>none)=_;rw[y]
  have ah:Sm.pd P.aG (aJ T F A d u Ov az ap) π (Sm.aI.ek (aJ T F A d u Ov az ap) π j) (oF g).fm ((je T A rs.rd (jF g)).map uV):=by
   rw[Q5,m,i];exact CI X f _ (λw a=>⟨FH (B w a).1 (.inr (.inl W)) ht h3,(B w a).2.1,(B w a).2.2.1⟩)
  have U:∀w,je T A rs.rd (jF g)=some w->∃k,Sm.mP (eG a) w.to=some k/\k=rN a w.to:= λw a=>(B w (tw a)).2.2.2
  have V:∀w,je T A (oG T F A rs p (.aN a) c).rd (kS c)=some w->∃k,Sm.mP (eG a) w.to=some k/\k=rN a w.to:= λw a=>(Q w (tw a)).2.2.2
  have co:Sm.pd P.aG (aJ T F A d u Ov az ap) (j::π) (Sm.aI.dX (aJ T F A d u Ov az ap)) (oF c).fo ((je T A (oG T F A rs p (.aN a) c).rd (kS c)).map uV):=by
   rw[d7,i];refine CI X R _ (λd6 hw=>?_);obtain⟨w1,w2,w3,_⟩:=Q d6 hw;refine⟨eI.sn (λd9 hx=>?_) w1,w2,w3⟩;unfold jp;rcases hx with E|E
   .exact .inl E
   .exact .inr ⟨_,_,_,R,E⟩
  have hl:fC T A rs p (.aN a)<a.length:=by
   rcases asp (fC T A rs p (.aN a)) a.length with E|E
   .exact E
   .rw[asr E]at y;cases y
  have x:D2 T F A rs p (.aN a)=match je T A (oG T F A rs p (.aN a) c).rd (kS c)with|none=>fC T A rs p (.aN a)|some t=>rN a t.to:=by
   show(match vZ T F A rs p (.aN a)with|none=>(if fC T A rs p (.aN a)<a.length then fC T A rs p (.aN a)else 0)|some t=>rN a t.to)=_;rw[S,asB hl]
  have z:Lu T F A rs p (.aN a)=match je T A (oG T F A rs p (.aN a) c).rd (kS c)with|none=>false|some t=> !t.fF:=by
   show(match vZ T F A rs p (.aN a)with|none=>_|some t=>_)=_;rw[S]
  rw[x]at C;rw[z]at D;have K:=v.trans hK;have M:=H.trans hN;generalize je T A (oG T F A rs p (.aN a) c).rd (kS c)=Y at co V C D;generalize je T A rs.rd (jF g)=Z at ah U K M;refine .aN W (GX X O G) (rs.rd p).toNat (oF g) (by rw[<-r1];omega) ?_ (Z.map uV) ah ?_ (oF c) (I (.inr (.inl W)) c y) (Y.map uV) co ?_ r
  .rw[J,oS,asF,N];rfl
  .cases Z with
   |none=>exact⟨K,by rw[M,<-r2]⟩
   |some E=>
    obtain⟨d6,x,z⟩:=U E W;refine⟨?_,M⟩;rw[J,K];show Sm.mP (eG a) E.to=_;rw[x,z]
  .cases Y with
   |none=>exact⟨by rw[C,v],D⟩
   |some E=>
    obtain⟨d6,x,z⟩:=V E W;refine⟨?_,D⟩;rw[J,C];show Sm.mP (eG a) E.to=_;rw[x,z]
 |reset e t=>
  obtain⟨x,g,a,c,y⟩:=h;refine .reset W ?_ (oF (.mk e0 t [] [])) (I (.inr (.inr W)) _ W) v ?_
  .rw[m,k,r,i];exact u4 X f (FH a (.inr (.inr W)) g c) (λk a c=>w k a c)
  .rw[H,k];rfl
end
end Go.Ex
namespace Go.Ex
open Go.Mt Go.Mk
open Go.Sm (Path US)
variable{π ρ:Path}{b:bF}{s k j:Nat}{rs:Rs}{v:Va}{x:Nm}{q:aB}
section
variable{P:Sm.Pg}{T:fB}{F:List (Option Int)}{A:Env}{d:Nd}{u:US}{Ov:Nat->US->List Int->List Int->US->Prop}{az:Nat->US}{ap:List Sm.It}{step:US->List Int->List Int->US->Prop}
def zT(c:dw T F A d u π=some (b,s,rs))(a:(pI T F A d u π)[k]?=some v):jp T F A d u π v.name:=by
 rw[ly c]at a;cases π with
 |nil=>
  obtain⟨rfl,_⟩:=qU c;unfold jp;exact⟨v,asn a,W⟩
 |cons j π=>
  rw[asu (by simp)]at a;unfold jp;exact .inr ⟨b,s,rs,c,v,asn a,W⟩
def J5(X:bW P T F A d u Ov az)(w:jp T F A d u ρ x){r:Option (Path×Nat)} :∀{τ:Path} {b:bF} {s:Nat} {rs:Rs},dw T F A d u (τ++ρ)=some (b,s,rs)->∀{j:Nat} {q:aB},(cP b)[j]?=some q->x∈dQ q->Sm.Src (aJ T F A d u Ov az ap) (iU A x) (τ++ρ) j x r->
  ∃a f g c q0,dw T F A d u ρ=some (a,f,g)/\(cP a)[c]?=some q0/\x∈dQ q0/\Sm.Src (aJ T F A d u Ov az ap) (iU A x) ρ c x r:=by
 intro τ
 induction τ with
 |nil=>intro b s rs a j q c f g;exact⟨b,s,rs,j,q,a,c,f,g⟩
 |cons p τ B=>
  intro b s rs y j q i k z;have a:dw T F A d u (p::(τ++ρ))=some (b,s,rs):=y;obtain⟨M,N,O,q0,Q,c,l,m,C,f,D,E⟩:=kO a;have g:=(ato D).1;have n:=zJ f;have o:=mV.2 ⟨⟨q,g▸asn i,k⟩,λv c e=>zP X a v (g▸c) (by rw[e];exact CH X w τ)⟩;have t:x∈dQ q0:=by
   rw[eh];cases q0 with
   |df h e=>simp[dv]at n
   |call h K L c b S e=>simp[dv]at n
   |sw e h=>exact⟨c,asn f,o⟩
   |aN h=>exact⟨c,asn f,o⟩
   |reset e b=>exact⟨c,asn f,o⟩
  refine B l m t (.br (lz l m) (by rw[eM];exact n) ?_ (lz a i) k (λG H R I J=>?_) z)
  .rw[Bq E];exact FG X l m C t
  .obtain⟨L,S,U,V,Y,h,K,Z,rfl,f5,f6⟩:=kA (show(eO T F A d u (p::(τ++ρ))).aq[G]?=some H from I);rw[a]at h;injection h with h
   have g:=(ato h).1;subst g;have:=uo X a K i J k;omega
def Ly(X:bW P T F A d u Ov az)(a:dw T F A d u π=some (b,s,rs))(c:(cP b)[j]?=some q)(f:x∈dQ q)(hf:D4 T F A d u (aJ T F A d u Ov az ap) π x ρ k v):ρ=[]->d.ins.length<=k:=by
 intro e;subst e;rcases asp k d.ins.length with h|h
 .exfalso;obtain⟨τ,e⟩:=hf.s;obtain⟨t,w,G,m⟩:=zL X a ⟨τ,e⟩;have g:=zT m hf.vv;rw[hf.n]at g;obtain⟨y,n,_⟩:=GW X (ap:=ap) a c f;obtain⟨z,B,C,D,o,i,p,r,E⟩:=J5 X (τ:=τ) g (by rw[<-e];exact a) c f (by rw[<-e];exact n);obtain⟨rfl,_⟩:=qU i;have l:=hf.vv;rw[ly i,asB W,asM,asl h]at l;exact X.ni v (asn l) o (asn p) (by rw[hf.n];exact r)
 .exact h
def xO(X:bW P T F A d u Ov az)(c:dw T F A d u π=some (b,s,rs))(f:(cP b)[j]?=some q)(l:dv q=1\/dv q=2)(g:x∈dQ q):
  ∃ρ k v,D4 T F A d u (aJ T F A d u Ov az ap) π x ρ k v/\∃a,Sm.ic (Sm.aI.fr (aJ T F A d u Ov az ap) ρ) k (d_ v) a/\(Sm.aI.fr (aJ T F A d u Ov az ap) ρ).vars[k]?=some (d_ v)/\Sm.Src (aJ T F A d u Ov az ap) (Sm.aI.sb (aJ T F A d u Ov az ap) ρ k) ρ a x (some (π,j))/\(ρ=[]->d.ins.length<=k):=by
 obtain⟨y,h⟩:=mY (s:=s) f;obtain⟨ρ,k,v,a⟩:=qT X (ap:=ap) c (xN X c f g);refine⟨ρ,k,v,a,?_⟩;obtain⟨τ,e⟩:=a.s;obtain⟨z,B,H,n⟩:=zL X c ⟨τ,e⟩;have i:=zT n a.vv;rw[a.n]at i;have o:Sm.Src (aJ T F A d u Ov az ap) (iU A x) π j x (some (π,j)):=.leaf (lz c f) (by rw[eM];exact l) (by rw[Bq (v5 c f h)];exact FG X c f h g);obtain⟨C,D,E,m,G,p,r,t,w⟩:=J5 X (τ:=τ) i (by rw[<-e];exact c) f g (by rw[<-e];exact o);refine⟨m,zQ X p a.vv r (by rw[a.n];exact t),?_,?_,Ly X c f g a⟩
 .show(eO T F A d u ρ).vars[k]?=_;rw[nO,asF,a.vv];rfl
 .rw[a.get.2.2.2];exact w
def M6(X:bW P T F A d u Ov az)(c:dw T F A d u π=some (b,s,rs))(h:(pI T F A d u π)[k]?=some v){x:Option Nat}(Q:(Sm.aI.fr (aJ T F A d u Ov az ap) π).cK[k]?=some x)(hi:π=[]->d.ins.length<=k):Sm.Cc P (aJ T F A d u Ov az ap) π k (d_ v) x:=by
 have j:=J1 (ap:=ap) X c h;have M:=oT X (ap:=ap) c h;obtain⟨g1,z,B,p⟩:=M.get;obtain⟨w,sb,ac,l,R,m⟩:=j.d hi;obtain⟨C,D,E⟩:=lM l;refine⟨?_,?_,?_,λn o=>?_⟩
 .rw[p,C,B,E,X.en];show Sm.yR cQ (aJ T F A d u Ov az ap) π sb (Fu v.clock) w.isSome;cases r:v.clock with
  |none=>
   rw[r]at m;rw[m];exact .nil
  |some f=>
   obtain⟨S,J⟩:=f;rw[r]at m;obtain⟨K,L,q,t⟩:=m;obtain⟨i,f,O,a⟩:=qT X (ap:=ap) c K;obtain⟨U,N,y,V⟩:=a.get;have G:Sm.aI.c9 cQ (aJ T F A d u Ov az ap) (i,f)=[cg,bz,cX]:=zM a.vv (by rw[<-(a.fx X c).ty,a.n];exact L);have H:Sm.aI.jE (aJ T F A d u Ov az ap) (i,f)<sb:=by rw[N];exact q.ix
   cases I:w.isSome with
   |false=>
    refine .no a.f H (λn o=>?_);have g:=o;rw[y,q.vv]at g;injection g with g
    rw[G,<-g];intro e;have:=t.2 e;rw[I]at this;cases this
   |true=>
    refine .xv a.f H (n:=val A J) (by show Sm.aI.val (aJ T F A d u Ov az ap) i f=_;rw[y,q.vv]) (by rw[G];exact t.1 I) .nil
 .rw[p,C];have:Sm.aI.rk (aJ T F A d u Ov az ap) π k=Ay A v.name:=z;rw[this,D];exact R
 .have:Sm.aI.rk (aJ T F A d u Ov az ap) π k=Ay A v.name:=z;rw[this,D];have:=ub l;show _<A.length+1;omega
 .obtain⟨O,ah,q,G⟩:=NM X c h hi;obtain⟨co,PM⟩:=mY (s:=s) q;obtain⟨H,S,N⟩:=GW X (ap:=ap) c q G;refine⟨O,H,zQ X c h q G,by rw[p];exact S,?_⟩;rw[B,E]at o;subst o;cases H with
  |none=>
   obtain⟨i,r,a⟩:=N;have g:v.last=true:=by rw[<-j.ls];exact i
   have f:=(j.lp g).1;rw[Q]at f;injection f with f
   refine⟨T.lp v.name,f,(Sm.kL X.sp X.wf X.lg (g_ c) (j.lp g).1).2,?_⟩;rw[l]at a;injection a with a
   injection a with a _
   injection a
  |some y=>
   obtain⟨OF,I⟩:=y;obtain⟨⟨τ,e⟩,J,d8,Q_,r,K,f,i,t,k4,L⟩:=N;refine⟨?_,dx r,lz f i,λa=>?_,λa=>?_⟩
   .subst e;exact(J0 X (ap:=ap) (zT c h) f).trans M.f
   .have V:=Mf (Ov:=Ov) (az:=az) (ap:=ap) (v5 f i t);cases r with
    |df y e'=>
     have Y:=eh.1 L;subst Y;refine⟨W,?_⟩;rw[V];obtain⟨d6,Z,_⟩:=fM X.hL X.hU X.hS f;obtain⟨⟨_,⟨U,g,_⟩|⟨U,g⟩⟩,_⟩:=(oI Z).2.2.1 I _ K i t
     .rw[l]at g;injection g with g
      injection g with g _
      injection g
     .grind
    |call y g U Y b d6 Z=>rw[eM]at a;simp[dv]at a
    |sw g U=>rw[eM]at a;simp[dv]at a
    |aN g=>rw[eM]at a;simp[dv]at a
    |reset g J=>rw[eM]at a;simp[dv]at a
   .cases r with
    |df y g=>rw[eM]at a;simp[dv]at a
    |call y g d6 d7 b d9 e'=>
     have Y:=eh.1 L;refine⟨by show v.name∈[y,g];simpa using Y,?_⟩;obtain⟨Z,U,_⟩:=fM X.hL X.hU X.hS f;obtain⟨⟨m0,_,_,jj,ii,ox,oy,u',_,V,m2,_⟩,_⟩:=(oI U).2.2.1 I _ K i t;refine(zR X f (xN X f i (eh.2 (.inl W))) W (.inr W)).2 ?_;rw[(lM V).2.2];rfl
    |sw g U=>rw[eM]at a;simp[dv]at a
    |aN g=>rw[eM]at a;simp[dv]at a
    |reset g J=>rw[eM]at a;simp[dv]at a
end
end Go.Ex
namespace Go.Ex
open Go.Mt Go.Mk
open Go.Sm (Path US)
variable{k p s i j:Nat}{v v':Int}{π:Path}{rs:Rs}{q:aB}{b:Sm.bF}
def nQ:∀{l:List Sm.Va} {a i c k:Nat},(Sm.b_ l a)[i]?=some (some k)->(Sm.b_ l a)[c]?=some (some k)->i=c
 |[],a,i,c,k,h,_=>by simp[Sm.b_]at h
 |v::l,a,i,c,k,h,b=>by
  unfold Sm.b_ at h b;split at h
  .rename_i d;rw[asB d]at b;cases i with
   |zero=>
    simp at h;cases c with
    |zero=>rfl
    |succ c=>simp at b;have:=Sm.fQ b;omega
   |succ i=>
    simp at h;cases c with
    |zero=>simp at b;have:=Sm.fQ h;omega
    |succ c=>simp at b;rw[nQ h b]
  .rename_i d;rw[asu d]at b;cases i with
   |zero=>simp at h
   |succ i=>
    simp at h;cases c with
    |zero=>simp at b
    |succ c=>simp at b;rw[nQ h b]
section
variable{T:fB}{A:Env}{rd:Nat->Int}
def fS:∀{e:E} {p k:Nat} {v:Int},(k,v)∈dU T A rd e p->p<=k/\k<p+xE e:=by
 have a:∀d a,xE (.un d a)=xE a:= λa a=>by simp[xE,cx,Sm.xP,Sm.dS,Sm.dh]
 have d:∀d a b,xE (.bin d a b)=xE a+xE b:= λa a b=>by simp[xE,cx,Sm.xP,Sm.dS,Sm.dh]
 have f:∀c a b,xE (.ite c a b)=xE c+xE a+xE b:= λc a b=>by simp[xE,cx,Sm.xP,Sm.dS,Sm.dh];omega
 have i:∀c y,xE (.fO c y)=1+xE c+xE y:= λc y=>by simp[xE,cx,Sm.xP,Sm.dS,Sm.dh];omega
 have j:∀y,xE (.pre y)=1+xE y:= λy=>by simp[xE,cx,Sm.xP,Sm.dS,Sm.dh]
 have l:∀a b,xE (.arrow a b)=1+xE a+xE b:= λa b=>by simp[xE,cx,Sm.xP,Sm.dS,Sm.dh];omega
 have m:∀x c a,xE (.fq x c a)=xE a:= λx c a=>by simp[xE,cx,Sm.xP,Sm.dS,Sm.dh]
 have n:∀x d f g a b c,xE (.merge x d f g a b c)=xE a+xE b+xE c:= λx a a a a b c=>by simp[xE,cx,Sm.xP,Sm.dS,Sm.dh];omega
 intro e
 induction e with
 |nil=>intro p k v h;cases h
 |int g=>intro p k v h;cases h
 |bool g=>intro p k v h;cases h
 |ctor g=>intro p k v h;cases h
 |var g=>intro p k v h;cases h
 |last g=>intro p k v h;cases h
 |un q o g=>intro p k v h;have:=g h;rw[a];exact this
 |bin q o b r s=>
  intro p k v h;rw[d];rcases ast.1 h with g|g
  .grind
  .grind
 |ite c o b s q r=>
  intro p k v h;rw[f];rcases ast.1 h with g|g
  .grind
  .grind
 |fO c y o q=>
  intro p k v h;rw[i];rcases asQ.1 h with g|g
  .grind
  .grind
 |pre y o=>
  intro p k v h;rw[j];rcases asQ.1 h with g|g
  .grind
  .grind
 |arrow o b q r=>
  intro p k v h;rw[l];rcases asQ.1 h with g|g
  .grind
  .grind
 |fq x c o g=>intro p k v h;have:=g h;rw[m];exact this
 |merge x o q r g b c s t u=>
  intro p k v h;rw[n];simp only[dU]at h;split at h
  .grind
  .grind
def v9:∀{e:E} {p k:Nat} {v a:Int},(k,v)∈dU T A rd e p->(k,a)∈dU T A rd e p->v=a:=by
 intro e
 induction e with
 |nil=>intro p k v a h;cases h
 |int n=>intro p k v a h;cases h
 |bool n=>intro p k v a h;cases h
 |ctor n=>intro p k v a h;cases h
 |var n=>intro p k v a h;cases h
 |last n=>intro p k v a h;cases h
 |un i f a=>intro p k v g h d;exact a h d
 |bin j f b l m=>
  intro p k v i h d;rcases ast.1 h with g|g<;>rcases ast.1 d with a|a
  .grind
  .have:=fS g;have:=fS a;omega
  .have:=fS g;have:=fS a;omega
  .grind
 |ite c l b j f i=>
  intro p k v m h d;simp only[dU,ast]at h d;rcases h with(g|g)|g<;>rcases d with(a|a)|a<;>first
   |exact j g a
   |exact f g a
   |exact i g a
   |(have:=fS g;have:=fS a;omega)
 |fO c y i j=>
  intro p k v f h d;rcases asQ.1 h with g|g<;>rcases asQ.1 d with a|a
  .grind
  .injection g with l m;have:=fS a;omega
  .injection a with l m;have:=fS g;omega
  .grind
 |pre y i=>
  intro p k v f h d;rcases asQ.1 h with g|g<;>rcases asQ.1 d with a|a
  .grind
  .injection g with j l;have:=fS a;omega
  .injection a with j l;have:=fS g;omega
  .grind
 |arrow f b j l=>
  intro p k v i h d;simp only[dU,asQ,ast]at h d;rcases h with g|g|g<;>rcases d with a|a|a
  .grind
  .injection g with m n;have:=fS a;omega
  .injection g with m n;have:=fS a;omega
  .injection a with m n;have:=fS g;omega
  .grind
  .have:=fS g;have:=fS a;omega
  .injection a with m n;have:=fS g;omega
  .have:=fS g;have:=fS a;omega
  .grind
 |fq x c f a=>intro p k v g h d;exact a h d
 |merge x l m n d b c g i j=>
  intro p k v f h a;simp only[dU]at h a;split at h
  .grind
  .grind
def xQ(h:(k,v)∈ud T A rs p q):p<=k/\k<p+wQ q:=by
 cases q with
 |df x e=>exact fS h
 |call x y f c b a e=>
  simp only[ud,asL]at h;simp only[wQ];rcases ast.1 h with g|g
  .cases a with
   |false=>cases g
   |true=>have:=fS g;omega
  .rcases ast.1 g with g|g
   .have:=fS g;omega
   .have:=fS g;omega
 |sw e a=>exact fS h
 |aN a=>cases h
 |reset e b=>exact fS h
def J6(h:(k,v)∈ud T A rs p q)(a:(k,v')∈ud T A rs p q):v=v':=by
 cases q with
 |df x e=>exact v9 h a
 |call x y f i b d e=>
  simp only[ud,asL,ast]at h a;cases d with
  |false=>
   simp at h a;rcases h with g|g<;>rcases a with c|c<;>first
    |exact v9 g c
    |(have:=fS g;have:=fS c;omega)
  |true=>
   simp at h a;rcases h with g|g|g<;>rcases a with c|c|c<;>first
    |exact v9 g c
    |(have:=fS g;have:=fS c;omega)
 |sw e c=>exact v9 h a
 |aN c=>cases h
 |reset e b=>exact v9 h a
end
section
variable{P:Sm.Pg}{T:fB}{F:List (Option Int)}{A:Env}{d:Nd}{u:US}{Ov:Nat->US->List Int->List Int->US->Prop}{az:Nat->US}{ap:List Sm.It}{step:US->List Int->List Int->US->Prop}
theorem last_pos(X:bW P T F A d u Ov az)(c:Sm.Fp (aJ T F A d u Ov az ap) (cM d) π b s)(a:(Sm.aI.fr (aJ T F A d u Ov az ap) π).cK[i]?=some (some k)):(s<=k/\k<s+Sm.aS b.vars)\/s+Sm.bP b<=k:=by
 by_cases e:π=[]
 .obtain⟨f,g⟩:=c.t e;subst e;rw[(X.lg (ap:=ap)).qc]at a;simp only[Sm.sV]at a;have h:(List.replicate (cM d).ins.length (none:Option Nat)).length=(cM d).ins.length:=by simp
  rcases asp i (cM d).ins.length with j|j
  .grind
  .rcases asp i ((cM d).ins.length+(cM d).outs.length)with l|l
   .rw[asM,ass (by grind),h,asl (by rw[Sm.eL];omega)]at a;have:=Sm.fQ a;rw[f,g];exact .inr (by omega)
   .rw[ass (by simp[Sm.eL];omega)]at a;have:=Sm.fQ a;rw[f,g];exact .inl (by omega)
 .rw[c.f e]at a;have:=Sm.fQ a;exact .inl (by omega)
theorem Io(X:bW P T F A d u Ov az)(g:Sm.Fp (aJ T F A d u Ov az ap) (cM d) π b s){j:Nat}(h:(Sm.aI.fr (aJ T F A d u Ov az ap) π).cK[i]?=some (some k))(a:(Sm.aI.fr (aJ T F A d u Ov az ap) π).cK[j]?=some (some k)):i=j:=by
 by_cases e:π=[]
 .obtain⟨q,r⟩:=g.t e;subst e;rw[(X.lg (ap:=ap)).qc]at h a;simp only[Sm.sV]at h a;have t:(Sm.b_ (cM d).outs (Sm.bP (cM d).b)).length=(cM d).outs.length:=Sm.eL _ _;have v:=Sm.qb (cM d).b;have n:∀{i:Nat},(List.replicate (cM d).ins.length none++Sm.b_ (cM d).outs (Sm.bP (cM d).b)++Sm.b_ (cM d).b.vars 0)[i]?=some (some k)->
    ((cM d).ins.length<=i/\i<(cM d).ins.length+(cM d).outs.length/\(Sm.b_ (cM d).outs (Sm.bP (cM d).b))[i-(cM d).ins.length]?=some (some k))\/((cM d).ins.length+(cM d).outs.length<=i/\(Sm.b_ (cM d).b.vars 0)[i-((cM d).ins.length+(cM d).outs.length)]?=some (some k)):=by
   grind
  rcases n h with⟨o,c,l⟩|⟨o,c⟩<;>rcases n a with⟨p,f,m⟩|⟨p,f⟩
  .have:=nQ l m;omega
  .have:=Sm.fQ l;have:=Sm.fQ f;omega
  .have:=Sm.fQ c;have:=Sm.fQ m;omega
  .have:=nQ c f;omega
 .rw[g.f e]at h a;exact nQ h a
def pX(X:bW P T F A d u Ov az){b:bF}(a:dw T F A d u π=some (b,s,rs))(i:(cP b)[j]?=some q)(f:(j7 b s)[j]?=some p)(n:p<=k)(o:k<p+wQ q):Sm.lW (aJ T F A d u Ov az ap) (cM d) π k/\(∀{b':Sm.bF} {a:Nat},Sm.Fp (aJ T F A d u Ov az ap) (cM d) π b' a->a+Sm.aS b'.vars<=k/\k<a+Sm.bP b')/\
  ∀{j':Nat} {q':aB} {a:Nat},(cP b)[j']?=some q'->(j7 b s)[j']?=some a->a<=k->k<a+wQ q'->j'=j:=by
 have c:∀{j p:Nat},(j7 b s)[j]?=some p->(Sm.aI.fr (aJ T F A d u Ov az ap) π).pos[j]?=some p:= λ{j p} h=>by show(eO T F A d u π).pos[j]?=some p;rw[(pW a).2];exact h
 have l:∀q,wQ q<=Sm.qP (dx q):= λq=>by
  have:=Sm.jk (dx q);have h:=FI q;rw[<-eM]at h;omega
 have w:=l q;refine⟨J3 X a i f n (by rw[FI];exact o),λ{b' r} g=>?_,λ{j' q' v} t m x y=>?_⟩
 .have:=Sm.rK g (lz a i) (c f);omega
 .obtain⟨b',r,g⟩:=Sm.shape X.sp X.wf X.lg π (g_ a);have z:=l q';rcases atz j j' with e|e|e
  .have:=Sm.nq g (lz a i) (c f) (c m) e;omega
  .exact e.symm
  .have:=Sm.nq g (lz a t) (c m) (c f) e;omega
inductive Wr(T:fB)(F:List (Option Int))(A:Env)(d:Nd)(u:US)(c:Sm.aI)(k:Nat)(v:Int):Prop where
 |ew (π:Path) (j:Nat) (b:bF) (s:Nat) (rs:Rs) (q:aB) (p:Nat) (a:dw T F A d u π=some (b,s,rs)) (e:(cP b)[j]?=some q) (f:(j7 b s)[j]?=some p) (g:c.ja π (dx q)) (h:(k,v)∈ud T A rs p q)
 |last (π:Path) (i:Nat) (b:bF) (s:Nat) (rs:Rs) (a:dw T F A d u π=some (b,s,rs)) (e:(c.fr π).cK[i]?=some (some k)) (f:c.val π i=some v)
 |aN (π:Path) (j:Nat) (b:bF) (s:Nat) (rs:Rs) (a:List a_) (e:dw T F A d u π=some (b,s,rs)) (f:(cP b)[j]?=some (.aN a)) (g:(j7 b s)[j]?=some k) (h:v=(D2 T F A rs k (.aN a):Nat))
def zU(h:Sm.mQ (aJ T F A d u Ov az ap) k v):Wr T F A d u (aJ T F A d u Ov az ap) k v:=by
 rcases h with⟨c,j,i,l,f,a,g⟩|⟨c,n,l,f,a⟩|⟨c,j,i,l,f,a,g,o⟩
 .obtain⟨b,s,m,q,p,r,t,w,rfl,y,x⟩:=kA (show(eO T F A d u c).aq[j]?=some i from f);rw[GU x]at g;exact .ew c j b s m q p r t w a g
 .obtain⟨b,s,m,p⟩:=v7 l;exact .last c n b s m p f a
 .obtain⟨b,s,r,q,p,t,w,x,rfl,y,z⟩:=kA (show(eO T F A d u c).aq[j]?=some i from f);have:p=k:=by
   have m:(eO T F A d u c).pos[j]?=some k:=g;rw[y]at m;injection m
  subst this;rw[eM]at a;cases q with
  |df m e=>simp[dv]at a
  |call m B C D b E e=>simp[dv]at a
  |sw e m=>simp[dv]at a
  |aN m=>exact .aN c j b s r m t w x (by rw[o,(zS z).2.2.1])
  |reset e b=>simp[dv]at a
def Lz(X:bW P T F A d u Ov az)(h:Sm.mQ (aJ T F A d u Ov az ap) k v)(j:Sm.mQ (aJ T F A d u Ov az ap) k v'):v=v':=by
 have c:Sm.oB P (aJ T F A d u Ov az ap) (cM d):=X.lg;have a:∀{a c:Path} {x y:bF×Nat×Rs},dw T F A d u a=some x->dw T F A d u c=some y->Sm.lW (aJ T F A d u Ov az ap) (cM d) a k->Sm.lW (aJ T F A d u Ov az ap) (cM d) c k->c=a/\y=x:= λ{m n x y} g f i l=>by
  have e:=i.same X.sp X.wf c (g_ g) (g_ f) l;subst e;rw[g]at f;injection f with f
  exact⟨W,f.symm⟩
 cases zU h with
 |ew B C b D I E G i l o J m=>
  obtain⟨w,x⟩:=xQ m;obtain⟨n,y,p⟩:=pX X (ap:=ap) i l o w x;cases zU j with
  |ew H K L M N O Q q f g R r=>
   obtain⟨s,t⟩:=xQ r;obtain⟨z,_⟩:=pX X (ap:=ap) q f g s t;obtain⟨rfl,e⟩:=a i q n z;cases e;have:=p f g s t;subst this;rw[l]at f;injection f with f;subst f
   rw[o]at g;injection g with g;subst g
   exact J6 m r
  |last s z H K L f g M=>
   obtain⟨t,_⟩:=Sm.kL X.sp X.wf c (g_ f) g;obtain⟨rfl,e⟩:=a i f n t;obtain⟨N,O,q⟩:=Sm.shape X.sp X.wf c s (g_ f);have:=y q;rcases last_pos X q g with r|r<;>omega
  |aN s t z H K M g f q L=>
   obtain⟨r,_⟩:=pX X (ap:=ap) g f q (asj k) (by show k<k+1;omega);obtain⟨rfl,e⟩:=a i g n r;cases e;have:=p f q (asj k) (by show k<k+1;omega);subst this;rw[l]at f;injection f with f;subst f
   cases m
 |last p B b z D f i t=>
  obtain⟨l,_⟩:=Sm.kL X.sp X.wf c (g_ f) i;obtain⟨M,N,g⟩:=Sm.shape X.sp X.wf c p (g_ f);cases zU j with
  |ew C E G H I J K m o q L r=>
   obtain⟨w,x⟩:=xQ r;obtain⟨s,y,_⟩:=pX X (ap:=ap) m o q w x;obtain⟨rfl,e⟩:=a f m l s;have:=y g;rcases last_pos X g i with n|n<;>omega
  |last r y s w x m n o=>
   obtain⟨q,_⟩:=Sm.kL X.sp X.wf c (g_ m) n;obtain⟨rfl,e⟩:=a f m l q;have:=Io X g i n;subst this;rw[t]at o;injection o
  |aN w x y C E G m o q H=>
   obtain⟨r,s,_⟩:=pX X (ap:=ap) m o q (asj k) (by show k<k+1;omega);obtain⟨rfl,e⟩:=a f m l r;have:=s g;rcases last_pos X g i with n|n<;>omega
 |aN y z b B D M g i s x=>
  obtain⟨l,t,m⟩:=pX X (ap:=ap) g i s (asj k) (by show k<k+1;omega);cases zU j with
  |ew C E G H I J K n f o L p=>
   obtain⟨q,r⟩:=xQ p;obtain⟨w,_⟩:=pX X (ap:=ap) n f o q r;obtain⟨rfl,e⟩:=a g n l w;cases e;have:=m f o q r;subst this;rw[i]at f;injection f with f;subst f
   cases p
  |last q I w C E f o J=>
   obtain⟨r,_⟩:=Sm.kL X.sp X.wf c (g_ f) o;obtain⟨rfl,e⟩:=a g f l r;obtain⟨G,H,n⟩:=Sm.shape X.sp X.wf c q (g_ f);have:=t n;rcases last_pos X n o with p|p<;>omega
  |aN r w C E G H n f o q=>
   obtain⟨p,_⟩:=pX X (ap:=ap) n f o (asj k) (by show k<k+1;omega);obtain⟨rfl,e⟩:=a g n l p;cases e;have:=m f o (asj k) (by show k<k+1;omega);subst this;rw[i]at f;injection f with f;injection f with f;subst f
   rw[x,q]
def GY(X:bW P T F A d u Ov az){a:Path}{j':Nat}{q q':Sm.aB}(m:Sm.aI.ok (aJ T F A d u Ov az ap) π)(n:(Sm.aI.fr (aJ T F A d u Ov az ap) π).aq[j]?=some q)(r:q.kd=2\/q.kd=4)(g:(Sm.aI.fr (aJ T F A d u Ov az ap) π).pos[j]?=some k)(i:Sm.aI.ok (aJ T F A d u Ov az ap) a)(o:(Sm.aI.fr (aJ T F A d u Ov az ap) a).aq[j']?=some q')(s:q'.kd=2\/q'.kd=4)(l:(Sm.aI.fr (aJ T F A d u Ov az ap) a).pos[j']?=some k):a=π/\j'=j:=by
 have f:Sm.oB P (aJ T F A d u Ov az ap) (cM d):=X.lg;have v:Sm.gR q.kd=1:=by rcases r with h|h<;>rw[h]<;>rfl
 have w:Sm.gR q'.kd=1:=by rcases s with h|h<;>rw[h]<;>rfl
 have e:=(Sm.pU X.sp X.wf f m n g (asj k) (by omega)).same X.sp X.wf f m i (Sm.pU X.sp X.wf f i o l (asj k) (by omega));subst e;obtain⟨b,t,p⟩:=Sm.shape X.sp X.wf f a i;have x:=Sm.jk q;have y:=Sm.jk q';refine⟨W,?_⟩;rcases atz j j' with c|c|c
 .have:=Sm.nq p n g l c;omega
 .exact c.symm
 .have:=Sm.nq p o l g c;omega
def LA(X:bW P T F A d u Ov az){v a:Bool}(h:Sm.wB (aJ T F A d u Ov az ap) k v)(b:Sm.wB (aJ T F A d u Ov az ap) k a):v=a:=by
 obtain⟨p,q,r,c,e,f,g,i⟩:=h;obtain⟨s,t,w,j,l,m,n,o⟩:=b;obtain⟨rfl,rfl⟩:=GY X c e (.inr f) g j l (.inr m) n;rw[i,o]
def LB(X:bW P T F A d u Ov az){v a:US}(h:Sm.vA (aJ T F A d u Ov az ap) k v)(b:Sm.vA (aJ T F A d u Ov az ap) k a):v=a:=by
 obtain⟨p,q,r,c,e,f,s,g,i⟩:=h;obtain⟨t,w,x,j,l,m,y,n,o⟩:=b;obtain⟨rfl,rfl⟩:=GY X c e (.inl f) g j l (.inl m) n;rw[i,o]
open Classical in
noncomputable def sg(c:Sm.aI)(i:Nat):US:=.mk i (λk=>if h:∃v,Sm.mQ c k v then Classical.choose h else c.rd k) (λk=>if h:∃v,Sm.wB c k v then Classical.choose h else c.rp k) (λk=>if h:∃v,Sm.vA c k v then some (Classical.choose h)else c.rs k)
open Classical in
def J7(X:bW P T F A d u Ov az)(i k:Nat):(∀v,Sm.mQ (aJ T F A d u Ov az ap) k v->(sg (aJ T F A d u Ov az ap) i).mem k=v)/\((∀v,¬Sm.mQ (aJ T F A d u Ov az ap) k v)->(sg (aJ T F A d u Ov az ap) i).mem k=Sm.aI.rd (aJ T F A d u Ov az ap) k):=by
 refine⟨λv a=>?_,λb=>?_⟩
 .have h:∃v,Sm.mQ (aJ T F A d u Ov az ap) k v:=⟨v,a⟩;show(if h:∃v,Sm.mQ (aJ T F A d u Ov az ap) k v then Classical.choose h else Sm.aI.rd (aJ T F A d u Ov az ap) k)=v;rw[auW h];exact Lz X (atO h) a
 .show(if h:∃v,Sm.mQ (aJ T F A d u Ov az ap) k v then Classical.choose h else Sm.aI.rd (aJ T F A d u Ov az ap) k)=_;rw[au7 (λ⟨v,a⟩=>b v a)]
open Classical in
def M7(X:bW P T F A d u Ov az)(i k:Nat):(∀v,Sm.wB (aJ T F A d u Ov az ap) k v->(sg (aJ T F A d u Ov az ap) i).cw k=v)/\((∀v,¬Sm.wB (aJ T F A d u Ov az ap) k v)->(sg (aJ T F A d u Ov az ap) i).cw k=Sm.aI.rp (aJ T F A d u Ov az ap) k):=by
 refine⟨λv a=>?_,λb=>?_⟩
 .have h:∃v,Sm.wB (aJ T F A d u Ov az ap) k v:=⟨v,a⟩;show(if h:∃v,Sm.wB (aJ T F A d u Ov az ap) k v then Classical.choose h else Sm.aI.rp (aJ T F A d u Ov az ap) k)=v;rw[auW h];exact LA X (atO h) a
 .show(if h:∃v,Sm.wB (aJ T F A d u Ov az ap) k v then Classical.choose h else Sm.aI.rp (aJ T F A d u Ov az ap) k)=_;rw[au7 (λ⟨v,a⟩=>b v a)]
open Classical in
def J8(X:bW P T F A d u Ov az)(i k:Nat):(∀v,Sm.vA (aJ T F A d u Ov az ap) k v->(sg (aJ T F A d u Ov az ap) i).an k=some v)/\((∀v,¬Sm.vA (aJ T F A d u Ov az ap) k v)->(sg (aJ T F A d u Ov az ap) i).an k=Sm.aI.rs (aJ T F A d u Ov az ap) k):=by
 refine⟨λv a=>?_,λb=>?_⟩
 .have h:∃v,Sm.vA (aJ T F A d u Ov az ap) k v:=⟨v,a⟩;show(if h:∃v,Sm.vA (aJ T F A d u Ov az ap) k v then some (Classical.choose h)else Sm.aI.rs (aJ T F A d u Ov az ap) k)=some v;rw[auW h,LB X (atO h) a]
 .show(if h:∃v,Sm.vA (aJ T F A d u Ov az ap) k v then some (Classical.choose h)else Sm.aI.rs (aJ T F A d u Ov az ap) k)=_;rw[au7 (λ⟨v,a⟩=>b v a)]
end
end Go.Ex
namespace Go.Ex
open Go.Mt Go.Mk
open Go.Sm (Path US It)
variable{n n':Nat}{s:Sc}{e:E}{outs vs:List Va}{t:Ty}{aj:List a_}{q:List aB}
theorem D5:∀e:E,Sm.jD (cx e):=by
 have a:∀{k a n s names p},k≠9->names.length<=1000000->Sm.jD (.mk k a n s names [] p):= λh d=>.mk (λe=>absurd e h) (by simp) d (λe f=>by cases f)
 intro e
 induction e with
 |nil=>exact a (by decide) (by simp)
 |int n=>exact a (by decide) (by simp)
 |bool n=>exact a (by decide) (by simp)
 |ctor n=>exact a (by decide) (by simp)
 |var n=>exact a (by decide) (by simp)
 |last n=>exact a (by decide) (by simp)
 |un f d g=>exact .mk (by simp) (by simp) (by simp) (λe a=>by grind)
 |bin f d b g h=>exact .mk (by simp) (by simp) (by simp) (λe a=>by grind)
 |ite c d b h f g=>exact .mk (by simp) (by simp) (by simp) (λe a=>by grind)
 |fO c y d f=>exact .mk (by simp) (by simp) (by simp) (λe a=>by grind)
 |pre y d=>exact .mk (by simp) (by simp) (by simp) (λe a=>by grind)
 |arrow d b f g=>exact .mk (by simp) (by simp) (by simp) (λe a=>by grind)
 |fq x c d f=>exact .mk (by simp) (by simp) (by simp) (λe a=>by grind)
 |merge x i j l d b c f g h=>exact .mk (by simp) (by simp) (by simp) (λe a=>by grind)
def Mh(d:Nat):1<=3^d:=Nat.one_le_pow _ _ (by decide)
def ss(n:Nat)(e:E):Prop:=xE e<=n/\∀T A rd p,(dU T A rd e p).length<=n
def zV(h:GC t e):ss 0 e:=by cases h<;>exact⟨asj _,λ_ _ _ _=>asj _⟩
def ss.mono{m:Nat}(h:ss n e)(a:n<=m):ss m e:=⟨ata h.1 a,λT A rd p=>ata (h.2 T A rd p) a⟩
def tB{st:Bool}{d:Nat}(h:GE s t st d e):ss (3^d-1) e:=by
 induction h with
 |v h=>
  refine ss.mono (n:=0) ?_ (as2 _);cases h with
  |uO h=>exact zV h
  |var h=>obtain⟨v,_,_,_,rfl⟩:=h;exact⟨asj _,λ_ _ _ _=>asj _⟩
 |c h=>exact(zV h).mono (as2 _)
 | @ite s t st d c a b j k l f g i=>
  refine⟨?_,λT A rd p=>?_⟩
  .have e:xE (.ite c a b)=xE c+xE a+xE b:=by simp[xE,cx,Sm.xP,Sm.dS,Sm.dh];omega
   rw[e,atD];have:=f.1;have:=g.1;have:=i.1;omega
  .simp only[dU,asq,atD];have:=f.2 T A rd p;have:=g.2 T A rd (p+xE c);have:=i.2 T A rd (p+xE c+xE a);omega
 | @fO s t d c a g i f=>
  have:=Mh d;refine⟨?_,λT A rd p=>?_⟩
  .have e:xE (.fO c a)=1+xE c+xE a:=by simp[xE,cx,Sm.xP,Sm.dS,Sm.dh];omega
   rw[e,atD];have:=(zV g).1;have:=f.1;omega
  .simp only[dU,asO,atD];have:=f.2 T A rd (p+1+xE c);omega
 | @arrow s t d a b i j f g=>
  have:=Mh d;refine⟨?_,λT A rd p=>?_⟩
  .have e:xE (.arrow a (.pre b))=1+xE a+(1+xE b):=by simp[xE,cx,Sm.xP,Sm.dS,Sm.dh];omega
   rw[e,atD];have:=f.1;have:=g.1;omega
  .simp only[dU,asO,asq,atD];have:=f.2 T A rd (p+1);have:=g.2 T A rd (p+1+xE a+1);omega
 | @last s t st d x h=>obtain⟨v,_,_,_,rfl⟩:=h;exact ss.mono (n:=0) ⟨asj _,λ_ _ _ _=>asj _⟩ (as2 _)
 | @neg s st d a g f=>
  refine⟨?_,λT A rd p=>?_⟩
  .have e:xE (.un 2 a)=xE a:=by simp[xE,cx,Sm.xP,Sm.dS,Sm.dh]
   rw[e,atD];have:=f.1;omega
  .simp only[dU,atD];have:=f.2 T A rd p;omega
 | @arith s st d a b i l j k f g=>
  refine⟨?_,λT A rd p=>?_⟩
  .have e:xE (.bin i a b)=xE a+xE b:=by simp[xE,cx,Sm.xP,Sm.dS,Sm.dh]
   rw[e,atD];have:=f.1;have:=g.1;omega
  .simp only[dU,asq,atD];have:=f.2 T A rd p;have:=g.2 T A rd (p+xE a);omega
 | @not s st d a g f=>
  refine⟨?_,λT A rd p=>?_⟩
  .have e:xE (.un 1 a)=xE a:=by simp[xE,cx,Sm.xP,Sm.dS,Sm.dh]
   rw[e,atD];have:=f.1;omega
  .simp only[dU,atD];have:=f.2 T A rd p;omega
 | @k8 s st d a b i u l j k f g=>
  refine⟨?_,λT A rd p=>?_⟩
  .have e:xE (.bin i a b)=xE a+xE b:=by simp[xE,cx,Sm.xP,Sm.dS,Sm.dh]
   rw[e,atD];have:=f.1;have:=g.1;omega
  .simp only[dU,asq,atD];have:=f.2 T A rd p;have:=g.2 T A rd (p+xE a);omega
def qm:aB->Prop
 |.df _ e=>ss 26 e
 |.call _ _ _ a b _ e=>ss 8 a/\ss 8 b/\ss 8 e
 |.sw e aj=>ss 8 e/\aj.length<=3/\∀a∈aj,jF a=[]/\kS a=[]
 |.aN aj=>aj.length<=3/\∀a∈aj,(jF a).length<=2/\(kS a).length<=2/\∀t:Tr,t∈jF a\/t∈kS a->xE t.e=0
 |.reset e _=>ss 8 e
inductive xy:bF->Prop where
 |mk {b:bF} (d:∀q∈cP b,qm q) (e:∀a∈cP b,∀c∈cB a,xy (dP c)):xy b
mutual
def lk(y:Nat)(Z:aB->Nat):aB->Nat
 |.df x e=>Z (.df x e)
 |.call x z f a b c e=>Z (.call x z f a b c e)
 |.sw e aj=>Z (.sw e aj)+kT y Z aj
 |.aN aj=>Z (.aN aj)+kT y Z aj
 |.reset e b=>Z (.reset e b)+mZ y Z b
def kT(y:Nat)(Z:aB->Nat):List a_->Nat
 |[]=>0
 |.mk _ b _ _::l=>mZ y Z b+kT y Z l
def mZ(y:Nat)(Z:aB->Nat):bF->Nat
 |.mk b a=>y*b.length+ju y Z a
def ju(y:Nat)(Z:aB->Nat):List aB->Nat
 |[]=>0
 |q::l=>lk y Z q+ju y Z l
end
def Br(y:Nat)(Z:aB->Nat)(l r:List a_):kT y Z (l++r)=kT y Z l+kT y Z r:=by
 induction l with
 |nil=>simp[kT]
 |cons a l b=>cases a;simp only[atp,kT,b];omega
def Bs(y:Nat)(Z:aB->Nat)(l r:List aB):ju y Z (l++r)=ju y Z l+ju y Z r:=by
 induction l with
 |nil=>simp[ju]
 |cons b l a=>simp only[atp,ju,a];omega
section
variable{Sub:Sc->List Va->Nat->Nat->bF->Prop}{cb y z:Nat}{Z:aB->Nat}
def D6(y z:Nat)(Z:aB->Nat)(d:Sc->List Va->Nat->Nat->bF->Prop)(cb:Nat):Prop:=∀s (l:List Va) a c b,l.length<=3->d s l a c b->a<=c/\xy b/\mZ y Z b+(z+y)*a<=cb+(z+y)*c
theorem Bt(d:D6 y z Z Sub cb){names:List Nm}(h:mT Sub s outs names n aj n')(e:outs.length<=3):
  n<=n'/\(∀a∈aj,xy (dP a)/\jF a=[]/\kS a=[])/\kT y Z aj+(z+y)*n<=aj.length*cb+(z+y)*n':=by
 induction h with
 |nil=>exact⟨asj _,λa h=>(by cases h),by simp[kT]⟩
 | @snoc aj p q h c r o f t b i j=>
  obtain⟨u,k,v⟩:=j;obtain⟨w,l,x⟩:=d _ _ _ _ _ (ata f.len e) i;refine⟨by omega,λa m=>?_,?_⟩
  .rcases ast.1 m with g|g
   .exact k a g
   .rw[asx]at g;subst g;exact⟨l,W,W⟩
  .rw[Br];have g:∀x:a_,(aj++[x]).length*cb=aj.length*cb+cb:= λx=>by grind
   rw[g];simp only[kT,auq];omega
theorem J9(f:D6 y z Z Sub cb){N:Nat}(h:uq Sub s outs N n aj n')(i:outs.length<=3):
  n<=n'/\(∀a∈aj,xy (dP a)/\(jF a).length<=2/\(kS a).length<=2/\∀t:Tr,t∈jF a\/t∈kS a->xE t.e=0)/\kT y Z aj+(z+y)*n<=aj.length*cb+(z+y)*n':=by
 induction h with
 |nil=>exact⟨asj _,λa h=>(by cases h),by simp[kT]⟩
 | @snoc aj r u h q j v w d b k x e l=>
  obtain⟨A,m,B⟩:=l;obtain⟨C,o,D⟩:=f _ _ _ _ _ (ata j.len i) k;refine⟨by omega,λa p=>?_,?_⟩
  .rcases ast.1 p with g|g
   .exact m a g
   .rw[asx]at g;subst g;refine⟨o,d.1,e.1,λt c=>?_⟩;rcases c with c|c
    .exact(ny (T:=⟨λ_=>.int,λ_=>false,λ_=>0,λ_=>.any⟩) (d.2 t c).1 W).1
    .exact(ny (T:=⟨λ_=>.int,λ_=>false,λ_=>0,λ_=>.any⟩) (e.2 t c).1 W).1
  .rw[Br];have c:∀x:a_,(aj++[x]).length*cb=aj.length*cb+cb:= λx=>by grind
   rw[c];simp only[kT,auq];omega
structure M8(y z:Nat)(Z:aB->Nat)(c n n':Nat)(q:List aB)(b:List Va):Prop where
 le:n<=n'
 w:∀e∈q,qm e/\∀a∈cB e,xy (dP a)
 m:ju y Z q+y*b.length+(z+y)*n<=c+(z+y)*n'
def J_(a:∀q,qm q->Z q<=z)(i:D6 y z Z Sub cb){B:Nat}(h:GQ Sub B s outs n n' q vs)(c:outs.length<=3):M8 y z Z (3*cb+3*z) n n' q vs:=by
 have g:∀q,ju y Z [q]=lk y Z q:= λq=>by simp[ju]
 induction h with
 | @sc s outs n q h=>
  have p:∀{outs:List Va} {q:List aB},py s outs q->(∀e∈q,qm e/\cB e=[])/\ju y Z q<=outs.length*z:=by
   intro outs q h
   induction h with
   |nil=>exact⟨λe d=>(by cases d),by simp[ju]⟩
   | @snoc r q h w e k l=>
    obtain⟨m,t⟩:=l;have f:qm (.df w.name e):=tB k;refine⟨λx o=>?_,?_⟩
    .rcases ast.1 o with d|d
     .exact m x d
     .rw[asx]at d;subst d;exact⟨f,W⟩
    .rw[Bs,g,asq,at3];simp only[lk,asS,Nat.one_mul];have:=a _ f;omega
  obtain⟨j,u⟩:=p h;have v:outs.length*z<=3*z:=as5 _ c;exact⟨asj _,λe d=>⟨(j e d).1,λk f=>by rw[(j e d).2]at f;cases f⟩,by simp;omega⟩
 | @tm s outs n n' e m k l o=>
  obtain⟨p,j,r⟩:=Bt i l c;have d:qm (.sw e m):=⟨tB k,by omega,λa c=>(j a c).2⟩;refine⟨p,λx f=>?_,?_⟩
  .rw[asx]at f;subst f;exact⟨d,λa c=>(j a c).1⟩
  .rw[g,o]at*;simp only[lk,atg,auX];have:=a _ d;omega
 | @pV s outs n n' e m k l o=>
  obtain⟨p,j,r⟩:=Bt i l c;have d:qm (.sw e m):=⟨tB k,by omega,λa c=>(j a c).2⟩;refine⟨p,λx f=>?_,?_⟩
  .rw[asx]at f;subst f;exact⟨d,λa c=>(j a c).1⟩
  .rw[g];rw[o]at r;simp only[lk,atg,auX];have:=a _ d;omega
 | @aN s outs n n' j N r l o=>
  obtain⟨m,k,p⟩:=J9 i l c;have d:qm (.aN j):=⟨by omega,λa c=>(k a c).2⟩;have t:j.length*cb<=3*cb:=as5 _ (by omega);refine⟨m,λx f=>?_,?_⟩
  .rw[asx]at f;subst f;exact⟨d,λa c=>(k a c).1⟩
  .rw[g];simp only[lk,atg,auX];have:=a _ d;omega
 | @reset s outs n n' e b l r=>
  obtain⟨o,p,t⟩:=i _ _ _ _ _ c r;have d:qm (.reset e b):=tB l;refine⟨o,λx f=>?_,?_⟩
  .rw[asx]at f;subst f;refine⟨d,λk m=>?_⟩;have j:k∈[a_.mk e0 b [] []]:=m;rw[asx]at j;subst j;exact p
  .rw[g];simp only[lk,atg,auX];have:=a _ d;omega
 | @call s outs n n' v vs l C k b r t u e d h m=>
  obtain⟨A,o,D⟩:=m c;have j:qm (.call (nm 117 (n+1)) (nm 117 (n+2)) (nm 102 l) k b u e):=⟨tB r,tB t,by
   rcases d with⟨_,rfl⟩|⟨_,d⟩
   .exact⟨as2 _,λ_ _ _ _=>as2 _⟩
   .exact tB d⟩
  refine⟨by omega,λx f=>?_,?_⟩
  .rcases asQ.1 f with rfl|f
   .exact⟨j,λw p=>(by cases p)⟩
   .exact o x f
  .simp only[ju,lk,asO];have:=a _ j;have p:(z+y)*(n+2)=(z+y)*n+2*z+2*y:=by rw[at4];omega
   have w:y*(vs.length+1+1)=y*vs.length+2*y:=by rw[at4,at4];omega
   omega
 | @mx s outs n n' I vs f b k l e cH m o F G C H h D=>
  obtain⟨J,E,K⟩:=D c;obtain⟨L,M⟩:=ny (T:=⟨λ_=>.int,λ_=>false,λ_=>0,λ_=>.any⟩) m W;have j:ss 0 f:=⟨by omega,λT A rd p=>by rw[(ny (T:=T) m W).2];simp⟩;have p:ss 0 b:=⟨by have:=(ny (T:=⟨λ_=>.int,λ_=>false,λ_=>0,λ_=>.any⟩) o W).1;omega,λT A rd p=>by rw[(ny (T:=T) o W).2];simp⟩;have r:=zV F;have t:qm (.df (nm 99 (n+1)) e):=tB C;have u:qm (.df (nm 119 (n+2)) cH):=by
   rcases H with rfl|rfl
   .refine ss.mono (n:=0) ⟨?_,λT A rd p=>j.2 T A rd p⟩ (by omega);have:xE (.fq (nm 99 (n+1)) cg f)=xE f:=by simp[xE,cx,Sm.xP,Sm.dS,Sm.dh]
    rw[this];exact j.1
   .refine ss.mono (n:=1) ⟨?_,λT A rd w=>?_⟩ (by omega)
    .have:xE (.fO l (.bin 3 (.var (nm 119 (n+2))) (.fq (nm 99 (n+1)) cg f)))=1+xE l+xE f:=by simp[xE,cx,Sm.xP,Sm.dS,Sm.dh];omega
     rw[this];have:=j.1;have:=(zV G).1;omega
    .simp only[dU,asO,asW];have:=j.2 T A rd (w+1+xE l+xE (.var (nm 119 (n+2))));omega
  have v:qm (.df (nm 122 (n+3)) (.merge (nm 99 (n+1)) bz cg cX (.fq (nm 99 (n+1)) bz b) (.var (nm 119 (n+2))) k)):=by
   refine ss.mono (n:=0) ⟨?_,λT A rd w=>?_⟩ (by omega)
   .have:xE (.merge (nm 99 (n+1)) bz cg cX (.fq (nm 99 (n+1)) bz b) (.var (nm 119 (n+2))) k)=xE b+xE k:=by simp[xE,cx,Sm.xP,Sm.dS,Sm.dh]
    rw[this];have:=p.1;have:=r.1;omega
   .simp only[dU];split
    .exact p.2 T A rd w
    .split
     .simp
     .exact r.2 T A rd _
  refine⟨by omega,λx d=>?_,?_⟩
  .rcases asQ.1 d with rfl|d
   .exact⟨t,λA w=>(by cases w)⟩
   rcases asQ.1 d with rfl|d
   .exact⟨u,λA w=>(by cases w)⟩
   rcases asQ.1 d with rfl|d
   .exact⟨v,λA w=>(by cases w)⟩
   .exact E x d
  .simp only[ju,lk,asO];have:=a _ t;have:=a _ u;have:=a _ v;have w:(z+y)*(n+3)=(z+y)*n+3*z+3*y:=by rw[at4];omega
   have A:y*(vs.length+1+1+1)=y*vs.length+3*y:=by rw[at4,at4,at4];omega
   omega
end
section
variable{Q:Sc->List Va->Nat->Nat->List aB->List Va->Prop}{c y z:Nat}{Z:aB->Nat}
theorem M9(i:∀s d n b q vs,d.length<=3->Q s d n b q vs->M8 y z Z c n b q vs){j:Sc}{f d:List Va}{b:Nat}(h:GL Q j f b s d n q vs):
  b<=n/\(∀e∈q,qm e/\∀a∈cB e,xy (dP a))/\∃g,g+d.length<=f.length/\ju y Z q+y*vs.length+(z+y)*b<=c*g+(z+y)*n:=by
 induction h with
 |start=>exact⟨asj _,λe k=>(by cases k),0,by simp,by simp[ju]⟩
 | @step s d n p q vs r t h m u v w k l=>
  obtain⟨x,A,g,B,C⟩:=l;obtain⟨D,E,F⟩:=i _ _ _ _ _ _ (by grind) k;refine⟨by omega,λe o=>?_,g+1,by grind,?_⟩
  .grind
  .rw[Bs,asq,at4,Nat.mul_succ];omega
def LC{a:Nat}(h:NV n vs a):a=n+vs.length:=by
 induction h with
 |nil=>rfl
 |snoc h w b c d e=>simp;omega
theorem GZ(d:∀s f n a q d,f.length<=3->Q s f n a q d->M8 y z Z c n a q d):D6 y z Z (DJ Q) (6*c+3*y):=by
 rintro s A n l b m ⟨f,h,o,q,B,i,j,k,rfl⟩;have p:=LC i;obtain⟨r,a,g,t,u⟩:=M9 d k;have x:c*g<=c*6:=auG _ (by grind);have v:y*f.length<=y*3:=auG _ j;have w:(z+y)*n<=(z+y)*h:=auG _ (by omega);refine⟨by omega,.mk (λe d=>(a e d).1) (λe d=>(a e d).2),?_⟩;simp only[mZ,asq,at4];omega
end
def xz(y z:Nat):Nat->Nat
 |0=>18*z+3*y
 |d+1=>18*xz y z d+18*z+3*y
def zW{y z:Nat}{Z:aB->Nat}(b:∀q,qm q->Z q<=z)(a:Nat):∀d,D6 y z Z (GB a d) (xz y z d)
 |0=>by
  have h:=GZ (Q:=GQ (λ_ _ _ _ _=>False) a) (c:=3*0+3*z) (y:=y) (z:=z) (Z:=Z) λs a n a q a a h=>J_ b (cb:=0) (by intro _ _ _ _ _ _ h;exact h.elim) h a
  rw[show 6*(3*0+3*z)+3*y=xz y z 0 by simp only[xz];omega]at h;exact h
 |d+1=>by
  have h:=GZ (Q:=GQ (GB a d) a) (c:=3*xz y z d+3*z) (y:=y) (z:=z) (Z:=Z) λs e n e q e e h=>J_ b (zW b a d) h e
  rw[show 6*(3*xz y z d+3*z)+3*y=xz y z (d+1) by simp only[xz];omega]at h;exact h
end Go.Ex
namespace Go.Ex
open Go.Mt Go.Mk
open Go.Sm (Path US It)
variable{q:aB}{Z:aB->Nat}{y:Nat}{a:a_}{π:Path}{it:It}{b:bF}{d:Nd}
def zX{y:Nat}{Z:aB->Nat} :∀{l:List a_},a∈l->mZ y Z (dP a)<=kT y Z l
 |[],h=>by cases h
 |.mk n b u w::l,h=>by
  simp only[kT];rcases asQ.1 h with rfl|h
  .show mZ y Z b<=_;omega
  .have:=zX (y:=y) (Z:=Z) h;omega
def G0(h:a∈cB q):mZ y Z (dP a)<=lk y Z q:=by
 cases q with
 |df x e=>cases h
 |call x z f a b c e=>cases h
 |sw e c=>have:=zX (y:=y) (Z:=Z) (show a∈c from h);simp only[lk];omega
 |aN c=>have:=zX (y:=y) (Z:=Z) (show a∈c from h);simp only[lk];omega
 |reset e b=>
  have c:a∈[a_.mk e0 b [] []]:=h;rw[asx]at c;subst c;simp only[lk];show mZ y Z b<=_;omega
def J'{y:Nat}{Z:aB->Nat} :∀{l:List aB},q∈l->lk y Z q<=ju y Z l
 |[],h=>by cases h
 |x::l,h=>by
  simp only[ju];rcases asQ.1 h with rfl|h
  .omega
  .have:=J' (y:=y) (Z:=Z) h;omega
def Mi(h:q∈cP b):lk y Z q<=mZ y Z b:=by
 cases b with
 |mk c a=>have:=J' (y:=y) (Z:=Z) (show q∈a from h);simp only[mZ];omega
def zY(b:bF):(dr b).length<=mZ 1 Z b:=by cases b;simp only[mZ,dr];omega
def LD(q:aB):1<=lk 0 (λ_=>1) q:=by cases q<;>simp only[lk]<;>omega
def G1:∀l:List aB,l.length<=ju 0 (λ_=>1) l
 |[]=>as2 _
 |q::l=>by have:=LD q;have:=G1 l;simp only[ju,asO];omega
def LF(b:bF):(cP b).length<=mZ 0 (λ_=>1) b:=by cases b with|mk c a=>have:=G1 a;simp only[mZ,cP];omega
theorem Ka(h:xy b):mZ 1 (λ_=>0) b<=900000->mZ 0 (λ_=>1) b<=900000->Sm.uc (eD b)/\Sm.Cu (eD b):=by
 induction h with
 | @mk b k H A=>
  intro l m;have r:=zY (Z:= λ_=>0) b;have B:=LF b;have s:∀q∈cP b,∀a∈cB q,Sm.uc (eD (dP a))/\Sm.Cu (eD (dP a)):= λq a d c=>by
   have j:=G0 (y:=1) (Z:= λ_=>0) c;have p:=Mi (y:=1) (Z:= λ_=>0) a;have u:=G0 (y:=0) (Z:= λ_=>1) c;have w:=Mi (y:=0) (Z:= λ_=>1) a;exact A q a d c (by omega) (by omega)
  cases b with
  |mk J t=>
  simp only[dr,cP]at r B k s;have f:∀a∈fy t,∃q∈t,a=dx q:= λa h=>by rw[io]at h;obtain⟨q,l,m⟩:=asK.1 h;exact⟨q,l,m.symm⟩
  have n:∀q:aB,∀c∈(dx q).aj,∃a∈cB q,c=oF a:= λc d h=>by rw[mW]at h;obtain⟨a,l,m⟩:=asK.1 h;exact⟨a,l,m.symm⟩
  have o:∀a:a_,(oF a).fm=(jF a).map uV/\(oF a).fo=(kS a).map uV:= λc=>by cases c;exact⟨W,W⟩
  refine⟨.mk (by grind) (by rw[io,asD];omega) (λd c g i=>?_) (λd c=>?_) (λd c=>?_) (λd c=>?_) (λd c g i=>?_),.mk (λv r=>?_) (λd c=>?_) (λd c g i=>?_) (λd c g i z C=>?_)⟩
  .obtain⟨q,j,rfl⟩:=f d c;obtain⟨a,p,rfl⟩:=n q g i;rw[tz];exact(s q j a p).1
  .obtain⟨q,p,rfl⟩:=f d c;have j:=k q p;rw[mW,asD];cases q with
   |df x e=>simp[cB]
   |call x u w a b D e=>simp[cB]
   |sw e u=>have:=j.2.1;simp only[cB];omega
   |aN u=>have:=j.1;simp only[cB];omega
   |reset e b=>simp[cB]
  .obtain⟨q,D,rfl⟩:=f d c;cases q with
   |df x e=>exact⟨D5 e,by simp[dx,Sm.aB.args],λe j=>(by cases j)⟩
   |call x u w a b E e=>exact⟨D5 e,by simp[dx,Sm.aB.args],λe p=>by
     have j:e∈[cx a,cx b]:=p;simp at j;rcases j with rfl|rfl
     .exact D5 a
     .exact D5 b⟩
   |sw e p=>exact⟨D5 e,by simp[dx,Sm.aB.args],λe j=>(by cases j)⟩
   |aN p=>exact⟨D5 .nil,by simp[dx,Sm.aB.args],λe j=>(by cases j)⟩
   |reset e b=>exact⟨D5 e,by simp[dx,Sm.aB.args],λe j=>(by cases j)⟩
  .obtain⟨q,j,rfl⟩:=f d c;cases q<;>simp[dx,Sm.aB.lhs]
  .obtain⟨q,w,rfl⟩:=f d c;obtain⟨a,j,rfl⟩:=n q g i;rw[(o a).1,(o a).2,asD,asD];have p:=k q w;cases q with
   |df x e=>cases j
   |call x u D a b E e=>cases j
   |sw e D=>obtain⟨u,x⟩:=p.2.2 a j;rw[u,x];simp
   |aN u=>obtain⟨x,D,_⟩:=p.2 a j;omega
   |reset e b=>
    have u:a∈[a_.mk e0 b [] []]:=j;rw[asx]at u;subst u;simp[jF,kS]
  .obtain⟨w,j,rfl⟩:=asK.1 r;show(Fu w.clock).length<=_;cases w.clock<;>simp[Fu]
  .obtain⟨q,j,rfl⟩:=f d c;rw[eM];cases q<;>simp[dv,dx,Sm.aB.args,Sm.aB.ex,cx,Sm.xP,Sm.dS,Sm.dh]
  .obtain⟨q,j,rfl⟩:=f d c;obtain⟨a,p,rfl⟩:=n q g i;rw[tz];exact(s q j a p).2
  .obtain⟨q,D,rfl⟩:=f d c;obtain⟨a,j,rfl⟩:=n q g i;rw[(o a).1,(o a).2]at C;have u:=k q D;have F:∃w:Tr,(w∈jF a\/w∈kS a)/\z=uV w:=by
    grind
   obtain⟨w,p,rfl⟩:=F;refine⟨D5 w.e,?_⟩;cases q with
   |df x e=>cases j
   |call x E G a b I e=>cases j
   |sw e G=>obtain⟨x,E⟩:=u.2.2 a j;rw[x,E]at p;rcases p with h|h<;>cases h
   |aN x=>exact(u.2 a j).2.2 w p
   |reset e b=>
    have x:a∈[a_.mk e0 b [] []]:=j;rw[asx]at x;subst x;rcases p with h|h<;>cases h
def Zp(q:aB):Nat:=wQ q+5
def Zd:aB->Nat
 |.df .. =>1
 |.call .. =>2
 |_=>0
def M_(q:aB)(h:qm q):Zp q<=31:=by
 unfold Zp;cases q with
 |df x e=>have:=h.1;simp only[wQ];omega
 |call x z f a b c e=>have:=h.1.1;have:=h.2.1.1;have:=h.2.2.1;simp only[wQ];omega
 |sw e a=>have:=h.1.1;simp only[wQ];omega
 |aN a=>simp only[wQ];omega
 |reset e b=>have:=h.1;simp only[wQ];omega
def M'(q:aB)(h:qm q):Zd q<=2:=by cases q<;>simp[Zd]
mutual
def Na:∀q:aB,Sm.qP (dx q)<=lk 1 Zp q
 |.df x e=>by
  have a:Sm.qP (dx (.df x e))=xE e+0+0+0:=rfl;simp only[lk,Zp,wQ];omega
 |.call x y f a b c e=>by
  have d:Sm.qP (dx (.call x y f a b c e))=xE e+(xE a+(xE b+0))+1+0:=rfl;simp only[lk,Zp,wQ];omega
 |.sw e a=>by
  have h:=CJ a;have c:Sm.qP (dx (.sw e a))=xE e+0+0+Sm.kX (eG a):=rfl;simp only[lk,Zp,wQ];omega
 |.aN a=>by
  have h:=CJ a;have c:Sm.qP (dx (.aN a))=0+0+1+Sm.kX (eG a):=rfl;simp only[lk,Zp,wQ];omega
 |.reset e b=>by
  have h:=FJ b;have a:Sm.qP (dx (.reset e b))=xE e+0+0+(Sm.bP (eD b)+0):=rfl;simp only[lk,Zp,wQ];omega
def CJ:∀l:List a_,Sm.kX (eG l)<=kT 1 Zp l
 |[]=>as2 _
 |.mk n b u w::l=>by
  have h:=FJ b;have a:=CJ l;have a:Sm.kX (eG (.mk n b u w::l))=Sm.bP (eD b)+Sm.kX (eG l):=rfl;simp only[kT];omega
def FJ:∀b:bF,Sm.bP (eD b)<=mZ 1 Zp b
 |.mk a c=>by
  have h:=G2 c;have d:Sm.aS (a.map d_)<=a.length:=by unfold Sm.aS;exact ata (atN _ _) (by simp)
  have d:Sm.bP (eD (.mk a c))=Sm.aS (a.map d_)+Sm.vx (fy c):=rfl;simp only[mZ];omega
def G2:∀l:List aB,Sm.vx (fy l)<=ju 1 Zp l
 |[]=>as2 _
 |q::l=>by
  have h:=Na q;have a:=G2 l;have a:Sm.vx (fy (q::l))=Sm.qP (dx q)+Sm.vx (fy l):=rfl;simp only[ju];omega
end
mutual
def Nb:∀q:aB,Sm.pk (dx q)<=lk 0 Zd q
 |.df x e=>asj 1
 |.call x y f a b c e=>asj 2
 |.sw e a=>by
  have h:=CK a;have c:Sm.pk (dx (.sw e a))=0+Sm.mu (eG a):=rfl;simp only[lk,Zd];omega
 |.aN a=>by
  have h:=CK a;have c:Sm.pk (dx (.aN a))=0+Sm.mu (eG a):=rfl;simp only[lk,Zd];omega
 |.reset e b=>by
  have h:=CL b;have a:Sm.pk (dx (.reset e b))=0+(Sm.fZ (eD b)+0):=rfl;simp only[lk,Zd];omega
def CK:∀l:List a_,Sm.mu (eG l)<=kT 0 Zd l
 |[]=>as2 _
 |.mk n b u w::l=>by
  have h:=CL b;have a:=CK l;have a:Sm.mu (eG (.mk n b u w::l))=Sm.fZ (eD b)+Sm.mu (eG l):=rfl;simp only[kT];omega
def CL:∀b:bF,Sm.fZ (eD b)<=mZ 0 Zd b
 |.mk c a=>by
  have h:=G3 a;have d:Sm.fZ (eD (.mk c a))=Sm.jU (fy a):=rfl;simp only[mZ];omega
def G3:∀l:List aB,Sm.jU (fy l)<=ju 0 Zd l
 |[]=>as2 _
 |q::l=>by
  have h:=Nb q;have a:=G3 l;have a:Sm.jU (fy (q::l))=Sm.pk (dx q)+Sm.jU (fy l):=rfl;simp only[ju];omega
end
def CM{k:Nat}(h:GN k d):xy d.b/\mZ 1 Zp d.b<=4000000/\mZ 0 Zd d.b<=300000/\mZ 1 (λ_=>0) d.b<=900000/\mZ 0 (λ_=>1) d.b<=900000:=by
 obtain⟨_,_,⟨last,first,p,c⟩,q,r,a⟩:=h;have b:d.outs.length<=3:=by rw[c];simp
 obtain⟨_,e,f⟩:=zW (y:=1) (z:=31) (Z:=Zp) M_ k 3 _ _ _ _ _ b a;obtain⟨_,_,g⟩:=zW (y:=0) (z:=2) (Z:=Zd) M' k 3 _ _ _ _ _ b a;obtain⟨_,_,i⟩:=zW (y:=1) (z:=0) (Z:= λ_=>0) (λ_ _=>asj _) k 3 _ _ _ _ _ b a;obtain⟨_,_,j⟩:=zW (y:=0) (z:=1) (Z:= λ_=>1) (λ_ _=>asj _) k 3 _ _ _ _ _ b a;have l:xz 1 31 3=3464175:=by decide
 have m:xz 0 2 3=222300:=by decide
 have n:xz 1 0 3=18525:=by decide
 have o:xz 0 1 3=111150:=by decide
 rw[l]at f;rw[m]at g;rw[n]at i;rw[o]at j;exact⟨e,by omega,by omega,by omega,by omega⟩
def FK{l:List Nd}(h:GP l):Sm.mw (gZ l)/\Sm.px (gZ l):=by
 obtain⟨q,r,i⟩:=h;have f:∀a∈(gZ l).nodes,∃k d,a=cM d/\GN k d:= λb a=>by
  obtain⟨d,c,rfl⟩:=asK.1 a;obtain⟨k,g⟩:=asJ.1 c;exact⟨k,d,W,i k d g⟩
 refine⟨⟨⟨by simp[gZ],λe j=>?_⟩,by show(l.map cM).length<=_;rw[asD];omega,λa b=>?_,λa b=>?_⟩,⟨λa b=>?_⟩⟩
 .have c:e∈[CA]:=j;rw[asx]at c;subst c;simp
 .obtain⟨o,d,rfl,c⟩:=f a b;obtain⟨g,p,s,k,m⟩:=CM c;obtain⟨_,_,⟨last,first,t,n⟩,_⟩:=c;have:=FJ d.b;exact⟨(Ka g k m).1,by show(d.outs.map d_).length<=_;rw[n];simp,by show Sm.bP (eD d.b)<=_;omega⟩
 .obtain⟨k,d,rfl,c⟩:=f a b;obtain⟨m,n,o,p,s⟩:=CM c;obtain⟨_,g,_⟩:=c;have:=CL d.b;exact⟨by show(d.ins.map d_).length<=_;rw[g];simp,by show Sm.fZ (eD d.b)<=_;omega⟩
 .obtain⟨p,d,rfl,k⟩:=f a b;obtain⟨m,s,t,n,o⟩:=CM k;have g:∀v:Va,(d_ v).clock.length<=1000000:= λv=>by
   show(Fu v.clock).length<=_;cases v.clock<;>simp[Fu]
  refine⟨(Ka m n o).2,λv c=>?_,?_⟩
  .rcases c with c|c
   .obtain⟨w,_,rfl⟩:=asK.1 c;exact g w
   .obtain⟨w,_,rfl⟩:=asK.1 c;exact g w
  .show(eD d.b).vars.length<=_;rw[mX,asD];have:=zY (Z:= λ_=>0) d.b;omega
mutual
def Az(π:Path)(j:Nat):aB->List It
 |.df _ _=>[]
 |.call _ _ _ _ _ _ _=>[.call π j]
 |.sw _ a=>.br π j::zZ (j::π) a
 |.aN a=>.br π j:: .lv π j::zZ (j::π) a
 |.reset _ b=>.br π j::z7 (j::π) b
def zZ(π:Path):List a_->List It
 |[]=>[]
 |.mk _ b _ _::l=>z7 π b++zZ π l
def z7(π:Path):bF->List It
 |.mk b a=>(List.range b.length).map (.cell π)++Bu π 0 a
def Bu(π:Path)(j:Nat):List aB->List It
 |[]=>[]
 |q::l=>Az π j q++Bu π (j+1) l
end
mutual
def Kb:∀(q:aB) (π:Path) (j:Nat),(Az π j q).length<=lk 1 Zp q
 |.df x e,π,j=>as2 _
 |.call x y f a b c e,π,j=>by simp only[Az,lk,Zp,asO,atg];omega
 |.sw e a,π,j=>by have:=wU a (j::π);simp only[Az,lk,Zp,asO];omega
 |.aN a,π,j=>by have:=wU a (j::π);simp only[Az,lk,Zp,asO];omega
 |.reset e b,π,j=>by have:=z8 b (j::π);simp only[Az,lk,Zp,asO];omega
def wU:∀(l:List a_) (π:Path),(zZ π l).length<=kT 1 Zp l
 |[],π=>as2 _
 |.mk n b u w::l,π=>by have:=z8 b π;have:=wU l π;simp only[zZ,kT,asq];omega
def z8:∀(b:bF) (π:Path),(z7 π b).length<=mZ 1 Zp b
 |.mk c a,π=>by have:=Bv a π 0;simp only[z7,mZ,asq,asD,List.length_range];omega
def Bv:∀(l:List aB) (π:Path) (j:Nat),(Bu π j l).length<=ju 1 Zp l
 |[],π,j=>as2 _
 |q::l,π,j=>by have:=Kb q π j;have:=Bv l π (j+1);simp only[Bu,ju,asq];omega
end
def wV:∀{l:List a_},a∈l->it∈z7 π (dP a)->it∈zZ π l
 |[],h,_=>by cases h
 |.mk n b u w::l,h,c=>by
  simp only[zZ];rcases asQ.1 h with rfl|h
  .exact asw _ c
  .exact asz _ (wV h c)
theorem Bw:∀{l:List aB} {j i:Nat},l[i]?=some q->it∈Az π (j+i) q->it∈Bu π j l
 |[],j,i,h,_=>by simp at h
 |x::l,j,i,h,a=>by
  simp only[Bu];cases i with
  |zero=>simp at h;subst h;exact asw _ a
  |succ i=>exact asz _ (Bw (j:=j+1) (i:=i) (by simpa using h) (by grind))
theorem D7{i:Nat}(h:(cP b)[i]?=some q)(hi:it∈Az π i q):it∈z7 π b:=by
 cases b with
 |mk c a=>
 simp only[z7];exact asz _ (Bw (j:=0) (show a[i]?=some q from h) (by grind))
def Kc{j:Nat}(h:a∈cB q)(hi:it∈z7 (j::π) (dP a)):it∈Az π j q:=by
 cases q with
 |df x e=>cases h
 |call x z f a b c e=>cases h
 |sw e c=>exact asI _ (wV (show a∈c from h) hi)
 |aN c=>exact asI _ (asI _ (wV (show a∈c from h) hi))
 |reset e b=>
  have c:a∈[a_.mk e0 b [] []]:=h;rw[asx]at c;subst c;exact asI _ hi
def jG(d:Nd):List It:=(List.range (d.ins.length+d.outs.length+(dr d.b).length)).map (.cell [])++z7 [] d.b
def D8{T:fB}{F:List (Option Int)}{A:Env}{u:US} :∀{π:Path} {b:bF} {s:Nat} {rs:Rs},dw T F A d u π=some (b,s,rs)->∀it∈z7 π b,it∈jG d:=by
 intro π
 induction π with
 |nil=>
  intro b s rs h it a;obtain⟨rfl,_⟩:=qU h;exact asz _ a
 |cons k π c=>
  intro b s rs h it a;obtain⟨m,n,o,q,p,l,e,f,r,g,i,t⟩:=kO h;have j:=(ato i).1;subst j;exact c e it (D7 f (Kc (asn g) a))
end Go.Ex
namespace Go.Ex
open Go.Mt Go.Mk
open Go.Sm (Path US It)
variable{α:Type}{rs:Rs}{p k:Nat}{q:aB}{l:List α}
def FL{f:α->Bool} :(l.findIdx? f).getD 0<=l.length:=by
 cases h:l.findIdx? f with
 |none=>exact as2 _
 |some k=>
  obtain⟨a,_⟩:=as4.1 h;exact avc a
section
variable{P:Sm.Pg}{T:fB}{F:List (Option Int)}{A:Env}{d:Nd}{u:US}{Ov:Nat->US->List Int->List Int->US->Prop}{az:Nat->US}{ap:List Sm.It}{step:US->List Int->List Int->US->Prop}
def z9(c:xy d.b):∀{π:Path} {b:bF} {s:Nat} {rs:Rs},dw T F A d u π=some (b,s,rs)->xy b:=by
 intro π
 induction π with
 |nil=>intro b s rs h;obtain⟨rfl,_⟩:=qU h;exact c
 |cons m π e=>
  intro b s rs h;obtain⟨n,o,r,q,p,a,f,g,t,i,j,v⟩:=kO h;have k:=(ato j).1;subst k;have:=e f;cases this with
  |mk w l=>exact l q (asn g) a (asn i)
def D9(h:qm q):(ud T A rs p q).length<=26:=by
 cases q with
 |df x e=>exact h.2 T A rs.rd p
 |call x y f a b c e=>
  have d:=h.1.2 T A rs.rd (p+1+xE e);have g:=h.2.1.2 T A rs.rd (p+1+xE e+xE a);have i:=h.2.2.2 T A rs.rd (p+1);simp only[ud,asq,asL];cases c with
  |false=>simp;omega
  |true=>simp;omega
 |sw e a=>have:=h.1.2 T A rs.rd p;simp only[ud];omega
 |aN a=>simp[ud]
 |reset e b=>have:=h.2 T A rs.rd p;simp only[ud];omega
def LG(h:qm q):D2 T F A rs p q<=1000:=by
 cases q with
 |df x e=>exact as2 _
 |call x y f a b c e=>exact as2 _
 |sw e a=>exact as2 _
 |aN a=>
  have c:=h.1;show(match vZ T F A rs p (.aN a)with|none=>(if fC T A rs p (.aN a)<a.length then fC T A rs p (.aN a)else 0)|some t=>rN a t.to)<=1000;cases vZ T F A rs p (.aN a)with
  |none=>simp only;split<;>omega
  |some t=>have:rN a t.to<=a.length:=FL;simp only;omega
 |reset e b=>exact as2 _
theorem pY{x:α}(h:l[k]?=some x):k<l.length:=by grind
def z_{π:Path}{b:Sm.Va}(h:(Sm.aI.fr (aJ T F A d u Ov az ap) π).vars[k]?=some b):∃v,(pI T F A d u π)[k]?=some v/\b=d_ v:=by
 have a:(eO T F A d u π).vars[k]?=some b:=h;rw[nO,asF]at a;cases c:(pI T F A d u π)[k]? with
 |none=>rw[c]at a;cases a
 |some v=>rw[c]at a;injection a with a;exact⟨v,W,a.symm⟩
def NN(l:List It):(l.map λ_=>100).foldr (·+ ·) 0=100*l.length:=by
 induction l with
 |nil=>rfl
 |cons a l b=>simp;omega
open Classical in
def Nc(X:bW P T F A d u Ov az)(L:M5 P step Ov az)(I:xy d.b)(hm:mZ 1 Zp d.b<=4000000)(hd:P.nodes[u.i]?=some (cM d))(RT:d.ins.length<=1000)(f9:d.outs.length<=1000){ins:List Int}(J:ins.length=d.ins.length)(d6:∀(k:Nat) (v:Va) (n:Int),d.ins[k]?=some v->ins[k]?=some n->∃sb i,get A v.name=some (some n,sb,i)):
  Sm.gW P step (aJ T F A d u Ov az (jG d)) (cM d) u ins (d.outs.map λv=>val A v.name) (sg (aJ T F A d u Ov az (jG d)) u.i):=by
 have hg:Sm.oB P (aJ T F A d u Ov az (jG d)) (cM d):=X.lg;have r:(cM d).ins.length=d.ins.length:=by show(d.ins.map d_).length=_;simp
 have Yg:(cM d).outs.length=d.outs.length:=by show(d.outs.map d_).length=_;simp
 have g:dw T F A d u []=some (d.b,0,qz u):=rfl;have K:pI T F A d u []=d.ins++d.outs++dr d.b:=by rw[ly g,asB W]
 have V:∀{q:aB} {x:Nm},dv q=1\/dv q=2->x∈(dx q).lhs->x∈dQ q:= λ{q x} f h=>by
  cases q with
  |df y e=>have o:x∈[y]:=h;rw[asx]at o;exact eh.2 o
  |call y z w B b C e=>have o:x∈[y,z]:=h;simp at o;exact eh.2 o
  |sw e o=>simp[dv]at f
  |aN o=>simp[dv]at f
  |reset e b=>simp[dv]at f
 refine{nd:=hd,sz:=rfl,Cd:=rfl,iK:=hg.iK,qc:=hg.qc,sW:=by rw[r];exact J,yS:= λk v ah f M=>?_,cell:= λa k v lp m n O8 hi=>?_,eq:= λa j q p m c t=>?_,lhs:= λa j q m c f ht i x h=>?_,nx:= λa j=>?_,vB:= λa M=>?_,gh:= λa j q c f=>?_,lh:= λa j q m c x h σ l he=>?_,I9:= λi v n=>?_,HA:= λa j q x m c f J ht=>?_,I_:= λa j q m c x h=>?_,aj:= λa j q m c f=>?_,rd:= λk f=>?_,rp:= λk f=>?_,rs:= λk f=>?_,nm:= λk f=>J7 X u.i k,np:= λk f=>M7 X u.i k,ns:= λk f=>J8 X u.i k,ui:=rfl,wc:= λa k v m n hi=>?_,wq:= λa j q m c=>?_,ws:=?_,outs:=?_}
 .have o:(d.ins.map d_)[k]?=some v:=f;rw[asF]at o;cases n:d.ins[k]? with
  |none=>rw[n]at o;cases o
  |some y=>
   obtain⟨sb,i,w⟩:=d6 k y ah n M;have z:(pI T F A d u [])[k]?=some y:=by rw[K,asM,asl (pY n)];exact n
   obtain⟨B,C,_⟩:=FF (Ov:=Ov) (az:=az) (ap:=jG d) [] z;rw[B,C,(lM w).2.2,(lM w).2.1];have:=ub w;exact⟨W,by show _<A.length+1;omega⟩
 .obtain⟨b,s,rs,t⟩:=v7 m;obtain⟨w,o,rfl⟩:=z_ n;exact M6 X t o O8 (λe=>by rw[<-r];exact hi e)
 .obtain⟨b,s,rs,C,g,w,y,z,rfl,B,D⟩:=kA (show(eO T F A d u a).aq[j]?=some q from c);have o:(eO T F A d u a).pos[j]?=some p:=t;rw[B]at o;injection o with o
  subst o;exact Oi X L w y z
 .obtain⟨b,s,rs,q0,g,N,O,f3,rfl,f5,f6⟩:=kA (show(eO T F A d u a).aq[j]?=some q from c);rw[eM]at f;cases q0 with
  |df y e=>simp[dv]at f
  |sw e o=>simp[dv]at f
  |aN o=>simp[dv]at f
  |reset e b=>simp[dv]at f
  |call y z B C D E e=>
   obtain⟨d9,g1,g2,g3,g4,g5⟩:=fM X.hL X.hU X.hS N;obtain⟨⟨w1,w2,H,jj,Q,ox,oy,u',l,G,R,_⟩,_⟩:=(oI g1).2.2.1 j _ g O f3;have Ud:=Bq (Ov:=Ov) (az:=az) (ap:=jG d) f6;have ZN:wT A (.call y z B C D E e)=Q:=(lM G).1;have ac:∀{x:Nm} {o:Int} {r:Nat} {i:Nat},x∈dQ (.call y z B C D E e)->get A x=some (some o,Q,r)->Q<=r->(GK A (.call y z B C D E e))[i]?=some o->(∀(a:Nat) (c:Nm),(dx (.call y z B C D E e)).lhs[a]?=some c->c=x->a=i)->
     ∃c n,(aJ T F A d u Ov az (jG d)).find a x=some c/\(aJ T F A d u Ov az (jG d)).val c.1 c.2=some n/\((aJ T F A d u Ov az (jG d)).outs a j)[i]?=some n/\(aJ T F A d u Ov az (jG d)).sb c.1 c.2=(aJ T F A d u Ov az (jG d)).ek a j/\(aJ T F A d u Ov az (jG d)).ek a j<=(aJ T F A d u Ov az (jG d)).jE c
      /\(∀f g h,(dx (.call y z B C D E e)).lhs[f]?=some g->(aJ T F A d u Ov az (jG d)).find a g=some h->h=c->f=i)/\∃s f,Sm.ic ((aJ T F A d u Ov az (jG d)).fr c.1) c.2 s f/\s.name=x/\((aJ T F A d u Ov az (jG d)).fr c.1).vars[c.2]?=some s/\Sm.Src (aJ T F A d u Ov az (jG d)) ((aJ T F A d u Ov az (jG d)).sb c.1 c.2) c.1 f x (some (a,j))/\(c.1=[]->(cM d).ins.length<=c.2):=by
    intro x co f4 i h Y hr d7 d8;obtain⟨ρ,k,v,l,j0,e1,e2,e3,e4⟩:=xO X (ap:=jG d) N O (.inr W) h;obtain⟨y1,y2,y3,y4⟩:=l.get;refine⟨(ρ,k),co,l.f,by rw[y3,(lM Y).2.2],by rw[(zS (Ov:=Ov) (az:=az) (ap:=jG d) f6).1];exact d7,by rw[y4,(lM Y).1,Ud,ZN],by rw[Ud,ZN,y2,(lM Y).2.1];exact hr,λi' x' OQ h1 w S=>?_,d_ v,j0,e1,l.n,e2,e3,λe=>by rw[r];exact e4 e⟩;subst S;refine d8 i' x' h1 ?_;have o:=V (.inr W) (asn h1);obtain⟨f8,k',v',U,_⟩:=xO X (ap:=jG d) N O (.inr W) o;rw[U.f]at w;injection w with w
    injection w with w S
    subst w;subst S;have:=U.vv;rw[l.vv]at this;injection this with this
    rw[<-U.n,<-this,l.n]
   have o:([y,z]:List Nm)[i]?=some x:=h;rw[rQ G|>.symm]at G;rw[rQ R|>.symm]at R;cases i with
   |zero=>
    simp at o;subst o;refine ac (eh.2 (.inl W)) G (asj _) W (λw Y U h2=>?_);have S:([y,z]:List Nm)[w]?=some Y:=U;cases w with
    |zero=>rfl
    |succ w=>
     cases w with
     |zero=>simp at S;rw[S,h2]at H;exact absurd W H
     |succ w=>simp at S
   |succ i=>
    cases i with
    |succ i=>simp at o
    |zero=>
     simp at o;subst o;refine ac (eh.2 (.inr W)) R (Nat.le_succ _) W (λw Y U h2=>?_);have S:([y,z]:List Nm)[w]?=some Y:=U;cases w with
     |zero=>simp at S;rw[S,h2]at H;exact absurd W H
     |succ w=>
      cases w with
      |zero=>rfl
      |succ w=>simp at S
 .show(match kz T F A d u a j with|some (q,p,rs)=>D2 T F A rs p q|none=>0)<=1000;cases c:kz T F A d u a j with
  |none=>exact as2 _
  |some y=>
   obtain⟨q,p,rs⟩:=y;refine LG ?_;cases w:dw T F A d u a with
   |none=>unfold kz at c;rw[w]at c;cases c
   |some z=>
    obtain⟨b,s,D⟩:=z;unfold kz at c;rw[w]at c;simp only at c;cases o:(cP b)[j]? with
    |none=>rw[o]at c;cases c
    |some C=>
     obtain⟨E,B⟩:=mY (s:=s) o;rw[o,B]at c;injection c with c
     injection c with c _
     subst c;have:=z9 I w;cases this with
     |mk c G=>exact c C (asn o)
 .have o:¬(dw T F A d u a).isSome=true:=M;have y:dw T F A d u a=none:=by
   cases w:dw T F A d u a with
   |none=>rfl
   |some z=>rw[w]at o;exact absurd W o
  have:(aJ T F A d u Ov az (jG d)).fr a=⟨[],[],[],[]⟩:=by show eO T F A d u a=_;unfold eO;rw[y]
  rw[this];exact⟨W,W⟩
 .obtain⟨b,s,rs,H,g,C,D,N,rfl,O,y⟩:=kA (show(eO T F A d u a).aq[j]?=some q from c);have B:dw T F A d u (j::a)=none:=by
   cases z:dw T F A d u (j::a)with
   |none=>rfl
   |some G=>
    obtain⟨Q,s',S,U,Y,a',o,w,R,E,_⟩:=kO z;rw[C]at o;injection o with o
    cases o;rw[D]at w;injection w with w
    subst w;have:=zJ E;rw[eM]at f;omega
  have o:(eO T F A d u (j::a)).vars=[]:=by unfold eO;rw[B]
  refine⟨?_,?_⟩
  .show(match(eO T F A d u (j::a)).vars[0]? with|some v=>iU A v.name|none=>match kz T F A d u a j with|some (q,_,_)=>wT A q|none=>0)=_;rw[o,Bq y,y];rfl
  .show(match(eO T F A d u (j::a)).vars[0]? with|some v=>sf A v.name|none=>none)=_;rw[o];rfl
 .obtain⟨b,s,rs,o,g,w,y,E,rfl,G,H⟩:=kA (show(eO T F A d u a).aq[j]?=some q from c);by_cases f:dv o=1\/dv o=2
  .obtain⟨C,k,v,B,_,_,_,_,z⟩:=xO X (ap:=jG d) w y f (V f h);rw[B.f]at l;injection l with l
   subst l;rw[r];exact z he
  .cases o with
   |df z e=>simp[dv]at f
   |call z B C D b N e=>simp[dv]at f
   |sw e z=>cases h
   |aN z=>cases h
   |reset e b=>cases h
 .have o:(d.outs.map d_)[i]?=some v:=n;rw[asF]at o;cases w:d.outs[i]? with
  |none=>rw[w]at o;cases o
  |some y=>
   rw[w]at o;injection o with o
   subst o;rw[r];have z:(pI T F A d u [])[d.ins.length+i]?=some y:=by
    rw[K,asM,ass (by omega),atq,asl (pY w)];exact w
   exact(oT X g z).f
 .obtain⟨b,s,rs,y,g,z,B,N,rfl,O,Q⟩:=kA (show(eO T F A d u a).aq[j]?=some q from c);rw[eM]at f;have h:x∈dQ y:=V (.inl f) (by rw[J];exact atw _);obtain⟨w,k,v,o,C,D,E,G,H⟩:=xO X (ap:=jG d) z B (.inl f) h;exact⟨(w,k),d_ v,C,o.f,D,o.n,E,G,λe=>by rw[r];exact H e⟩
 .obtain⟨b,s,rs,z,g,o,w,B,rfl,C,D⟩:=kA (show(eO T F A d u a).aq[j]?=some q from c);obtain⟨y,k,v,l⟩:=qT X (ap:=jG d) o (xN X o w h);exact⟨_,l.f⟩
 .obtain⟨b,s,rs,o,g,C,D,E,rfl,G,H⟩:=kA (show(eO T F A d u a).aq[j]?=some q from c);rw[eM]at f;rw[mW];cases o with
  |df y e=>rfl
  |call y z w B b N e=>rfl
  |sw e w=>simp[dv]at f
  |aN w=>simp[dv]at f
  |reset e b=>simp[dv]at f
 .rw[<-X.hF];refine⟨λo=>?_,λo=>?_⟩
  .show(if Sm.fH (n_ T F A d u Ov az (jG d)) k then _ else _)=_;exact asB o
  .show(if Sm.fH (n_ T F A d u Ov az (jG d)) k then _ else _)=_;exact asu o
 .rw[<-X.hF];refine⟨λo w=>?_,λo=>?_⟩
  .show(if Sm.fH (n_ T F A d u Ov az (jG d)) k/\_ then _ else _)=_;exact asB ⟨o,w⟩
  .show(if Sm.fH (n_ T F A d u Ov az (jG d)) k/\_ then _ else _)=_;exact asu o
 .rw[<-X.hF];refine⟨λo w=>?_,λo=>?_⟩
  .show(if Sm.fH (n_ T F A d u Ov az (jG d)) k/\_ then _ else _)=_;exact asB ⟨o,w⟩
  .show(if Sm.fH (n_ T F A d u Ov az (jG d)) k/\_ then _ else _)=_;exact asu o
 .obtain⟨b,s,rs,t⟩:=v7 m;obtain⟨H,y,rfl⟩:=z_ n;have o:=pY y;refine⟨?_,(by decide:1<=100),λj D E q _ _ c f=>?_⟩
  .show It.cell a k∈jG d;rw[ly t]at o;by_cases e:a=[]
   .subst e;rw[asB W]at o;refine asw _ (asK.2 ⟨k,atW.2 (by simp only[asq]at o;exact o),W⟩)
   .rw[asu e]at o;refine D8 t _ ?_;cases b with
    |mk z w=>exact asw _ (asK.2 ⟨k,atW.2 o,W⟩)
  .obtain⟨b,s,rs,w,g,z,B,N,rfl,O,C⟩:=kA (show(eO T F A d u D).aq[E]?=some q from c);rw[GU C];have G:qm w:=by
    have:=z9 I z;cases this with
    |mk c Q=>exact c w (asn B)
   have:=D9 (T:=T) (A:=A) (rs:=rs) (p:=g) G;show 1+_<=100;omega
 .obtain⟨b,s,rs,o,g,z,B,O,rfl,Q,C⟩:=kA (show(eO T F A d u a).aq[j]?=some q from c);rw[eM,GU C];have D:qm o:=by
   have:=z9 I z;cases this with
   |mk c w=>exact c o (asn B)
  have S:=D9 (T:=T) (A:=A) (rs:=rs) (p:=g) D;have y:(ud T A rs g o).length<=100:=by omega
  have w:∀it∈Az a j o,it∈jG d:= λit a=>D8 z it (D7 B a)
  cases o with
  |df E e=>exact⟨λh=>by simp[dv]at h,λh=>by simp[dv]at h,λh=>by simp[dv]at h⟩
  |call E G H N b R e=>exact⟨λ_ _=>⟨w _ (atw _),y⟩,λh=>by simp[dv]at h,λh=>by simp[dv]at h⟩
  |sw e E=>exact⟨λh=>by simp[dv]at h,λ_=>⟨w _ (asV ..),y⟩,λh=>by simp[dv]at h⟩
  |aN E=>exact⟨λh=>by simp[dv]at h,λ_=>⟨w _ (asV ..),y⟩,λ_=>⟨w _ (asI _ (asV ..)),(by decide:1<=100)⟩⟩
  |reset e b=>exact⟨λh=>by simp[dv]at h,λ_=>⟨w _ (asV ..),y⟩,λh=>by simp[dv]at h⟩
 .show((jG d).map λ_=>100).foldr (·+ ·) 0<=_;rw[NN];have o:=z8 d.b [];have w:=zY (Z:=Zp) d.b;have y:(jG d).length=d.ins.length+d.outs.length+(dr d.b).length+(z7 [] d.b).length:=by simp[jG]
  omega
 .rw[Yg];apply atX;intro i;rw[asF,asF];rcases asp i d.outs.length with o|o
  .rw[aso o,List.getElem?_range o];have y:d.outs[i]?=some d.outs[i]:=aso o;have w:(pI T F A d u [])[d.ins.length+i]?=some d.outs[i]:=by
    rw[K,asM,ass (by omega),atq,asl o];exact y
   have:=(oT X (ap:=jG d) g w).get.1;simp only[auk];rw[r,this]
  .rw[asr o,asr (by simpa using o)];rfl
end
end Go.Ex
namespace Go.Ex
open Go.Mt Go.Mk
open Go.Sm (Path US It)
variable{rs:Rs}{p s j:Nat}{aj:List a_}{π:Path}{b:bF}{q:aB}
section
variable{P:Sm.Pg}{T:fB}{F:List (Option Int)}{A:Env}{d:Nd}{u:US}{Ov:Nat->US->List Int->List Int->US->Prop}{az:Nat->US}{ap:List Sm.It}{an:Nat}{G:Nat->US->Prop}
def LH{x:Nm}{k:Nat}(h:Sm.mP (eG aj) x=some k)(e:k=rN aj x):rN aj x<aj.length:=by
 unfold Sm.mP at h;obtain⟨a,_⟩:=as4.1 h;rw[oS,asD]at a;rw[<-e];exact a
def Nf{V:Nm->Prop}(h:zy T F A Ov az V rs p (.aN aj)):D2 T F A rs p (.aN aj)<aj.length:=by
 obtain⟨t,a,j,l,m,n,o,q,b,d,r⟩:=h;have c:=pY b;have e:vZ T F A rs p (.aN aj)=je T A (oG T F A rs p (.aN aj) a).rd (kS a):=by
  show(match aj[fC T A rs p (.aN aj)]? with|some a=>je T A (oG T F A rs p (.aN aj) a).rd (kS a)|none=>none)=_;rw[b]
 show(match vZ T F A rs p (.aN aj)with|none=>(if fC T A rs p (.aN aj)<aj.length then fC T A rs p (.aN aj)else 0)|some t=>rN aj t.to)<aj.length;rw[e,asB c];cases f:je T A (oG T F A rs p (.aN aj) a).rd (kS a)with
 |none=>exact c
 |some w=>
  obtain⟨_,_,_,k,g,i⟩:=d w (tw f);exact LH g i
def LI(e:Wd T F G Ov az an)(h:Mem T G (qz u)):Mem T G ⟨Sm.aI.rd (aJ T F A d u Ov az ap),Sm.aI.rp (aJ T F A d u Ov az ap),Sm.aI.rs (aJ T F A d u Ov az ap)⟩:=by
 classical
 intro k;have a:=h k;have f:Sm.aI.rd (aJ T F A d u Ov az ap) k=if Sm.fH (n_ T F A d u Ov az ap) k then Sm.bZ F k else u.mem k:=rfl
 have j:Sm.aI.rs (aJ T F A d u Ov az ap) k=if Sm.fH (n_ T F A d u Ov az ap) k/\F[k]?=some none then none else u.an k:=rfl
 cases b:T.pt k with
 |val t=>
  rw[b]at a;show VT t (Sm.aI.rd (aJ T F A d u Ov az ap) k);rw[f];split
  .exact e.fv k t b
  .exact a
 |any=>trivial
 |aN N=>
  rw[b]at a;show 0<=Sm.aI.rd (aJ T F A d u Ov az ap) k/\Sm.aI.rd (aJ T F A d u Ov az ap) k<(N:Int);rw[f];split
  .exact e.fa k N b
  .exact a
 |call l=>
  rw[b]at a;intro g i;have c:Sm.aI.rs (aJ T F A d u Ov az ap) k=some g:=i;rw[j]at c;split at c
  .cases c
  .exact a g c
def Bx(X:bW P T F A d u Ov az)(a:dw T F A d u π=some (b,s,rs))(c:(cP b)[j]?=some q)(e:(j7 b s)[j]?=some p):zA T q p:=by
 obtain⟨V,h,i,f,k,l⟩:=fM X.hL X.hU X.hS a;cases f with
 |mk m g sb=>exact g j q p c e
def z'(X:bW P T F A d u Ov az)(a:dw T F A d u π=some (b,s,rs))(c:(cP b)[j]?=some q)(e:(j7 b s)[j]?=some p):∃V,Bk T F A Ov az V rs p q/\∀x,V x->jp T F A d u π x:=by
 obtain⟨V,f,h,i,g,k⟩:=fM X.hL X.hU X.hS a;exact⟨_,(oI f).2.2.1 j q p c e,λx a=>(g x).1 a⟩
def Kd(X:bW P T F A d u Ov az)(O:Wd T F G Ov az an)(Q:Mem T G (qz u))(R:∀j u i o a,Ov j u i o a->a.i=j/\G j a)(i:Nat):Mem T G (qz (sg (aJ T F A d u Ov az ap) i)):=by
 intro k;have l:=LI (A:=A) (d:=d) (ap:=ap) O Q k;obtain⟨z,B⟩:=J7 X (ap:=ap) i k;obtain⟨S,U⟩:=J8 X (ap:=ap) i k;have p:∀v,Sm.mQ (aJ T F A d u Ov az ap) k v->match T.pt k with|.val t=>VT t v|.any=>True|.aN N=>0<=v/\v<(N:Int)|.call j=>False:=by
  intro v E;have L:MT T k v->match T.pt k with|.val t=>VT t v|.any=>True|.aN N=>0<=v/\v<(N:Int)|.call j=>False:= λh=>by
   unfold MT at h;cases g:T.pt k with
   |val t=>rw[g]at h;exact h
   |any=>trivial
   |aN N=>rw[g]at h;exact h.elim
   |call j=>rw[g]at h;exact h.elim
  cases zU E with
  |ew D j b H Z q I h r s w a=>
   obtain⟨V,⟨m,f⟩,y⟩:=z' X h r s;apply L;cases q with
   |df x e=>
    have n:=(zR X h (y x m.1) W (.inl W)).1 w;refine f ?_ (k,v) a;obtain⟨_,⟨o,c,_⟩|⟨o,c⟩⟩:=m
    .exact⟨_,_,_,c⟩
    .rw[(lM c).2.2]at n;cases n
   |call J K M Y b' C e=>
    obtain⟨x,n,o⟩:=f;simp only[ud,asL,ast]at a;cases C with
    |false=>
     rcases a with c|c|c
     .cases c
     .exact n (k,v) c
     .exact o (k,v) c
    |true=>
     rcases a with c|c|c
     .exact x W (k,v) c
     .exact n (k,v) c
     .exact o (k,v) c
   |sw e c=>exact f (k,v) a
   |aN c=>cases a
   |reset e c=>exact f (k,v) a
  |last f q b Y Z m r H=>
   have V:q<(Sm.aI.fr (aJ T F A d u Ov az ap) f).vars.length:=by
    have c:=pY r;have n:(Sm.aI.fr (aJ T F A d u Ov az ap) f).cK.length=(Sm.aI.fr (aJ T F A d u Ov az ap) f).vars.length:=by
     show(eO T F A d u f).cK.length=(eO T F A d u f).vars.length;rw[zK m,nO,ly m];split
     .simp[Sm.eL]
     .simp[Sm.eL]
    omega
   obtain⟨w,a,Yh⟩:=z_ (Ov:=Ov) (az:=az) (ap:=ap) (aso V);have M:w.last=true:=by
    by_cases e:w.last=true
    .exact e
    .exfalso;have s:∀{l:List Va} {a i:Nat} {w:Va},l[i]?=some w->w.last=false->(Sm.b_ (l.map d_) a)[i]?=some none:=by
      intro n
      induction n with
      |nil=>intro o i w c _;simp at c
      |cons v n o=>
       intro y i w c a;cases i with
       |zero=>simp at c;subst c;show(if v.last then _ else _)[0]?=_;rw[asu (by rw[a];simp)];rfl
       |succ i=>
        have x:n[i]?=some w:=by simpa using c
        show(if v.last then _ else _)[i+1]?=_;split
        .exact o x a
        .exact o x a
     have x:w.last=false:=by simpa using e
     have c:(eO T F A d u f).cK[q]?=some (some k):=r;rw[zK m]at c;rw[ly m]at a;by_cases y:f=[]
     .rw[asB y]at c a;have o:(List.replicate d.ins.length (none:Option Nat)).length=d.ins.length:=by simp
      have C:(Sm.b_ (d.outs.map d_) (Sm.bP (eD d.b))).length=d.outs.length:=by rw[Sm.eL];simp
      rcases asp q d.ins.length with n|n
      .rw[asM,asl (by rw[o];exact n)]at c;simp[n]at c
      rcases asp q (d.ins.length+d.outs.length)with I|I
      .rw[asM,ass (by rw[o];exact n),asl (by rw[o,C];omega),o]at c;rw[asM,ass n,asl (by omega)]at a;rw[s a x]at c;cases c
      .rw[ass (by simp;omega)]at c;simp only[asq,o,C]at c;rw[ass (by simp;omega)]at a;simp at a;rw[s a x]at c;cases c
     .rw[asu y]at c a;rw[s a x]at c;cases c
   obtain⟨h,J,K⟩:=(J1 (ap:=ap) X m a).lp M;rw[r]at h;injection h with h
   injection h with h
   have D:=(FF (Ov:=Ov) (az:=az) (ap:=ap) f a).1;rw[H]at D;rw[h,J];have:val A w.name=v:=by rw[<-Bp,<-D];rfl
   rw[<-this];exact K
  |aN o j b s q x a c f m=>
   obtain⟨V,⟨h,r⟩,w⟩:=z' X a c f;have n:=Bx X a c f;rw[n,m];have:=Nf h;simp only;omega
 cases g:T.pt k with
 |val t=>
  rw[g]at l p;show VT t ((sg (aJ T F A d u Ov az ap) i).mem k);by_cases a:∃v,Sm.mQ (aJ T F A d u Ov az ap) k v
  .obtain⟨v,a⟩:=a;rw[z v a];exact p v a
  .rw[B (λv h=>a ⟨v,h⟩)];exact l
 |any=>trivial
 |aN N=>
  rw[g]at l p;show 0<=(sg (aJ T F A d u Ov az ap) i).mem k/\(sg (aJ T F A d u Ov az ap) i).mem k<(N:Int);by_cases a:∃v,Sm.mQ (aJ T F A d u Ov az ap) k v
  .obtain⟨v,a⟩:=a;rw[z v a];exact p v a
  .rw[B (λv h=>a ⟨v,h⟩)];exact l
 |call j=>
  rw[g]at l;intro w TW;have a:(sg (aJ T F A d u Ov az ap) i).an k=some w:=TW;by_cases c:∃v,Sm.vA (aJ T F A d u Ov az ap) k v
  .obtain⟨v,c⟩:=c;rw[S v c]at a;injection a with a
   subst a;obtain⟨q,E,q',h1,Y,f,h4,h5,h6⟩:=c;obtain⟨b,co,C,M,m,H,I,J,rfl,f5,f6⟩:=kA (show(eO T F A d u q).aq[E]?=some q' from Y);have VV:m=k:=by
    have h:(eO T F A d u q).pos[E]?=some k:=h5;rw[f5]at h;injection h
   subst VV;rw[eM]at f;cases M with
   |df x e=>simp[dv]at f
   |sw e h=>simp[dv]at f
   |aN h=>simp[dv]at f
   |reset e b=>simp[dv]at f
   |call x y r s D L e=>
    obtain⟨d6,⟨V,lw⟩,hV⟩:=z' X H I J;obtain⟨_,_,_,jj,ii,ox,oy,ac,n,k1,k2,_,_,_,Z,Wy⟩:=V;have h:=(Bx X H I J).1 jj n;rw[g]at h;injection h with h
    subst h;have o:∃a,GM T A Ov az C m (.call x y r s D L e) a:=⟨ac,j,n,by rw[rQ k1,rQ k2];exact Z⟩;have hq:xr T A Ov az C m (.call x y r s D L e)=Classical.choose o:=by unfold xr;rw[auW o]
    obtain⟨j2,K,ah⟩:=atO o;rw[n]at K;have:=(iC K).2;subst this;rw[h6,(zS f6).2.1,hq];exact R _ _ _ _ _ ah
  .rw[U (λv h=>c ⟨v,h⟩)]at a;exact l w a
end
end Go.Ex
namespace Go.Ex
open Go.Mt Go.Mk
variable{n n':Nat}{s:Sc}{outs vs:List Va}{l r:List Nm}{aj:List a_}{Q:Sc->List Va->Nat->Nat->List aB->List Va->Prop}
def u5(p:Nat):List Va->List (Va×Nat)
 |[]=>[]
 |v::l=>(v,p)::u5 (if v.last then p+1 else p) l
mutual
def Ip(p:Nat):aB->List (Va×Nat)
 |.df _ _=>[]
 |.call _ _ _ _ _ _ _=>[]
 |.sw e aj=>pA (p+xE e) aj
 |.aN aj=>pA (p+1) aj
 |.reset e b=>CN (p+xE e) b
def pA(p:Nat):List a_->List (Va×Nat)
 |[]=>[]
 |.mk _ b _ _::l=>CN p b++pA (p+Sm.bP (eD b)) l
def CN(p:Nat):bF->List (Va×Nat)
 |.mk a b=>u5 p a++mA (p+Sm.aS (a.map d_)) b
def mA(p:Nat):List aB->List (Va×Nat)
 |[]=>[]
 |q::l=>Ip p q++mA (p+Sm.qP (dx q)) l
end
abbrev tn(l:List (Va×Nat)):List Nm:=l.map (·.1.name)
def FM:∀(l:List Va) (p:Nat),tn (u5 p l)=l.map (·.name)
 |[],p=>rfl
 |v::l,p=>by simp only[u5,tn,asT];rw[show List.map (λx:Va×Nat=>x.1.name) (u5 (if v.last then p+1 else p) l)=l.map (·.name)from FM l _]
def By(l r:List a_):∀p,∃a,pA p (l++r)=pA p l++pA a r:=by
 induction l with
 |nil=>intro p;exact⟨p,by simp[pA]⟩
 |cons a l d=>
  intro p;cases a with
  |mk n b u w=>
   obtain⟨c,h⟩:=d (p+Sm.bP (eD b));exact⟨c,by simp only[atp,pA];rw[h,asM]⟩
def Bz(l r:List aB):∀p,∃a,mA p (l++r)=mA p l++mA a r:=by
 induction l with
 |nil=>intro p;exact⟨p,by simp[mA]⟩
 |cons q l b=>
  intro p;obtain⟨a,h⟩:=b (p+Sm.qP (dx q));exact⟨a,by simp only[atp,mA];rw[h,asM]⟩
structure pB(n n':Nat)(l:List Nm):Prop where
 b:∀x∈l,gD n n' x
 d:l.Nodup
def pB.nil:pB n n' []:=⟨λx h=>(by cases h),aus⟩
def pB.app{m:Nat}(h:pB n m l)(g:pB m n' r)(b:n<=m)(c:m<=n'):pB n n' (l++r):=by
 refine⟨λx a=>?_,?_⟩
 .rcases ast.1 a with k|k
  .exact(h.b x k).mono (asj _) c
  .exact(g.b x k).mono b (asj _)
 .rw[ati];refine⟨h.d,g.d,λx a y d e=>?_⟩;subst e;exact(h.b x a).not (g.b x d).gt
def pB.perm(h:pB n n' l)(a:l.Perm r):pB n n' r:=⟨λx b=>h.b x (a.mem_iff.2 b),a.nodup_iff.1 h.d⟩
def D_(c:Sc->List Va->Nat->Nat->bF->Prop):Prop:=∀s d n a b,c s d n a b->n<=a/\∀p,pB n a (tn (CN p b))
section
variable{Sub:Sc->List Va->Nat->Nat->bF->Prop}
theorem D'(d:D_ Sub){names:List Nm}(h:mT Sub s outs names n aj n'):n<=n'/\∀p,pB n n' (tn (pA p aj)):=by
 induction h with
 |nil=>exact⟨asj _,λp=>pB.nil⟩
 | @snoc aj k m h c o l q r b f a=>
  obtain⟨g,i⟩:=d _ _ _ _ _ f;refine⟨by grind,λp=>?_⟩;obtain⟨j,e⟩:=By aj [.mk c b [] []] p;rw[e,tn,asN];refine(a.2 p).app ?_ a.1 g;simp only[pA,asL];exact i j
theorem LJ(c:D_ Sub){N:Nat}(h:uq Sub s outs N n aj n'):n<=n'/\∀p,pB n n' (tn (pA p aj)):=by
 induction h with
 |nil=>exact⟨asj _,λp=>pB.nil⟩
 | @snoc aj m o h l q r d t b f g u a=>
  obtain⟨i,j⟩:=c _ _ _ _ _ f;refine⟨by grind,λp=>?_⟩;obtain⟨k,e⟩:=By aj [.mk (nm 83 aj.length) b d g] p;rw[e,tn,asN];refine(a.2 p).app ?_ a.1 i;simp only[pA,asL];exact j k
theorem Mj(a:D_ Sub){g:Nat}{c:List aB}(h:GQ Sub g s outs n n' c vs):n<=n'/\∀p,pB n n' (vs.map (·.name)++tn (mA p c)):=by
 induction h with
 | @sc s outs n q h=>
  refine⟨asj _,λp=>?_⟩;have i:∀{outs:List Va} {q:List aB},py s outs q->∀p,mA p q=[]:=by
   intro outs q h
   induction h with
   |nil=>intro p;rfl
   | @snoc l q h w e j d=>
    intro p;obtain⟨k,f⟩:=Bz q [.df w.name e] p;rw[f,d p];rfl
  rw[i h p];exact pB.nil
 |tm j d k=>obtain⟨f,i⟩:=D' a d;exact⟨f,λp=>by simp only[mA,Ip,asL,atu,asW];exact i _⟩
 |pV j d k=>obtain⟨f,i⟩:=D' a d;exact⟨f,λp=>by simp only[mA,Ip,asL,atu,asW];exact i _⟩
 |aN N k d j=>obtain⟨f,i⟩:=LJ a d;exact⟨f,λp=>by simp only[mA,Ip,asL,atu,asW];exact i _⟩
 |reset j i=>obtain⟨d,f⟩:=a _ _ _ _ _ i;exact⟨d,λp=>by simp only[mA,Ip,asL,atu,asW];exact f _⟩
 | @call s outs n n' l vs j r k b o q t e m h d=>
  refine⟨by grind,λp=>?_⟩;simp;have i:pB n (n+2) [nm 117 (n+1),nm 117 (n+2)]:=by
   refine⟨λx f=>?_,?_⟩
   .simp at f;rcases f with rfl|rfl
    .exact⟨117,n+1,by omega,by omega,rfl⟩
    .exact⟨117,n+2,by omega,by omega,rfl⟩
   .simp;intro e;have:=(iC e).2;omega
  exact i.app (d.2 _) (by omega) d.1
 | @mx s outs n n' l vs j b k r e cH o q t u m v h d=>
  refine⟨by grind,λp=>?_⟩;simp;have i:pB n (n+3) [nm 99 (n+1),nm 119 (n+2),nm 122 (n+3)]:=by
   refine⟨λx f=>?_,?_⟩
   .simp at f;rcases f with rfl|rfl|rfl
    .exact⟨99,n+1,by omega,by omega,rfl⟩
    .exact⟨119,n+2,by omega,by omega,rfl⟩
    .exact⟨122,n+3,by omega,by omega,rfl⟩
   .simp;exact⟨⟨λe=>by have:=(iC e).2;omega,λe=>by have:=(iC e).2;omega⟩,λe=>by have:=(iC e).2;omega⟩
  exact i.app (d.2 _) (by omega) d.1
theorem NO(d:∀s c n a b vs,Q s c n a b vs->n<=a/\∀p,pB n a (vs.map (·.name)++tn (mA p b))){f:Sc}{g:List Va}{a:Nat}{c:List Va}{q:List aB}(h:GL Q f g a s c n q vs):a<=n/\∀p,pB a n (vs.map (·.name)++tn (mA p q)):=by
 induction h with
 |start=>exact⟨asj _,λp=>pB.nil⟩
 | @step s c n r q vs i t h o u v w j b=>
  obtain⟨k,l⟩:=d _ _ _ _ _ _ j;refine⟨by grind,λp=>?_⟩;obtain⟨m,e⟩:=Bz q i p;rw[e,tn,asN,asN];refine((b.2 p).app (l m) b.1 k).perm ?_;simp;refine List.Perm.append_left _ ?_;rw[<-asM,<-asM];exact List.Perm.append_right _ List.perm_append_comm
theorem Ke(d:∀s e n a c d,Q s e n a c d->n<=a/\∀p,pB n a (d.map (·.name)++tn (mA p c))):D_ (DJ Q):=by
 rintro s t n k b ⟨a,l,m,q,c,e,o,f,rfl⟩;obtain⟨g,r,h⟩:=CF e;obtain⟨i,j⟩:=NO d f;refine⟨by omega,λp=>?_⟩;simp only[CN,tn,asN];rw[show List.map (λx:Va×Nat=>x.1.name) (u5 p (a++c))=(a++c).map (·.name)from FM _ _,asN,asM];exact pB.app ⟨λx a=>by grind,h⟩ (j _) g i
def Ml(a:Nat):∀d,D_ (GB a d)
 |0=>Ke λs f n b c e h=>Mj (λ_ _ _ _ _ h=>h.elim) h
 |d+1=>Ke λs f n b c e h=>Mj (Ml a d) h
end
end Go.Ex
namespace Go.Ex
open Go.Mt Go.Mk
variable{t:Ty}{e:E}{l:List PK}
def jH(T:fB):E->List PK
 |.un _ a=>jH T a
 |.bin _ a b=>jH T a++jH T b
 |.ite c a b=>jH T c++(jH T a++jH T b)
 |.fO c y=>.val (qh T c)::(jH T c++jH T y)
 |.pre y=>.val (qh T y)::jH T y
 |.arrow a b=>.any::(jH T a++jH T b)
 |.fq _ _ a=>jH T a
 |.merge _ _ _ _ a b c=>jH T a++(jH T b++jH T c)
 |_=>[]
def Has(pt:Nat->PK)(p:Nat)(l:List PK):Prop:=∀(i:Nat) (x:PK),l[i]?=some x->pt (p+i)=x
theorem Has.app{pt:Nat->PK}{p:Nat}{r:List PK}(h:Has pt p (l++r)):Has pt p l/\Has pt (p+l.length) r:=by
 refine⟨λi x a=>h i x ?_,λi x a=>?_⟩
 .grind
 .have:=h (l.length+i) x (by grind);rw[<-this];congr 1;omega
def Has.cons{pt:Nat->PK}{p:Nat}{y:PK}{r:List PK}(h:Has pt p (y::r)):pt p=y/\Has pt (p+1) r:=by
 have:=Has.app (l:=[y]) (r:=r) h;exact⟨this.1 0 y W,this.2⟩
def Ng(op:Int)(a:E):xE (.un op a)=xE a:=by simp[xE,cx,Sm.xP,Sm.dS,Sm.dh]
def LK(op:Int)(a b:E):xE (.bin op a b)=xE a+xE b:=by simp[xE,cx,Sm.xP,Sm.dS,Sm.dh]
def LL(c a b:E):xE (.ite c a b)=xE c+(xE a+xE b):=by simp[xE,cx,Sm.xP,Sm.dS,Sm.dh]
def LM(c y:E):xE (.fO c y)=(xE c+xE y)+1:=by simp[xE,cx,Sm.xP,Sm.dS,Sm.dh];omega
def LN(y:E):xE (.pre y)=xE y+1:=by simp[xE,cx,Sm.xP,Sm.dS,Sm.dh];omega
def Iq(a b:E):xE (.arrow a b)=(xE a+xE b)+1:=by simp[xE,cx,Sm.xP,Sm.dS,Sm.dh];omega
def LO(x c:Nm)(a:E):xE (.fq x c a)=xE a:=by simp[xE,cx,Sm.xP,Sm.dS,Sm.dh]
def Ir(x d e f:Nm)(a b c:E):xE (.merge x d e f a b c)=xE a+(xE b+xE c):=by simp[xE,cx,Sm.xP,Sm.dS,Sm.dh]
def cU(T:fB):∀e:E,(jH T e).length=xE e
 |.nil=>rfl
 |.int _=>rfl
 |.bool _=>rfl
 |.ctor _=>rfl
 |.var _=>rfl
 |.last _=>rfl
 |.un d a=>by rw[Ng];exact cU T a
 |.bin d a b=>by rw[LK,jH,asq,cU T a,cU T b]
 |.ite c a b=>by rw[LL,jH,asq,asq,cU T c,cU T a,cU T b]
 |.fO c y=>by rw[LM,jH,asO,asq,cU T c,cU T y]
 |.pre y=>by rw[LN,jH,asO,cU T y]
 |.arrow a b=>by rw[Iq,jH,asO,asq,cU T a,cU T b]
 |.fq x c a=>by rw[LO];exact cU T a
 |.merge x d f g a b c=>by rw[Ir,jH,asq,asq,cU T a,cU T b,cU T c]
def jq(T:fB):∀{e:E} {p:Nat},Has T.pt p (jH T e)->iA T e p
 |.nil,_,_=>trivial
 |.int _,_,_=>trivial
 |.bool _,_,_=>trivial
 |.ctor _,_,_=>trivial
 |.var _,_,_=>trivial
 |.last _,_,_=>trivial
 |.un d a,p,h=>jq T (e:=a) h
 |.bin g f b,p,h=>by
  obtain⟨d,a⟩:=Has.app h;rw[cU]at a;exact⟨jq T d,jq T a⟩
 |.ite c g b,p,h=>by
  obtain⟨f,a⟩:=Has.app h;obtain⟨a,d⟩:=Has.app a;rw[cU]at a d;rw[cU]at d;exact⟨jq T f,jq T a,jq T d⟩
 |.fO c y,p,h=>by
  obtain⟨f,a⟩:=Has.cons h;obtain⟨a,d⟩:=Has.app a;rw[cU]at d;exact⟨f,jq T d⟩
 |.pre y,p,h=>by
  obtain⟨a,d⟩:=Has.cons h;exact⟨a,jq T d⟩
 |.arrow g b,p,h=>by
  obtain⟨f,a⟩:=Has.cons h;obtain⟨a,d⟩:=Has.app a;rw[cU]at d;exact⟨f,jq T a,jq T d⟩
 |.fq x c a,p,h=>jq T (e:=a) h
 |.merge x i j k g b c,p,h=>by
  obtain⟨f,a⟩:=Has.app h;obtain⟨a,d⟩:=Has.app a;rw[cU]at a d;rw[cU]at d;exact⟨jq T f,jq T a,jq T d⟩
open Classical in
noncomputable def CO(f:Nm):Nat:=if h:∃j,f=nm 102 j then Classical.choose h else 0
def FN(j:Nat):CO (nm 102 j)=j:=by
 have h:∃i,nm 102 j=nm 102 i:=⟨j,rfl⟩;unfold CO;rw[auW h];exact((iC (atO h)).2).symm
def oa(l:List Va):List PK:=(l.filter (·.last)).map λv=>.val v.ty
mutual
noncomputable def ll(T:fB):aB->List PK
 |.df _ e=>jH T e
 |.call _ _ f a b _ e=>.call (CO f)::(jH T e++(jH T a++jH T b))
 |.sw e a=>jH T e++pZ T a
 |.aN a=>.aN a.length::pZ T a
 |.reset e b=>jH T e++oJ T b
noncomputable def pZ(T:fB):List a_->List PK
 |[]=>[]
 |.mk _ b _ _::l=>oJ T b++pZ T l
noncomputable def oJ(T:fB):bF->List PK
 |.mk b a=>oa b++qV T a
noncomputable def qV(T:fB):List aB->List PK
 |[]=>[]
 |q::l=>ll T q++qV T l
end
def Ea(l:List Va):(oa l).length=Sm.aS (l.map d_):=by
 unfold oa Sm.aS;rw[asD,List.filter_map,asD];rfl
mutual
def Eb(T:fB):∀q:aB,(ll T q).length=Sm.qP (dx q)
 |.df x e=>by
  have a:Sm.qP (dx (.df x e))=xE e+0+0+0:=rfl;rw[a,ll];exact cU T e
 |.call x y f a b d e=>by
  have c:Sm.qP (dx (.call x y f a b d e))=xE e+(xE a+(xE b+0))+1+0:=rfl;rw[c,ll,asO,asq,asq,cU,cU,cU];omega
 |.sw e a=>by
  have c:Sm.qP (dx (.sw e a))=xE e+0+0+Sm.kX (eG a):=rfl;rw[c,ll,asq,cU,wW T a];omega
 |.aN a=>by
  have c:Sm.qP (dx (.aN a))=0+0+1+Sm.kX (eG a):=rfl;rw[c,ll,asO,wW T a];omega
 |.reset e b=>by
  have a:Sm.qP (dx (.reset e b))=xE e+0+0+(Sm.bP (eD b)+0):=rfl;rw[a,ll,asq,cU,tD T b];omega
def wW(T:fB):∀l:List a_,(pZ T l).length=Sm.kX (eG l)
 |[]=>rfl
 |.mk n b u w::l=>by
  have a:Sm.kX (eG (.mk n b u w::l))=Sm.bP (eD b)+Sm.kX (eG l):=rfl;rw[a,pZ,asq,tD T b,wW T l]
def tD(T:fB):∀b:bF,(oJ T b).length=Sm.bP (eD b)
 |.mk c a=>by
  have d:Sm.bP (eD (.mk c a))=Sm.aS (c.map d_)+Sm.vx (fy a):=rfl;rw[d,oJ,asq,Ea,BA T a]
def BA(T:fB):∀l:List aB,(qV T l).length=Sm.vx (fy l)
 |[]=>rfl
 |q::l=>by
  have a:Sm.vx (fy (q::l))=Sm.qP (dx q)+Sm.vx (fy l):=rfl;rw[a,qV,asq,Eb T q,BA T l]
end
def Nh:PK->Option Int->Prop
 |.val t,some v=>VT t v
 |.any,some _=>True
 |.aN N,none=>0<N
 |.call _,none=>True
 |_,_=>False
def FA(l:List PK)(m:List (Option Int)):Prop:=l.length=m.length/\∀(i:Nat) (x:PK) (y:Option Int),l[i]?=some x->m[i]?=some y->Nh x y
def FA.nil:FA [] []:=⟨rfl,λi x y h=>by simp at h⟩
def FA.app{c:List PK}{m d:List (Option Int)}(h:FA l m)(e:FA c d):FA (l++c) (m++d):=by
 refine⟨by rw[asq,asq,h.1,e.1],λi x y a b=>?_⟩;rcases asp i l.length with g|g
 .rw[asl g]at a;rw[asl (by rw[<-h.1];exact g)]at b;exact h.2 i x y a b
 .rw[ass g]at a;rw[ass (by rw[<-h.1];exact g),<-h.1]at b;exact e.2 _ x y a b
theorem FA.cons{x:PK}{y:Option Int}{l:List PK}{m:List (Option Int)}(a:Nh x y)(h:FA l m):FA (x::l) (y::m):=by
 have:FA [x] [y]:=⟨rfl,λi a b a a=>by
  grind⟩
 exact FA.app this h
def nS:E->Prop
 |.un _ a=>nS a
 |.bin _ a b=>nS a/\nS b
 |.ite c a b=>nS c/\nS a/\nS b
 |.fO c y=>(∃t,GC t c)/\nS y
 |.pre y=>nS y
 |.arrow a b=>nS a/\nS b
 |.fq _ _ a=>nS a
 |.merge _ _ _ _ a b c=>nS a/\nS b/\nS c
 |_=>True
def CP(h:GC t e):nS e:=by cases h<;>trivial
def pC{s:Sc}{st:Bool}{d:Nat}(h:GE s t st d e):nS e:=by
 induction h with
 |v h=>cases h with
  |uO h=>exact CP h
  |var h=>obtain⟨v,_,_,_,rfl⟩:=h;trivial
 |c h=>exact CP h
 |ite g i j a b f=>exact⟨a,b,f⟩
 |fO a f b=>exact⟨⟨_,a⟩,b⟩
 |arrow f g a b=>exact⟨a,b⟩
 |last h=>obtain⟨v,_,_,_,rfl⟩:=h;trivial
 |neg b a=>exact a
 |arith i j f g a b=>exact⟨a,b⟩
 |not b a=>exact a
 |k8 i u j f g a b=>exact⟨a,b⟩
def Kf(t:Ty):VT t 0:=by
 cases t with
 |bool=>exact .inl W
 |int=>show Sm.oD 0;unfold Sm.oD;omega
 |ft=>exact .inl W
def BB(h:GC t e):VT t (Sm.pc cQ (cx e)):=by
 cases h with
 |bool h=>exact h
 |int h=>
  rename_i n;show Sm.oD n;simp at h;unfold Sm.oD;omega
 |ft h=>
  rename_i s;have:Sm.pc cQ (cx (.ctor s))=iz s:=zO h;rw[this];simp at h;rcases h with rfl|rfl|rfl
  .exact .inl W
  .exact .inr (.inl W)
  .exact .inr (.inr W)
def lm(T:fB):∀{e:E},nS e->FA (jH T e) (Sm.iG cQ (cx e))
 |.nil,_=>FA.nil
 |.int _,_=>FA.nil
 |.bool _,_=>FA.nil
 |.ctor _,_=>FA.nil
 |.var _,_=>FA.nil
 |.last _,_=>FA.nil
 |.un d a,h=>by
  have f:Sm.iG cQ (cx (.un d a))=[]++(Sm.iG cQ (cx a)++[]):=rfl;rw[f,asW,asL];exact lm T (e:=a) h
 |.bin d a b,h=>by
  have f:Sm.iG cQ (cx (.bin d a b))=[]++(Sm.iG cQ (cx a)++(Sm.iG cQ (cx b)++[])):=rfl;rw[f,asW,asL];exact(lm T h.1).app (lm T h.2)
 |.ite c a b,h=>by
  have d:Sm.iG cQ (cx (.ite c a b))=[]++(Sm.iG cQ (cx c)++(Sm.iG cQ (cx a)++(Sm.iG cQ (cx b)++[]))):=rfl;rw[d,asW,asL];exact(lm T h.1).app ((lm T h.2.1).app (lm T h.2.2))
 |.fO c y,h=>by
  have d:Sm.iG cQ (cx (.fO c y))=[some (Sm.pc cQ (cx c))]++(Sm.iG cQ (cx c)++(Sm.iG cQ (cx y)++[])):=rfl;obtain⟨⟨t,a⟩,f⟩:=h;rw[d,asL];refine FA.cons ?_ ((lm T (CP a)).app (lm T f));rw[tt a];exact BB a
 |.pre y,h=>by
  have a:Sm.iG cQ (cx (.pre y))=[some 0]++(Sm.iG cQ (cx y)++[]):=rfl;rw[a,asL];exact FA.cons (Kf _) (lm T (e:=y) h)
 |.arrow a b,h=>by
  have d:Sm.iG cQ (cx (.arrow a b))=[some 1]++(Sm.iG cQ (cx a)++(Sm.iG cQ (cx b)++[])):=rfl;rw[d,asL];exact FA.cons trivial ((lm T h.1).app (lm T h.2))
 |.fq x c a,h=>by
  have d:Sm.iG cQ (cx (.fq x c a))=[]++(Sm.iG cQ (cx a)++[]):=rfl;rw[d,asW,asL];exact lm T (e:=a) h
 |.merge x f g i a b c,h=>by
  have d:Sm.iG cQ (cx (.merge x f g i a b c))=[]++(Sm.iG cQ (cx a)++(Sm.iG cQ (cx b)++(Sm.iG cQ (cx c)++[]))):=rfl;rw[d,asW,asL];exact(lm T h.1).app ((lm T h.2.1).app (lm T h.2.2))
def FO:aB->Prop
 |.df _ e=>nS e
 |.call _ _ _ a b _ e=>nS e/\nS a/\nS b
 |.sw e _=>nS e
 |.aN a=>0<a.length
 |.reset e _=>nS e
inductive wX:bF->Prop where
 |mk {b:bF} (d:∀v∈dr b,v.last=true->GC v.ty v.first) (e:∀q∈cP b,FO q) (f:∀a∈cP b,∀c∈cB a,wX (dP c)):wX b
def Mm(l:List Va)(h:∀v∈l,v.last=true->GC v.ty v.first):FA (oa l) (Sm.gx cQ (l.map d_)):=by
 induction l with
 |nil=>exact FA.nil
 |cons v l c=>
  have b:=c (λw a=>h w (asI _ a));by_cases a:v.last=true
  .have d:oa (v::l)=.val v.ty::oa l:=by unfold oa;rw[at1 (by omega)];rfl
   have e:Sm.gx cQ ((v::l).map d_)=some (Sm.pc cQ (cx v.first))::Sm.gx cQ (l.map d_):=by
    unfold Sm.gx;rw[asT,at1 (show(d_ v).last=true from a)];rfl
   rw[d,e];exact FA.cons (BB (h v (asV ..) a)) b
  .have d:oa (v::l)=oa l:=by unfold oa;rw[at2 (by omega)]
   have e:Sm.gx cQ ((v::l).map d_)=Sm.gx cQ (l.map d_):=by
    unfold Sm.gx;rw[asT,at2 (show ¬(d_ v).last=true from a)]
   rw[d,e];exact b
def NP(T:fB){b:bF}(h:wX b):FA (oJ T b) (Sm.kZ cQ (eD b)):=by
 induction h with
 | @mk b i j s k=>
  have f:∀{a:List a_},(∀c∈a,FA (oJ T (dP c)) (Sm.kZ cQ (eD (dP c))))->FA (pZ T a) (Sm.mC cQ (eG a)):=by
   intro c
   induction c with
   |nil=>intro _;exact FA.nil
   |cons a l g=>
    intro h;cases a with
    |mk n b u w=>
     have d:Sm.mC cQ (eG (.mk n b u w::l))=Sm.kZ cQ (eD b)++Sm.mC cQ (eG l):=rfl;rw[d,pZ];exact(h _ (asV ..)).app (g (λa c=>h a (asI _ c)))
  have o:∀{l:List aB},(∀q∈l,FO q/\∀a∈cB q,FA (oJ T (dP a)) (Sm.kZ cQ (eD (dP a))))->FA (qV T l) (Sm.jd cQ (fy l)):=by
   intro l
   induction l with
   |nil=>intro _;exact FA.nil
   |cons q l p=>
    intro h;have m:Sm.jd cQ (fy (q::l))=Sm.uM cQ (dx q)++Sm.jd cQ (fy l):=rfl;rw[m,qV];refine FA.app ?_ (p (λq a=>h q (asI _ a)));obtain⟨a,c⟩:=h q (asV ..);cases q with
    |df x e=>
     have d:Sm.uM cQ (dx (.df x e))=[]++(Sm.iG cQ (cx e)++[])++[]:=rfl;rw[d,ll,asL,asL,asW];exact lm T a
    |call x y g d b r e=>
     have n:Sm.uM cQ (dx (.call x y g d b r e))=[none]++(Sm.iG cQ (cx e)++(Sm.iG cQ (cx d)++(Sm.iG cQ (cx b)++[])))++[]:=rfl;rw[n,ll,asL,asL];exact FA.cons trivial ((lm T a.1).app ((lm T a.2.1).app (lm T a.2.2)))
    |sw e d=>
     have g:Sm.uM cQ (dx (.sw e d))=[]++(Sm.iG cQ (cx e)++[])++Sm.mC cQ (eG d):=rfl;rw[g,ll,asL,asW];exact(lm T a).app (f c)
    |aN d=>
     have g:Sm.uM cQ (dx (.aN d))=[none]++([]++[])++Sm.mC cQ (eG d):=rfl;rw[g,ll,asL,asL];exact FA.cons a (f c)
    |reset e b=>
     have d:Sm.uM cQ (dx (.reset e b))=[]++(Sm.iG cQ (cx e)++[])++(Sm.kZ cQ (eD b)++[]):=rfl;rw[d,ll,asL,asL,asW];exact(lm T a).app (c (.mk e0 b [] []) (atw _))
  cases b with
  |mk a c=>
   have d:Sm.kZ cQ (eD (.mk a c))=Sm.gx cQ (a.map d_)++Sm.jd cQ (fy c):=rfl;rw[d,oJ];exact(Mm a i).app (o λq a=>⟨j q a,k q a⟩)
end Go.Ex
namespace Go.Ex
open Go.Mt Go.Mk
variable{T T':fB}{n n':Nat}{s:Sc}{outs vs:List Va}{aj:List a_}{Q:Sc->List Va->Nat->Nat->List aB->List Va->Prop}
section
variable{Sub:Sc->List Va->Nat->Nat->bF->Prop}
def Ec(c:Sc->List Va->Nat->Nat->bF->Prop):Prop:=∀s d n a b,c s d n a b->wX b
def Ed(d:Ec Sub){names:List Nm}(h:mT Sub s outs names n aj n'):∀a∈aj,wX (dP a):=by
 induction h with
 |nil=>intro a e;cases e
 |snoc h c j l k m b f i=>
  intro a e;rcases ast.1 e with g|g
  .exact i a g
  .rw[asx]at g;subst g;exact d _ _ _ _ _ f
def LP(c:Ec Sub){N:Nat}(h:uq Sub s outs N n aj n'):∀a∈aj,wX (dP a):=by
 induction h with
 |nil=>intro a d;cases d
 |snoc h l i j k m b e o p f=>
  intro a d;rcases ast.1 d with g|g
  .exact f a g
  .rw[asx]at g;subst g;exact c _ _ _ _ _ e
theorem Mn(d:Ec Sub){j:Nat}{i:List aB}(h:GQ Sub j s outs n n' i vs):∀q∈i,FO q/\∀a∈cB q,wX (dP a):=by
 induction h with
 | @sc s outs n q h=>
  have l:∀{outs:List Va} {q:List aB},py s outs q->∀e∈q,FO e/\cB e=[]:=by
   intro outs q h
   induction h with
   |nil=>intro e c;cases c
   |snoc h w e c f=>
    intro x k;rcases ast.1 k with g|g
    .exact f x g
    .rw[asx]at g;subst g;exact⟨pC c,W⟩
  intro e c;exact⟨(l h e c).1,λa c=>by grind⟩
 |tm f g k=>intro x c;rw[asx]at c;subst c;exact⟨pC f,Ed d g⟩
 |pV f g k=>intro x c;rw[asx]at c;subst c;exact⟨pC f,Ed d g⟩
 |aN N k f g=>intro x c;rw[asx]at c;subst c;exact⟨show 0<_ by omega,LP d f⟩
 |reset g l=>
  intro x c;rw[asx]at c;subst c;refine⟨pC g,λa k=>?_⟩;have f:a∈[a_.mk e0 _ [] []]:=k;rw[asx]at f;subst f;exact d _ _ _ _ _ l
 |call o p a b l m r e c h g=>
  intro x f;rcases asQ.1 f with rfl|f
  .refine⟨⟨?_,pC l,pC m⟩,λa k=>(by cases k)⟩;rcases c with⟨_,rfl⟩|⟨_,c⟩
   .trivial
   .exact pC c
  .exact g x f
 |mx a b t u e cH f m o p g r h k=>
  intro x c;rcases asQ.1 c with rfl|c
  .exact⟨pC g,λa l=>(by cases l)⟩
  rcases asQ.1 c with rfl|c
  .refine⟨?_,λa l=>(by cases l)⟩;rcases r with rfl|rfl
   .exact(show nS a from pC f)
   .exact⟨⟨_,p⟩,trivial,(show nS a from pC f)⟩
  rcases asQ.1 c with rfl|c
  .exact⟨⟨(show nS b from pC m),trivial,CP o⟩,λa l=>(by cases l)⟩
  .exact k x c
def NQ(j:∀s d n c b vs,Q s d n c b vs->∀q∈b,FO q/\∀a∈cB q,wX (dP a)){b:Sc}{c:List Va}{d:Nat}{i:List Va}{q:List aB}(h:GL Q b c d s i n q vs):∀q'∈q,FO q'/\∀a∈cB q',wX (dP a):=by
 induction h with
 |start=>intro q e;cases e
 |step h k m o p l e=>
  intro q' f;rcases ast.1 f with g|g
  .exact e q' g
  .grind
def Is{m:Nat}(h:NV n vs m):∀v∈vs,v.last=true->GC v.ty v.first:=by
 induction h with
 |nil=>intro v a;cases a
 |snoc h w b c d e=>
  intro v a f;rcases ast.1 a with g|g
  .grind
  .grind
def Kg(a:∀s e n d a c,Q s e n d a c->(∀q∈a,FO q/\∀a∈cB q,wX (dP a))/\∀v∈c,v.last=false):Ec (DJ Q):=by
 rintro s p n i b ⟨j,k,l,q,r,e,m,c,rfl⟩;have d:=NQ (λs f n c d e h=>(a s f n c d e h).1) c;have o:=D0 (λs f n c d e h=>(a s f n c d e h).2) c;refine .mk (λv f h=>?_) (λq a=>(d q a).1) (λq a=>(d q a).2);rcases ast.1 f with g|g
 .exact Is e v g h
 .grind
def Mo(a:Nat):∀d,Ec (GB a d)
 |0=>Kg λs f n b c e h=>⟨Mn (λ_ _ _ _ _ h=>h.elim) h,zI h⟩
 |d+1=>Kg λs f n b c e h=>⟨Mn (Mo a d) h,zI h⟩
end
def Kh(T:fB)(a:Va×Nat):Prop:=T.ty a.1.name=a.1.ty/\T.ls a.1.name=a.1.last/\T.lp a.1.name=a.2
def xR:∀{l:List Va} {p i:Nat} {v:Va},l[i]?=some v->(∀a∈u5 p l,Kh T a)->Has T.pt p (oa l)->T.ty v.name=v.ty/\T.ls v.name=v.last/\(v.last=true->(Sm.b_ (l.map d_) p)[i]?=some (some (T.lp v.name))/\T.pt (T.lp v.name)=.val v.ty)
 |[],p,i,v,h,_,_=>by simp at h
 |w::l,p,i,v,h,a,c=>by
  have d:=a (w,p) (asV ..);cases b:w.last with
  |true=>
   have e:oa (w::l)=.val w.ty::oa l:=by unfold oa;rw[at1 (by omega)];rfl
   have f:Sm.b_ ((w::l).map d_) p=some p::Sm.b_ (l.map d_) (p+1):=by
    show(if w.last then _ else _)=_;rw[asB b]
   have g:u5 p (w::l)=(w,p)::u5 (p+1) l:=by show(w,p)::u5 (if w.last then p+1 else p) l=_;rw[asB b]
   rw[e]at c;obtain⟨o,j⟩:=Has.cons c;rw[g]at a;rw[f];cases i with
   |zero=>
    simp at h;subst h;obtain⟨k,m,n⟩:=d;exact⟨k,m,λ_=>⟨by rw[n];rfl,by simp_all⟩⟩
   |succ i=>exact xR (i:=i) (by simpa using h) (λb c=>a b (asI _ c)) j
  |false=>
   have e:oa (w::l)=oa l:=by unfold oa;rw[at2 (by simp[b])]
   have f:Sm.b_ ((w::l).map d_) p=none::Sm.b_ (l.map d_) p:=by
    show(if w.last then _ else _)=_;rw[asu (by simp[b])]
   have g:u5 p (w::l)=(w,p)::u5 p l:=by show(w,p)::u5 (if w.last then p+1 else p) l=_;rw[asu (by simp[b])]
   rw[e]at c;rw[g]at a;rw[f];cases i with
   |zero=>
    simp at h;subst h;exact⟨d.1,d.2.1,λh=>by simp_all⟩
   |succ i=>exact xR (i:=i) (by simpa using h) (λb c=>a b (asI _ c)) c
def Aa{T:fB}{pt:Nat->PK} :∀{l:List aB} {c j p:Nat} {q:aB},l[j]?=some q->(Sm.dJ (fy l) c)[j]?=some p->(∀a∈Ip p q,a∈mA c l)/\(Has pt c (qV T l)->Has pt p (ll T q))
 |[],c,j,p,q,h,_=>by simp at h
 |x::l,c,j,p,q,h,a=>by
  simp only[fy,Sm.dJ]at a;cases j with
  |zero=>
   simp at h a;subst h;subst a;refine⟨λe d=>?_,λb=>?_⟩
   .simp only[mA];exact asw _ d
   .rw[qV]at b;exact(Has.app b).1
  |succ j=>
   obtain⟨f,g⟩:=Aa (T:=T) (pt:=pt) (l:=l) (c:=c+Sm.qP (dx x)) (j:=j) (by simpa using h) (by simpa using a);refine⟨λd e=>?_,λb=>g ?_⟩
   .simp only[mA];exact asz _ (f d e)
   .rw[qV]at b;have:=(Has.app b).2;rw[Eb]at this;exact this
def tF{T:fB}{pt:Nat->PK} :∀{l:List a_} {c k:Nat} {a:a_},l[k]?=some a->(∀d∈CN (c+Sm.aR (((eG l).take k).map Sm.fP)) (dP a),d∈pA c l)/\(Has pt c (pZ T l)->Has pt (c+Sm.aR (((eG l).take k).map Sm.fP)) (oJ T (dP a)))
 |[],c,k,a,h=>by simp at h
 |.mk n b u w::l,c,k,a,h=>by
  cases k with
  |zero=>
   simp at h;subst h;refine⟨λg f=>?_,λd=>?_⟩
   .simp only[pA];exact asw _ f
   .rw[pZ]at d;exact(Has.app d).1
  |succ k=>
   obtain⟨i,j⟩:=tF (T:=T) (pt:=pt) (l:=l) (c:=c+Sm.bP (eD b)) (k:=k) (by simpa using h);have e:c+Sm.aR (((eG (.mk n b u w::l)).take (k+1)).map Sm.fP)=c+Sm.bP (eD b)+Sm.aR (((eG l).take k).map Sm.fP):=by
    have:Sm.aR (((eG (.mk n b u w::l)).take (k+1)).map Sm.fP)=Sm.bP (eD b)+Sm.aR (((eG l).take k).map Sm.fP):=rfl;rw[this];omega
   rw[e];refine⟨λf g=>?_,λd=>j ?_⟩
   .simp only[pA];exact asz _ (i f g)
   .rw[pZ]at d;have:=(Has.app d).2;rw[tD]at this;exact this
def Ki{b:bF}(h:wX b):∀p,(∀a∈CN p b,Kh T a)->Has T.pt p (oJ T b)->qj T p b:=by
 induction h with
 | @mk b B C D u=>
  intro p l s;cases b with
  |mk G E=>
  simp only[CN]at l;rw[oJ]at s;obtain⟨y,m⟩:=Has.app s;rw[Ea]at m;refine .mk (λi v a=>xR a (λa d=>l a (asw _ d)) y) (λt q g j r=>?_) (λt q g k f j r a=>?_)
  .have d:=(Aa (T:=T) (pt:=T.pt) j r).2 m;cases q with
   |df x e=>exact jq T d
   |call x z A f b F e=>
    rw[ll]at d;obtain⟨w,n⟩:=Has.cons d;obtain⟨n,i⟩:=Has.app n;obtain⟨i,o⟩:=Has.app i;rw[cU]at i o;rw[cU]at o;exact⟨λj a=>by rw[w,a,FN],jq T n,jq T i,jq T o⟩
   |sw e i=>rw[ll]at d;exact jq T (Has.app d).1
   |aN i=>rw[ll]at d;exact(Has.cons d).1
   |reset e b=>rw[ll]at d;exact jq T (Has.app d).1
  .obtain⟨x,d⟩:=Aa (T:=T) (pt:=T.pt) j r;have d:=d m;refine u q (asn j) f (asn a) (nL q g k) (λi n=>l i (asz _ (x i ?_))) ?_
   .cases q with
    |df o e=>simp[cB]at a
    |call o w z f b A e=>simp[cB]at a
    |sw e o=>exact(tF (T:=T) (pt:=T.pt) (c:=g+xE e) (show o[k]?=some f from a)).1 i n
    |aN o=>exact(tF (T:=T) (pt:=T.pt) (c:=g+1) (show o[k]?=some f from a)).1 i n
    |reset e b=>
     cases k with
     |succ k=>simp[cB]at a
     |zero=>simp[cB]at a;subst a;exact n
   .cases q with
    |df o e=>simp[cB]at a
    |call o w z f b A e=>simp[cB]at a
    |sw e w=>
     rw[ll]at d;have o:=(Has.app d).2;rw[cU]at o;exact(tF (T:=T) (pt:=T.pt) (c:=g+xE e) (show w[k]?=some f from a)).2 o
    |aN w=>
     rw[ll]at d;have o:=(Has.cons d).2;exact(tF (T:=T) (pt:=T.pt) (c:=g+1) (show w[k]?=some f from a)).2 o
    |reset e b=>
     cases k with
     |succ k=>simp[cB]at a
     |zero=>
      simp[cB]at a;subst a;rw[ll]at d;have o:=(Has.app d).2;rw[cU]at o;exact o
def tG(h:T.ty=T'.ty):∀e:E,qh T e=qh T' e
 |.nil=>rfl
 |.int _=>rfl
 |.bool _=>rfl
 |.ctor _=>rfl
 |.var x=>by simp only[qh,h]
 |.last x=>by simp only[qh,h]
 |.un d a=>rfl
 |.bin d a b=>rfl
 |.ite c a b=>tG h a
 |.fO c y=>tG h c
 |.pre y=>tG h y
 |.arrow a b=>tG h a
 |.fq x c a=>tG h a
 |.merge x d f g a b c=>tG h c
def jc(h:T.ty=T'.ty):∀e:E,jH T e=jH T' e
 |.nil=>rfl
 |.int _=>rfl
 |.bool _=>rfl
 |.ctor _=>rfl
 |.var x=>rfl
 |.last x=>rfl
 |.un d a=>jc h a
 |.bin d a b=>by simp only[jH];rw[jc h a,jc h b]
 |.ite c a b=>by simp only[jH];rw[jc h a,jc h b,jc h c]
 |.fO c y=>by simp only[jH];rw[tG h c,jc h c,jc h y]
 |.pre y=>by simp only[jH];rw[tG h y,jc h y]
 |.arrow a b=>by simp only[jH];rw[jc h a,jc h b]
 |.fq x c a=>jc h a
 |.merge x d f g a b c=>by simp only[jH];rw[jc h a,jc h b,jc h c]
mutual
def Ni(h:T.ty=T'.ty):∀q:aB,ll T q=ll T' q
 |.df x e=>by rw[ll,ll,jc h e]
 |.call x y f a b c e=>by rw[ll,ll,jc h e,jc h a,jc h b]
 |.sw e a=>by rw[ll,ll,jc h e,CQ h a]
 |.aN a=>by rw[ll,ll,CQ h a]
 |.reset e b=>by rw[ll,ll,jc h e,FP h b]
def CQ(h:T.ty=T'.ty):∀l:List a_,pZ T l=pZ T' l
 |[]=>rfl
 |.mk n b u w::l=>by rw[pZ,pZ,FP h b,CQ h l]
def FP(h:T.ty=T'.ty):∀b:bF,oJ T b=oJ T' b
 |.mk c a=>by rw[oJ,oJ,G4 h a]
def G4(h:T.ty=T'.ty):∀l:List aB,qV T l=qV T' l
 |[]=>rfl
 |q::l=>by rw[qV,qV,Ni h q,G4 h l]
end
def Ee(d:Nd):List (Va×Nat):=d.ins.map (λv=>(v,0))++(u5 (Sm.bP (eD d.b)) d.outs++CN 0 d.b)
def Eg(d:Nd)(x:Nm):Option (Va×Nat):=(Ee d).find? λa=>decide (a.1.name=x)
def T0(d:Nd):fB where
 ty x:=match Eg d x with|some vp=>vp.1.ty|none=>.int
 ls x:=match Eg d x with|some vp=>vp.1.last|none=>false
 lp x:=match Eg d x with|some vp=>vp.2|none=>0
 pt _:=.any
noncomputable def TN(d:Nd):fB:={T0 d with pt:= λk=>((oJ (T0 d) d.b++oa d.outs)[k]?).getD .any}
theorem FQ{d:Nd}(e:(tn (Ee d)).Nodup){a:Va×Nat}(h:a∈Ee d):Kh (TN d) a:=by
 have:Eg d a.1.name=some a:=by
  unfold Eg;cases b:(Ee d).find? λw=>decide (w.1.name=a.1.name)with
  |none=>
   have:=List.find?_eq_none.1 b a h;simp at this
  |some w=>
   have f:=auL b;obtain⟨i,g⟩:=asJ.1 f;obtain⟨j,c⟩:=asJ.1 h;have k:i<(tn (Ee d)).length:=by grind
   have:=(aut k e (j:=j)).1 (by grind);subst this;rw[g]at c;exact c
 refine⟨?_,?_,?_⟩
 .show(match Eg d a.1.name with|some a=>a.1.ty|none=>.int)=_;rw[this]
 .show(match Eg d a.1.name with|some a=>a.1.last|none=>false)=_;rw[this]
 .show(match Eg d a.1.name with|some a=>a.2|none=>0)=_;rw[this]
end Go.Ex
namespace Go.Ex
open Go.Mt Go.Mk
open Go.Sm (Path US It)
variable{d:Nd}{k n j:Nat}{x:PK}
def NR(a:wX d.b)(b:∀v∈d.outs,v.last=true->GC v.ty v.first):FA (oJ (T0 d) d.b++oa d.outs) (Sm.gH cQ (cM d)):=(NP (T0 d) a).app (Mm d.outs b)
def FR(h:(TN d).pt k=x)(c:x≠.any):(oJ (T0 d) d.b++oa d.outs)[k]?=some x:=by
 have a:((oJ (T0 d) d.b++oa d.outs)[k]?).getD .any=x:=h;cases b:(oJ (T0 d) d.b++oa d.outs)[k]? with
 |none=>rw[b]at a;exact absurd a.symm c
 |some y=>rw[b]at a;exact atB some a
def CR{l:List PK}{m:List (Option Int)}(h:FA l m)(b:l[k]?=some x):∃y,m[k]?=some y/\Nh x y:=by
 have a:=pY b;rw[h.1]at a;exact⟨_,aso a,h.2 k x _ b (aso a)⟩
def oc(l:List Nd):Nat->Nat->US->Prop
 |0,_,_=>False
 |n+1,k,u=>∃d,l[k]?=some d/\u.i=k/\Mem (TN d) (oc l n) (qz u)
structure NS(d:Nd):Prop where
 wf:wX d.b
 of:∀v∈d.outs,v.last=true->GC v.ty v.first
 nd:(tn (Ee d)).Nodup
def lA{c:UInt8}{n':Nat}{x:Nm}(h:gD n n' x):x≠⟨#[c]⟩:=by
 obtain⟨a,k,_,_,rfl⟩:=h;exact Ln a c k
def Nj:tn (Ee d)=d.ins.map (·.name)++(d.outs.map (·.name)++tn (CN 0 d.b)):=by
 unfold Ee tn;rw[asN,asN,avf,show List.map (λx:Va×Nat=>x.1.name) (u5 (Sm.bP (eD d.b)) d.outs)=d.outs.map (·.name)from FM _ _];rfl
theorem NT(h:GN k d):NS d:=by
 obtain⟨_,i,⟨last,first,n,c⟩,o,p,f⟩:=h;refine⟨Mo k 3 _ _ _ _ _ f,λv b j=>?_,?_⟩
 .rw[c]at b;simp at b;rcases b with rfl|rfl
  .grind
  .cases j
 .have g:=(Ml k 3 _ _ _ _ _ f).2 0;rw[Nj,i,c,<-asM,ati];refine⟨(show([aV.name,bV.name,⟨#[120]⟩,yV.name]:List Nm).Nodup by decide),g.d,λx q y l e=>?_⟩;subst e;have a:=g.b x l;have m:x=aV.name\/x=bV.name\/x=⟨#[120]⟩\/x=yV.name:=by grind
  rcases m with rfl|rfl|rfl|rfl
  .exact lA a W
  .exact lA a W
  .exact lA a W
  .exact lA a W
def Mp(h:NS d):(∀k t,(TN d).pt k=.val t->VT t (Sm.bZ (Sm.gH cQ (cM d)) k))/\(∀k N,(TN d).pt k=.aN N->0<=Sm.bZ (Sm.gH cQ (cM d)) k/\Sm.bZ (Sm.gH cQ (cM d)) k<(N:Int))/\∀k j,(TN d).pt k=.call j->(Sm.gH cQ (cM d))[k]?=some none:=by
 have b:=NR h.wf h.of;refine⟨λk t a=>?_,λk N a=>?_,λk j a=>?_⟩
 .obtain⟨y,e,c⟩:=CR b (FR a (by simp));cases y with
  |none=>exact c.elim
  |some v=>unfold Sm.bZ;rw[e];exact c
 .obtain⟨y,e,c⟩:=CR b (FR a (by simp));cases y with
  |none=>
   have f:0<N:=c;unfold Sm.bZ;rw[e];show(0:Int)<=0/\(0:Int)<N;omega
  |some v=>exact c.elim
 .obtain⟨y,c,e⟩:=CR b (FR a (by simp));cases y with
  |none=>exact c
  |some v=>exact e.elim
section
variable{l:List Nd}(hP:GP l)
include hP
def Eh(b:j<l.length):Sm.fG (gZ l).nodes (nm 102 j)=some j:=by
 have c:∀(i:Nat) (d:Nd),l[i]?=some d->d.name=nm 102 i:= λi d h=>(hP.2.2 i d h).1
 show(l.map cM).findIdx? (λd=>decide (d.name=nm 102 j))=some j;rw[auu];obtain⟨k,a,f,g,h,i⟩:=xL l ((λd:Sm.Nd=>decide (d.name=nm 102 j))∘cM) ⟨l[j],asE b,by show decide (l[j].name=nm 102 j)=true;rw[c j _ (aso b)];simp⟩;have e:a.name=nm 102 j:=asC h;rw[c k a g]at e;rw[f,(iC e).2]
def Ei(a:l[j]?=some d):oc l (n+1) j (US.init (gZ l) j):=by
 obtain⟨e,f,h⟩:=Mp (NT (hP.2.2 j d a));have b:∀k,(US.init (gZ l) j).mem k=Sm.bZ (Sm.gH cQ (cM d)) k:= λk=>by
  show(match(l.map cM)[j]? with|some d=>Sm.bZ (Sm.gH cQ d) k|none=>0)=_;rw[asF,a];rfl
 refine⟨d,a,W,λk=>?_⟩;cases c:(TN d).pt k with
 |val t=>show VT t ((US.init (gZ l) j).mem k);rw[b];exact e k t c
 |any=>trivial
 |aN N=>show 0<=(US.init (gZ l) j).mem k/\(US.init (gZ l) j).mem k<(N:Int);rw[b];exact f k N c
 |call i=>intro m g;cases g
def LQ:∀(n k:Nat),k<n->∀(u:US),oc l n k u->∀a b,VT .int a->VT .bool b->∃c f u',Sm.eV (gZ l) n u [a,b] [c,f] u'/\VT .int c/\VT .ft f/\oc l n k u':=by
 intro n
 induction n with
 |zero=>intro k c;omega
 |succ n Y=>
  intro k hk u Z a b va vb;obtain⟨d,p,z,A⟩:=Z;have r:=hP.2.2 k d p;have o:=NT r;obtain⟨f1,f2,f3⟩:=Mp o;have RX:=pY p;have B:=CM r;obtain⟨d9,h,⟨last,first,hf,f⟩,n',Qv,C⟩:=r
  let T:=TN d
  let F:=Sm.gH cQ (cM d)
  let D:Nat->US->List Int->List Int->US->Prop:= λj u i o u'=>j<k/\Sm.eV (gZ l) n u i o u'/\u'.i=j/\oc l n j u'
  let G:Nat->US:=US.init (gZ l)
  have VY:∀j u',oc l n j u'->u'.i=j:= λj u' c=>by
   cases n with
   |zero=>exact c.elim
   |succ n=>obtain⟨_,_,i,_⟩:=c;exact i
  have H:Wd T F (oc l n) D G k:=by
   refine⟨f1,f2,f3,λj i=>⟨?_,rfl⟩,λj i u0 ac a0 b0 ZZ ah=>?_⟩
   .have q:l[j]?=some l[j]:=aso (by omega);cases n with
    |zero=>omega
    |succ n=>exact Ei hP q
   .obtain⟨U,V,u',h1,h2,h3,q⟩:=Y j (by omega) u0 ac a0 b0 ZZ ah;exact⟨U,V,u',⟨i,h1,VY j u' q,q⟩,h2,h3⟩
  have I:qj T 0 d.b:=by
   refine Ki o.wf 0 (λc c=>FQ o.nd (asz _ (asz _ c))) (λj q i=>?_);rw[show oJ T d.b=oJ (T0 d) d.b from FP (T:=T) (T':=T0 d) (show T.ty=(T0 d).ty from rfl) d.b]at i;show((oJ (T0 d) d.b++oa d.outs)[0+j]?).getD .any=q;rw[atH,asl (pY i),i];rfl
  have co:Has T.pt (Sm.bP (eD d.b)) (oa d.outs):= λi x c=>by
   show((oJ (T0 d) d.b++oa d.outs)[Sm.bP (eD d.b)+i]?).getD .any=x;rw[ass (by rw[tD];omega),tD,atq,c];rfl
  have P:∀(i:Nat) (v:Va),d.outs[i]?=some v->T.ty v.name=v.ty/\T.ls v.name=v.last/\(v.last=true->(Sm.b_ (d.outs.map d_) (Sm.bP (eD d.b)))[i]?=some (some (T.lp v.name))/\T.pt (T.lp v.name)=.val v.ty):= λi v c=>
   xR c (λc c=>FQ o.nd (asz _ (asw _ c))) co
  have Q:∀v∈d.ins,T.ty v.name=v.ty/\T.ls v.name=v.last:= λv c=>by
   have:=FQ o.nd (asw _ (asK.2 ⟨v,c,rfl⟩));exact⟨this.1,this.2.1⟩
  have J:∀v∈d.outs,v.clock=none:= λv c=>by
   rw[f]at c;simp at c;rcases c with rfl|rfl<;>rfl
  have s:((d.ins++d.outs).map (·.name)).Nodup:=by rw[h,f];exact(show([aV.name,bV.name,⟨#[120]⟩,yV.name]:List Nm).Nodup by decide)
  have R:(d.outs.map (·.name)).Nodup:=by rw[f];exact(show([⟨#[120]⟩,yV.name]:List Nm).Nodup by decide)
  have t:∀x,eZ (d.ins++d.outs) x->¬gD 0 n' x:=by
   rintro j ⟨v,c,rfl⟩ i;rw[h,f]at c;simp at c;rcases c with rfl|rfl|rfl|rfl
   .exact lA i W
   .exact lA i W
   .exact lA i W
   .exact lA i W
  let g:Env:=[(aV.name,some a,0),(bV.name,some b,0)]
  have w:get g aV.name=some (some a,0,0):=rfl;have x:get g bV.name=some (some b,0,1):=rfl;have y:∀x,x≠aV.name->x≠bV.name->get g x=none:= λx c f=>by
   show(if aV.name=x then _ else if bV.name=x then _ else none)=none;rw[asu (λe=>c e.symm),asu (λe=>f e.symm)]
  have d6:lL T g (eZ (d.ins++d.outs)) ⟨d.ins,[],[]⟩ g.length:=by
   refine⟨⟨λv i=>(Q v i).1,λv i=>(by cases i),λv i=>(by cases i)⟩,λv c j=>?_,λv i=>(by cases i)⟩;have i:eZ (d.ins++d.outs) v.name:=⟨v,asw _ c,rfl⟩;rw[h]at c;simp at c;rcases c with rfl|rfl
   .exact⟨i,⟨a,0,0,w,(show 0<2 by decide)⟩,by show VT .int (val g aV.name);unfold val;rw[w];exact va⟩
   .exact⟨i,⟨b,0,1,x,(show 1<2 by decide)⟩,by show VT .bool (val g bV.name);unfold val;rw[x];exact vb⟩
  obtain⟨E,K,L,hL⟩:=GJ H 3 _ _ _ _ _ C g (qz u) (eZ (d.ins++d.outs)) 0 A d6 (λv c=>by
    obtain⟨i,j⟩:=asJ.1 c;obtain⟨q,U,V⟩:=P i v j;refine⟨⟨v,asz _ c,W⟩,⟨q,U,λh=>(V h).2⟩,J v c,?_⟩;rw[f]at c;simp at c;rcases c with rfl|rfl
    .exact y _ (show(⟨#[120]⟩:Nm)≠aV.name by decide) (show(⟨#[120]⟩:Nm)≠bV.name by decide)
    .exact y _ (show yV.name≠aV.name by decide) (show yV.name≠bV.name by decide)) R t (λx c=>y x (lA c) (lA c)) I
  obtain⟨d7,M,d8⟩:=(zG k 3).st _ _ _ _ _ C (eZ (d.ins++d.outs)) (λv c=>⟨v,asz _ c,rfl⟩) t R;obtain⟨sp,wf⟩:=FK hP;have N:(gZ l).nodes[u.i]?=some (cM d):=by show(l.map cM)[u.i]?=_;rw[z,asF,p];rfl
  have X:bW (gZ l) T F E d u D G:=by
   refine⟨sp,wf,asn N,W,W,hL E (bf.refl E),d8,I,s,λv c=>?_,λi v c=>?_,λv c=>?_,λv c U hq hx=>?_,λv c=>?_⟩
   .obtain⟨j,q⟩:=Q v c;rw[h]at c;simp at c;rcases c with rfl|rfl
    .exact⟨j,q,W,W⟩
    .exact⟨j,q,W,W⟩
   .obtain⟨j,q,V⟩:=P i v c;exact⟨j,q,J v (asn c),V⟩
   .exact(mV.1 ((M v.name).2 ⟨v,c,W⟩)).1
   .have q:¬ ∃w∈dr d.b,w.name=v.name:=by
     rintro⟨j,V,e⟩;exact t v.name ⟨v,asw _ c,W⟩ (e▸d7 j V)
    have:v.name∈Sm.kp (eD d.b):=mV.2 ⟨⟨U,hq,hx⟩,λw c e=>q ⟨w,c,e⟩⟩;obtain⟨j,V,e⟩:=(M v.name).1 this;rw[asN,ati]at s;exact s.2.2 v.name (as1 c) j.name (as1 V) e.symm
   .obtain⟨j,sb,i,q,h2,V,h4⟩:=L.o v c;exact⟨j,sb,i,q,V,h4⟩
  have O:=Nc X (⟨λj u i o u' h=>⟨h.2.1,Eh hP (by have:=h.1;omega)⟩,λj=>rfl⟩) B.1 B.2.1 N (by rw[h];exact(show 2<=1000 by decide)) (by rw[f];exact(show 2<=1000 by decide)) (ins:=[a,b]) (by rw[h];rfl) (λj v m i q=>by
   rw[h]at i;cases j with
   |zero=>simp at i q;subst i;subst q;exact⟨0,0,K.get w⟩
   |succ j=>
    cases j with
    |zero=>simp at i q;subst i;subst q;exact⟨0,1,K.get x⟩
    |succ j=>simp at i)
  have S:∀v∈d.outs,VT v.ty (val E v.name):= λv q=>by
   obtain⟨V,sb,U,i,h2,h3,j⟩:=L.o v q;rw[rQ i];exact j
  have e1:d.outs.map (λv=>val E v.name)=[val E ⟨#[120]⟩,val E yV.name]:=by rw[f];rfl
  rw[e1]at O;refine⟨_,_,_,⟨_,cM d,O⟩,S ⟨⟨#[120]⟩,.int,none,last,first⟩ (by rw[f];exact asV ..),S yV (by rw[f];exact asI _ (asV ..)),d,p,z,(Kd (ap:=jG d) X H A (λj u i o u' h=>⟨h.2.2.1,h.2.2.2⟩) u.i)⟩
end
end Go.Ex
