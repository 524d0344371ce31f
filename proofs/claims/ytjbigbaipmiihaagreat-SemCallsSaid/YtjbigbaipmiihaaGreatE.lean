/- A part of the proof of the last text of this claim, without conditions. -/
import Derived.Test.YtjbigbaipmiihaaGreatD
set_option maxRecDepth 4000
set_option linter.all false
namespace Go.Sm
open Go.Mt
theorem BK{en:List En}{l:List Va}{i:Nat}(h:i<l.length):gO en (l.take (i+1))=gO en (l.take i)++(if l[i].last then [some (pT en l[i].first)]else []):=by
 rw[au1 h,Ec]
 congr 1
 cases a:l[i].last<;>simp[gO,a]
theorem Ge{en:List En}{a:List aB}{i:Nat}(h:i<a.length):ju en (a.take (i+1))=ju en (a.take i)++vy en a[i]:=by
 rw[mH,mH,au1 h,avi,awh];simp
theorem Gf(en:List En)(a:List aB):(ju en a).length=aS (a.map qP):=by rw[rm,yB]
end Go.Sm
namespace Go.Proofs.Sz
open Go.Mt Go.Sm Go.Proofs
open Tryz
theorem tQ{l:List Va}{i:Nat}(h:i<l.length):aU (l.take (i+1))=aU (l.take i)+(if l[i].last then 1 else 0)/\aU (l.take (i+1))<=aU l:=by
 refine⟨?_,mG l (i+1)⟩;rw[au1 h,qp]
theorem zV(c:Mc)(L:qw c.P.aJ)(fr j:Nat)(N:j<=bW c.d)(b:bj)(U:uP b): ∀(a:Nat),a+bP b<=1000000000-> ∀x H,MM c x H->DT prog 58 [.ref c.it 0,.d (.agg b.cells),dN a,dN fr,dN j] H λr K=>MS c H (x.fV (lE c.P.aJ b) a fr j) K:=by
 induction U with
 | @mk h g h1 h2 V O q h6 h7 X=>
  intro a C x H A;have P:=qL (.mk h g);simp only[bj.vars,bj.au]at P;rw[P]at C;have Y: ∀e∈g,∀a∈e.aj,bP a.cy<=qP e:= λe hq a y=>by
   have Z:=kh (avw (f:=gb) y);have he:=jD e;rw[oC]at Z;omega
  have Q: ∀e∈g,∀a∈e.aj,PT prog 40 [.agg a.cy.cells] (·= [iN (bP a.cy)]):= λe i a y=>by
   have hm:=kh (avw (f:=qP) i);have:=Y e i a y;exact mn _ (V e i a y) (by omega)
  have hE: ∀e∈g,PT prog 55 [.agg e.cells] (·= [iN (qP e)]):= λe i=>by
   have hm:=kh (avw (f:=qP) i);exact C5 e (q e i).1 (q e i).2.1 (q e i).2.2 (by omega) (O e i) (Q e i)
  have hR: ∀e∈g,∀(a:Nat),a+qP e<=1000000000-> ∀x H,MM c x H->DT prog 87 [.ref c.it 0,.d (.agg e.cells),dN a,dN fr,dN j] H λr K=>MS c H (x.fV (vy c.P.aJ e) a fr j) K:= λe i a C x H A=>
   Em c L fr j N e (O e i) (q e i).2.1 (q e i).1 (q e i).2.2 (Q e i) (X e i) a C x H A
  rw[bj.aC,C4];simp only[bj.vars,bj.au];refine DT.ob func58 W ntmps58 W<|dO [2,2,20] W<|Po (bp W W W) ?_;rw[bD];refine dL [] W<|Pz [nN 17 0,nN 16 h.length,nD 15 (.sl (aI h)),nN 2 (a+aU (h.take 0)),nD 6 (.bm [.sl (aI h),.sl (g.map aB.cells)] 0),nN 4 j,nN 3 fr,nR 0 c.it] H W W<|dC [] W<|Qy (λR=> ∃K p,MS c H (x.fV (gO c.P.aJ h) a fr j) K/\R=⟨[nN 2 (a+aU h),nD 6 (.bm [.sl (aI h),.sl (g.map aB.cells)] 0),nN 4 j,nN 3 fr,nR 0 c.it],p,K⟩) ?_ ?_
  ·refine dC [3] W<|DC.lp (λt B=> ∃(d:Nat) (p:List (Nat×List M)) (K:Hp),B=⟨[nN 17 d,nN 16 h.length,nD 15 (.sl (aI h)),nN 2 (a+aU (h.take d)),nD 6 (.bm [.sl (aI h),.sl (g.map aB.cells)] 0),nN 4 j,nN 3 fr,nR 0 c.it],p,K⟩/\MS c H (x.fV (gO c.P.aJ (h.take d)) a fr j) K/\d<=h.length/\t=h.length-d) h.length _
    ⟨0,_,H,rfl,by rw[show gO c.P.aJ (h.take 0)= []from rfl,Kp.wx];exact MS.refl A,by omega,rfl⟩ W ?_
   rintro t s1 ⟨d,p,K,rfl,k,hi,rfl⟩;refine dC [2] W<|DC.cond W (λD=> ?_) (λD=> ?_)
   ·have l:d<h.length:=by grind
    have m:=ez l;obtain⟨s,ac⟩:=tQ l;have n:=BK (en:=c.P.aJ) l;generalize h[d]=w at m s n;rw[w.aC]at m;refine dC [3] W ?_;cases z:w.last with
    |true=>
     rw[z]at m s;simp only[awr]at s;rw[z]at n;simp only[awr]at n;obtain⟨r2,E,F,u⟩:=rv c L _ K k.mm (a+aU (h.take d)) fr j (by omega) N w.first;have v:=k.trans F;rw[show a+aU (h.take d)=a+(gO c.P.aJ (h.take d)).length by rw[oD],<-Kp.rq,<-n]at v;rw[w.first.aC]at u;have G:((a+aU (h.take d):Nat):Int)+1=((a+aU (h.take (d+1)):Nat):Int):=by omega
     refine dO [2,23] W<|Po (aG W W W (auJ d) m W)<|dR [2,1,2,33] W<|Po (aq u W W)<|dR [2,35] W<|Po (az W W W (by omega)) ?_;rw[G];refine dR [2,36] W<|Po (az W W W (by omega))<|dL [] W<|bK (k':=h.length-(d+1)) (by omega) ⟨d+1,_,E,rfl,v,by omega,rfl⟩ W W
    |false=>
     rw[z]at m s;simp only[avS,awi,av9]at s;rw[z]at n;simp only[avS,awi,avg]at n;rw[<-n]at k;refine dO [2,23] W<|Po (aG W W W (auJ d) m W)<|dR [2,0,2,36] W<|Po (az W W W (by omega))<|dL [] W<|bK (k':=h.length-(d+1)) (by omega) ⟨d+1,_,K,rfl,k,by omega,rfl⟩ W (kc W (kc W (kc W (kc (by rw[s];rfl) W))))
   ·refine DC.exit ?_;have l:d=h.length:=by grind
    subst l;rw[avo]at k⊢;exact⟨_,⟨K,p,k,W⟩,cR W W⟩
  rintro R ⟨K,p,k,rfl⟩;obtain⟨o,S⟩: ∃o,o=a+aU h:=⟨_,rfl⟩;rw[<-S];have ah:a+(gO c.P.aJ h).length=o:=by rw[oD,S]
  generalize gO c.P.aJ h=J at k ah⊢;have co:(g.map aB.cells).length=g.length:=by simp
  refine dO [2,39] W<|Po (bp W W W) ?_;rw[co];refine dL [] W<|Pz [nN 36 0,nN 35 g.length,nD 34 (.sl (g.map aB.cells)),nN 2 (o+aS ((g.take 0).map qP)),nN 4 j,nN 3 fr,nR 0 c.it] K W W<|dC [3] W<|DC.lp (λt B=> ∃(d:Nat) (p:List (Nat×List M)) (K:Hp),B=⟨[nN 36 d,nN 35 g.length,nD 34 (.sl (g.map aB.cells)),nN 2 (o+aS ((g.take d).map qP)),nN 4 j,nN 3 fr,nR 0 c.it],p,K⟩/\MS c H (x.fV (J++ju c.P.aJ (g.take d)) a fr j) K/\d<=g.length/\t=g.length-d) g.length _
   ⟨0,_,K,rfl,by rw[show ju c.P.aJ (g.take 0)= []from rfl,avg];exact k,by omega,rfl⟩ W ?_
  rintro t s1 ⟨d,p,K,rfl,k,hi,rfl⟩;refine dC [2] W<|DC.cond W (λD=> ?_) (λD=> ?_)
  ·have l:d<g.length:=by grind
   have m:(g.map aB.cells)[((d:Nat):Int).toNat]?=some g[d].cells:=by simp[l]
   obtain⟨SL,ac⟩:=gx qP l;have I:=hE _ (avb l);have T:=hR _ (avb l);have n:=Ge (en:=c.P.aJ) l;generalize g[d]=e at m I SL T n;obtain⟨r2,E,F,u⟩:=T (o+aS ((g.take d).map qP)) (by omega) _ K k.mm;have v:=k.trans F;rw[show o+aS ((g.take d).map qP)=a+(J++ju c.P.aJ (g.take d)).length by rw[auN,Gf];omega,<-Kp.rq,avh,<-n]at v;rw[e.aC,e.ex.aC]at m u I;have G:((o+aS ((g.take d).map qP):Nat):Int)+((qP e:Nat):Int)=((o+aS ((g.take (d+1)).map qP):Nat):Int):=by omega
   refine dO [3,2,42] W<|Po (aG W W W (auJ d) m W)<|dR [2,49] W<|Po (aq u W W)<|dR [2,52] W<|Po (aE I W W)<|dR [53] W<|Po (az W W W (by omega)) ?_;rw[G];refine dR [2,54] W<|Po (az W W W (by omega))<|dL [] W<|bK (k':=g.length-(d+1)) (by omega) ⟨d+1,_,E,rfl,v,by omega,rfl⟩ W W
  ·refine DC.exit ?_;have l:d=g.length:=by grind
   subst l;rw[avo]at k;exact⟨_,W,k⟩
theorem BL(c:Mc)(p:qw c.P.aJ)(fr b:Nat)(q:b<=bW c.d)(s:uP c.d.b)(D:c.d.outs.length<=1000000)(E:bP c.d.b<=900000000)(x:Kp)(H:Hp)(h:MM c x H):DT prog 42 [.ref c.it 0,dN fr,dN b] H λr K=>MS c H ((x.fV (gO c.P.aJ c.d.outs) (bP c.d.b) fr b).fV (lE c.P.aJ c.d.b) 0 fr b) K:=by
 have t:=mn c.d.b s (by omega);rw[bj.aC]at t;have C: ∀a,aU (c.d.outs.take a)<=1000000:= λa=>by
  have F:=mG c.d.outs a;have G:aU c.d.outs<=c.d.outs.length:=awk _ _;omega
 refine DT.ob func42 W ntmps42 W<|dO [2,16] W<|Po (aA W W h.inst W)<|dR [20] W<|Po (k_ W W h.unit W W)<|dR [21] W<|Po (aE t W W)<|dR [2,25] W<|Po (aA W W h.inst W)<|dR [29] W<|Po (aA W W h.unit W)<|dR [30] W<|Po (bp W W W) ?_;rw[bD];refine dL [] W<|Pz [nN 27 0,nN 26 c.d.outs.length,nD 25 (.sl (aI c.d.outs)),nN 6 (bP c.d.b+aU (c.d.outs.take 0)),nN 2 b,nN 1 fr,nR 0 c.it] H W W<|dC [] W<|Qy (λu=> ∃K f,MS c H (x.fV (gO c.P.aJ c.d.outs) (bP c.d.b) fr b) K/\u=⟨[nN 2 b,nN 1 fr,nR 0 c.it],f,K⟩) ?_ ?_
 ·refine dC [3] W<|DC.lp (λo y=> ∃(a:Nat) (f:List (Nat×List M)) (K:Hp),y=⟨[nN 27 a,nN 26 c.d.outs.length,nD 25 (.sl (aI c.d.outs)),nN 6 (bP c.d.b+aU (c.d.outs.take a)),nN 2 b,nN 1 fr,nR 0 c.it],f,K⟩/\MS c H (x.fV (gO c.P.aJ (c.d.outs.take a)) (bP c.d.b) fr b) K/\a<=c.d.outs.length/\o=c.d.outs.length-a) c.d.outs.length _
   ⟨0,_,H,rfl,by rw[show gO c.P.aJ (c.d.outs.take 0)= []from rfl,Kp.wx];exact MS.refl h,by omega,rfl⟩ W ?_
  rintro o I ⟨a,f,K,rfl,d,J,rfl⟩;refine dC [2] W<|DC.cond W (λz=> ?_) (λz=> ?_)
  ·have j:a<c.d.outs.length:=by grind
   have g:=ez j;obtain⟨i,N⟩:=tQ j;have L:=C a;have e:=BK (en:=c.P.aJ) j;generalize c.d.outs[a]=l at g i e;rw[l.aC]at g;refine dC [3] W ?_;cases m:l.last with
   |true=>
    rw[m]at g i;simp only[awr]at i;rw[m]at e;simp only[awr]at e;obtain⟨A,v,n,k⟩:=rv c p _ K d.mm (bP c.d.b+aU (c.d.outs.take a)) fr b (by omega) q l.first;have w:=d.trans n;rw[show bP c.d.b+aU (c.d.outs.take a)=bP c.d.b+(gO c.P.aJ (c.d.outs.take a)).length by rw[oD],<-Kp.rq,<-e]at w;rw[l.first.aC]at k;have B:((bP c.d.b+aU (c.d.outs.take a):Nat):Int)+1=((bP c.d.b+aU (c.d.outs.take (a+1)):Nat):Int):=by omega
    refine dO [2,33] W<|Po (aG W W W (auJ a) g W)<|dR [2,1,2,43] W<|Po (aq k W W)<|dR [2,45] W<|Po (az W W W (by omega)) ?_;rw[B];refine dR [2,46] W<|Po (az W W W (by omega))<|dL [] W<|bK (k':=c.d.outs.length-(a+1)) (by omega) ⟨a+1,_,v,rfl,w,by omega,rfl⟩ W W
   |false=>
    rw[m]at g i;simp only[avS,awi,av9]at i;rw[m]at e;simp only[avS,awi,avg]at e;rw[<-e]at d;refine dO [2,33] W<|Po (aG W W W (auJ a) g W)<|dR [2,0,2,46] W<|Po (az W W W (by omega))<|dL [] W<|bK (k':=c.d.outs.length-(a+1)) (by omega) ⟨a+1,_,K,rfl,d,by omega,rfl⟩ W (kc W (kc W (kc W (kc (by rw[i];rfl) W))))
  ·refine DC.exit ?_;have j:a=c.d.outs.length:=by grind
   subst j;rw[avo]at d;exact⟨_,⟨K,f,d,W⟩,cR W W⟩
 rintro u ⟨K,f,d,rfl⟩;obtain⟨A,v,n,k⟩:=zV c p fr b q c.d.b s 0 (by omega) _ K d.mm;rw[bj.aC]at k;refine dO [2,51] W<|Po (aA W W d.mm.inst W)<|dR [55] W<|Po (k_ W W d.mm.unit W W)<|dR [58] W<|Po (aq k W W)<|dL [] W<|⟨_,W,d.trans n⟩
end Go.Proofs.Sz
namespace Go.Sm
open Go.Mt
structure lL(P:Pg):Prop where
 e:qw P.aJ
 n:P.nodes.length<=1000000
 d: ∀d∈P.nodes,uP d.b/\d.outs.length<=1000/\bP d.b<=100000000
 i: ∀d∈P.nodes,d.ins.length<=1000/\gg d.b<=1000000
abbrev C9(P:Pg)(d:Nd)(m p s:M)(sz:Nat):List M:=[.d (.sl (P.aJ.map En.cells)),.d (.sl (P.nodes.map Nd.cells))]++J8 d++ [m,p,s,dN sz]
theorem C_{a b:List (Option Int)}{k:Nat} :bZ (a++b) k=if k<a.length then bZ a k else bZ b (k-a.length):=by
 unfold bZ;rw[mW];split<;>rfl
theorem Eo{l:List (Option Int)}{k:Nat}(h:l.length<=k):bZ l k=0:=by unfold bZ;rw[auP h];rfl
theorem Kh(P:Pg)(i:Nat)(d:Nd)(b:P.nodes[i]?=some d):(Kp.fV ⟨λ_=>0,λ_=>false,λ_=>none⟩ (gO P.aJ d.outs) (bP d.b) 0 (bW d)).fV (lE P.aJ d.b) 0 0 (bW d)=⟨(US.init P i).mem,(US.init P i).cu,(US.init P i).an⟩:=by
 unfold Kp.fV
 congr 1
 ·funext a
  show mD _ _ _ _ _ a=(match P.nodes[i]? with|some d=>bZ (gX P.aJ d) a|none=>0);rw[b];simp only;rw[gX,C_,ww];unfold mD;rw[ww,oD];have e:bW d=bP d.b+aU d.outs:=rfl;by_cases c:a<bP d.b
  ·grind
  ·rw[auU (by omega),auU c];by_cases f:a<bW d
   ·grind
   ·rw[auU (by omega),Eo (by rw[oD];omega)]
 ·funext a
  show qt _ _ _ _ (qt _ _ _ _ _) a=false;unfold qt;split
  ·rfl
  ·grind
 ·funext a
  show qu _ _ _ _ (qu _ _ _ _ _) a=none;unfold qu;split
  ·rfl
  ·grind
def zW(H:Hp)(n:Nat):M:=if n=0 then .d (.sl [])else .bH H.length 1 0
def zX(H:Hp)(ec n:Nat):Hp:=if n=0 then H else H++ [.row true ec 1 []]
theorem sX{a:Type}(L:List (List a))(i:Nat)(h:i<L.length):(L.take (i+1)).flatten=(L.take i).flatten++L[i]:=by
 rw[au1 h,awh];simp
theorem qN{a:Type}(L:List (List a))(i:Nat):(L.take i).flatten.length<=L.flatten.length:=by
 have:L.flatten=(L.take i).flatten++(L.drop i).flatten:=by rw[<-awh,avC]
 rw[this,auN];omega
end Go.Sm
namespace Go.Proofs.Sz
open Go.Mt Go.Sm Go.Proofs
open Tryz
theorem IY(n:Nat)(H:Hp)(c:n<=1000000):CT prog 56 [.d (.sl []),.d (.int .i64 n)] H λr h=>r=zW H n/\h=zX H 15 n:=by
 refine CT.ob func56 W ntmps56 W λd e=>tC [2,2] W<|TC.cond W (λb=>by grind) (λb=> ?_)
 refine tO [2,14] W<|Hn W W<|tR [17] W<|cL W W W (by simp)<|tR [18] W<|cL W W W (by simp;omega) ?_;rw[show((n:Int)-(0-((List.length ([]:List (List D)):Nat):Int)))=(n:Int) by simp];refine tL [2] W<|TC.cond W (λb=> ?_) (λb=> ?_)
 ·have a:0<n:=by grind
  refine tO [2,23] W<|Hn W W<|tR [24] W<|Ip W W W<|tR [26] W<|FP (len:=n) W W W W (by rfl) a (by omega) (by omega)<|tR [29] W<|Iq true W W W (by exact av7) (by simp) (by simp) ?_;refine tL [2] W<|TC.ret ⟨_,W,?_,?_⟩
  ·simp only[zW,auU (show ¬n=0 by omega)];rfl
  ·simp only[zX,auU (show ¬n=0 by omega)];simp
 ·refine tC [] W ?_;have a:n=0:=by grind
  refine tC [2] W<|TC.ret ⟨_,W,?_,?_⟩
  ·simp only[zW,au2 a];rfl
  ·simp only[zX,au2 a]
theorem Ep(L:List (List (List D)))(j: ∀l∈L,∀r∈l,r.length=15)(s:L.length<=1000)(o:L.flatten.length<=1000000):
  PT prog 41 [.sl (L.map λl=>[D.sl l])] (·= [.sl L.flatten]):=by
 refine PI (CT.ob func41 W ntmps41 W λt u=> ?_);refine tO [2,2,2,14] W<|bp W W W ?_;rw[au8];refine tL [3] W<|TC.lp (λb c=> ∃(i:Nat),c=⟨[nI 11 i,nI 10 (L.length:Nat),nD 9 (.sl (L.map λl=>[D.sl l])),nI 3 ((L.take i).flatten.length:Nat),nD 0 (.sl (L.map λl=>[D.sl l]))],[],[]⟩/\i<=L.length/\b=L.length-i) L.length _
  ⟨0,rfl,by omega,rfl⟩ W ?_
 rintro b c ⟨i,rfl,k,rfl⟩;have v:=qN L i;refine tC [2] W<|TC.cond W (λa=> ?_) (λa=> ?_)
 ·have d:i<L.length:=by have:=auV a;omega
  have f:=sX L i d;have h:=qN L (i+1);rw[f,auN]at h;refine tO [3,2,17] W<|aG W W W (auJ i) (r:=[.sl L[i]]) (by simp[d]) W<|tR [2,22] W<|az W W W (by omega)<|tL [2] W<|TC.cond W (λa=>by have:=auV a;omega) (λa=> ?_);refine tO [2,26] W<|az W W W (by omega)<|tL [] W<|again (k':=L.length-(i+1)) (by omega) ⟨i+1,rfl,by omega,rfl⟩ W (kc W (kc W (kc W (kc (by rw[f,auN,Int.natCast_add];rfl) W))))
 refine TC.exit ?_;obtain rfl:i=L.length:=by have:=au9 a;omega
 rw[avo];refine tO [2,28] W<|pK (IY L.flatten.length [] o) W W ?_;rintro _ _ ⟨rfl,rfl⟩;refine tR [2,30] W<|bp W W W ?_;rw[au8];refine tL [3] W ?_;by_cases e:L.flatten.length=0
 ·rw[zW,zX,au2 e,au2 e];refine TC.lp (λb c=> ∃(i:Nat),c=⟨[nI 27 i,nI 26 (L.length:Nat),nD 25 (.sl (L.map λl=>[D.sl l])),nD 6 (.sl [])],[],[]⟩/\i<=L.length/\b=L.length-i) L.length _
   ⟨0,rfl,by omega,rfl⟩ W ?_
  rintro b c ⟨i,rfl,k,rfl⟩;refine tC [2] W<|TC.cond W (λa=> ?_) (λa=> ?_)
  ·have d:i<L.length:=by have:=auV a;omega
   have w:L[i]= []:=by
    have g:=avA e;rw[List.flatten_eq_nil_iff]at g;exact g _ (avb d)
   refine tO [3,2,33] W<|aG W W W (auJ i) (r:=[.sl []]) (by simp_all) W<|tR [2,37] W<|qj W W W<|tR [2,38] W<|az W W W (by omega)<|tL [] W<|again (k':=L.length-(i+1)) (by omega) ⟨i+1,rfl,by omega,rfl⟩ W W
  refine TC.exit<|tC [2] W<|TC.ret ⟨_,W,[_],W,by rw[avA e]⟩
 ·rw[zW,zX,auU e,auU e];refine TC.lp (λb c=> ∃(i:Nat),c=⟨[nI 27 i,nI 26 (L.length:Nat),nD 25 (.sl (L.map λl=>[D.sl l])),nM 6 (.bH 0 (i+1) (L.take i).flatten.length)],[],[.row true 15 (i+1) (bf (L.take i).flatten)]⟩/\i<=L.length/\b=L.length-i) L.length _
   ⟨0,rfl,by omega,rfl⟩ W ?_
  rintro b c ⟨i,rfl,k,rfl⟩;refine tC [2] W<|TC.cond W (λa=> ?_) (λa=> ?_)
  ·have d:i<L.length:=by have:=auV a;omega
   have f:=sX L i d;have h:=qN L (i+1);rw[f,auN]at h;refine tO [3,2,33] W<|aG W W W (auJ i) (r:=[.sl L[i]]) (by simp[d]) W<|tR [2,37] W<|fU W W W W (by rfl) (by exact j _ (avb d)) (by omega) (by omega)<|tR [2,38] W<|az W W W (by omega)<|tL [] W<|again (k':=L.length-(i+1)) (by omega) ⟨i+1,rfl,by omega,rfl⟩ (by rw[f];simp[bf]) (kc W (kc W (kc W (kc (by rw[f,auN];rfl) W))))
  refine TC.exit ?_;obtain rfl:i=L.length:=by have:=au9 a;omega
  rw[avo];refine tC [2] W<|TC.cw 2 W (Acc.view (n:=15) (i:=0) (rs:=L.flatten) (.inr ⟨by intro m;rw[m]at e;exact e W,_,W,W⟩) (by intro r p;obtain⟨l,g,q⟩:=List.mem_flatten.1 p;exact j l g r q))<|TC.ret ⟨_,W,[_],W,W⟩
theorem si(a:Nat)(z:D):eO 1 a [z]=bE a λ_=> .d z:=by
 unfold eO bE;rw[Nat.mul_one];simp[Nat.mod_one]
theorem xr(P:Pg)(p:lL P)(x:Nm)(i:Nat)(J:cZ P.nodes x=some i)(d:Nd)(m:P.nodes[i]?=some d)(H:Hp):
  DT prog 26 [.d (.agg P.cells),.d (.str x)] H λr K=> ∃iu F,r= .ref iu 0/\iZ P 1 (US.init P i) iu F K/\(∀a,F a->H.length<=a)/\H.length<=K.length/\ ∀j:Nat,j<H.length->K[j]?=H[j]?:=by
 have v:=wy P x p.n;rw[J]at v;have e:(P.nodes.map Nd.cells)[((i:Nat):Int).toNat]?=some d.cells:=by simp[m]
 obtain⟨w,ho,Qt⟩:=p.d d (auQ m);have y:=mn d.b w (by omega);unfold Nd.cells at e;rw[bj.aC]at y;have E: ∀i,aU (d.outs.take i)<=1000:= λi=>by
  have h1:=mG d.outs i;have h2:aU d.outs<=d.outs.length:=awk _ _;omega
 refine DT.ob func26 W ntmps26 W<|dC [2] W ?_;apply Ps bN
 ·intro L N;refine fR 5 W<|aW v W W<|a_ W W W (auJ i) e W<|fR 2 W<|CK W W W<|fR 1 W<|TF.nil ⟨by kernel_rfl,rfl⟩
 refine dO [2,28] W<|Po (k_ W W av7 W W) ?_;refine dR [29] W<|Po (aE y W W)<|dR [999] W<|Po (cc W W av7 W W W) ?_;refine dL [] W<|Pz [nR 5 H.length] (H++ [Ob.box (C9 P d (.d (.sl [])) (.d (.sl [])) (.d (.sl [])) (bP d.b))]) W (by rw[avY _ _ (auK _),awV];rfl) ?_;have z:=Ep [aI d.outs] (by intro Z t;simp at t;subst t;exact cx _) (by simp) (by simp[bD];omega);have O:([aI d.outs].flatten)=aI d.outs:=by simp
 rw[O]at z;refine dO [2,36] W<|Po (aA W W av7 W) ?_;refine dR [38] W<|Po (aE z W W)<|dR [39] W<|Po (bp W W W) ?_;rw[bD];refine dL [] W<|Pz [nN 36 0,nN 35 d.outs.length,nD 34 (.sl (aI d.outs)),nR 5 H.length] (H++ [Ob.box (C9 P d (.d (.sl [])) (.d (.sl [])) (.d (.sl [])) (bP d.b+aU (d.outs.take 0)))]) W W<|dC [] W<|Qy (λA=> ∃g,A=⟨[nR 5 H.length],g,H++ [Ob.box (C9 P d (.d (.sl [])) (.d (.sl [])) (.d (.sl [])) (bP d.b+aU d.outs))]⟩) ?_ ?_
 ·refine dC [3] W<|DC.lp (λo I=> ∃(i:Nat) (g:List (Nat×List M)),I=⟨[nN 36 i,nN 35 d.outs.length,nD 34 (.sl (aI d.outs)),nR 5 H.length],g,H++ [Ob.box (C9 P d (.d (.sl [])) (.d (.sl [])) (.d (.sl [])) (bP d.b+aU (d.outs.take i)))]⟩/\i<=d.outs.length/\o=d.outs.length-i) d.outs.length _
   ⟨0,_,rfl,by omega,rfl⟩ W ?_
  rintro o s1 ⟨i,g,rfl,hi,rfl⟩;refine dC [2] W<|DC.cond W (λb=> ?_) (λb=> ?_)
  ·have n:i<d.outs.length:=by have:=auV b;omega
   have e:=ez n;obtain⟨h,ac⟩:=tQ n;have Ts:=E i;generalize d.outs[i]=u at e h;rw[u.aC]at e;refine dC [3] W ?_;cases B:u.last with
   |true=>
    rw[B]at e h;simp only[awr]at h;have Q:((bP d.b+aU (d.outs.take i):Nat):Int)+1=((bP d.b+aU (d.outs.take (i+1)):Nat):Int):=by omega
    refine dO [2,42] W<|Po (aG W W W (auJ i) e W)<|dR [2,1,2,49] W<|Po (aA W W av7 W) ?_;refine dR [50] W<|Po (az W W W (by omega)) ?_;rw[Q];refine dR [999] W<|Po (cc W W av7 W W W) ?_;refine dR [2,53] W<|Po (az W W W (by omega))<|dL [] W<|bK (k':=d.outs.length-(i+1)) (by omega) ⟨i+1,_,rfl,by omega,rfl⟩ (by rw[avY _ _ (auK _),awV];rfl) W
   |false=>
    rw[B]at e h;simp only[avS,awi,av9]at h;refine dO [2,42] W<|Po (aG W W W (auJ i) e W)<|dR [2,0,2,53] W<|Po (az W W W (by omega))<|dL [] W<|bK (k':=d.outs.length-(i+1)) (by omega) ⟨i+1,_,rfl,by omega,rfl⟩ (by rw[h]) W
  ·refine DC.exit ?_;have n:i=d.outs.length:=by have:=au9 b;omega
   subst n;rw[avo];exact⟨_,⟨g,W⟩,cR W W⟩
 rintro A ⟨g,rfl⟩;have s:bP d.b+aU d.outs<=1000000000:=by have:=E d.outs.length;rw[avo]at this;omega
 have X:bP d.b+aU d.outs=bW d:=rfl;rw[X]at s⊢;generalize Y:bW d=sz at s;refine dC [] W ?_;apply DC.NE H.length 4 3 W (by simp)
 ·intro L N;rw[avh];refine ri W W W<|ri W W W<|ri W W W<|ri W W W<|lc W W W W<|nC W W W<|vt (i:=0) W W W W W<|qI 1 W (by decide) W W W W W (by omega) (by omega) W<|ri W W W<|lc W W W W<|nC W W W<|vt (i:=0) W W W W W<|qI 2 W (by decide) W W W W W (by omega) (by omega) W<|ri W W W<|lc W W W W<|nC W W W<|vt (i:=0) W W W W W<|qI 3 W (by decide) W W W W W (by omega) (by omega) W<|lc W W W W<|nC W W W<|vu 0 W (by decide) W W W W W W<|lc W W W W<|nC W W W<|vu 0 W (by decide) W W W W W W<|lc W W W W<|nC W W W<|vu 0 W (by decide) W W W W W W<|TG.nil ⟨by kernel_rfl,rfl⟩
 subst Y;obtain⟨c,b⟩: ∃c:Mc,c=⟨H.length+4,H.length,H.length+1,H.length+2,H.length+3,P,d,λ_=>0,.d .bX,.d (.bool false),.d (.sl []),.d (.sl [])⟩:=⟨_,rfl⟩
 let k:Kp:=⟨λ_=>0,λ_=>false,λ_=>none⟩
 let l:List Ob:=[Ob.box (pW P d (H.length+1) (H.length+2) (H.length+3)),Ob.row false 1 0 (bE (bW d) (ji k.m)),Ob.row false 1 0 (bE (bW d) (kA k.p)),Ob.row false 1 0 (bE (bW d) (fA k.s λ_=>0))]
 refine Pz [nR 5 H.length] (H++l) W (by show _=H++ [_,Ob.row false 1 0 (bE (bW d) λ_=> .d (.int .i32 0)),Ob.row false 1 0 (bE (bW d) λ_=> .d (.bool false)),Ob.row false 1 0 (bE (bW d) λ_=> .d .bX)];rw[<-si,<-si,<-si];rfl)<|dO [2,79] W<|Po (k8 W W W W W)<|dR [80] W<|Po (cH W W W)<|dL [] W ?_;have C:MM c k (H++(l++ [Ob.box (Gb c)])):=by
  subst b;exact⟨oB (i:=4) W,oB (i:=0) W,oB (i:=1) W,oB (i:=2) W,oB (i:=3) W,by simp,by simp,by simp,by simp,by simp,s⟩
 obtain⟨r2,D,q,R⟩:=BL c (by subst b;exact p.e) 0 (bW d) (by subst b;exact auK _) (by subst b;exact w) (by subst b;show d.outs.length<=_;omega) (by subst b;show bP d.b<=_;omega) k _ C;refine Pz [nR 8 c.it,nR 5 c.iu] (H++(l++ [Ob.box (Gb c)])) (kc (by subst b;simp[l];rfl) (kc (by subst b;rfl) W)) (by subst b;simp)<|dO [2,85] W<|Po (aA W W C.unit (by subst b;rfl))<|dR [86] W<|Po (aq R W W)<|dL [2] W ?_;have G:H.length+5<=D.length:=by have:=q.len;simp[l]at this;omega
 refine DC.ret ⟨_,W,c.iu,λa=>a=H.length\/a=H.length+1\/a=H.length+2\/a=H.length+3,rfl,?_,by intro a S;omega,avD (avN _ 5) G,?_⟩
 ·have T:=Kh P i d m;have f:=q.mm;rw[show c.P=P by rw[b],show c.d=d by rw[b]]at f;change MM c ((k.fV (gO P.aJ d.outs) (bP d.b) 0 (bW d)).fV (lE P.aJ d.b) 0 0 (bW d)) D at f;rw[T]at f;subst b;refine⟨d,λa=>if a=H.length then some .un else if a=H.length+1 then some .me else if a=H.length+2 then some .pe else if a=H.length+3 then some .su else none,H.length+1,H.length+2,H.length+3,λ_=>0,m,?_,?_,⟨by simp,by simp,by simp,by simp⟩,f.unit,f.mem,f.cu,f.an,?_⟩
  ·intro a;simp only[];split
   ·simp;omega
   ·split
    ·simp;omega
    ·split
     ·simp;omega
     ·split
      ·simp;omega
      ·simp;omega
  ·intro a S;exact avR (by omega) G
  ·intro o hk u' U;cases U
 ·intro j V;rw[q.iY j (by simp;omega) (by rw[b];show j≠H.length+1;omega) (by rw[b];show j≠H.length+2;omega) (by rw[b];show j≠H.length+3;omega),auL V]
inductive Ro where
 |it|un|me|pe|su|nx|af
 |fr (π:Path)|am (π:Path)|tk (π:Path)|cr (π:Path)|er (π:Path)
 |ce (π:Path) (k:Nat)|pl (π:Path) (j:Nat)
 |sb (k:Nat)
 deriving DecidableEq
inductive NI where
 |cell (told:Bool) (σ:Path×Nat)
 |aP (π:Path) (j:Nat)
 |arrow (own:Nat)
 |put (own:Nat) (v:Int)
structure AI where
 π:Path
 e:Xp
 a:Nat
 own:Nat
 v:Int
 w:List (Nat×Int)
structure aw where
 A:Ro->Nat
 own:Nat->Option Ro
 cs:Path->Nat->Nat
 fs:Path->Nat
 dn:Path->Nat->Bool
 lv:Path->Nat->Bool
 N:List (NI×M)
 F:List (AI×M)
 fi:Nat
 vN:Nat
 vF:Nat
 vc:Path->Nat
 ve:Path->Nat
 x:Kp
 ad:Nat->Nat
 ph:Nat->Int->Prop
section
variable(P:Pg)(n:Nat)(c:aK)(d:Nd)(u:US)
def aw.live(X:aw):Ro->Prop
 | .it=>True| .un=>True| .me=>True| .pe=>True| .su=>True
 | .nx=>X.N≠ []| .af=>X.F≠ []
 | .fr π=>1<=X.fs π| .am π=>1<=X.fs π| .tk π=>1<=X.fs π
 | .cr π=>X.fs π=2/\(c.fr π).vars≠ []| .er π=>X.fs π=2/\(c.fr π).au≠ []
 | .ce π k=>X.fs π=2/\k<(c.fr π).vars.length| .pl π j=>X.fs π=2/\j<(c.fr π).au.length
 | .sb _=>False
def bM(i v len:Nat):M:=if len=0 then .d (.sl [])else .bH i v len
abbrev Pb(v:Va):List M:=[.d (.str v.name),.d (.int .u8 v.tk),.d (.str v.tn),.d (.sl (tG v.clock)),.d (.bool v.last),.d (.int .u8 v.first.kd),.d (.int .u8 v.first.op),.d (.int .i32 v.first.num),.d (.str v.first.nm),.d (.sl (dJ v.first.names)),.d (.sl (v.first.kids.map Xp.cells)),.d (.int .i64 v.first.ps.1),.d (.int .i64 v.first.ps.2),.d (.int .i64 v.ps.1),.d (.int .i64 v.ps.2)]
def Pc(o:Option Nat):Int:=match o with
 |some p=>(p:Int)
 |none=> -1
abbrev dh(v:Va)(lp:Option Nat)(eq:M)(b:Nat)(st n:Int):List M:=Pb v++ [.d (.int .i64 (Pc lp)),eq,.ref b 0,.d (.int .u8 st),.d (.int .i32 n)]
abbrev Pd(e:Xp):List M:=[.d (.int .u8 e.kd),.d (.int .u8 e.op),.d (.int .i32 e.num),.d (.str e.nm),.d (.sl (dJ e.names)),.d (.sl (e.kids.map Xp.cells)),.d (.int .i64 e.ps.1),.d (.int .i64 e.ps.2)]
abbrev dK(q:aB)(p:Nat):List M:=[.d (.int .u8 q.kd),.d (.sl (dJ q.lhs)),.d (.str q.f),.d (.sl (q.args.map Xp.cells)),.d (.bool q.has)]++Pd q.ex++ [.d (.sl (q.aj.map bh.cells)),.d (.int .i64 q.ps.1),.d (.int .i64 q.ps.2),.d (.int .i64 (p:Int))]
def aw.up(X:aw):Path->M
 | []=> .d .bX
 |_::π=> .ref (X.A (.fr π)) 0
def oE(s:Nat):Int:=if s=4 then 2 else if s=5 then 0 else if s=6 then 1 else(s:Int)
def zB(s:Nat):Bool:=s==2||decide (4<=s)
def aw.oS(X:aw)(π:Path)(j:Nat):Option M:=if X.fs (j::π)≠0 then some (.ref (X.A (.fr (j::π))) 0)else if X.dn π j=true/\X.cs (j::π) 0=3 then some (.ref (X.A (.fr π)) 0)else none
def aw.eu(X:aw):Ro->Ob->Prop
 | .it,ob=>ob= .box [.ref (X.A .un) 0,.ref (X.A (.fr [])) 0,.d (.bool false),bM (X.A .af) X.vF X.F.length,bM (X.A .nx) X.vN X.N.length]
 | .un,ob=>ob= .box (pW P d (X.A .me) (X.A .pe) (X.A .su))
 | .me,ob=>ob= .row false 1 0 (bE (bW d) (ji X.x.m))
 | .pe,ob=>ob= .row false 1 0 (bE (bW d) (kA X.x.p))
 | .su,ob=>ob= .row false 1 0 (bE (bW d) (fA X.x.s X.ad))
 | .nx,ob=>ob= .row true 1 X.vN (X.N.map (·.2))
 | .af,ob=>ob= .row true 1 X.vF (X.F.map (·.2))
 | .fr π,ob=>ob= .box [X.up π,if X.fs π=2 then bM (X.A (.cr π)) (X.vc π) (c.fr π).vars.length else .d (.sl []),if X.fs π=2 then bM (X.A (.er π)) (X.ve π) (c.fr π).au.length else .d (.sl []),.mp (X.A (.am π)),.mp (X.A (.tk π))]
 | .am π,ob=> ∃es,ob= .map es/\hJ es=true/\(X.fs π=2-> ∀j,j<(c.fr π).au.length->ij (X.A (.pl π j)) 0 es=X.oS π j)/\(X.fs π=1->es= [])
 | .tk π,ob=> ∃es,ob= .map es/\hJ es=true/\(X.fs π=2-> ∀j,X.fs (j::π)=2->ij (X.A (.pl π j)) 0 es=some (dN (c.bA π j)))
 | .cr π,ob=>ob= .row true 1 (X.vc π) ((List.range (c.fr π).vars.length).map λk=> .ref (X.A (.ce π k)) 0)
 | .er π,ob=>ob= .row true 1 (X.ve π) ((List.range (c.fr π).au.length).map λk=> .ref (X.A (.pl π k)) 0)
 | .ce π k,ob=> ∃v lp eq z,(c.fr π).vars[k]?=some v/\(c.fr π).cO[k]?=some lp/\ob= .box (dh v lp eq (X.A (.fr π)) (oE (X.cs π k)) z)/\z=(if zB (X.cs π k)then c.get (π,k)else 0)/\ ∀j,gR (c.fr π) k v j->eq= .ref (X.A (.pl π j)) 0
 | .pl π j,ob=> ∃q p,(c.fr π).au[j]?=some q/\(c.fr π).pos[j]?=some p/\ob= .box (dK q p)
 | .sb _,_=>True
def aw.box(X:aw)(H:Hp)(b:Nat)(m:M):Prop:=X.own b=none/\H[b]?=some (.box [m])
def aw.tJ(X:aw)(H:Hp)(m:M)(π:Path)(e:Xp)(a:Nat):Prop:=X.live c (.fr π)/\ ∃b4 b5,m= .fn 120 [.d (.bm [.int .i64 (a:Int)] 0),.d (.bm e.cells 0),.ref b4 0,.ref b5 0]/\X.box H b4 (.ref (X.A .it) 0)/\X.box H b5 (.ref (X.A (.fr π)) 0)
def aw.sY(X:aw)(H:Hp)(m:M):NI->Prop
 | .cell told σ=>X.live c (.ce σ.1 σ.2)/\ ∃bc bt,m= .fn (if told then 127 else 67) [.ref bc 0,.ref bt 0]/\X.box H bc (.ref (X.A (.ce σ.1 σ.2)) 0)/\X.box H bt (.ref (X.A .it) 0)
 | .aP π j=>X.live c (.pl π j)/\ ∃b4 b6,m= .fn 95 [.d (.bm [iN (c.lg π j)] 0),.d (.bm [.bool (c.nan π j)] 0),.ref b4 0,.ref b6 0]/\X.box H b4 (.ref (X.A .it) 0)/\X.box H b6 (.ref (X.A (.pl π j)) 0)
 | .arrow own=> ∃b4,m= .fn 125 [.ref b4 0,.d (.bm [.int .i64 (own:Int)] 0)]/\X.box H b4 (.ref (X.A .it) 0)
 | .put own v=> ∃bt,m= .fn 143 [.d (.bm [.int .i32 v] 0),.ref bt 0,.d (.bm [.int .i64 (own:Int)] 0)]/\X.box H bt (.ref (X.A .it) 0)
def aw.zY(X:aw)(H:Hp)(m:M)(ai:AI):Prop:= ∃bn bt bk km e i a0,m= .fn 142 [.ref bn 0,.ref bt 0,.d (.bm [.int .i64 (ai.own:Int)] 0)]/\X.box H bn (.fn 124 [.ref bk 0,.d (.bm [iN i] 0)])/\X.box H bk km/\X.box H bt (.ref (X.A .it) 0)
 /\X.tJ c H km ai.π e a0/\jP e/\e.kids[i]?=some ai.e/\e.kids.length=i+1/\ai.a=a0+aS ((e.kids.take i).map xP)
structure cF(X:aw)(H:Hp):Prop where
 own: ∀r,X.live c r->X.own (X.A r)=some r
 lt: ∀a r,X.own a=some r->a<H.length
 ob: ∀r,X.live c r-> ∃ob,H[X.A r]?=some ob/\X.eu P c d r ob
 sub: ∀k,k<bW d-> ∀u',X.x.s k=some u'->iZ P n u' (X.ad k) (λa=>X.own a=some (.sb k)) H
 nx: ∀p∈X.N,X.sY c H p.2 p.1
 af: ∀p∈X.F,X.zY c H p.2 p.1
end
def yn(c:aK)(π:Path)(k:Nat):Prop:= ∀j σ q p a,c.ok (j::σ)->(c.fr σ).au[j]?=some q->(c.fr σ).pos[j]?=some p->(q.kd=3\/q.kd=4\/q.kd=5)->q.aj[c.bA σ j]?=some a->cI q p (c.bA σ j)<=k->k<cI q p (c.bA σ j)+bP a.cy-> ∃τ,π=τ++(j::σ)
section
variable(P:Pg)(n:Nat)(c:aK)(d:Nd)(u:US)
def NI.wr:NI->Nat->Int->Prop
 | .cell _ σ,k,v=>(c.fr σ.1).cO[σ.2]?=some (some k)/\c.val σ.1 σ.2=some v
 | .aP π j,k,v=>(c.fr π).pos[j]?=some k/\v=(c.lg π j:Int)
 | .arrow own,k,v=>k=own/\v=0
 | .put own z,k,v=>k=own/\v=z
def aw.S(X:aw)(k:Nat)(v:Int):Prop:=(∃p∈X.N,NI.wr c p.1 k v)\/ ∃i p,X.fi<=i/\X.F[i]?=some p/\((k,v)=(p.1.own,p.1.v)\/(k,v)∈p.1.w)
def aw.SS(X:aw)(k:Nat)(v:Int):Prop:=X.S c k v\/X.ph k v
def aw.ER(X:aw)(k:Nat):Prop:= ∃π j q p a,X.fs (j::π)=2/\(c.fr π).au[j]?=some q/\(c.fr π).pos[j]?=some p/\(q.kd=3\/q.kd=4\/q.kd=5)/\c.iO π j=true/\q.aj[c.bA π j]?=some a/\cI q p (c.bA π j)<=k/\k<cI q p (c.bA π j)+bP a.cy
def aw.DC(X:aw)(k:Nat)(π:Path)(j:Nat):Prop:=X.fs π=2/\X.dn π j=true/\ ∃q,(c.fr π).au[j]?=some q/\q.kd=2/\(c.fr π).pos[j]?=some k
def NI.ok(X:aw):NI->Prop
 | .cell _ σ=>X.fs σ.1=2/\σ.2<(c.fr σ.1).vars.length/\zB (X.cs σ.1 σ.2)=true/\(∃k,k<bW d/\(c.fr σ.1).cO[σ.2]?=some (some k))/\(σ.1= []->d.ins.length<=σ.2)
 | .aP π j=>X.fs (j::π)=2/\ ∃q p,(c.fr π).au[j]?=some q/\q.kd=4/\(c.fr π).pos[j]?=some p/\p<bW d
 | .arrow own=>own<bW d/\nJ c own 0
 | .put own v=>own<bW d/\nJ c own v
structure AI.ok(X:aw)(ai:AI):Prop where
 ev:gP P.aJ c ai.π c.eh ai.e ai.a ai.v ai.w
 fs:X.fs ai.π=2
 lt:ai.own<bW d
 wr:nJ c ai.own ai.v/\ ∀p∈ai.w,nJ c p.1 p.2
 sm:jP ai.e
 own: ∀k,ai.a<=k->k<ai.a+xP ai.e->yn c ai.π k
 sz:ai.a+xP ai.e<=1000000000
structure Pu(X:aw):Prop where
 f0:X.fs []=2
 fp: ∀j π,X.fs (j::π)≠0->X.fs π=2/\c.ok (j::π)
 f2: ∀π,X.fs π<=2
 c6: ∀π k,X.cs π k<=6
 ci: ∀k,k<d.ins.length->X.cs [] k=2
 cv: ∀π k,zB (X.cs π k)=true->(c.val π k).isSome=true
 ca: ∀π k,X.cs π k=3->c.val π k=none
 xm: ∀k,k<bW d->(X.ER c k->X.x.m k=bZ (gX P.aJ d) k)/\(¬X.ER c k->X.x.m k=u.mem k)
 xp: ∀k,k<bW d->(X.ER c k->(gX P.aJ d)[k]?=some none->X.x.p k=false)/\(¬(X.ER c k/\(gX P.aJ d)[k]?=some none)->X.x.p k=u.cu k)
 xd: ∀k,k<bW d-> ∀π j,X.DC c k π j->X.x.s k=some (c.iP π j)
 xs: ∀k,k<bW d->(∀π j,¬X.DC c k π j)->(X.ER c k->(gX P.aJ d)[k]?=some none->X.x.s k=none)/\(¬(X.ER c k/\(gX P.aJ d)[k]?=some none)->X.x.s k=u.an k)
 s1: ∀π k p v,X.fs π=2->X.cs π k=2->(π= []->d.ins.length<=k)->(c.fr π).cO[k]?=some (some p)->c.val π k=some v->X.SS c p v
 s2: ∀(σ:Path×Nat) j0 v PC j' q,X.fs σ.1=2->(X.cs σ.1 σ.2=2\/X.cs σ.1 σ.2=4)->(σ.1= []->d.ins.length<=σ.2)->(c.fr σ.1).vars[σ.2]?=some v->gR (c.fr σ.1) σ.2 v j0->Src c (c.sb σ.1 σ.2) σ.1 j0 v.name (some (PC,j'))->(c.fr PC).au[j']?=some q->X.fs PC=2/\(q.kd=1-> ∀w∈c.ew PC j',X.SS c w.1 w.2)/\(q.kd=2->X.dn PC j'=true)
 s3: ∀π j,X.fs π=2->X.dn π j=true->(∃q,(c.fr π).au[j]?=some q/\q.kd=2/\c.jg π q)/\ ∀w∈c.ew π j,X.SS c w.1 w.2
 s4: ∀π j,X.fs (j::π)=2-> ∀w∈c.ew π j,X.SS c w.1 w.2
 s5: ∀π j,X.lv π j=true-> ∃p∈X.N,p.1=NI.aP π j
 dl: ∀π j q,X.fs π=2->X.dn π j=true->X.cs (j::π) 0=3->(c.fr π).au[j]?=some q-> ∀x∈q.lhs,∀σ,c.find π x=some σ->X.cs σ.1 σ.2=2\/X.cs σ.1 σ.2=4
 nk: ∀p∈X.N,NI.ok c d X p.1
 fk: ∀p∈X.F,AI.ok P c d X p.1
 fl:X.fi<=X.F.length
 fn:X.fi<=X.N.length+1
 g0: ∀π j q,(c.fr π).au[j]?=some q->q.kd=2->(X.cs (j::π) 0=0/\X.dn π j=false)\/X.cs (j::π) 0=1\/(X.cs (j::π) 0=3/\X.dn π j=true)
 dz: ∀π j,X.dn π j=true->X.fs π=2
 cz: ∀π k,X.cs π k≠0->X.fs π=2\/(k=0/\ ∃j σ q,π=j::σ/\(c.fr σ).au[j]?=some q/\q.kd=2)
def aw.cu(X:aw):It->Bool
 | .cell π k=>X.cs π k==0
 | .call π j=> !X.dn π j&&X.cs (j::π) 0==0
 | .bA π j=>X.fs (j::π)==0
 | .lv π j=> !X.lv π j
def aw.T(X:aw):Nat:=X.N.length+aS ((X.F.drop X.fi).map λp=>1+p.1.w.length)+aS (c.ap.map λi=>if X.cu i then c.wt i else 0)
structure mq(X:aw)(r:Nat):Prop where
 c1: ∀π k,X.cs π k=1->r<=c.sb π k
 f1: ∀j π,X.fs (j::π)=1->r<=c.ek π j
 c4: ∀π k,X.cs π k<=3
 tp:r<=c.eh
structure br(E:Path×Nat->Prop)(X:aw)(H:Hp)(Y:aw)(K:Hp):Prop where
 c0: ∀π k,Y.cs π k=0->X.cs π k=0
 f0: ∀π,Y.fs π=0->X.fs π=0
 len:H.length<=K.length
 iY: ∀a,a<H.length->X.own a=none->Y.own a=none/\K[a]?=H[a]?
 A: ∀r,X.live c r->Y.live c r/\Y.A r=X.A r
 aL: ∀π,X.fs π=2->Y.vc π=X.vc π/\Y.ve π=X.ve π
 f2: ∀π,X.fs π=2->Y.fs π=2
 f1: ∀π,X.fs π=1↔Y.fs π=1
 c1: ∀π k,¬E (π,k)->(X.cs π k=1↔Y.cs π k=1)
 c2: ∀π k,X.cs π k=2->Y.cs π k=2
 c3: ∀π k,X.cs π k=3->Y.cs π k=3
 c4: ∀π k s,¬E (π,k)->4<=s->(X.cs π k=s↔Y.cs π k=s)
 dn: ∀π j,X.dn π j=true->Y.dn π j=true
 sj: ∀π j,¬E (j::π,0)->X.cs (j::π) 0=1->Y.dn π j=X.dn π j
 lv:Y.lv=X.lv
 S: ∀k v,X.S c k v->Y.S c k v
 fi:Y.fi=X.fi
 ph:Y.ph=X.ph
 F: ∃l,Y.F=X.F++l
end
section
variable{P:Pg}{n:Nat}{c:aK}{d:Nd}{X Y:aw}{H K:Hp}
theorem aw.box.up{b:Nat}{m:M}(h:X.box H b m)(g: ∀a,a<H.length->X.own a=none->Y.own a=none/\K[a]?=H[a]?):Y.box K b m:=by
 obtain⟨d,c⟩:=h;obtain⟨e,f⟩:=g b (lr c) d;exact⟨e,f.trans c⟩
theorem aw.tJ.up{m:M}{π:Path}{e:Xp}{a:Nat}(h:X.tJ c H m π e a)(g: ∀a,a<H.length->X.own a=none->Y.own a=none/\K[a]?=H[a]?)(A: ∀b,X.live c b->Y.live c b/\Y.A b=X.A b):Y.tJ c K m π e a:=by
 obtain⟨d,f,i,j,k,l⟩:=h;refine⟨(A _ d).1,f,i,j,?_,?_⟩
 ·rw[(A .it trivial).2];exact k.up g
 ·rw[(A _ d).2];exact l.up g
theorem aw.sY.up{m:M}{k:NI}(h:X.sY c H m k)(g: ∀e,e<H.length->X.own e=none->Y.own e=none/\K[e]?=H[e]?)(A: ∀i,X.live c i->Y.live c i/\Y.A i=X.A i):Y.sY c K m k:=by
 have j:=(A .it trivial).2;cases k with
 |cell s p=>
  obtain⟨f,b,l,a,d,n⟩:=h;exact⟨(A _ f).1,b,l,a,by rw[(A _ f).2];exact d.up g,by rw[j];exact n.up g⟩
 |aP q r=>
  obtain⟨f,b,l,a,d,n⟩:=h;exact⟨(A _ f).1,b,l,a,by rw[j];exact d.up g,by rw[(A _ f).2];exact n.up g⟩
 |arrow o=>
  obtain⟨b,a,d⟩:=h;exact⟨b,a,by rw[j];exact d.up g⟩
 |put o v=>
  obtain⟨b,a,d⟩:=h;exact⟨b,a,by rw[j];exact d.up g⟩
theorem aw.zY.up{m:M}{ai:AI}(h:X.zY c H m ai)(g: ∀a,a<H.length->X.own a=none->Y.own a=none/\K[a]?=H[a]?)(A: ∀b,X.live c b->Y.live c b/\Y.A b=X.A b):Y.zY c K m ai:=by
 obtain⟨f,i,j,k,e,d,l,n,o,p,q,r,s⟩:=h;exact⟨f,i,j,k,e,d,l,n,o.up g,p.up g,by rw[(A .it trivial).2];exact q.up g,r.up g A,s⟩
theorem cF.Bb(h:cF P n c d X H)(W:Ro->Prop)(len:H.length<=K.length)
  (g: ∀b,b<H.length->X.own b=none->Y.own b=none/\K[b]?=H[b]?)
  (s: ∀b i,X.own b=some (.sb i)->K[b]?=H[b]?) (o: ∀b i,Y.own b=some (.sb i)↔X.own b=some (.sb i))
  (es:Y.x.s=X.x.s) (p:Y.ad=X.ad) (lt: ∀b a,Y.own b=some a->b<K.length)
  (A: ∀a,X.live c a->Y.live c a/\Y.A a=X.A a)
  (q: ∀a,Y.live c a-> ¬W a->X.live c a/\Y.own (X.A a)=some a/\K[X.A a]?=H[X.A a]?/\ ∀j,X.eu P c d a j->Y.eu P c d a j)
  (B: ∀a,Y.live c a->W a->Y.own (Y.A a)=some a/\ ∃j,K[Y.A a]?=some j/\Y.eu P c d a j)
  (nx: ∀e∈Y.N,e∈X.N\/Y.sY c K e.2 e.1) (af: ∀e∈Y.F,e∈X.F\/Y.zY c K e.2 e.1):cF P n c d Y K:=by
 refine⟨λa l=> ?_,lt,λa l=> ?_,λi r t m=> ?_,λe k=> ?_,λe k=> ?_⟩
 ·grind
 ·by_cases u:W a
  ·grind
  ·obtain⟨f,_,y,v⟩:=q a l u;obtain⟨j,z,w⟩:=h.ob a f;exact⟨j,by grind,v j w⟩
 ·rw[es]at m;rw[p];exact((h.sub i r t m).frame (λb x=>s b i x) len).congr λb=>(o b i).symm
 ·rcases nx e k with f|f
  ·exact(h.nx e f).up g A
  ·exact f
 ·rcases af e k with f|f
  ·exact(h.af e f).up g A
  ·exact f
theorem cF.ne(h:cF P n c d X H){r r':Ro}(b:X.live c r)(f:X.live c r')(g:r≠r'):X.A r≠X.A r':=by
 intro e;have a:=h.own r b;rw[e,h.own r' f]at a;injection a with a
 exact g a.symm
theorem cF.zZ(h:cF P n c d X H)(e:Ro)(k:X.live c e)(QK:Ob)(s:Y.A=X.A)(m:Y.own=X.own)(y:Y.N=X.N)(z:Y.F=X.F)(es:Y.x.s=X.x.s)(t:Y.ad=X.ad)(i: ∀a,Y.live c a↔X.live c a)
  (u:Y.eu P c d e QK) (v: ∀a j,a≠e->X.live c a->X.eu P c d a j->Y.eu P c d a j):cF P n c d Y (H.set (X.A e) QK):=by
 have o: ∀b,b≠X.A e->(H.set (X.A e) QK)[b]?=H[b]?:= λb p=>auT (avH p)
 have x:=h.own e k;refine h.Bb (·=e) (by simp) (λb p f=>⟨by grind,o b (by grind)⟩) (λb q f=>o b (by rintro rfl;rw[x]at f;injection f with f;subst f;exact k)) (λb q=>by rw[m]) es t
  (λb a f=>by rw[m]at f;have:=h.lt b a f;simpa using this) (λa g=>⟨(i a).2 g,by rw[s]⟩) (λa g l=>⟨(i a).1 g,by rw[m];exact h.own a ((i a).1 g),o _ (h.ne ((i a).1 g) k l),λj=>v a j l ((i a).1 g)⟩)
  (λa g l=> ?_) (λr w=> .inl (by grind)) (λr w=> .inl (by grind))
 subst l;obtain⟨j,A,_⟩:=h.ob a k;exact⟨by grind,QK,by grind,u⟩
theorem cF.grow(h:cF P n c d X H)(T:Hp):cF P n c d X (H++T):=by
 have g: ∀a,a<H.length->(H++T)[a]?=H[a]?:= λa i=>auL i
 refine h.Bb (λ_=>False) (by simp) (λa i b=>⟨b,g a i⟩) (λa k b=>g a (h.lt a _ b)) (λa k=>avU) W W (λa e b=>by have:=h.lt a e b;simp;omega) (λe f=>⟨f,rfl⟩)
  (λe f _=>⟨f,h.own e f,g _ (h.lt _ _ (h.own e f)),λo b=>b⟩) (λe f m=>m.elim) (λl j=> .inl j) (λl j=> .inl j)
end
theorem br.grow(c:aK)(E:Path×Nat->Prop)(X:aw)(H T:Hp):br c E X H X (H++T):=
 ⟨λ_ _ a=>a,λ_ a=>a,by simp,λd b a=>⟨a,auL b⟩,λe a=>⟨a,rfl⟩,λ_ _=>⟨rfl,rfl⟩,λ_ a=>a,λ_=>avU,λ_ _ _=>avU,λ_ _ a=>a,λ_ _ a=>a,λ_ _ _ _ _=>avU,λ_ _ a=>a,λ_ _ _ _=>rfl,rfl,λ_ _ a=>a,rfl,rfl,[],by simp⟩
theorem br.refl(c:aK)(E:Path×Nat->Prop)(X:aw)(H:Hp):br c E X H X H:=
 ⟨λ_ _ a=>a,λ_ a=>a,auK _,λb _ a=>⟨a,rfl⟩,λd a=>⟨a,rfl⟩,λ_ _=>⟨rfl,rfl⟩,λ_ a=>a,λ_=>avU,λ_ _ _=>avU,λ_ _ a=>a,λ_ _ a=>a,λ_ _ _ _ _=>avU,λ_ _ a=>a,λ_ _ _ _=>rfl,rfl,λ_ _ a=>a,rfl,rfl,[],by simp⟩
theorem br.trans{c:aK}{E:Path×Nat->Prop}{X Y Z:aw}{H K L:Hp}(h:br c E X H Y K)(k:br c E Y K Z L):br c E X H Z L:=by
 refine⟨λa b e=>h.c0 a b (k.c0 a b e),λa e=>h.f0 a (k.f0 a e),avD h.len k.len,λp s t=> ?_,λq u=> ?_,λa i=>⟨(k.aL a (h.f2 a i)).1.trans (h.aL a i).1,(k.aL a (h.f2 a i)).2.trans (h.aL a i).2⟩,λa w=>k.f2 a (h.f2 a w),λa=>(h.f1 a).trans (k.f1 a),λa b d=>(h.c1 a b d).trans (k.c1 a b d),λa b f=>k.c2 a b (h.c2 a b f),λa b f=>k.c3 a b (h.c3 a b f),λa b r d j=>(h.c4 a b r d j).trans (k.c4 a b r d j),λa g x=>k.dn a g (h.dn a g x),λa g d f=>(k.sj a g d ((h.c1 _ _ d).1 f)).trans (h.sj a g d f),k.lv.trans h.lv,λb v j=>k.S b v (h.S b v j),k.fi.trans h.fi,k.ph.trans h.ph,?_⟩
 ·obtain⟨l,m⟩:=h.iY p s t;obtain⟨n,o⟩:=k.iY p (avR s h.len) l;exact⟨n,o.trans m⟩
 ·obtain⟨l,m⟩:=h.A q u;obtain⟨n,o⟩:=k.A q l;exact⟨n,o.trans m⟩
 ·obtain⟨y,A⟩:=h.F;obtain⟨z,B⟩:=k.F;exact⟨y++z,by grind⟩
theorem br.mono{c:aK}{E i:Path×Nat->Prop}{X Y:aw}{H K:Hp}(h:br c E X H Y K)(f: ∀g,E g->i g):br c i X H Y K:=
 ⟨h.c0,h.f0,h.len,h.iY,h.A,h.aL,h.f2,h.f1,λa d e=>h.c1 a d (λb=>e (f _ b)),h.c2,h.c3,λa d j e l=>h.c4 a d j (λb=>e (f _ b)) l,h.dn,λa k e=>h.sj a k (λb=>e (f _ b)),h.lv,h.S,h.fi,h.ph,h.F⟩
theorem br.SS{c:aK}{E:Path×Nat->Prop}{X Y:aw}{H K:Hp}(h:br c E X H Y K)(k:Nat)(v:Int):X.SS c k v->Y.SS c k v:=by
 rintro(a|a)
 ·exact .inl (h.S k v a)
 ·exact .inr (by rw[h.ph];exact a)
theorem C'{c:Type}(l:List c)(f g:c->Nat)(h: ∀a∈l,f a<=g a):aS (l.map f)<=aS (l.map g):=by
 induction l with
 |nil=>exact auK _
 |cons a l d=>
  simp only[avm,iM];have i:=h a (avj ..);have j:=d λb e=>h b (au7 _ e)
  omega
theorem Ma{c:Type}(l:List c)(f g:c->Nat)(h: ∀a∈l,f a<=g a){a:c}(d:a∈l){w:Nat}(i:f a+w<=g a):aS (l.map f)+w<=aS (l.map g):=by
 induction l with
 |nil=>cases d
 |cons b l j=>
  simp only[avm,iM];rcases auX.1 d with rfl|d
  ·have k:=C' l f g λb e=>h b (au7 _ e)
   omega
  ·grind
theorem Da{c:aK}{X Y:aw}(f: ∀d,Y.cu d=true->X.cu d=true)(a b:Nat)(g:Y.N.length<=X.N.length+a)(h:aS ((Y.F.drop Y.fi).map λe=>1+e.1.w.length)<=aS ((X.F.drop X.fi).map λe=>1+e.1.w.length)+b):Y.T c<=X.T c+(a+b):=by
 unfold aw.T;have:=C' c.ap (λd=>if Y.cu d then c.wt d else 0) (λd=>if X.cu d then c.wt d else 0) (λd _=>by
  grind)
 omega
theorem wD{c:aK}{X Y:aw}(f: ∀d,Y.cu d=true->X.cu d=true){i0:It}(hi:i0∈c.ap)(g:X.cu i0=true)(h:Y.cu i0=false)(a b:Nat)(i:Y.N.length<=X.N.length+a)(j:aS ((Y.F.drop Y.fi).map λe=>1+e.1.w.length)<=aS ((X.F.drop X.fi).map λe=>1+e.1.w.length)+b):Y.T c+c.wt i0<=X.T c+(a+b):=by
 unfold aw.T;have:=Ma c.ap (λd=>if Y.cu d then c.wt d else 0) (λd=>if X.cu d then c.wt d else 0) (λd _=>by
  grind) hi (w:=c.wt i0) (by grind)
 omega
theorem Ki{P:Pg}{c:aK}{d:Nd}{u:US}{X:aw}(h:Pu P c d u X):X.F.length<=X.T c+1:=by
 have i:=h.fn;unfold aw.T;have f: ∀a:List (AI×M),a.length<=aS (a.map λb=>1+b.1.w.length):=by
  intro a
  induction a with
  |nil=>exact auK _
  |cons g a j=>simp only[avm,iM,au4];omega
 have e:=f (X.F.drop X.fi);rw[List.length_drop]at e;omega
section
variable{X:bJ}{ops:Array Oper}{rest:List Oper}{post:St->Prop}{sl:List (Nat×V)}{bx:List (Nat×List M)}{H:Hp}{d ty:Nat}{pos:String}{af:Array Edge}
theorem pY{t e:Nat}{x:Operand}{j aL len:Nat}[ht:aZ X.P t e](b:Nat.blt d X.n=true)(a:bw sl x=some (.m (bM j aL len)))(k:TL X ops rest ⟨(d,(.m (dN len)))::sl,bx,H⟩ post):TL X ops (⟨some d,.call ⟨.builtin .len,#[x],#[t]⟩,ty,pos,af,none⟩::rest) ⟨sl,bx,H⟩ post:=by
 unfold bM at a;split at a
 ·rename_i c;subst c;exact bp b a W k
 ·exact Hl b a k
theorem mr{t e ec:Nat}{x y:Operand}{j aL len:Nat}{acc:Bool}{cs:List M}{b:IntKind}{i:Int}[ht:aZ X.P t e][m:bY X.P e ec](c:Nat.blt d X.n=true)(a:bw sl x=some (.m (bM j aL len)))(f:bw sl y=some (.m (.d (.int b i))))(g:H[j]?=some (.row acc ec aL cs))(h:0<=i)(l:i<len)(k:TL X ops rest ⟨(d,(.m (.eI j aL (i.toNat*ec))))::sl,bx,H⟩ post):TL X ops (⟨some d,.indexAddr t x y,ty,pos,af,none⟩::rest) ⟨sl,bx,H⟩ post:=by
 unfold bM at a;rw[auU (by omega)]at a;exact Bw c a f g h l k
end
section
variable{P:Pg}{n:Nat}{c:aK}{d:Nd}{u:US}{X:aw}{H:Hp}
def aw.gS(X:aw)(c:aK)(π:Path)(x:Nm):M:=match c.find π x with
 |some σ=> .ref (X.A (.ce σ.1 σ.2)) 0
 |none=> .d .bX
theorem cF.frame(h:cF P n c d X H){π:Path}(hf:X.fs π=2):H[X.A (.fr π)]?=some (.box [X.up π,bM (X.A (.cr π)) (X.vc π) (c.fr π).vars.length,bM (X.A (.er π)) (X.ve π) (c.fr π).au.length,.mp (X.A (.am π)),.mp (X.A (.tk π))]):=by
 obtain⟨f,a,b⟩:=h.ob (.fr π) (by show 1<=X.fs π;omega);have e:=b;subst e;rw[a,au2 hf,au2 hf]
theorem cF.OG(h:cF P n c d X H){π:Path}(hf:X.fs π=2)(a:(c.fr π).vars≠ []):H[X.A (.cr π)]?=some (.row true 1 (X.vc π) ((List.range (c.fr π).vars.length).map λk=> .ref (X.A (.ce π k)) 0)):=by
 obtain⟨f,b,e⟩:=h.ob (.cr π) ⟨hf,a⟩;rw[b,e]
theorem cF.Kj(h:cF P n c d X H){π:Path}(hf:X.fs π=2)(a:(c.fr π).au≠ []):H[X.A (.er π)]?=some (.row true 1 (X.ve π) ((List.range (c.fr π).au.length).map λk=> .ref (X.A (.pl π k)) 0)):=by
 obtain⟨f,b,e⟩:=h.ob (.er π) ⟨hf,a⟩;rw[b,e]
theorem cF.cell(h:cF P n c d X H){π:Path}{k:Nat}{v:Va}(hf:X.fs π=2)(e:(c.fr π).vars[k]?=some v): ∃a eq,(c.fr π).cO[k]?=some a/\H[X.A (.ce π k)]?=some (.box (dh v a eq (X.A (.fr π)) (oE (X.cs π k)) (if zB (X.cs π k)then c.get (π,k)else 0)))/\ ∀j,gR (c.fr π) k v j->eq= .ref (X.A (.pl π j)) 0:=by
 have f:k<(c.fr π).vars.length:=by
  grind
 obtain⟨o,g,p,a,eq,m,b,i,rfl,rfl,l⟩:=h.ob (.ce π k) ⟨hf,f⟩;rw[e]at b;injection b with b
 subst b;exact⟨a,eq,i,g,l⟩
theorem cF.fW(h:cF P n c d X H){π:Path}{j:Nat}{q:aB}(hf:X.fs π=2)(b:(c.fr π).au[j]?=some q): ∃p,(c.fr π).pos[j]?=some p/\H[X.A (.pl π j)]?=some (.box (dK q p)):=by
 have e:j<(c.fr π).au.length:=by
  grind
 obtain⟨i,f,k,p,a,g,rfl⟩:=h.ob (.pl π j) ⟨hf,e⟩;rw[b]at a;injection a with a
 subst a;exact⟨p,g,f⟩
theorem cF.inst(h:cF P n c d X H):H[X.A .it]?=some (.box [.ref (X.A .un) 0,.ref (X.A (.fr [])) 0,.d (.bool false),bM (X.A .af) X.vF X.F.length,bM (X.A .nx) X.vN X.N.length]):=by
 obtain⟨e,a,b⟩:=h.ob .it trivial;rw[a,b]
theorem cF.unit(h:cF P n c d X H):H[X.A .un]?=some (.box (pW P d (X.A .me) (X.A .pe) (X.A .su))):=by
 obtain⟨e,a,b⟩:=h.ob .un trivial;rw[a,b]
theorem cF.mem(h:cF P n c d X H):H[X.A .me]?=some (.row false 1 0 (bE (bW d) (ji X.x.m))):=by
 obtain⟨e,a,b⟩:=h.ob .me trivial;rw[a,b]
theorem cF.cu(h:cF P n c d X H):H[X.A .pe]?=some (.row false 1 0 (bE (bW d) (kA X.x.p))):=by
 obtain⟨e,a,b⟩:=h.ob .pe trivial;rw[a,b]
theorem cF.an(h:cF P n c d X H):H[X.A .su]?=some (.row false 1 0 (bE (bW d) (fA X.x.s X.ad))):=by
 obtain⟨e,a,b⟩:=h.ob .su trivial;rw[a,b]
theorem Pu.Mb(h:Pu P c d u X){j:Nat}{π:Path}(hf:X.fs (j::π)=2):X.fs π=2:=(h.fp j π (by rw[hf];simp)).1
theorem vI(c:aK)(j:Nat)(π:Path)(x:Nm):c.find (j::π) x=match f_ (c.fr (j::π)).vars x with|some k=>some (j::π,k)|none=>c.find π x:=rfl
theorem Kk{l:List Va}{x:Nm}{i:Nat}{v:Va}(f:l[i]?=some v)(h:v.name=x)(c: ∀(a:Nat) (b:Va),a<i->l[a]?=some b->b.name≠x):f_ l x=some i:=by
 unfold f_;rw[avq];have d:i<l.length:=by
  grind
 refine⟨d,by grind,λa e=> ?_⟩;have:=c a l[a] e (auO (by omega));simp[this]
theorem IZ{l:List Va}{x:Nm}(c: ∀(a:Nat) (b:Va),l[a]?=some b->b.name≠x):f_ l x=none:=by
 unfold f_;rw[av4];intro b d;obtain⟨a,e,rfl⟩:=List.getElem_of_mem d;simp[c a _ (auO e)]
def aw.NK(X:aw):Option Path->M
 |some π=> .ref (X.A (.fr π)) 0
 |none=> .d .bX
def Gg(c:aK)(o:Option Path)(x:Nm):Option (Path×Nat):=match o with
 |some π=>c.find π x
 |none=>none
structure Kl(X:aw)(c:aK)(H:Hp)(ρ:Path):Prop where
 fr: ∃m1 m2 m3,H[X.A (.fr ρ)]?=some (.box [X.up ρ,bM (X.A (.cr ρ)) (X.vc ρ) (c.fr ρ).vars.length,m1,m2,m3])
 cr:(c.fr ρ).vars≠ []->H[X.A (.cr ρ)]?=some (.row true 1 (X.vc ρ) ((List.range (c.fr ρ).vars.length).map λk=> .ref (X.A (.ce ρ k)) 0))
 ce: ∀(k:Nat) (v:Va),(c.fr ρ).vars[k]?=some v-> ∃lp eq st z,H[X.A (.ce ρ k)]?=some (.box (dh v lp eq (X.A (.fr ρ)) st z))
theorem cF.Md(h:cF P n c d X H){π:Path}(hf:X.fs π=2):Kl X c H π:=⟨⟨_,_,_,h.frame hf⟩,h.OG hf,λe v a=>by obtain⟨f,eq,_,b,_⟩:=h.cell hf a;exact⟨_,_,_,_,b⟩⟩
theorem BM(F: ∀π,(c.fr π).vars.length<=1000000)(π:Path)(G: ∀p a,π=p++a->Kl X c H a)(x:Nm):CT prog 60 [.ref (X.A (.fr π)) 0,.d (.str x)] H λr K=>r=X.gS c π x/\K=H:=by
 refine CT.ob func60 W ntmps60 W λP Q=>tC [2,3] W<|TC.lp (λh k=> ∃j:Option Path,k=⟨[nM 0 (X.NK j),nD 1 (.str x)],[],H⟩/\(∀a,j=some a-> ∃p,π=p++a)/\Gg c j x=c.find π x/\h=(match j with|some a=>a.length+1|none=>0)) (π.length+1) _
  ⟨some π,rfl,by rintro a d;injection d with d;subst d;exact⟨[],W⟩,W,W⟩ W ?_
 rintro h k ⟨j,rfl,I,o,rfl⟩;cases j with
 |none=>
  refine tO [2,12] W<|jC (by kernel_rfl) W W W W W<|tL [0] W<|TC.exit<|tC [2] W<|TC.ret ⟨_,rfl,by unfold aw.gS;rw[<-o];rfl,rfl⟩
 |some a=>
  obtain⟨z,E⟩:=I a W;have q:=G z a E;obtain⟨R,S,T,s⟩:=q.fr;refine tO [2,12] W<|jC (by kernel_rfl) W W W W W<|tR [1,3,2,20] W<|aA W W s W<|tR [21] W<|pY W W<|tL [] W<|Rn [nN 18 0,nN 17 ((c.fr a).vars.length),nM 16 (bM (X.A (.cr a)) (X.vc a) (c.fr a).vars.length),nM 0 (X.NK (some a)),nD 1 (.str x)] H W W<|tC [3] W<|TC.lp (λh k=> ∃b:Nat,k=⟨[nN 18 b,nN 17 ((c.fr a).vars.length),nM 16 (bM (X.A (.cr a)) (X.vc a) (c.fr a).vars.length),nM 0 (X.NK (some a)),nD 1 (.str x)],[],H⟩/\b<=(c.fr a).vars.length/\h=(c.fr a).vars.length-b/\ ∀(f:Nat) (i:Va),f<b->(c.fr a).vars[f]?=some i->i.name≠x) (c.fr a).vars.length _
   ⟨0,rfl,by omega,rfl,by intro f i A;omega⟩ W ?_
  rintro h k ⟨b,rfl,U,rfl,t⟩;have Y:=F a;refine tC [2] W<|TC.cond W (λu=> ?_) (λu=> ?_)
  ·have l:b<(c.fr a).vars.length:=by have:=auV u;omega
   have n:=auO l;have B:=q.cr (by intro e;rw[e]at l;simp at l);obtain⟨V,eq,st,O,C⟩:=q.ce b _ n;generalize (c.fr a).vars[b]=v at n C;have J:((List.range (c.fr a).vars.length).map λh=>M.ref (X.A (.ce a h)) 0)[((b:Nat):Int).toNat*1]?=some (.ref (X.A (.ce a b)) 0):=by simp[l]
   refine tO [3,2,24] W<|mr W W W B (auJ b) (by omega)<|tR [25] W<|ny W W B J<|tR [2,30] W<|aA W W C W<|tL [] W<|TC.cond W (λw=> ?_) (λw=> ?_)
   ·have y:=auV w;refine tC [2] W ?_;have m:=Kk n y t;have L:c.find a x=some (a,b):=by
     cases a with
     |nil=>show Option.map _ _=_;rw[m];rfl
     |cons f π=>rw[vI,m]
    exact TC.ret ⟨_,W,by unfold aw.gS;rw[<-o];simp only[Gg,L];rfl,rfl⟩
   ·refine tC [] W ?_;have y:=au9 w;refine tO [2,34] W<|az W W W (by omega)<|tL [] W<|again (k':=(c.fr a).vars.length-(b+1)) (by omega) ⟨b+1,rfl,by omega,rfl,?_⟩ W W;intro f i A g;rcases avB.1 A with N|rfl
    ·exact t f i N g
    ·rw[n]at g;injection g with g;subst g;exact y
  ·refine TC.exit ?_;have l:b=(c.fr a).vars.length:=by have:=au9 u;omega
   have m:=IZ λf i g=>t f i (by
    rcases auM f b with d|d
    ·exact d
    ·rw[auP (by omega)]at g;cases g) g
   cases a with
   |nil=>
    refine tO [2,16] W<|aA W W s W<|tL [] W<|again (k':=0) (by simp) ⟨none,rfl,by(intro a d;cases d),by rw[<-o];show none=Option.map _ _;rw[m];rfl,rfl⟩ W W
   |cons f D=>
    refine tO [2,16] W<|aA W W s W<|tL [] W<|again (k':=D.length+1) (by simp) ⟨some D,rfl,by(intro a d;injection d with d;subst d;exact⟨z++ [f],by rw[E];simp⟩),by rw[<-o];simp only[Gg];rw[vI,m],rfl⟩ W W
theorem wE(b:Pu P c d u X): ∀{τ ρ:Path},X.fs (τ++ρ)=2->X.fs ρ=2
 | [],_,a=>a
 |e::τ,ρ,a=>wE b (τ:=τ) (b.Mb a)
theorem pZ(h:cF P n c d X H)(a:Pu P c d u X)(b: ∀π,(c.fr π).vars.length<=1000000)(π:Path)(hf:X.fs π=2)(x:Nm):CT prog 60 [.ref (X.A (.fr π)) 0,.d (.str x)] H λr K=>r=X.gS c π x/\K=H:=
 BM b π (λτ f e=>h.Md (wE a (τ:=τ) (e▸hf))) x
end
section
variable{P:Pg}{n:Nat}{c:aK}{d:Nd}{u:US}{X Y:aw}{H:Hp}
theorem eu.congr(a: ∀r,r≠ .nx->r≠ .af->Y.A r=X.A r)(n:Y.fs=X.fs)(ec:Y.cs=X.cs)(u:Y.dn=X.dn)(q:Y.vc=X.vc)(s:Y.ve=X.ve)(k:Y.x=X.x)(w:Y.ad=X.ad){r:Ro}(e:r≠ .it)(f:r≠ .nx)(i:r≠ .af){ob:Ob}(h:X.eu P c d r ob):Y.eu P c d r ob:=by
 cases r with
 |it=>exact absurd W e
 |nx=>exact absurd W f
 |af=>exact absurd W i
 |un=>simp only[aw.eu]at h⊢;rw[a .me (by simp) (by simp),a .pe (by simp) (by simp),a .su (by simp) (by simp)];exact h
 |me=>simp only[aw.eu]at h⊢;rw[k];exact h
 |pe=>simp only[aw.eu]at h⊢;rw[k];exact h
 |su=>simp only[aw.eu]at h⊢;rw[k,w];exact h
 |fr b=>
  have x:Y.up b=X.up b:=by cases b with
   |nil=>rfl
   |cons g b=>simp only[aw.up];rw[a _ (by simp) (by simp)]
  simp only[aw.eu]at h⊢;rw[x,n,q,s,a _ (by simp) (by simp),a _ (by simp) (by simp),a _ (by simp) (by simp),a _ (by simp) (by simp)];exact h
 |am b=>
  simp only[aw.eu]at h⊢;obtain⟨l,e,f,i,o⟩:=h;refine⟨l,e,f,λp g m=> ?_,λp=>o (by grind)⟩;rw[a _ (by simp) (by simp),i (by grind) g m];unfold aw.oS;rw[n,u,ec,a _ (by simp) (by simp),a _ (by simp) (by simp)]
 |tk b=>
  simp only[aw.eu]at h⊢;obtain⟨l,e,f,i⟩:=h;refine⟨l,e,f,λp g m=> ?_⟩;rw[a _ (by simp) (by simp)];exact i (by grind) g (by grind)
 |cr b=>
  simp only[aw.eu]at h⊢;rw[q,h]
  congr 1
  exact avy λj _=>by grind
 |er b=>
  simp only[aw.eu]at h⊢;rw[s,h]
  congr 1
  exact avy λj _=>by grind
 |ce b j=>
  simp only[aw.eu]at h⊢;obtain⟨v,y,eq,t,e,f,i,o,z⟩:=h;refine⟨v,y,eq,t,e,f,by grind,by grind,λg m=>by grind⟩
 |pl b g=>exact h
 |sb j=>trivial
def aw.dv(X:aw)(H:Hp)(p:NI×M):aw:= {X with
 N:=X.N++ [p]
 vN:=if X.N= []then 0 else X.vN+1
 A:=if X.N= []thenλr=>if r= .nx then H.length+1 else X.A r else X.A
 own:=if X.N= []thenλa=>if a=H.length+1 then some .nx else X.own a else X.own}
def aw.dr(X:aw)(H:Hp)(m:M):Hp:=
 (if X.N= []then(H++ [Ob.row false 1 0 [m]])++ [Ob.row true 1 0 [m]]else(H++ [Ob.row false 1 0 [m]]).set (X.A .nx) (Ob.row true 1 (X.vN+1) (X.N.map (·.2)++ [m]))).set (X.A .it)
  (Ob.box [.ref (X.A .un) 0,.ref (X.A (.fr [])) 0,.d (.bool false),bM (X.A .af) X.vF X.F.length,if X.N= []then .bH (H.length+1) 0 1 else .bH (X.A .nx) (X.vN+1) (X.N.length+1)])
theorem jK(a:Y.fs=X.fs){r:Ro}(b:r≠ .nx)(d:r≠ .af):Y.live c r↔X.live c r:=by
 cases r<;>simp only[aw.live,a]<;>first|exact absurd W b|exact absurd W d
theorem p5(h:cF P n c d X H){g:NI}{m:M}(Q:X.sY c H m g):cF P n c d (X.dv H (g,m)) (X.dr H m)/\br c (λ_=>False) X H (X.dv H (g,m)) (X.dr H m):=by
 have A:=h.own .it trivial;have V:=h.lt _ _ A;by_cases p:X.N= []
 ·have o: ∀a,a≠ .nx->(X.dv H (g,m)).A a=X.A a:= λa l=>by simp[aw.dv,p,l]
  have O:(X.dv H (g,m)).A .nx=H.length+1:=by simp[aw.dv,p]
  have q: ∀b,b≠H.length+1->(X.dv H (g,m)).own b=X.own b:= λb r=>by simp[aw.dv,p,r]
  have R:(X.dv H (g,m)).own (H.length+1)=some .nx:=by simp[aw.dv,p]
  have S:X.own (H.length+1)=none:=by
   cases e:X.own (H.length+1)with
   |none=>rfl
   |some a=>have:=h.lt _ _ e;omega
  have t:X.dr H m=((H++ [Ob.row false 1 0 [m]])++ [Ob.row true 1 0 [m]]).set (X.A .it) (Ob.box [.ref (X.A .un) 0,.ref (X.A (.fr [])) 0,.d (.bool false),bM (X.A .af) X.vF X.F.length,.bH (H.length+1) 0 1]):=by simp[aw.dr,p]
  have E:H.length<=(X.dr H m).length:=by rw[t];simp
  have B: ∀b,b<H.length->b≠X.A .it->(X.dr H m)[b]?=H[b]?:= λb i j=>by
   rw[t,auT (avH j),auL (by simp;omega),auL i]
  have I:(X.dr H m)[X.A .it]?=some (Ob.box [.ref (X.A .un) 0,.ref (X.A (.fr [])) 0,.d (.bool false),bM (X.A .af) X.vF X.F.length,.bH (H.length+1) 0 1]):=by
   rw[t,avz (by simp;omega)]
  have J:(X.dr H m)[H.length+1]?=some (Ob.row true 1 0 [m]):=by
   rw[t,auT (by omega),auR (by simp)];simp
  have x: ∀b,b<H.length->X.own b=none->(X.dv H (g,m)).own b=none/\(X.dr H m)[b]?=H[b]?:= λb r f=>⟨by rw[q b (by omega)];exact f,B b r (by rintro rfl;rw[A]at f;cases f)⟩
  have y: ∀a,X.live c a->(X.dv H (g,m)).live c a/\(X.dv H (g,m)).A a=X.A a:= λa l=>by
   have j:a≠ .nx:=by rintro rfl;exact l p
   refine⟨?_,o a j⟩;by_cases k:a= .af
   ·subst k;exact l
   ·exact(jK (X:=X) (Y:=X.dv H (g,m)) W j k).2 l
  refine⟨?_,⟨λ_ _ h=>h,λ_ h=>h,E,x,y,λ_ _=>⟨rfl,rfl⟩,λ_ h=>h,λ_=>avU,λ_ _ _=>avU,λ_ _ h=>h,λ_ _ h=>h,λ_ _ _ _ _=>avU,λ_ _ h=>h,λ_ _ _ _=>rfl,rfl,?_,rfl,rfl,[],by simp[aw.dv]⟩⟩
  ·refine h.Bb (λa=>a= .nx\/a= .it) E x (λb D f=>B b (h.lt b _ f) (by rintro rfl;rw[A]at f;cases f)) (λb D=> ?_) W W (λb a f=> ?_) y (λa l u=> ?_) (λa l u=> ?_) (λz s=> ?_) (λz s=> .inl s)
   ·by_cases r:b=H.length+1
    ·subst r;rw[R,S];simp
    ·rw[q b r]
   ·by_cases r:b=H.length+1
    ·subst r;rw[t];simp
    ·rw[q b r]at f;have:=h.lt b a f;omega
   ·have j:a≠ .nx:= λe=>u (.inl e)
    have i:a≠ .it:= λe=>u (.inr e)
    have w:X.live c a:=by
     by_cases k:a= .af
     ·subst k;exact l
     ·exact(jK (X:=X) (Y:=X.dv H (g,m)) W j k).1 l
    have f:=h.own a w;have K:=h.lt _ _ f;refine⟨w,by rw[q _ (by omega)];exact f,B _ K (h.ne w trivial i),λT F=> ?_⟩;by_cases k:a= .af
    ·subst k;exact F
    ·exact eu.congr (X:=X) (Y:=X.dv H (g,m)) (λa j _=>o a j) W W W W W W W i j k F
   ·rcases u with rfl|rfl
    ·exact⟨by rw[O];exact R,_,by rw[O];exact J,by simp only[aw.eu];simp[aw.dv,p]⟩
    ·refine⟨by rw[o _ (by simp),q _ (by omega)];exact A,_,by rw[o _ (by simp)];exact I,?_⟩;simp only[aw.eu];rw[o _ (by simp),o _ (by simp),o _ (by simp),O];simp[aw.dv,p,bM]
   ·rcases auS.1 s with i|i
    ·exact .inl i
    ·rw[auW]at i;subst i;exact .inr (Q.up x y)
  ·intro D v C;rcases C with⟨z,s,L⟩|C
   ·exact .inl ⟨z,auY _ s,L⟩
   ·exact .inr C
 ·have o:(X.dv H (g,m)).A=X.A:=by simp[aw.dv,p]
  have q:(X.dv H (g,m)).own=X.own:=by simp[aw.dv,p]
  have N:X.live c .nx:=p;have G:=h.own .nx N;have Z:=h.lt _ _ G;have U:=h.ne N (r':= .it) trivial (by simp);have t:X.dr H m=((H++ [Ob.row false 1 0 [m]]).set (X.A .nx) (Ob.row true 1 (X.vN+1) (X.N.map (·.2)++ [m]))).set (X.A .it) (Ob.box [.ref (X.A .un) 0,.ref (X.A (.fr [])) 0,.d (.bool false),bM (X.A .af) X.vF X.F.length,.bH (X.A .nx) (X.vN+1) (X.N.length+1)]):=by simp[aw.dr,p]
  have E:H.length<=(X.dr H m).length:=by rw[t];simp
  have B: ∀b,b<H.length->b≠X.A .it->b≠X.A .nx->(X.dr H m)[b]?=H[b]?:= λb i j k=>by
   rw[t,auT (avH j),auT (avH k),auL i]
  have I:(X.dr H m)[X.A .it]?=some (Ob.box [.ref (X.A .un) 0,.ref (X.A (.fr [])) 0,.d (.bool false),bM (X.A .af) X.vF X.F.length,.bH (X.A .nx) (X.vN+1) (X.N.length+1)]):=by
   rw[t,avz (by simp;omega)]
  have J:(X.dr H m)[X.A .nx]?=some (Ob.row true 1 (X.vN+1) (X.N.map (·.2)++ [m])):=by
   rw[t,auT (avH U),avz (by simp;omega)]
  have x: ∀b,b<H.length->X.own b=none->(X.dv H (g,m)).own b=none/\(X.dr H m)[b]?=H[b]?:= λb r f=>⟨by rw[q];exact f,B b r (by rintro rfl;rw[A]at f;cases f) (by rintro rfl;rw[G]at f;cases f)⟩
  have y: ∀a,X.live c a->(X.dv H (g,m)).live c a/\(X.dv H (g,m)).A a=X.A a:= λa l=>by
   refine⟨?_,by rw[o]⟩;by_cases j:a= .nx
   ·subst j;show X.N++_≠ [];simp
   by_cases k:a= .af
   ·subst k;exact l
   ·exact(jK (X:=X) (Y:=X.dv H (g,m)) W j k).2 l
  refine⟨?_,⟨λ_ _ h=>h,λ_ h=>h,E,x,y,λ_ _=>⟨rfl,rfl⟩,λ_ h=>h,λ_=>avU,λ_ _ _=>avU,λ_ _ h=>h,λ_ _ h=>h,λ_ _ _ _ _=>avU,λ_ _ h=>h,λ_ _ _ _=>rfl,rfl,?_,rfl,rfl,[],by simp[aw.dv]⟩⟩
  ·refine h.Bb (λa=>a= .nx\/a= .it) E x (λb D f=>B b (h.lt b _ f) (by rintro rfl;rw[A]at f;cases f) (by rintro rfl;rw[G]at f;cases f)) (λb D=>by rw[q]) W W (λb a f=> ?_) y (λa l u=> ?_) (λa l u=> ?_) (λz s=> ?_) (λz s=> .inl s)
   ·rw[q]at f;have:=h.lt b a f;omega
   ·have j:a≠ .nx:= λe=>u (.inl e)
    have i:a≠ .it:= λe=>u (.inr e)
    have w:X.live c a:=by
     by_cases k:a= .af
     ·subst k;exact l
     ·exact(jK (X:=X) (Y:=X.dv H (g,m)) W j k).1 l
    have f:=h.own a w;have K:=h.lt _ _ f;refine⟨w,by rw[q];exact f,B _ K (h.ne w trivial i) (h.ne w N j),λT F=> ?_⟩;by_cases k:a= .af
    ·subst k;exact F
    ·exact eu.congr (X:=X) (Y:=X.dv H (g,m)) (λa j _=>by rw[o]) W W W W W W W i j k F
   ·rcases u with rfl|rfl
    ·exact⟨by rw[o,q];exact G,_,by rw[o];exact J,by simp only[aw.eu];simp[aw.dv,p]⟩
    ·refine⟨by rw[o,q];exact A,_,by rw[o];exact I,?_⟩;simp only[aw.eu];rw[o];simp[aw.dv,p,bM]
   ·rcases auS.1 s with i|i
    ·exact .inl i
    ·rw[auW]at i;subst i;exact .inr (Q.up x y)
  ·intro D v C;rcases C with⟨z,s,L⟩|C
   ·exact .inl ⟨z,auY _ s,L⟩
   ·exact .inr C
theorem Pu.Db(h:Pu P c d u X)(g:Y.fs=X.fs)(ec:Y.cs=X.cs)(n:Y.dn=X.dn)(K:Y.lv=X.lv)(r:Y.x=X.x)(w: ∀a v,X.SS c a v->Y.SS c a v)(L: ∀b∈X.N,b∈Y.N)(M: ∀b∈Y.N,b∈X.N\/NI.ok c d X b.1)(N: ∀b∈Y.F,b∈X.F\/AI.ok P c d X b.1)(O:Y.fi<=Y.F.length)(fn:Y.fi<=Y.N.length+1):Pu P c d u Y:=by
 have z: ∀a,Y.ER c a↔X.ER c a:= λa=>by unfold aw.ER;rw[g]
 have I: ∀a e f,Y.DC c a e f↔X.DC c a e f:= λa e f=>by unfold aw.DC;rw[g,n]
 have V: ∀s,NI.ok c d X s->NI.ok c d Y s:= λs h=>by cases s<;>simp only[NI.ok,g,ec]at h⊢ <;>exact h
 have Z: ∀A,AI.ok P c d X A->AI.ok P c d Y A:= λA h=>⟨h.ev,by rw[g];exact h.fs,h.lt,h.wr,h.sm,h.own,h.sz⟩
 refine⟨by rw[g];exact h.f0,by rw[g];exact h.fp,by rw[g];exact h.f2,by rw[ec];exact h.c6,by rw[ec];exact h.ci,by rw[ec];exact h.cv,by rw[ec];exact h.ca,?_,?_,?_,?_,?_,?_,?_,?_,?_,?_,?_,?_,O,fn,by rw[ec,n];exact h.g0,by rw[g,n];exact h.dz,by rw[g,ec];exact h.cz⟩
 ·intro a j;rw[z,r];exact h.xm a j
 ·intro a j;rw[z,r];exact h.xp a j
 ·intro a j e f k;rw[r];exact h.xd a j e f ((I _ _ _).1 k)
 ·intro a j k;rw[z,r];exact h.xs a j λe f Q=>k e f ((I _ _ _).2 Q)
 ·intro e a b v i o B t C;rw[g]at i;rw[ec]at o;exact w _ _ (h.s1 e a b v i o B t C)
 ·intro x R v S T y i o B C D E F;rw[g]at i;rw[ec]at o;obtain⟨l,G,h3⟩:=h.s2 x R v S T y i o B C D E F;exact⟨by grind,λj m p=>w _ _ (G j m p),λj=>by grind⟩
 ·intro e f i k;rw[g]at i;rw[n]at k;obtain⟨l,G⟩:=h.s3 e f i k;exact⟨l,λm p=>w _ _ (G m p)⟩
 ·intro e f i m p;rw[g]at i;exact w _ _ (h.s4 e f i m p)
 ·intro e f t;rw[K]at t;obtain⟨b,q,D⟩:=h.s5 e f t;exact⟨b,L b q,D⟩
 ·intro e f y i k H F J U x E;rw[g]at i;rw[n]at k;rw[ec]at H⊢;exact h.dl e f y i k H F J U x E
 ·intro b q;rcases M b q with l|l
  ·exact V _ (h.nk b l)
  ·grind
 ·intro b q;rcases N b q with l|l
  ·exact Z _ (h.fk b l)
  ·grind
theorem Pu.more(h:Pu P c d u X)(e:Y.fs=X.fs)(ec:Y.cs=X.cs)(f:Y.dn=X.dn)(g:Y.lv=X.lv)(i:Y.x=X.x)(o:Y.ph=X.ph)(j: ∀b v,X.S c b v->Y.S c b v)(k: ∀a∈X.N,a∈Y.N)(l: ∀a∈Y.N,a∈X.N\/NI.ok c d X a.1)(m: ∀a∈Y.F,a∈X.F\/AI.ok P c d X a.1)(n:Y.fi<=Y.F.length)(fn:Y.fi<=Y.N.length+1):Pu P c d u Y:=
 h.Db e ec f g i (λb v h=>by
  rcases h with h|h
  ·exact .inl (j b v h)
  ·exact .inr (by grind)) k l m n fn
theorem ry(h:Pu P c d u X){p:NI×M}(l:NI.ok c d X p.1):Pu P c d u (X.dv H p)/\(∀k v,NI.wr c p.1 k v->(X.dv H p).S c k v)/\(X.dv H p).T c=X.T c+1:=by
 refine⟨h.more W W W W W W (λk v f=> ?_) (λb a=>auY _ a) (λb a=> ?_) (λb a=> .inl a) h.fl (by show X.fi<=(X.N++ [p]).length+1;have:=h.fn;simp;omega),λk v g=> .inl ⟨p,au0 _ (av1 _),g⟩,?_⟩
 ·rcases f with⟨b,a,g⟩|f
  ·exact .inl ⟨b,auY _ a,g⟩
  ·exact .inr f
 ·rcases auS.1 a with i|i
  ·exact .inl i
  ·grind
 ·have e:(X.dv H p).cu=X.cu:=by funext j;cases j<;>rfl
  unfold aw.T;rw[e];simp only[aw.dv,auN,avd];omega
end
section
variable{P:Pg}{n:Nat}{c:aK}{d:Nd}{u:US}{X:aw}{H:Hp}
structure cV(P:Pg)(n:Nat)(c:aK)(d:Nd)(u:US)(X:aw)(H:Hp):Prop where
 lay:cF P n c d X H
 pu:Pu P c d u X
theorem mI(K:Hp)(m:M):pM (K++ [Ob.row false 1 0 [m]]) 1 (.bH K.length 0 1)=some ([m],1):=by simp[pM]
theorem vJ(K:Hp)(ob:Ob):(K++ [ob])[K.length]?=some ob:=by simp
theorem bB{K T:Hp}{i:Nat}{ob:Ob}(h:K[i]?=some ob):(K++T)[i]?=some ob:=by grind
theorem gu{K:Hp}{i j:Nat}{ob QK:Ob}(h:K[i]?=some ob)(a:j≠i):(K.set j QK)[i]?=some ob:=by grind
theorem wF(h:cF P n c d X H)(a:X.N≠ []):H[X.A .nx]?=some (.row true 1 X.vN (X.N.map (·.2))):=by
 obtain⟨f,b,e⟩:=h.ob .nx a;rw[b,e]
theorem z7(a:X.T c<=1000000000000):X.N.length<=1000000000000:=by unfold aw.T at a;omega
theorem Km(s:cV P n c d u X H)(J:X.T c<=1000000000000){π:Path}{k:Nat}{v:Va}(hf:X.fs π=2)(t:(c.fr π).vars[k]?=some v){m:Option Nat}(w:(c.fr π).cO[k]?=some m)(L:zB (X.cs π k)=true)(N: ∀p,m=some p->p<bW d)(O:π= []->d.ins.length<=k):
  DT prog 92 [.ref (X.A .it) 0,.ref (X.A (.ce π k)) 0] H λr K=> ∃Y,cV P n c d u Y K/\br c (λ_=>False) X H Y K/\Y.cs=X.cs/\Y.fs=X.fs/\Y.dn=X.dn/\Y.lv=X.lv/\Y.T c<=X.T c+1/\ ∀p,m=some p-> ∀z,c.val π k=some z->Y.S c p z:=by
 have a:=s.lay;obtain⟨ZA,eq,o,Q,_⟩:=a.cell hf t;rw[w]at o;injection o with o
 subst o;have D:k<(c.fr π).vars.length:=by
  rcases auM k (c.fr π).vars.length with a|a
  ·exact a
  ·rw[auP a]at t;cases t
 have x:=bB (T:=[Ob.box [.ref (X.A (.ce π k)) 0]]) (bB (T:=[Ob.box [.ref (X.A .it) 0]]) Q);have h:(H++ [Ob.box [.ref (X.A .it) 0]]++ [Ob.box [.ref (X.A (.ce π k)) 0]])[H.length]?=some (Ob.box [.ref (X.A .it) 0]):=by simp
 have q:(H++ [Ob.box [.ref (X.A .it) 0]]++ [Ob.box [.ref (X.A (.ce π k)) 0]])[(H++ [Ob.box [M.ref (X.A .it) 0]]).length]?=some (Ob.box [.ref (X.A (.ce π k)) 0]):=by simp
 have j:cF P n c d X (H++ [Ob.box [.ref (X.A .it) 0]]++ [Ob.box [.ref (X.A (.ce π k)) 0]]):=(a.grow _).grow _;have y:br c (λ_=>False) X H X (H++ [Ob.box [.ref (X.A .it) 0]]++ [Ob.box [.ref (X.A (.ce π k)) 0]]):=(br.grow c _ X H _).trans (br.grow c _ X _ _);refine DT.ob func92 W ntmps92 W<|dO [2,6] W<|Po (cH W W W)<|dR [7] W<|Po (cH W W W)<|dL [] W ?_;have A: ∀b,H.length<=b->X.own b=none:= λb hb=>by
  cases e:X.own b with
  |none=>rfl
  |some r=>have:=a.lt b r e;omega
 generalize hK:H++ [Ob.box [.ref (X.A .it) 0]]++ [Ob.box [.ref (X.A (.ce π k)) 0]]=K at x h q j y;cases m with
 |none=>
  refine dO [2,8] W<|Po (aA W W q W)<|dR [11] W<|Po (aA W W x W)<|dL [0] W<|⟨_,W,X,⟨j,s.pu⟩,y,W,W,W,W,by omega,λp l=>by cases l⟩
 |some p=>
  refine dO [2,8] W<|Po (aA W W q W)<|dR [11] W<|Po (aA W W x W)<|dR [12] W<|Po (aQ (au5 (auJ p)) W W W W)<|dL [1] W ?_;have g:=j.inst;have R:X.sY c K (.fn 127 [.ref (H++ [Ob.box [M.ref (X.A .it) 0]]).length 0,.ref H.length 0]) (.cell true (π,k)):=
   ⟨(⟨hf,D⟩),_,_,rfl,⟨A _ (by simp),q⟩,⟨A _ (auK _),h⟩⟩
  obtain⟨S,U⟩:=p5 j R;obtain⟨V,Z,ac⟩:=ry s.pu (p:=(.cell true (π,k),.fn 127 [.ref (H++ [Ob.box [M.ref (X.A .it) 0]]).length 0,.ref H.length 0])) (⟨hf,D,L,⟨p,N p W,w⟩,O⟩) (H:=K);have E: ∀f,X.dr K (.fn 127 [.ref (H++ [Ob.box [M.ref (X.A .it) 0]]).length 0,.ref H.length 0])=f-> ∃Y,cV P n c d u Y f/\br c (λ_=>False) X H Y f/\Y.cs=X.cs/\Y.fs=X.fs/\Y.dn=X.dn/\Y.lv=X.lv/\Y.T c<=X.T c+1/\ ∀B,some p=some B-> ∀z,c.val π k=some z->Y.S c B z:=by
   rintro f rfl;exact⟨_,⟨S,V⟩,y.trans U,W,W,W,W,Nat.le_of_eq ac,λB l z Vj=>by injection l with l;subst l;exact Z _ _ ⟨w,Vj⟩⟩
  let F:M->Hp->Prop:= λI f=>f[H.length]?=some (Ob.box [.ref (X.A .it) 0])/\f[X.A .it]?=some (Ob.box [.ref (X.A .un) 0,.ref (X.A (.fr [])) 0,.d (.bool false),bM (X.A .af) X.vF X.F.length,I])
  by_cases i:X.N= []
  ·have C:bM (X.A .nx) X.vN X.N.length= .d (.sl []):=by simp[i,bM]
   rw[C]at g;refine dC [] W ?_;apply QZ (F (.d (.sl []))) (⟨h,g⟩) bN
   ·intro s0 Oo;refine PF W W (λf a=>⟨_,a.1,rfl⟩)<|PF W W (λf a=>⟨_,a.1,rfl⟩)<|iR 2 W<|PF W W (λf a=>⟨_,a.2,rfl⟩) ?_;apply Py
    ·skip
     refine ft W W<|TF.nil ⟨W,W⟩
    apply Py
    ·skip
     refine et (cs:=[_]) W W W W W W<|TF.nil ⟨W,W⟩
    apply Py
    ·skip
     refine pP true W W W (mI _ _) W W (by decide) (by decide)<|TF.nil ⟨rfl,rfl⟩
    refine iR 2 W ?_;apply Py
    ·skip
     refine fE W W (bB (bB g)) W W W<|TF.nil ⟨W,W⟩
    exact jJ.nil ⟨by kernel_rfl,by repeat' first|exact trivial|exact .inl ((by first|exact⟨bB h,bB g⟩|exact⟨bB (bB h),bB (bB g)⟩))|exact .inr (by kernel_rfl)|refine⟨?_,?_⟩,rfl⟩
   refine⟨_,W,E _ ?_⟩;simp only[aw.dr,au2 i,auN,avd];rfl
  ·have C:bM (X.A .nx) X.vN X.N.length= .bH (X.A .nx) X.vN X.N.length:=by unfold bM;rw[auU];intro e;exact i (avA e)
   rw[C]at g;have ah:=z7 J;have G:=j.ne (r:= .nx) (r':= .it) i trivial (by simp);refine dC [] W ?_;apply QZ (F (.bH (X.A .nx) X.vN X.N.length)) (⟨h,g⟩) bN
   ·intro s0 Oo;refine PF W W (λf a=>⟨_,a.1,rfl⟩)<|PF W W (λf a=>⟨_,a.1,rfl⟩)<|iR 2 W<|PF W W (λf a=>⟨_,a.2,rfl⟩) ?_;apply Py
    ·skip
     refine ft W W<|TF.nil ⟨W,W⟩
    apply Py
    ·skip
     refine et (cs:=[_]) W W W W W W<|TF.nil ⟨W,W⟩
    apply Py
    ·skip
     refine pQ W W W (mI _ _) (bB (wF j i)) W (by omega) (by omega)<|TF.nil ⟨rfl,rfl⟩
    refine iR 2 W ?_;apply Py
    ·skip
     refine fE W W (gu (bB g) G) W W W<|TF.nil ⟨W,W⟩
    exact jJ.nil ⟨by kernel_rfl,by repeat' first|exact trivial|exact .inl ((by first|exact⟨bB h,bB g⟩|exact⟨gu (bB h) (by intro e;have:=a.own .nx i;rw[e,A _ (auK _)]at this;cases this),gu (bB g) G⟩))|exact .inr (by kernel_rfl)|refine⟨?_,?_⟩,rfl⟩
   refine⟨_,W,E _ ?_⟩;simp only[aw.dr,auU i];rfl
end
section
variable{P:Pg}{n:Nat}{c:aK}{d:Nd}{u:US}{X Y:aw}{H:Hp}
theorem Kq{b:Type}{l r:List b}{i:Nat}{a:b}(h:l[i]?=some a):(l++r)[i]?=some a:=by grind
def aw.eU(X:aw)(H:Hp)(p:AI×M):aw:= {X with
 F:=X.F++ [p]
 vF:=if X.F= []then 0 else X.vF+1
 A:=if X.F= []thenλr=>if r= .af then H.length+1 else X.A r else X.A
 own:=if X.F= []thenλa=>if a=H.length+1 then some .af else X.own a else X.own}
def aw.iq(X:aw)(H:Hp)(m:M):Hp:=
 (if X.F= []then(H++ [Ob.row false 1 0 [m]])++ [Ob.row true 1 0 [m]]else(H++ [Ob.row false 1 0 [m]]).set (X.A .af) (Ob.row true 1 (X.vF+1) (X.F.map (·.2)++ [m]))).set (X.A .it)
  (Ob.box [.ref (X.A .un) 0,.ref (X.A (.fr [])) 0,.d (.bool false),if X.F= []then .bH (H.length+1) 0 1 else .bH (X.A .af) (X.vF+1) (X.F.length+1),bM (X.A .nx) X.vN X.N.length])
theorem Gh(h:cF P n c d X H){g:AI}{m:M}(S:X.zY c H m g):cF P n c d (X.eU H (g,m)) (X.iq H m)/\br c (λ_=>False) X H (X.eU H (g,m)) (X.iq H m):=by
 have A:=h.own .it trivial;have ac:=h.lt _ _ A;by_cases p:X.F= []
 ·have o: ∀a,a≠ .af->(X.eU H (g,m)).A a=X.A a:= λa l=>by simp[aw.eU,p,l]
  have R:(X.eU H (g,m)).A .af=H.length+1:=by simp[aw.eU,p]
  have q: ∀b,b≠H.length+1->(X.eU H (g,m)).own b=X.own b:= λb r=>by simp[aw.eU,p,r]
  have T:(X.eU H (g,m)).own (H.length+1)=some .af:=by simp[aw.eU,p]
  have U:X.own (H.length+1)=none:=by
   cases e:X.own (H.length+1)with
   |none=>rfl
   |some a=>have:=h.lt _ _ e;omega
  have t:X.iq H m=((H++ [Ob.row false 1 0 [m]])++ [Ob.row true 1 0 [m]]).set (X.A .it) (Ob.box [.ref (X.A .un) 0,.ref (X.A (.fr [])) 0,.d (.bool false),.bH (H.length+1) 0 1,bM (X.A .nx) X.vN X.N.length]):=by simp[aw.iq,p]
  have F:H.length<=(X.iq H m).length:=by rw[t];simp
  have B: ∀b,b<H.length->b≠X.A .it->(X.iq H m)[b]?=H[b]?:= λb i k=>by
   rw[t,auT (avH k),auL (by simp;omega),auL i]
  have J:(X.iq H m)[X.A .it]?=some (Ob.box [.ref (X.A .un) 0,.ref (X.A (.fr [])) 0,.d (.bool false),.bH (H.length+1) 0 1,bM (X.A .nx) X.vN X.N.length]):=by
   rw[t,avz (by simp;omega)]
  have K:(X.iq H m)[H.length+1]?=some (Ob.row true 1 0 [m]):=by
   rw[t,auT (by omega),auR (by simp)];simp
  have x: ∀b,b<H.length->X.own b=none->(X.eU H (g,m)).own b=none/\(X.iq H m)[b]?=H[b]?:= λb r f=>⟨by rw[q b (by omega)];exact f,B b r (by rintro rfl;rw[A]at f;cases f)⟩
  have y: ∀a,X.live c a->(X.eU H (g,m)).live c a/\(X.eU H (g,m)).A a=X.A a:= λa l=>by
   have k:a≠ .af:=by rintro rfl;exact l p
   refine⟨?_,o a k⟩;by_cases j:a= .nx
   ·subst j;exact l
   ·exact(jK (X:=X) (Y:=X.eU H (g,m)) W j k).2 l
  refine⟨?_,⟨λ_ _ h=>h,λ_ h=>h,F,x,y,λ_ _=>⟨rfl,rfl⟩,λ_ h=>h,λ_=>avU,λ_ _ _=>avU,λ_ _ h=>h,λ_ _ h=>h,λ_ _ _ _ _=>avU,λ_ _ h=>h,λ_ _ _ _=>rfl,rfl,?_,rfl,rfl,[(g,m)],rfl⟩⟩
  ·refine h.Bb (λa=>a= .af\/a= .it) F x (λb D f=>B b (h.lt b _ f) (by rintro rfl;rw[A]at f;cases f)) (λb D=> ?_) W W (λb a f=> ?_) y (λa l u=> ?_) (λa l u=> ?_) (λz s=> .inl s) (λz s=> ?_)
   ·by_cases r:b=H.length+1
    ·subst r;rw[T,U];simp
    ·rw[q b r]
   ·by_cases r:b=H.length+1
    ·subst r;rw[t];simp
    ·rw[q b r]at f;have:=h.lt b a f;omega
   ·have k:a≠ .af:= λe=>u (.inl e)
    have i:a≠ .it:= λe=>u (.inr e)
    have w:X.live c a:=by
     by_cases j:a= .nx
     ·subst j;exact l
     ·exact(jK (X:=X) (Y:=X.eU H (g,m)) W j k).1 l
    have f:=h.own a w;have L:=h.lt _ _ f;refine⟨w,by rw[q _ (by omega)];exact f,B _ L (h.ne w trivial i),λV G=> ?_⟩;by_cases j:a= .nx
    ·subst j;exact G
    ·exact eu.congr (X:=X) (Y:=X.eU H (g,m)) (λa _ k=>o a k) W W W W W W W i j k G
   ·rcases u with rfl|rfl
    ·exact⟨by rw[R];exact T,_,by rw[R];exact K,by simp only[aw.eu];simp[aw.eU,p]⟩
    ·refine⟨by rw[o _ (by simp),q _ (by omega)];exact A,_,by rw[o _ (by simp)];exact J,?_⟩;simp only[aw.eu];rw[o _ (by simp),o _ (by simp),R,o _ (by simp)];simp[aw.eU,p,bM]
   ·rcases auS.1 s with i|i
    ·exact .inl i
    ·rw[auW]at i;subst i;exact .inr (S.up x y)
  ·intro D v C;rcases C with C|⟨E,z,N,s,O⟩
   ·exact .inl C
   ·exact .inr ⟨E,z,N,by show(X.F++_)[E]?=_;exact Kq s,O⟩
 ·have o:(X.eU H (g,m)).A=X.A:=by simp[aw.eU,p]
  have q:(X.eU H (g,m)).own=X.own:=by simp[aw.eU,p]
  have Q:X.live c .af:=p;have I:=h.own .af Q;have ah:=h.lt _ _ I;have Z:=h.ne Q (r':= .it) trivial (by simp);have t:X.iq H m=((H++ [Ob.row false 1 0 [m]]).set (X.A .af) (Ob.row true 1 (X.vF+1) (X.F.map (·.2)++ [m]))).set (X.A .it) (Ob.box [.ref (X.A .un) 0,.ref (X.A (.fr [])) 0,.d (.bool false),.bH (X.A .af) (X.vF+1) (X.F.length+1),bM (X.A .nx) X.vN X.N.length]):=by simp[aw.iq,p]
  have F:H.length<=(X.iq H m).length:=by rw[t];simp
  have B: ∀b,b<H.length->b≠X.A .it->b≠X.A .af->(X.iq H m)[b]?=H[b]?:= λb i k j=>by
   rw[t,auT (avH k),auT (avH j),auL i]
  have J:(X.iq H m)[X.A .it]?=some (Ob.box [.ref (X.A .un) 0,.ref (X.A (.fr [])) 0,.d (.bool false),.bH (X.A .af) (X.vF+1) (X.F.length+1),bM (X.A .nx) X.vN X.N.length]):=by
   rw[t,avz (by simp;omega)]
  have K:(X.iq H m)[X.A .af]?=some (Ob.row true 1 (X.vF+1) (X.F.map (·.2)++ [m])):=by
   rw[t,auT (avH Z),avz (by simp;omega)]
  have x: ∀b,b<H.length->X.own b=none->(X.eU H (g,m)).own b=none/\(X.iq H m)[b]?=H[b]?:= λb r f=>⟨by rw[q];exact f,B b r (by rintro rfl;rw[A]at f;cases f) (by rintro rfl;rw[I]at f;cases f)⟩
  have y: ∀a,X.live c a->(X.eU H (g,m)).live c a/\(X.eU H (g,m)).A a=X.A a:= λa l=>by
   refine⟨?_,by rw[o]⟩;by_cases k:a= .af
   ·subst k;show X.F++_≠ [];simp
   by_cases j:a= .nx
   ·subst j;exact l
   ·exact(jK (X:=X) (Y:=X.eU H (g,m)) W j k).2 l
  refine⟨?_,⟨λ_ _ h=>h,λ_ h=>h,F,x,y,λ_ _=>⟨rfl,rfl⟩,λ_ h=>h,λ_=>avU,λ_ _ _=>avU,λ_ _ h=>h,λ_ _ h=>h,λ_ _ _ _ _=>avU,λ_ _ h=>h,λ_ _ _ _=>rfl,rfl,?_,rfl,rfl,[(g,m)],rfl⟩⟩
  ·refine h.Bb (λa=>a= .af\/a= .it) F x (λb D f=>B b (h.lt b _ f) (by rintro rfl;rw[A]at f;cases f) (by rintro rfl;rw[I]at f;cases f)) (λb D=>by rw[q]) W W (λb a f=> ?_) y (λa l u=> ?_) (λa l u=> ?_) (λz s=> .inl s) (λz s=> ?_)
   ·rw[q]at f;have:=h.lt b a f;omega
   ·have k:a≠ .af:= λe=>u (.inl e)
    have i:a≠ .it:= λe=>u (.inr e)
    have w:X.live c a:=by
     by_cases j:a= .nx
     ·subst j;exact l
     ·exact(jK (X:=X) (Y:=X.eU H (g,m)) W j k).1 l
    have f:=h.own a w;have L:=h.lt _ _ f;refine⟨w,by rw[q];exact f,B _ L (h.ne w trivial i) (h.ne w Q k),λV G=> ?_⟩;by_cases j:a= .nx
    ·subst j;exact G
    ·exact eu.congr (X:=X) (Y:=X.eU H (g,m)) (λa _ _=>by rw[o]) W W W W W W W i j k G
   ·rcases u with rfl|rfl
    ·exact⟨by rw[o,q];exact I,_,by rw[o];exact K,by simp only[aw.eu];simp[aw.eU,p]⟩
    ·refine⟨by rw[o,q];exact A,_,by rw[o];exact J,?_⟩;simp only[aw.eu];rw[o];simp[aw.eU,p,bM]
   ·rcases auS.1 s with i|i
    ·exact .inl i
    ·rw[auW]at i;subst i;exact .inr (S.up x y)
  ·intro D v C;rcases C with C|⟨E,z,N,s,O⟩
   ·exact .inl C
   ·exact .inr ⟨E,z,N,by show(X.F++_)[E]?=_;exact Kq s,O⟩
theorem I0(h:Pu P c d u X){p:AI×M}(m:AI.ok P c d X p.1):Pu P c d u (X.eU H p)/\(∀k v,(k,v)∈((p.1.own,p.1.v)::p.1.w)->(X.eU H p).S c k v)/\(X.eU H p).T c=X.T c+(1+p.1.w.length):=by
 refine⟨h.more W W W W W W (λk v g=> ?_) (λb a=>a) (λb a=> .inl a) (λb a=> ?_) (by show X.fi<=(X.F++ [p]).length;have:=h.fl;simp;omega) h.fn,λk v i=> .inr ⟨X.F.length,p,h.fl,by show(X.F++ [p])[X.F.length]?=_;simp,by grind⟩,?_⟩
 ·rcases g with g|⟨f,b,l,a,i⟩
  ·exact .inl g
  ·exact .inr ⟨f,b,l,Kq a,i⟩
 ·rcases auS.1 a with j|j
  ·exact .inl j
  ·grind
 ·have e:(X.eU H p).cu=X.cu:=by funext f;cases f<;>rfl
  unfold aw.T;rw[e];show X.N.length+aS (((X.F++ [p]).drop X.fi).map _)+_=_;rw[aw3 h.fl,avi,lf];simp only[avm,avT,iM];show _+(_+(1+p.1.w.length+0))+_=_;omega
end
end Go.Proofs.Sz
namespace Go.Mt
section
variable{X:bJ}{ops:Array Oper}{rest:List Oper}{sl:List (Nat×V)}{bx:List (Nat×List M)}{H:Hp}{post:St->Prop}{d ty:Nat}{pos:String}{af:Array Edge}
theorem Gi{t e n h:Nat}{y x:Operand}{rows:List (List D)}{c:IntKind}[ht:aZ X.P t e][s:bY X.P e n](f:Nat.blt d X.n=true)(i:bw sl x=some (.m (.d (.sl rows))))(j:bw sl y=some (.m (.d (.int c ((h:Nat):Int)))))(m:rows≠ [])(q:h<=rows.length)(o: ∀a∈rows,a.length=n)
  (k:TL X ops rest ⟨(d,.m (.d (CU (rows.take h))))::sl,bx,H⟩ post):TL X ops (⟨some d,.slice t x none (some y) none,ty,pos,af,none⟩::rest) ⟨sl,bx,H⟩ post:=by
 refine Qi (v:= .m (.d (CU (rows.take h)))) (P9:=sl) (Qr:=bx) (H':=H) W W f ?_ k;have this:=vr (X:=X) (st:=⟨sl,bx,H⟩) (dst:=some d) (ty:=ty) (pos:=pos) (af:=af) (g:=none) (t:=t) (lo:=none) (hi:=some y) (l:=none) (h:=some h) i W (by simp only[vq,St.ev,j]) m (avp _) q o;have p:(rows.drop ((none:Option Nat).getD 0)).take (((some h:Option Nat).getD rows.length)-(none:Option Nat).getD 0)=rows.take h:=by simp
 rw[p]at this;cases b:rows.take h with
 |nil=>rw[b]at this;exact this
 |cons r a=>rw[b]at this;exact this
end
end Go.Mt
namespace Go.Proofs.Sz
open Go.Mt Go.Sm Go.Proofs
open Tryz
section
variable{P:Pg}{n:Nat}{c:aK}{d:Nd}{u:US}{X:aw}{H:Hp}
theorem Me(h:cF P n c d X H)(a:X.F≠ []):H[X.A .af]?=some (.row true 1 X.vF (X.F.map (·.2))):=by
 obtain⟨f,b,e⟩:=h.ob .af a;rw[b,e]
theorem rz(h:cF P n c d X H): ∀b,H.length<=b->X.own b=none:= λb f=>by
 cases e:X.own b with
 |none=>rfl
 |some a=>have:=h.lt b a e;omega
structure NL(c:aK)(X:aw)(H:Hp)(m:M)(ai:AI)(bk:Nat)(km:M)(e:Xp)(i:Nat)(a0:Nat):Prop where
 m:m= .fn 124 [.ref bk 0,.d (.bm [iN i] 0)]
 bk:X.box H bk km
 tJ:X.tJ c H km ai.π e a0
 sm:jP e
 hk:e.kids[i]?=some ai.e
 hl:e.kids.length=i+1
 ha:ai.a=a0+aS ((e.kids.take i).map xP)
theorem BN(t:cV P n c d u X H)(ac:X.F.length<=1000000000000){m:M}{ai:AI}{g:Nat}{km:M}{e:Xp}{i w:Nat}(C:NL c X H m ai g km e i w)(D:AI.ok P c d X ai):
  DT prog 123 [.ref (X.A .it) 0,m,.d (.int .i64 (ai.own:Int))] H λr K=> ∃Y,cV P n c d u Y K/\br c (λ_=>False) X H Y K/\Y.cs=X.cs/\Y.fs=X.fs/\Y.dn=X.dn/\Y.lv=X.lv/\Y.x=X.x/\Y.N=X.N/\Y.T c<=X.T c+(1+ai.w.length)/\ ∀k v,(k,v)∈((ai.own,ai.v)::ai.w)->Y.S c k v:=by
 have a:=t.lay;have q:=rz a;obtain⟨rfl,E,F,G,I,T,U⟩:=C;have h:(H++ [Ob.box [.ref (X.A .it) 0]]++ [Ob.box [.fn 124 [.ref g 0,.d (.bm [iN i] 0)]]])[H.length]?=some (Ob.box [.ref (X.A .it) 0]):=by simp
 have x:(H++ [Ob.box [.ref (X.A .it) 0]]++ [Ob.box [.fn 124 [.ref g 0,.d (.bm [iN i] 0)]]])[(H++ [Ob.box [M.ref (X.A .it) 0]]).length]?=some (Ob.box [.fn 124 [.ref g 0,.d (.bm [iN i] 0)]]):=by simp
 have l:=(a.grow [Ob.box [.ref (X.A .it) 0]]).grow [Ob.box [.fn 124 [.ref g 0,.d (.bm [iN i] 0)]]];have o:=(br.grow c (λ_=>False) X H [Ob.box [.ref (X.A .it) 0]]).trans (br.grow c (λ_=>False) X _ [Ob.box [.fn 124 [.ref g 0,.d (.bm [iN i] 0)]]]);refine DT.ob func123 W ntmps123 W<|dO [2,7] W<|Po (cH W W W)<|dR [8] W<|Po (cH W W W)<|dL [] W ?_;generalize Z:H++ [Ob.box [.ref (X.A .it) 0]]++ [Ob.box [.fn 124 [.ref g 0,.d (.bm [iN i] 0)]]]=K at h x l o;have f:=l.inst;have J:X.zY c K (.fn 142 [.ref (H++ [Ob.box [M.ref (X.A .it) 0]]).length 0,.ref H.length 0,.d (.bm [.int .i64 (ai.own:Int)] 0)]) ai:=
  ⟨_,_,g,km,e,i,w,rfl,⟨q _ (by simp),x⟩,E.up o.iY,⟨q _ (auK _),h⟩,F.up o.iY o.A,G,I,T,U⟩
 obtain⟨L,N⟩:=Gh l J;obtain⟨O,Q,V⟩:=I0 t.pu (p:=(ai,.fn 142 [.ref (H++ [Ob.box [M.ref (X.A .it) 0]]).length 0,.ref H.length 0,.d (.bm [.int .i64 (ai.own:Int)] 0)])) D (H:=K);have y: ∀b,X.iq K (.fn 142 [.ref (H++ [Ob.box [M.ref (X.A .it) 0]]).length 0,.ref H.length 0,.d (.bm [.int .i64 (ai.own:Int)] 0)])=b-> ∃Y,cV P n c d u Y b/\br c (λ_=>False) X H Y b/\Y.cs=X.cs/\Y.fs=X.fs/\Y.dn=X.dn/\Y.lv=X.lv/\Y.x=X.x/\Y.N=X.N/\Y.T c<=X.T c+(1+ai.w.length)/\ ∀k v,(k,v)∈((ai.own,ai.v)::ai.w)->Y.S c k v:=by
  rintro b rfl;exact⟨_,⟨L,O⟩,o.trans N,W,W,W,W,W,W,Nat.le_of_eq V,Q⟩
 let z:M->Hp->Prop:= λB b=>b[H.length]?=some (Ob.box [.ref (X.A .it) 0])/\b[X.A .it]?=some (Ob.box [.ref (X.A .un) 0,.ref (X.A (.fr [])) 0,.d (.bool false),B,bM (X.A .nx) X.vN X.N.length])
 by_cases j:X.F= []
 ·have s:bM (X.A .af) X.vF X.F.length= .d (.sl []):=by simp[j,bM]
  rw[s]at f;refine dC [] W ?_;apply QZ (z (.d (.sl []))) (⟨h,f⟩) bN
  ·intro R S;refine PF W W (λb a=>⟨_,a.1,rfl⟩)<|PF W W (λb a=>⟨_,a.1,rfl⟩)<|iR 2 W<|PF W W (λb a=>⟨_,a.2,rfl⟩) ?_;apply Py
   ·skip
    refine ft W W<|TF.nil ⟨W,W⟩
   apply Py
   ·skip
    refine et (cs:=[_]) W W W W W W<|TF.nil ⟨W,W⟩
   apply Py
   ·skip
    refine pP true W W W (mI _ _) W W (by decide) (by decide)<|TF.nil ⟨rfl,rfl⟩
   refine iR 2 W ?_;apply Py
   ·skip
    refine fE W W (bB (bB f)) W W W<|TF.nil ⟨W,W⟩
   exact jJ.nil ⟨by kernel_rfl,by repeat' first|exact trivial|exact .inl ((by first|exact⟨bB h,bB f⟩|exact⟨bB (bB h),bB (bB f)⟩))|exact .inr (by kernel_rfl)|refine⟨?_,?_⟩,rfl⟩
  refine⟨_,W,y _ ?_⟩;simp only[aw.iq,au2 j,auN,avd];rfl
 ·have s:bM (X.A .af) X.vF X.F.length= .bH (X.A .af) X.vF X.F.length:=by unfold bM;rw[auU];intro e;exact j (avA e)
  rw[s]at f;have A:=l.ne (r:= .af) (r':= .it) j trivial (by simp);refine dC [] W ?_;apply QZ (z (.bH (X.A .af) X.vF X.F.length)) (⟨h,f⟩) bN
  ·intro R S;refine PF W W (λb a=>⟨_,a.1,rfl⟩)<|PF W W (λb a=>⟨_,a.1,rfl⟩)<|iR 2 W<|PF W W (λb a=>⟨_,a.2,rfl⟩) ?_;apply Py
   ·skip
    refine ft W W<|TF.nil ⟨W,W⟩
   apply Py
   ·skip
    refine et (cs:=[_]) W W W W W W<|TF.nil ⟨W,W⟩
   apply Py
   ·skip
    refine pQ W W W (mI _ _) (bB (Me l j)) W (by omega) (by omega)<|TF.nil ⟨rfl,rfl⟩
   refine iR 2 W ?_;apply Py
   ·skip
    refine fE W W (gu (bB f) A) W W W<|TF.nil ⟨W,W⟩
   exact jJ.nil ⟨by kernel_rfl,by repeat' first|exact trivial|exact .inl ((by first|exact⟨bB h,bB f⟩|exact⟨gu (bB h) (by intro e;have:=a.own .af j;rw[e,q _ (auK _)]at this;cases this),gu (bB f) A⟩))|exact .inr (by kernel_rfl)|refine⟨?_,?_⟩,rfl⟩
  refine⟨_,W,y _ ?_⟩;simp only[aw.iq,auU j];rfl
theorem HD{h j:Nat}{q r:M}{e:Xp}{a i:Nat}{k:Xp}(s:jP e)(D:a+aS (e.kids.map xP)<=1000000000)(t:e.kids[i]?=some k)(E:H[h]?=some (.box [q]))(F:H[j]?=some (.box [r])){post:M->Hp->Prop}
  (u:DT prog 91 [q,r,.d (.agg k.cells),.d (.int .i64 (((a+aS ((e.kids.take i).map xP):Nat)):Int))] H post):
  DT prog 120 [dN i,.d (.bm [.int .i64 (a:Int)] 0),.d (.bm e.cells 0),.ref h 0,.ref j 0] H post:=by
 have m:i<e.kids.length:=by
  rcases auM i e.kids.length with l|l
  ·exact l
  ·grind
 have Q:aS (e.kids.map xP)<=1000000000:=by omega
 have R:=D;have z: ∀g∈e.kids,jP g:= λg G=>s.tJ G
 have I:=s.kids;rw[e.aC];generalize e.kids=b at t m Q R z I u⊢;obtain⟨B,S,J,v⟩:=u;have K:b.map Xp.cells≠ []:=by
                    intro l;have:(b.map Xp.cells).length=0:=by rw[l];rfl
                    simp at this;rw[this]at m;simp at m
 refine DT.ob func120 W ntmps120 W<|dO [2,2,2,18] W<|Po (Gi W W W K (by simp;omega) (by intro B L;obtain⟨_,_,rfl⟩:=ava.1 L;exact Xp.len _))<|dR [19] W<|Po (bp W W (IA _)) ?_;rw[show((b.map Xp.cells).take i).length=i by simp;omega];refine dL [] W<|Pz [nN 16 0,nN 15 i,nD 14 (CU ((b.map Xp.cells).take i)),nN 7 (a+aS ((b.take 0).map xP)),nN 0 i,nD 2 (.bm (bU e.kd e.op e.num e.nm e.names (b.map Xp.cells) e.ps) 0),nR 3 h,nR 4 j] H W W<|dC [] W<|Qy (λw=> ∃f,w=⟨[nN 7 (a+aS ((b.take i).map xP)),nN 0 i,nD 2 (.bm (bU e.kd e.op e.num e.nm e.names (b.map Xp.cells) e.ps) 0),nR 3 h,nR 4 j],f,H⟩) ?_ ?_
 ·refine dC [3] W ?_;obtain⟨n,N⟩: ∃n,n=bU e.kd e.op e.num e.nm e.names (b.map Xp.cells) e.ps:=⟨_,rfl⟩;rw[<-N];refine DC.lp (λk C=> ∃(c:Nat) (f:List (Nat×List M)),C=⟨[nN 16 c,nN 15 i,nD 14 (CU ((b.map Xp.cells).take i)),nN 7 (a+aS ((b.take c).map xP)),nN 0 i,nD 2 (.bm n 0),nR 3 h,nR 4 j],f,H⟩/\c<=i/\k=i-c) i _
   ⟨0,_,rfl,by omega,rfl⟩ W ?_
  rintro k T ⟨c,f,rfl,U,rfl⟩;refine dC [2] W<|DC.cond W (λx=> ?_) (λx=> ?_)
  ·have y:c<i:=by have:=auV x;omega
   have A:c<b.length:=by omega
   have d:((b.map Xp.cells).take i)[((c:Nat):Int).toNat]?=some b[c].cells:=by grind
   obtain⟨O,Z⟩:=gx xP A;have o:=ki b[c] (z _ (avb A)) (by grind);generalize b[c]=g at d o O;rw[g.aC]at d o;have P:((a+aS ((b.take c).map xP):Nat):Int)+((xP g:Nat):Int)=((a+aS ((b.take (c+1)).map xP):Nat):Int):=by omega
   generalize (b.map Xp.cells).take i=p at d⊢;cases p with
   |nil=>simp at d
   |cons V p=>
    refine dO [3,2,22] W<|Po (aG W W W (auJ c) d W)<|dR [2,26] W<|Po (aE o W W)<|dR [27] W<|Po (az W W W (by omega)) ?_;rw[P];refine dR [2,28] W<|Po (az W W W (by omega))<|dL [] W<|bK (k':=i-(c+1)) (by omega) ⟨c+1,_,rfl,by omega,rfl⟩ W W
  ·refine DC.exit ?_;have y:c=i:=by grind
   subst y;exact⟨_,⟨f,W⟩,cR W W⟩
 rintro w ⟨f,rfl⟩;have d:(b.map Xp.cells)[((i:Nat):Int).toNat]?=some k.cells:=by simp[t]
 rw[k.aC]at d v;refine dC [] W ?_;apply Ps bN
 ·intro X Y;refine ay W W E W<|ay W W F W<|fR 3 W<|a_ W W W (auJ i) d W<|fR 2 W<|bg v W W<|fR 1 W<|TF.nil ⟨by kernel_rfl,rfl⟩
 exact DC.ret ⟨_,W,J⟩
end
end Go.Proofs.Sz
namespace Go.Mt
section
variable{P:Program}{n B:Nat}{post:Exit->St->Prop}
theorem DC.freeze{c:Code}(t:Nat){ds:List D}{sl:List (Nat×V)}{bx:List (Nat×List M)}{H:Hp}(d:get bx t=some (ds.map .d))(e:get sl t=some (.loc t 0))(k:DC P n B c ⟨(t,.m (.d (.bm ds 0)))::sl,del bx t,H⟩ post):DC P n B c ⟨sl,bx,H⟩ post:=
 Ry _ (λ_ _ _ i j a=>by
  obtain⟨l,f,rfl,a⟩:=a;obtain⟨b,g,h⟩:=a.freeze d e;exact⟨b,f,g,h⟩) k
end
section
variable{X:bJ}{ops:Array Oper}{rest:List Oper}{sl:List (Nat×V)}{bx:List (Nat×List M)}{H:Hp}{P3:List Ef->St->Prop}{d ty:Nat}{pos:String}{af:Array Edge}
theorem pB{x:Operand}{f:Nat}{b:List M}{args:List Operand}{Sr:Array Nat}{ms:List M}{r:M}{H':Hp}[hf:bz X.P f](h:CT X.P f (ms++b) H λg i=>g=r/\i=H')(j:Nat.blt d X.n=true)(l:bw sl x=some (.m (.fn f b)))(m:gD sl args=some ms)
  (k:TF X ops rest ⟨(d,.m r)::sl,bx,H'⟩ λn o=>P3 (⟨some d,.m r,[],[],none,true,some H'⟩::n) o):TF X ops (⟨some d,.call ⟨.value x,args.toArray,Sr⟩,ty,pos,af,none⟩::rest) ⟨sl,bx,H⟩ P3:=by
 refine TF.cons (e:=⟨some d,.m r,[],[],none,true,some H'⟩) (Rw W W (bO j) λs a=> ?_) W k;have c:=a.H W;simp only at c;exact zu (xW (by exact(a.ev (x:=x) (by simp[Op.operands,Call.operands])).trans l) (by rw[a.gD (λq p=>by simp[Op.operands,Call.operands];exact .inr p),oA];exact m)) (by rw[c];exact h)
theorem pC{x y:Operand}{a c:Nat}{v u:V}{z:Bool}(f:mj X.P a=1)(g:Nat.blt d X.n=true)(h:bw sl x=some v)(i:bw sl y=some u)(j:il 1 v=some z)(l:il 1 u=some true)
  (k:TF X ops rest ⟨(d,.m (.d (.bool (!z))))::sl,bx,H⟩ λm n=>P3 (⟨some d,.m (.d (.bool (!z))),[],[],none,false,none⟩::m) n):TF X ops (⟨some d,.binOp .neq a x y c,ty,pos,af,none⟩::rest) ⟨sl,bx,H⟩ P3:=by
 refine TF.cons (e:=⟨some d,.m (.d (.bool (!z))),[],[],none,false,none⟩) (P1 W W (bO g) λo b=> ?_) W k;exact yz (.inr W) f (.inl W) ((b.ev (x:=x) (by simp[Op.operands])).trans h) ((b.ev (x:=y) (by simp[Op.operands])).trans i) j l
theorem wG{x y:Operand}{a c:Nat}{v u:V}{z:Bool}(f:mj X.P a=1)(g:Nat.blt d X.n=true)(h:bw sl x=some v)(i:bw sl y=some u)(j:il 1 v=some z)(l:il 1 u=some true)
  (k:TF X ops rest ⟨(d,.m (.d (.bool z)))::sl,bx,H⟩ λm n=>P3 (⟨some d,.m (.d (.bool z)),[],[],none,false,none⟩::m) n):TF X ops (⟨some d,.binOp .eql a x y c,ty,pos,af,none⟩::rest) ⟨sl,bx,H⟩ P3:=by
 refine TF.cons (e:=⟨some d,.m (.d (.bool z)),[],[],none,false,none⟩) (P1 W W (bO g) λo b=> ?_) W k;exact yz (.inl W) f (.inl W) ((b.ev (x:=x) (by simp[Op.operands])).trans h) ((b.ev (x:=y) (by simp[Op.operands])).trans i) j l
end
end Go.Mt
namespace Go.Proofs.Sz
open Go.Mt Go.Sm Go.Proofs
open Tryz
section
variable{P:Pg}{n:Nat}{c:aK}{d:Nd}{u:US}{X:aw}{H:Hp}
def cW(P:Pg)(n:Nat)(c:aK)(d:Nd)(u:US)(X:aw)(H:Hp)(t:Nat)(w:List (Nat×Int))(Y:aw)(K:Hp):Prop:=
 cV P n c d u Y K/\br c (λ_=>False) X H Y K/\Y.T c<=X.T c+t/\ ∀p∈w,Y.S c p.1 p.2
theorem cW.trans{Y Z:aw}{K L:Hp}{t s:Nat}{w v:List (Nat×Int)}(h:cW P n c d u X H t w Y K)(k:cW P n c d u Y K s v Z L):cW P n c d u X H (t+s) (w++v) Z L:=by
 obtain⟨_,f,m,g⟩:=h;obtain⟨i,e,o,j⟩:=k;refine⟨i,f.trans e,by omega,λb l=> ?_⟩;rcases auS.1 l with a|a
 ·exact e.S _ _ (g b a)
 ·exact j b a
theorem mq.next{Y:aw}{K:Hp}{r:Nat}(h:mq c X r)(k:br c (λ_=>False) X H Y K):mq c Y r:=by
 refine⟨λa b f=>h.c1 a b ((k.c1 a b (λh=>h)).2 f),λe a g=>h.f1 e a ((k.f1 _).2 g),λa b=> ?_,h.tp⟩;rcases auM 3 (Y.cs a b)with d|d
 ·have i:=(k.c4 a b _ (λh=>h) (Nat.succ_le_of_lt d)).2 W;have:=h.c4 a b;omega
 ·exact d
theorem tS(f:Pu P c d u X){π:Path}(hf:X.fs π=2){x:Nm}{σ:Path×Nat}(h:c.find π x=some σ):X.fs σ.1=2/\f_ (c.fr σ.1).vars x=some σ.2:=by
 induction π with
 |nil=>
  change Option.map _ _=_ at h;cases a:f_ (c.fr []).vars x with
  |none=>rw[a]at h;cases h
  |some b=>rw[a]at h;injection h with h;subst h;exact⟨hf,a⟩
 |cons e π g=>
  rw[vI]at h;cases a:f_ (c.fr (e::π)).vars x with
  |none=>rw[a]at h;exact g (f.Mb hf) h
  |some b=>rw[a]at h;injection h with h;subst h;exact⟨hf,a⟩
theorem Er{l:List Va}{x:Nm}{i:Nat}(h:f_ l x=some i): ∃v,l[i]?=some v/\v.name=x:=by
 unfold f_ at h;rw[avq]at h;obtain⟨a,b,_⟩:=h;exact⟨l[i],auO a,by grind⟩
theorem mu(b:cV P n c d u X H){π:Path}(hf:X.fs π=2){x:Nm}{σ:Path×Nat}(h:c.find π x=some σ):X.fs σ.1=2/\ ∃v a eq,(c.fr σ.1).vars[σ.2]?=some v/\v.name=x/\(c.fr σ.1).cO[σ.2]?=some a/\H[X.A (.ce σ.1 σ.2)]?=some (.box (dh v a eq (X.A (.fr σ.1)) (oE (X.cs σ.1 σ.2)) (if zB (X.cs σ.1 σ.2)then c.get (σ.1,σ.2)else 0)))/\ ∀j,gR (c.fr σ.1) σ.2 v j->eq= .ref (X.A (.pl σ.1 j)) 0:=by
 obtain⟨e,g⟩:=tS b.pu hf h;obtain⟨v,f,i⟩:=Er g;obtain⟨a,eq,k,l,m⟩:=b.lay.cell e f;exact⟨e,v,a,eq,f,i,k,l,m⟩
def Kr(P:Pg)(n:Nat)(c:aK)(d:Nd)(u:US)(X:aw)(H:Hp)(σ:Path×Nat)(r:M)(K:Hp):Prop:=
 r= .dq [.d (.int .i32 (c.get σ)),.d (.bool (c.val σ.1 σ.2).isSome)]/\ ∃Y,cW P n c d u X H 0 [] Y K/\(Y.cs σ.1 σ.2=2\/Y.cs σ.1 σ.2=3)
def e_(P:Pg)(n:Nat)(c:aK)(d:Nd)(u:US)(r:Nat):Prop:= ∀(X:aw) (H:Hp),cV P n c d u X H->X.T c<=1000000000000->mq c X r-> ∀(π:Path) (x:Nm) (σ:Path×Nat),X.fs π=2->c.find π x=some σ->c.jX σ<r->
 DT prog 45 [.ref (X.A .it) 0,.ref (X.A (.fr π)) 0,.d (.str x)] H (Kr P n c d u X H σ)
theorem I1(I:qw P.aJ)(Y: ∀π,(c.fr π).vars.length<=1000000){r:Nat}(Z:e_ P n c d u r)(hI:cV P n c d u X H)(hT:X.T c<=1000000000000)(hP:mq c X r){π:Path}(hf:X.fs π=2){e:Xp}(QG:jP e){σ:Path×Nat}(y:c.find π e.nm=some σ)(hr:c.jX σ<r)
  {i:Nat} {cn:Nm} (hi:e.names[i]?=some cn) (hn:lJ (c.de P.aJ σ) cn=c.get σ) (J: ∀(K:Nat) (x:Nm),K<i->e.names[K]?=some x->lJ (c.de P.aJ σ) x≠c.get σ)
  {km:M} {a:Nat} (q:X.tJ c H km π e a) {post:M->Hp->Prop}
  (ih: ∀h g,cW P n c d u X H 0 [] h g-> ∀j k,km= .fn 120 [.d (.bm [.int .i64 (a:Int)] 0),.d (.bm e.cells 0),.ref j 0,.ref k 0]->g[j]?=some (.box [.ref (X.A .it) 0])->g[k]?=some (.box [.ref (X.A (.fr π)) 0])->
   DT prog 120 [dN i,.d (.bm [.int .i64 (a:Int)] 0),.d (.bm e.cells 0),.ref j 0,.ref k 0] g post):
  DT prog 126 [.ref (X.A .it) 0,.ref (X.A (.fr π)) 0,.d (.agg e.cells),km] H post:=by
 obtain⟨r1,g,⟨rfl,h,z,co⟩,UC⟩:=Z X H hI hT hP π e.nm σ hf y hr;have m:=z.1;have o:=z.2.1;have L:=o.f2 π hf;have A:=pZ m.lay m.pu Y π L e.nm;rw[(o.A (.fr π) (by show 1<=X.fs π;omega)).2]at A;have UW:h.gS c π e.nm= .ref (h.A (.ce σ.1 σ.2)) 0:=by unfold aw.gS;rw[y]
 rw[UW]at A;obtain⟨Qs,v,lp,eq,hv,VE,Qc,N,_⟩:=mu m L y;have O:c.de P.aJ σ=fq P.aJ v.tk v.tn:=by unfold aK.de;rw[hv]
 have B:=xl I v.tk v.tn;rw[<-O]at B;obtain⟨_,j,k,q,h4,h5⟩:=q;have VS:=ih h g z j k q ((h4.up o.iY).2) ((h5.up o.iY).2);obtain⟨r2,ah,QF,s⟩:=VS;have C:=m.lay.inst;rw[(o.A .it trivial).2]at C;have Q:=m.lay.unit;have Sk:=QG.names;rw[q];rw[e.aC]at s⊢;generalize e.names=f at hi J Sk s⊢;refine DT.ob func126 W ntmps126 W<|dO [2,2,23] W<|Po (aq UC W W)<|dR [2,29] W<|Po (aq A W W)<|dR [2,32] W<|Po (bp W W W) ?_;rw[au8];refine dL [] W ?_;obtain⟨l,E⟩: ∃l,l=bU e.kd e.op e.num e.nm f (e.kids.map Xp.cells) e.ps:=⟨_,rfl⟩;refine Pz [nN 29 0,nN 28 f.length,nD 27 (.sl (dJ f)),nR 11 (h.A (.ce σ.1 σ.2)),nD 9 (.int .i32 (c.get σ)),nD 6 (.bm l 0),nR 0 (X.A .it),nR 1 (X.A (.fr π)),nM 3 (.fn 120 [.d (.bm [.int .i64 (a:Int)] 0),.d (.bm l 0),.ref j 0,.ref k 0])] g (kc W (kc W (kc W (kc W (kc W (kc (by rw[E];rfl) (kc W (kc W (kc (by rw[E];rfl) W))))))))) W ?_;rw[<-E]at s;have du:i<f.length:=by
  grind
 refine dC [3] W<|DC.lp (λG V=> ∃(b:Nat) (R:List (Nat×List M)),V=⟨[nN 29 b,nN 28 f.length,nD 27 (.sl (dJ f)),nR 11 (h.A (.ce σ.1 σ.2)),nD 9 (.int .i32 (c.get σ)),nD 6 (.bm l 0),nR 0 (X.A .it),nR 1 (X.A (.fr π)),nM 3 (.fn 120 [.d (.bm [.int .i64 (a:Int)] 0),.d (.bm l 0),.ref j 0,.ref k 0])],R,g⟩/\b<=i/\G=f.length-b) f.length _
  ⟨0,_,rfl,by omega,rfl⟩ W ?_
 rintro G s1 ⟨b,R,rfl,hj,rfl⟩;refine dO [2,34] W<|Po (aQ (au5 (by omega)) W W W W)<|dL [1] W ?_;have S:b<f.length:=by omega
 have t:=li S;have p:=auO S;have w:=zR (c.de P.aJ σ) f[b] (by rw[O];exact wA I _ _);refine dC [3] W ?_;rcases auM b i with U|U
 ·have T:=J b _ U p;generalize f[b]=x at t w T;have F:=avs.2 T;refine dO [2,36] W<|Po (aG W W W (auJ b) t W)<|dL [] W ?_;apply Ps bN
  ·intro s0 Oo;refine fR 1 W<|pC (by kernel_rfl) W W W W W<|fR 4 W ?_
   first|refine aX W W W W ?_|refine aY W W W ?_|(refine aR W W ?_;(refine ay W W C W ?_))
   refine fR 3 W ?_
   first|refine aX W W W W ?_|refine aY W W W ?_|(refine aR W W ?_;(refine ay W W Q W ?_))
   refine fR 4 W ?_
   first|refine aX W W W W ?_|refine aY W W W ?_|(refine aR W W ?_;(refine eQ W W N W W ?_))
   first|refine aX W W W W ?_|refine aY W W W ?_|(refine aR W W ?_;(refine aW B W W ?_))
   refine fR 1 W ?_
   first|refine aX W W W W ?_|refine aY W W W ?_|(refine aR W W ?_;(refine aW w W W ?_))
   refine fR 1 W ?_
   first|refine aX W W W W ?_|refine aY W W W ?_|(refine aR W W ?_;(refine kq W W W (r:= .bool false) (by show some (D.bool (_==_))=_;rw[F]) ?_))
   refine fR 1 W<|TF.nil ⟨by kernel_rfl,rfl⟩
  refine dO [0,2,63] W<|Po (az W W W (by omega))<|dL [] W<|bK (k':=f.length-(b+1)) (by omega) ⟨b+1,_,rfl,by omega,rfl⟩ W W
 ·have ac:b=i:=by omega
  subst ac;rw[hi]at p;injection p with p
  rw[<-p]at t w;have F:(lJ (c.de P.aJ σ) cn==c.get σ)=true:=by rw[hn];simp
  refine dO [2,36] W<|Po (aG W W W (auJ b) t W)<|dL [] W ?_;apply Ps bN
  ·intro s0 Oo;refine fR 1 W<|pC (by kernel_rfl) W W W W W<|fR 4 W ?_
   first|refine aX W W W W ?_|refine aY W W W ?_|(refine aR W W ?_;(refine ay W W C W ?_))
   refine fR 3 W ?_
   first|refine aX W W W W ?_|refine aY W W W ?_|(refine aR W W ?_;(refine ay W W Q W ?_))
   refine fR 4 W ?_
   first|refine aX W W W W ?_|refine aY W W W ?_|(refine aR W W ?_;(refine eQ W W N W W ?_))
   first|refine aX W W W W ?_|refine aY W W W ?_|(refine aR W W ?_;(refine aW B W W ?_))
   refine fR 1 W ?_
   first|refine aX W W W W ?_|refine aY W W W ?_|(refine aR W W ?_;(refine aW w W W ?_))
   refine fR 1 W ?_
   first|refine aX W W W W ?_|refine aY W W W ?_|(refine aR W W ?_;(refine kq W W W (r:= .bool true) (by show some (D.bool (_==_))=_;rw[F]) ?_))
   refine fR 1 W<|TF.nil ⟨by kernel_rfl,rfl⟩
  refine dO [1,2,62] W<|Po (mF s W W W)<|dL [] W<|DC.ret ⟨_,W,QF⟩
end
section
variable{P:Pg}{n:Nat}{c:aK}{d:Nd}{u:US}{X:aw}{H:Hp}
structure oF(P:Pg)(n:Nat)(c:aK)(d:Nd)(u:US):Prop where
 en:qw P.aJ
 sz: ∀π,(c.fr π).vars.length<=1000000
 Bh:c.sz=bW d
 cl: ∀(π:Path) (k:Nat) (v:Va),c.ok π->(c.fr π).vars[k]?=some v->v.clock.length<=1000000
 Ks:bW d<=900000000
 rd: ∀X,Pu P c d u X-> ∀π k,X.fs π=2->yn c π k->k<bW d->X.x.m k=c.rd k
 Bd:c.ok []
 lo: ∀(π:Path) (k q:Nat),c.ok π->(c.fr π).cO[k]?=some (some q)->yn c π q
 gh: ∀(π:Path) (j:Nat) (q:aB),(c.fr π).au[j]?=some q->q.kd=2->c.sb (j::π) 0=c.ek π j/\c.val (j::π) 0=none
 Dc: ∀(π:Path) (j:Nat) (q:aB),c.ok π->(c.fr π).au[j]?=some q->jP q.ex/\q.args.length<=1000000/\(∀e∈q.args,jP e)/\q.aj.length<=1000/\(∀a∈q.aj,uP a.cy/\a.fG.length<=1000000/\a.fH.length<=1000000)/\q.lhs.length<=1000000/\pX q<=1000000
 Mf: ∀π,(c.fr π).au.length<=1000000
 jv: ∀(π:Path) (j:Nat) (q:aB),c.ok π->(c.fr π).au[j]?=some q-> ∀a∈q.aj,∀t:Tr,(t∈a.fG\/t∈a.fH)->jP t.e/\xP t.e=0
 pq: ∀(π:Path) (j:Nat) (q:aB) (p:Nat),c.ok π->(c.fr π).au[j]?=some q->(c.fr π).pos[j]?=some p->p+qP q<=bW d
 oq: ∀(π:Path) (j:Nat) (q:aB) (p:Nat),c.ok π->(c.fr π).au[j]?=some q->(c.fr π).pos[j]?=some p-> ∀k,p<=k->k<p+(h_ q.kd+xP q.ex+aS (q.args.map xP))->yn c π k
 NM: ∀(π:Path) (k q:Nat),c.ok π->(c.fr π).cO[k]?=some (some q)->q<bW d
 rs: ∀X,Pu P c d u X-> ∀(π:Path) (j:Nat) (q:aB) (p:Nat),X.fs π=2->(c.fr π).au[j]?=some q->q.kd=2->(c.fr π).pos[j]?=some p->X.dn π j=false->X.x.s p=c.rs p
 rp: ∀X,Pu P c d u X-> ∀(π:Path) (j:Nat) (q:aB) (p:Nat),X.fs π=2->(c.fr π).au[j]?=some q->q.kd=4->(c.fr π).pos[j]?=some p->X.x.p p=c.rp p
 lh: ∀(π:Path) (j:Nat) (q:aB),c.ok π->(c.fr π).au[j]?=some q-> ∀x∈q.lhs,∀σ,c.find π x=some σ->σ.1= []->d.ins.length<=σ.2
 OH: ∀(π:Path) (i:Nat) (lp:Option Nat),c.ok π->(c.fr π).cO[i]?=some lp-> ∃v,(c.fr π).vars[i]?=some v
 OI: ∀(i k:Nat),(c.fr []).cO[i]?=some (some k)->d.ins.length<=i
 inj: ∀(π:Path) (j:Nat) (q:aB) (PC:Path) (j':Nat) (q':aB) (p:Nat),c.ok π->c.ok PC->(c.fr π).au[j]?=some q->(c.fr PC).au[j']?=some q'->q.kd=2->q'.kd=2->(c.fr π).pos[j]?=some p->(c.fr PC).pos[j']?=some p->PC=π/\j'=j
def uM(P:Pg)(n:Nat)(c:aK)(d:Nd)(u:US)(X:aw)(H:Hp)(v:Int)(w:List (Nat×Int))(r:M)(K:Hp):Prop:=r= .d (.int .i32 v)/\ ∃Y,cW P n c d u X H w.length w Y K
theorem Pu.ok(a:oF P n c d u)(h:Pu P c d u X){π:Path}(hf:X.fs π=2):c.ok π:=by
 cases π with
 |nil=>exact a.Bd
 |cons b π=>exact(h.fp b π (by rw[hf];simp)).2
theorem br.box{E:Path×Nat->Prop}{Y:aw}{K:Hp}(h:br c E X H Y K){b:Nat}{m:M}(a:X.box H b m):Y.box K b m:=a.up h.iY
theorem u4{K L:Hp}{Y:aw}{d f b a' i:Nat}{π:Path}{e k:Xp}(h:jP e)(j:b+aS (e.kids.map xP)<=1000000000)(l:e.kids[i]?=some k)(m:X.box K d (.ref (X.A .it) 0))(n:X.box K f (.ref (X.A (.fr π)) 0))(hf:X.fs π=2)(a:br c (λ_=>False) X K Y L)
  (o:a'=b+aS ((e.kids.take i).map xP)) {post:M->Hp->Prop} (g:DT prog 91 [.ref (Y.A .it) 0,.ref (Y.A (.fr π)) 0,.d (.agg k.cells),dN a'] L post):
  DT prog 120 [dN i,.d (.bm [.int .i64 (b:Int)] 0),.d (.bm e.cells 0),.ref d 0,.ref f 0] L post:=by
 subst o;refine HD h j l (a.box m).2 (a.box n).2 ?_;rw[(a.A .it trivial).2,(a.A (.fr π) (by show 1<=X.fs π;omega)).2]at g;exact g
theorem cW.refl(a:cV P n c d u X H){K:Hp}(b:br c (λ_=>False) X H X K)(e:cF P n c d X K):cW P n c d u X H 0 [] X K:=⟨⟨e,a.pu⟩,b,auK _,by grind⟩
theorem cW.pre{K L:Hp}{Y:aw}{t:Nat}{w:List (Nat×Int)}(a:br c (λ_=>False) X H X K)(h:cW P n c d u X K t w Y L):cW P n c d u X H t w Y L:=⟨h.1,a.trans h.2.1,h.2.2⟩
theorem cW.le{K:Hp}{Y:aw}{t a:Nat}{w:List (Nat×Int)}(h:cW P n c d u X H t w Y K)(l:t<=a):cW P n c d u X H a w Y K:=⟨h.1,h.2.1,avD h.2.2.1 (Nat.add_le_add_left l _),h.2.2.2⟩
theorem Mg{kids:List Xp}{i:Nat}{e:Xp}(h:kids[i]?=some e):aS ((kids.take i).map xP)+xP e<=aS (kids.map xP):=by
 induction kids generalizing i with
 |nil=>cases h
 |cons b c a=>cases i with
  |zero=>injection h with h;subst h;simp[aS]
  |succ i=>have:=a (i:=i) h;simp only[awv,avm,aS,aw5]at this⊢;omega
theorem dM(ac:oF P n c d u){r:Nat}(hV:e_ P n c d u r)(π:Path)(e:Xp)(QG:jP e)(a:Nat)(v:Int)(w:List (Nat×Int))(Ri:gP P.aJ c π r e a v w)(X:aw)(H:Hp)(O:cV P n c d u X H)(hT:X.T c+w.length<=1000000000000)(hP:mq c X r)(hf:X.fs π=2)
  (hb:a+xP e<=1000000000) (ho: ∀E,a<=E->E<a+xP e->yn c π E) (hw: ∀p∈w,nJ c p.1 p.2):
  DT prog 91 [.ref (X.A .it) 0,.ref (X.A (.fr π)) 0,.d (.agg e.cells),dN a] H (uM P n c d u X H v w):=by
 have Wh: ∀E∈e.kids,∀(a:Nat) (v:Int) (w:List (Nat×Int)),gP P.aJ c π r E a v w-> ∀(X:aw) (H:Hp),cV P n c d u X H->X.T c+w.length<=1000000000000->mq c X r->X.fs π=2->a+xP E<=1000000000->(∀h,a<=h->h<a+xP E->yn c π h)->(∀p∈w,nJ c p.1 p.2)->
   DT prog 91 [.ref (X.A .it) 0,.ref (X.A (.fr π)) 0,.d (.agg E.cells),dN a] H (uM P n c d u X H v w):= λE hk a v w Ri X H=>
  have:=Xp.C0 hk
  dM ac hV π E (QG.tJ hk) a v w Ri X H
 have A:=O.lay;have PU:=rz A;have rx:X.T c<=1000000000000:=by omega
 have y:(H++ [Ob.box [.ref (X.A .it) 0]]++ [Ob.box [.ref (X.A (.fr π)) 0]])[H.length]?=some (Ob.box [.ref (X.A .it) 0]):=by simp
 have z:(H++ [Ob.box [.ref (X.A .it) 0]]++ [Ob.box [.ref (X.A (.fr π)) 0]])[(H++ [Ob.box [M.ref (X.A .it) 0]]).length]?=some (Ob.box [.ref (X.A (.fr π)) 0]):=by simp
 have j:=(A.grow [Ob.box [.ref (X.A .it) 0]]).grow [Ob.box [.ref (X.A (.fr π)) 0]];have J:=(br.grow c (λ_=>False) X H [Ob.box [.ref (X.A .it) 0]]).trans (br.grow c (λ_=>False) X _ [Ob.box [.ref (X.A (.fr π)) 0]]);have P4:=F8 e;obtain⟨m,L⟩: ∃b,b=H.length:=⟨_,rfl⟩;obtain⟨x,K⟩: ∃b,b=(H++ [Ob.box [M.ref (X.A .it) 0]]).length:=⟨_,rfl⟩;have YS:X.own m=none:=PU _ (by omega);have YT:X.own x=none:=PU _ (by rw[K];simp);refine DT.ob func91 W ntmps91 W ?_;by_cases RJ:e.kd=9\/e.kd=10\/e.kd=11
 ·have ge:dt e.kd=1:=by unfold dt;rw[au2 RJ]
  have i6:=ho a (auK _) (by omega);have Rc:((a:Nat):Int)+1=((a+1:Nat):Int):=by omega
  rw[ge]at P4;cases Ri<;>simp only[Xp.kd]at RJ<;>try (exfalso;omega)
  ·rename_i o s l t k q p S Q ha hy;have VQ:a<bW d:=by rw[<-ac.Bh];exact ha
   have U1:=ac.rd X O.pu π a hf i6 VQ;rw[Xp.aC];refine dO [2,8] W<|Po (cH W W W)<|dR [9] W<|Po (cH W W W)<|dR [11] W<|Po (CH W W W W)<|dL [] W ?_;rw[<-L,<-K];rw[<-L]at y;rw[<-K]at z;generalize hK:H++ [Ob.box [M.ref (X.A .it) 0]]++ [Ob.box [M.ref (X.A (.fr π)) 0]]=g at y z j J⊢;have B:X.box g m (.ref (X.A .it) 0):=⟨YS,y⟩;have G:X.box g x (.ref (X.A (.fr π)) 0):=⟨YT,z⟩;refine dO [2,2,1,2,43] W<|Po (az W W W (by omega)) ?_;rw[Rc];refine dL [] W<|DC.freeze 7 (ds:=[iN (a+1)]) W W ?_;obtain⟨F,U'⟩: ∃F,F=bU 9 o s l t ([k,q].map Xp.cells) p:=⟨_,rfl⟩;refine dO [2,44] W<|Po (eT W W)<|dR [14] W<|Po (xf W)<|dR [999] W<|Po (cc W W (vJ _ _) W W W)<|dL [] W ?_;have Z8: ∀ob QK:Ob,(g++ [ob]).set g.length QK=g++ [QK]:= λob QK=>by rw[avY _ _ (auK _),awV];rfl
   refine Pz [nR 4 m,nR 5 x,nD 6 (.bm F 0),(9,.loc 9 0),nR 10 g.length] (g++ [Ob.box [(M.fn 120 [.d (.bm [iN (a+1)] 0),.d (.bm F 0),.ref m 0,.ref x 0])]]) (kc W (kc W (kc (by rw[U'];rfl) W))) (by rw[U'];exact Z8 _ _) ?_;have i7:=rz j _ (auK _);have UD:=j.grow [Ob.box [(M.fn 120 [.d (.bm [iN (a+1)] 0),.d (.bm F 0),.ref m 0,.ref x 0])]];have d9:=J.trans (br.grow c (λ_=>False) X g [Ob.box [(M.fn 120 [.d (.bm [iN (a+1)] 0),.d (.bm F 0),.ref m 0,.ref x 0])]]);have hg:=br.grow c (λ_=>False) X g [Ob.box [(M.fn 120 [.d (.bm [iN (a+1)] 0),.d (.bm F 0),.ref m 0,.ref x 0])]];have UX:=hg.box B;have f9:=hg.box G;have YG:X.box (g++ [Ob.box [(M.fn 120 [.d (.bm [iN (a+1)] 0),.d (.bm F 0),.ref m 0,.ref x 0])]]) g.length (M.fn 120 [.d (.bm [iN (a+1)] 0),.d (.bm F 0),.ref m 0,.ref x 0]):=⟨i7,vJ _ _⟩;generalize g++ [Ob.box [(M.fn 120 [.d (.bm [iN (a+1)] 0),.d (.bm F 0),.ref m 0,.ref x 0])]]=K3 at UD d9 UX f9 YG⊢;have YQ:X.tJ c K3 (M.fn 120 [.d (.bm [iN (a+1)] 0),.d (.bm F 0),.ref m 0,.ref x 0]) π (.mk 9 o s l t [k,q] p) (a+1):=⟨by show 1<=X.fs π;omega,m,x,by rw[Xp.aC,U'];rfl,UX,f9⟩;have i8:NL c X K3 (.fn 124 [.ref g.length 0,.d (.bm [iN 1] 0)]) ⟨π,q,a+1+xP k,a,S,Q⟩ g.length (M.fn 120 [.d (.bm [iN (a+1)] 0),.d (.bm F 0),.ref m 0,.ref x 0]) (.mk 9 o s l t [k,q] p) 1 (a+1):=⟨rfl,YG,YQ,QG,rfl,rfl,by simp[Xp.kids,aS]⟩;have YU:xP (Xp.mk 9 o s l t [k,q] p)=1+(xP k+(xP q+0)):=P4;have i9:a+1+xP k+xP q<=1000000000:=by omega
   have XJ: ∀E,a+1+xP k<=E->E<a+1+xP k+xP q->yn c π E:= λE T h2=>ho E (by omega) (by omega)
   have mt:AI.ok P c d X ⟨π,q,a+1+xP k,a,S,Q⟩:=⟨hy,hf,VQ,⟨hw _ (avj ..),λh C=>hw h (au7 _ C)⟩,QG.tJ (by simp[Xp.kids]),XJ,i9⟩;obtain⟨r1,R,⟨co,RX,QI,_,RB,_,_,pm,_,VU,qr⟩,QT⟩:=BN ⟨UD,O.pu⟩ (by have:=Ki O.pu;simp only[au4]at hT;omega) i8 mt;refine dO [2,46] W ?_;subst U';refine Po (Bt W W W)<|dR [3,2,0,2,0,2,0,2,0,2,0,2,0,2,0,2,0,2,1,1,2,142] W<|Po (cL W W W (by simp))<|dL [] W<|DC.freeze 20 (ds:=[iN 1]) W W<|dO [2,143] W<|Po (aA W W UX.2 W)<|dR [144] W<|Po (eT W W)<|dR [146] W<|Po (aq QT W W)<|dL [] W ?_;have d6:=(QI.box UX).2;have U:=RX.lay.inst;rw[(QI.A .it trivial).2]at U;have RY:=RX.lay.unit;have Z:=RX.lay.mem;have UY:=jh (n:=bW d) (f:=ji co.x.m) VQ;rw[show ji co.x.m a= .d (.int .i32 (c.rd a)) by rw[<-U1,pm]]at UY;apply Ps bN
   ·intro s0 Oo;refine ay W W d6 W<|fR 2 W<|ay W W U W<|fR 2 W<|ay W W RY W<|fR 1 W<|c_ W W W Z (auJ a) (by exact awd.2 VQ)<|j_ W W Z UY<|fR 1 W<|TF.nil ⟨by kernel_rfl,rfl⟩
   exact DC.ret ⟨_,W,W,co,RX,d9.trans QI,avD VU (by show _+(1+Q.length)<=_+(Q.length+1);omega),λh C=>qr h.1 h.2 C⟩
  ·rename_i o s l t q p S Q ha hy;have VQ:a<bW d:=by rw[<-ac.Bh];exact ha
   have U1:=ac.rd X O.pu π a hf i6 VQ;rw[Xp.aC];refine dO [2,8] W<|Po (cH W W W)<|dR [9] W<|Po (cH W W W)<|dR [11] W<|Po (CH W W W W)<|dL [] W ?_;rw[<-L,<-K];rw[<-L]at y;rw[<-K]at z;generalize hK:H++ [Ob.box [M.ref (X.A .it) 0]]++ [Ob.box [M.ref (X.A (.fr π)) 0]]=g at y z j J⊢;have B:X.box g m (.ref (X.A .it) 0):=⟨YS,y⟩;have G:X.box g x (.ref (X.A (.fr π)) 0):=⟨YT,z⟩;refine dO [2,2,1,2,43] W<|Po (az W W W (by omega)) ?_;rw[Rc];refine dL [] W<|DC.freeze 7 (ds:=[iN (a+1)]) W W ?_;obtain⟨F,U'⟩: ∃F,F=bU 10 o s l t ([q].map Xp.cells) p:=⟨_,rfl⟩;refine dO [2,44] W<|Po (eT W W)<|dR [14] W<|Po (xf W)<|dR [999] W<|Po (cc W W (vJ _ _) W W W)<|dL [] W ?_;have Z8: ∀ob QK:Ob,(g++ [ob]).set g.length QK=g++ [QK]:= λob QK=>by rw[avY _ _ (auK _),awV];rfl
   refine Pz [nR 4 m,nR 5 x,nD 6 (.bm F 0),(9,.loc 9 0),nR 10 g.length] (g++ [Ob.box [(M.fn 120 [.d (.bm [iN (a+1)] 0),.d (.bm F 0),.ref m 0,.ref x 0])]]) (kc W (kc W (kc (by rw[U'];rfl) W))) (by rw[U'];exact Z8 _ _) ?_;have i7:=rz j _ (auK _);have UD:=j.grow [Ob.box [(M.fn 120 [.d (.bm [iN (a+1)] 0),.d (.bm F 0),.ref m 0,.ref x 0])]];have d9:=J.trans (br.grow c (λ_=>False) X g [Ob.box [(M.fn 120 [.d (.bm [iN (a+1)] 0),.d (.bm F 0),.ref m 0,.ref x 0])]]);have hg:=br.grow c (λ_=>False) X g [Ob.box [(M.fn 120 [.d (.bm [iN (a+1)] 0),.d (.bm F 0),.ref m 0,.ref x 0])]];have UX:=hg.box B;have f9:=hg.box G;have YG:X.box (g++ [Ob.box [(M.fn 120 [.d (.bm [iN (a+1)] 0),.d (.bm F 0),.ref m 0,.ref x 0])]]) g.length (M.fn 120 [.d (.bm [iN (a+1)] 0),.d (.bm F 0),.ref m 0,.ref x 0]):=⟨i7,vJ _ _⟩;generalize g++ [Ob.box [(M.fn 120 [.d (.bm [iN (a+1)] 0),.d (.bm F 0),.ref m 0,.ref x 0])]]=K3 at UD d9 UX f9 YG⊢;have YQ:X.tJ c K3 (M.fn 120 [.d (.bm [iN (a+1)] 0),.d (.bm F 0),.ref m 0,.ref x 0]) π (.mk 10 o s l t [q] p) (a+1):=⟨by show 1<=X.fs π;omega,m,x,by rw[Xp.aC,U'];rfl,UX,f9⟩;have i8:NL c X K3 (.fn 124 [.ref g.length 0,.d (.bm [iN 0] 0)]) ⟨π,q,a+1,a,S,Q⟩ g.length (M.fn 120 [.d (.bm [iN (a+1)] 0),.d (.bm F 0),.ref m 0,.ref x 0]) (.mk 10 o s l t [q] p) 0 (a+1):=⟨rfl,YG,YQ,QG,rfl,rfl,by simp[Xp.kids,aS]⟩;have YU:xP (Xp.mk 10 o s l t [q] p)=1+(xP q+0):=P4;have i9:a+1+xP q<=1000000000:=by omega
   have XJ: ∀E,a+1<=E->E<a+1+xP q->yn c π E:= λE T h2=>ho E (by omega) (by omega)
   have mt:AI.ok P c d X ⟨π,q,a+1,a,S,Q⟩:=⟨hy,hf,VQ,⟨hw _ (avj ..),λh C=>hw h (au7 _ C)⟩,QG.tJ (by simp[Xp.kids]),XJ,i9⟩;obtain⟨r1,R,⟨co,RX,QI,_,RB,_,_,pm,_,VU,qr⟩,QT⟩:=BN ⟨UD,O.pu⟩ (by have:=Ki O.pu;simp only[au4]at hT;omega) i8 mt;refine dO [2,46] W ?_;subst U';refine Po (Bt W W W)<|dR [3,2,0,2,0,2,0,2,0,2,0,2,0,2,0,2,0,2,0,2,1,2,142] W<|Po (cL W W W (by simp))<|dL [] W<|DC.freeze 20 (ds:=[iN 0]) W W<|dO [2,143] W<|Po (aA W W UX.2 W)<|dR [144] W<|Po (eT W W)<|dR [146] W<|Po (aq QT W W)<|dL [] W ?_;have d6:=(QI.box UX).2;have U:=RX.lay.inst;rw[(QI.A .it trivial).2]at U;have RY:=RX.lay.unit;have Z:=RX.lay.mem;have UY:=jh (n:=bW d) (f:=ji co.x.m) VQ;rw[show ji co.x.m a= .d (.int .i32 (c.rd a)) by rw[<-U1,pm]]at UY;apply Ps bN
   ·intro s0 Oo;refine ay W W d6 W<|fR 2 W<|ay W W U W<|fR 2 W<|ay W W RY W<|fR 1 W<|c_ W W W Z (auJ a) (by exact awd.2 VQ)<|j_ W W Z UY<|fR 1 W<|TF.nil ⟨by kernel_rfl,rfl⟩
   exact DC.ret ⟨_,W,W,co,RX,d9.trans QI,avD VU (by show _+(1+Q.length)<=_+(Q.length+1);omega),λh C=>qr h.1 h.2 C⟩
  ·rename_i o s l t k q p S Q v2 w2 ha hx hy;have VQ:a<bW d:=by rw[<-ac.Bh];exact ha
   have U1:=ac.rd X O.pu π a hf i6 VQ;rw[Xp.aC];refine dO [2,8] W<|Po (cH W W W)<|dR [9] W<|Po (cH W W W)<|dR [11] W<|Po (CH W W W W)<|dL [] W ?_;rw[<-L,<-K];rw[<-L]at y;rw[<-K]at z;generalize hK:H++ [Ob.box [M.ref (X.A .it) 0]]++ [Ob.box [M.ref (X.A (.fr π)) 0]]=g at y z j J⊢;have B:X.box g m (.ref (X.A .it) 0):=⟨YS,y⟩;have G:X.box g x (.ref (X.A (.fr π)) 0):=⟨YT,z⟩;refine dO [2,2,1,2,43] W<|Po (az W W W (by omega)) ?_;rw[Rc];refine dL [] W<|DC.freeze 7 (ds:=[iN (a+1)]) W W<|DC.freeze 9 (ds:=[.int .i64 (a:Int)]) W W ?_;obtain⟨F,U'⟩: ∃F,F=bU 11 o s l t ([k,q].map Xp.cells) p:=⟨_,rfl⟩;refine dO [2,44] W<|Po (eT W W)<|dL [] W<|DC.wm [nR 4 m,nR 5 x,nD 6 (.bm F 0),nD 9 (.bm [.int .i64 (a:Int)] 0),(10,.loc 10 0)] [(10,[(M.fn 120 [.d (.bm [iN (a+1)] 0),.d (.bm F 0),.ref m 0,.ref x 0])])] g (kc W (kc W (kc (by rw[U'];rfl) W))) (λd8=> ?_) W ?_
   ·rw[U'];by_cases t3:d8=10
    ·subst t3;rfl
    ·have t5:Nat.beq 10 d8=false:=by rw[<-avX];intro A;exact t3 (auZ A).symm
     by_cases e7:d8=7
     ·subst e7;rfl
     ·have n7:Nat.beq 7 d8=false:=by rw[<-avX];intro A;exact e7 (auZ A).symm
      by_cases e9:d8=9
      ·subst e9;rfl
      ·have n9:Nat.beq 9 d8=false:=by rw[<-avX];intro A;exact e9 (auZ A).symm
       simp[Mt.get,Mt.del,t5,n7,n9,show Nat.beq 9 7=false from rfl,show Nat.beq 9 9=true from rfl]
   have S5:xP (Xp.mk 11 o s l t [k,q] p)=1+(xP k+(xP q+0)):=P4;have Ww:a+1+aS ((Xp.mk 11 o s l t [k,q] p).kids.map xP)<=1000000000:=by show a+1+(xP k+(xP q+0))<=_;omega
   have rg:X.T c+(Q.length+w2.length)+1<=1000000000000:=by simp only[au4,auN]at hT;omega
   obtain⟨_,K1,⟨rfl,Y1,N⟩,V⟩:=u4 (i:=0) (a':=a+1) QG Ww W B G hf (br.refl c _ X g) (by simp[aS]) (Wh k (by simp[Xp.kids]) (a+1) S Q hx X g ⟨j,O.pu⟩ (by omega) hP hf (by omega) (λh T h2=>ho h (by omega) (by omega)) (λh C=>hw h (au7 _ (auY _ C))));have XK:=N.2.2.1;obtain⟨_,K2,⟨rfl,I,Rj⟩,PX⟩:=u4 (i:=1) (a':=a+1+xP k) QG Ww W B G hf N.2.1 (by simp[aS,Xp.kids]) (Wh q (by simp[Xp.kids]) (a+1+xP k) v2 w2 hy Y1 K1 N.1 (by omega) (hP.next N.2.1) (N.2.1.f2 π hf) (by omega) (λh T h2=>ho h (by omega) (by omega)) (λh C=>hw h (au7 _ (au0 _ C))));have hC:=(cW.pre J N).trans Rj;have Q_:=N.2.1.trans Rj.2.1;have Tl:=(Q_.A .it trivial).2;rw[Xp.aC]at V PX;change CT _ _ [_,_,.d (.bm (bU 11 o s l t ([k,q].map Xp.cells) p) 0),_,_] _ _ at V;change CT _ _ [_,_,.d (.bm (bU 11 o s l t ([k,q].map Xp.cells) p) 0),_,_] _ _ at PX;rw[<-U']at V PX;have U:=j.inst;have RY:=j.unit;have Z:=j.mem;have UY:=jh (n:=bW d) (f:=ji X.x.m) VQ;rw[show ji X.x.m a= .d (.int .i32 (c.rd a)) by rw[<-U1]]at UY;have d6:=Q_.box B;rw[<-Tl]at d6;have TB:I.sY c K2 (.fn 125 [.ref m 0,.d (.bm [.int .i64 (a:Int)] 0)]) (.arrow a):=⟨m,rfl,d6⟩;obtain⟨hL,hE⟩:=p5 Rj.1.lay TB;obtain⟨t6,hS,t7⟩:=ry Rj.1.pu (p:=(.arrow a,.fn 125 [.ref m 0,.d (.bm [.int .i64 (a:Int)] 0)])) (⟨VQ,hw _ (avj ..)⟩) (H:=K2)
   have QF: ∀R d7,I.dr K2 (.fn 125 [.ref m 0,.d (.bm [.int .i64 (a:Int)] 0)])=R->d7=(if c.rd a=0 then v2 else S)->uM P n c d u X H (if c.rd a=0 then v2 else S) ((a,0)::(Q++w2)) (.d (.int .i32 d7)) R:=by
    rintro R d7 rfl rfl;refine⟨W,_,⟨hL,t6⟩,hC.2.1.trans hE,?_,λh C=> ?_⟩
    ·rw[t7];have:=hC.2.2.1;simp only[au4,auN];omega
    ·rcases auX.1 C with rfl|C
     ·exact hS a 0 ⟨W,W⟩
     ·exact hE.S _ _ (hC.2.2.2 h C)
   subst U';refine dC [2,3,2,0,2,0,2,0,2,0,2,0,2,0,2,0,2,0,2,0,2,0,2,1] W ?_;apply Ps bN
   ·intro s0 Oo;refine ay W W B.2 W<|fR 2 W<|ay W W U W<|fR 2 W<|ay W W RY W<|fR 1 W<|c_ W W W Z (auJ a) (by exact awd.2 VQ)<|j_ W W Z UY<|fR 2 W<|TF.nil ⟨by kernel_rfl,rfl⟩
   refine dC [] W ?_;apply Ps bN
   ·intro s0 Oo;refine fR 1 W<|pB V W W W<|fR 1 W<|pB PX W W W<|fR 2 W<|TF.nil ⟨by kernel_rfl,rfl⟩
   have P8:=Rj.1.lay.inst;rw[Tl]at P8;rw[Tl]at d6;have ZW:=d6.2
   let Iv:M->Hp->Prop:= λl R=>R[m]?=some (Ob.box [.ref (X.A .it) 0])/\R[X.A .it]?=some (Ob.box [.ref (I.A .un) 0,.ref (I.A (.fr [])) 0,.d (.bool false),bM (I.A .af) I.vF I.F.length,l])
   by_cases hN:I.N= []
   ·have e0:bM (I.A .nx) I.vN I.N.length= .d (.sl []):=by simp[hN,bM]
    rw[e0]at P8;refine dC [] W ?_;apply QZ (Iv (.d (.sl []))) (⟨ZW,P8⟩) bN
    ·intro s0 Oo;refine PF W W (λR A=>⟨_,A.1,rfl⟩)<|PF W W (λR A=>⟨_,A.1,rfl⟩)<|iR 2 W<|PF W W (λR A=>⟨_,A.2,rfl⟩) ?_;apply Py
     ·skip
      refine ft W W<|TF.nil ⟨W,W⟩
     apply Py
     ·skip
      refine et (cs:=[_]) W W W W W W<|TF.nil ⟨W,W⟩
     apply Py
     ·skip
      refine pP true W W W (mI _ _) W W (by decide) (by decide)<|TF.nil ⟨rfl,rfl⟩
     refine iR 2 W ?_;apply Py
     ·skip
      refine fE W W (bB (bB P8)) W W W<|TF.nil ⟨W,W⟩
     exact jJ.nil ⟨by kernel_rfl,by repeat' first|exact trivial|exact .inl ((by first|exact⟨bB ZW,bB P8⟩|exact⟨bB (bB ZW),bB (bB P8)⟩))|exact .inr (by kernel_rfl)|refine⟨?_,?_⟩,rfl⟩
    refine dC [2] W<|DC.cond W (λhc=> ?_) (λhc=> ?_)
    ·refine dC [2] W<|DC.ret ⟨_,W,QF _ _ ?_ (by rw[auU];intro h0;rw[h0]at hc;cases hc)⟩;simp only[aw.dr,au2 hN,auN,avd,Tl];rfl
    ·refine dC [2] W<|DC.ret ⟨_,W,QF _ _ ?_ (by rw[au2];simpa using hc)⟩;simp only[aw.dr,au2 hN,auN,avd,Tl];rfl
   ·have e0:bM (I.A .nx) I.vN I.N.length= .bH (I.A .nx) I.vN I.N.length:=by unfold bM;rw[auU];intro e;exact hN (avA e)
    rw[e0]at P8;have Do:=z7 (c:=c) (X:=I) (by have:=Rj.2.2.1;omega);have PS:I.A .nx≠X.A .it:=by rw[<-Tl];exact Rj.1.lay.ne (r:= .nx) (r':= .it) hN trivial (by simp)
    refine dC [] W ?_;apply QZ (Iv (.bH (I.A .nx) I.vN I.N.length)) (⟨ZW,P8⟩) bN
    ·intro s0 Oo;refine PF W W (λR A=>⟨_,A.1,rfl⟩)<|PF W W (λR A=>⟨_,A.1,rfl⟩)<|iR 2 W<|PF W W (λR A=>⟨_,A.2,rfl⟩) ?_;apply Py
     ·skip
      refine ft W W<|TF.nil ⟨W,W⟩
     apply Py
     ·skip
      refine et (cs:=[_]) W W W W W W<|TF.nil ⟨W,W⟩
     apply Py
     ·skip
      refine pQ W W W (mI _ _) (bB (wF Rj.1.lay hN)) W (by omega) (by omega)<|TF.nil ⟨rfl,rfl⟩
     refine iR 2 W ?_;apply Py
     ·skip
      refine fE W W (gu (bB P8) PS) W W W<|TF.nil ⟨W,W⟩
     exact jJ.nil ⟨by kernel_rfl,by repeat' first|exact trivial|exact .inl ((by first|exact⟨bB ZW,bB P8⟩|exact⟨gu (bB ZW) (by intro e;have:=Rj.1.lay.own .nx hN;rw[e,d6.1]at this;cases this),gu (bB P8) PS⟩))|exact .inr (by kernel_rfl)|refine⟨?_,?_⟩,rfl⟩
    refine dC [2] W<|DC.cond W (λhc=> ?_) (λhc=> ?_)
    ·refine dC [2] W<|DC.ret ⟨_,W,QF _ _ ?_ (by rw[auU];intro h0;rw[h0]at hc;cases hc)⟩;simp only[aw.dr,auU hN,auN,avd,Tl];rfl
    ·refine dC [2] W<|DC.ret ⟨_,W,QF _ _ ?_ (by rw[au2];simpa using hc)⟩;simp only[aw.dr,auU hN,auN,avd,Tl];rfl
 ·have ge:dt e.kd=0:=by unfold dt;rw[auU RJ]
  rw[ge]at P4;cases Ri<;>try first|exact absurd (Or.inl W) RJ|exact absurd (Or.inr (Or.inl W)) RJ|exact absurd (Or.inr (Or.inr W)) RJ
  ·rename_i E o s l t ah p hk;have hv:=xo ac.en (Xp.mk E o s l t ah p);rw[Xp.aC]at hv;rw[Xp.aC];refine dO [2,8] W<|Po (cH W W W)<|dR [9] W<|Po (cH W W W)<|dL [] W ?_;rw[<-L,<-K];rw[<-L]at y;rw[<-K]at z;generalize hK:H++ [Ob.box [M.ref (X.A .it) 0]]++ [Ob.box [M.ref (X.A (.fr π)) 0]]=g at y z j J⊢;have B:X.box g m (.ref (X.A .it) 0):=⟨YS,y⟩;have G:X.box g x (.ref (X.A (.fr π)) 0):=⟨YT,z⟩;have U:=j.inst;have RY:=j.unit;have Z:=j.mem;have Y:cV P n c d u X g:=⟨j,O.pu⟩;refine dC [2] W ?_;have t8:(E==9)=false:=by rcases hk with A|A|A<;>rw[A]<;>rfl
   have t9:(E==10)=false:=by rcases hk with A|A|A<;>rw[A]<;>rfl
   have v6:(E==11)=false:=by rcases hk with A|A|A<;>rw[A]<;>rfl
   refine dO [2,31] W<|Po (dY W W W (r:= .bool false) (by show some (D.bool (_==_))=_;rw[<-t8];rfl))<|dR [35] W ?_
   first|refine Po (ax W W) ?_|(refine Po (av W) ?_;refine Po (dY W W W (r:= .bool false) (by show some (D.bool (_==_))=_;rw[<-t9];rfl)) ?_)
   refine dR [40] W ?_
   first|refine Po (ax W W) ?_|(refine Po (av W) ?_;refine Po (dY W W W (r:= .bool false) (by show some (D.bool (_==_))=_;rw[<-v6];rfl)) ?_)
   refine dR [0,2,44] W<|Po (eT W W)<|dL [2] W ?_;have Rq:CT prog 86 [.d (.sl (P.aJ.map En.cells)),.d (.agg (bU E o s l t (ah.map Xp.cells) p))] g λr' K'=>r'= .dq [.d (.int .i32 (pT P.aJ (.mk E o s l t ah p))),.d (.bool (isConst P.aJ (.mk E o s l t ah p)))]/\K'=g:=(Sy hv).mono (by rintro _ _ ⟨⟨_,rfl,rfl⟩,rfl⟩;exact⟨W,W⟩)
   rcases hk with rfl|rfl|rfl
   ·refine dC [3,2,1,1] W ?_;apply Ps bN
    ·intro s0 Oo;refine ay W W B.2 W<|fR 2 W<|ay W W U W<|fR 3 W<|ay W W RY W<|fR 1 W<|la Rq W W<|fR 5 W<|TF.nil ⟨by kernel_rfl,rfl⟩
    refine dC [2] W<|DC.ret ⟨_,W,W,X,cW.pre J (cW.refl Y (br.refl c _ X g) j)⟩
   ·refine dC [3,2,0,2,1,1] W ?_;apply Ps bN
    ·intro s0 Oo;refine ay W W B.2 W<|fR 2 W<|ay W W U W<|fR 3 W<|ay W W RY W<|fR 1 W<|la Rq W W<|fR 5 W<|TF.nil ⟨by kernel_rfl,rfl⟩
    refine dC [2] W<|DC.ret ⟨_,W,W,X,cW.pre J (cW.refl Y (br.refl c _ X g) j)⟩
   ·refine dC [3,2,0,2,0,2,1] W ?_;apply Ps bN
    ·intro s0 Oo;refine ay W W B.2 W<|fR 2 W<|ay W W U W<|fR 3 W<|ay W W RY W<|fR 1 W<|la Rq W W<|fR 5 W<|TF.nil ⟨by kernel_rfl,rfl⟩
    refine dC [2] W<|DC.ret ⟨_,W,W,X,cW.pre J (cW.refl Y (br.refl c _ X g) j)⟩
  ·rename_i o s l t ah p σ T hr;rw[Xp.aC];refine dO [2,8] W<|Po (cH W W W)<|dR [9] W<|Po (cH W W W)<|dL [] W ?_;rw[<-L,<-K];rw[<-L]at y;rw[<-K]at z;generalize hK:H++ [Ob.box [M.ref (X.A .it) 0]]++ [Ob.box [M.ref (X.A (.fr π)) 0]]=g at y z j J⊢;have B:X.box g m (.ref (X.A .it) 0):=⟨YS,y⟩;have G:X.box g x (.ref (X.A (.fr π)) 0):=⟨YT,z⟩;have U:=j.inst;have RY:=j.unit;have Z:=j.mem;have Y:cV P n c d u X g:=⟨j,O.pu⟩;refine dO [2,2,0,2,44] W<|Po (eT W W)<|dL [2] W ?_;obtain⟨r1,R,⟨rfl,co,hC,_⟩,UC⟩:=hV X g Y rx hP π l σ hf T hr;refine dO [3,2,0,2,0,2,0,2,1,2,68] W<|Po (aA W W B.2 W)<|dR [69] W<|Po (aA W W G.2 W)<|dR [72] W<|Po (aq UC W W)<|dL [2] W<|DC.ret ⟨_,W,W,co,cW.pre J hC⟩
  ·rename_i o s l t ah p σ h T hp C;rw[Xp.aC];refine dO [2,8] W<|Po (cH W W W)<|dR [9] W<|Po (cH W W W)<|dL [] W ?_;rw[<-L,<-K];rw[<-L]at y;rw[<-K]at z;generalize hK:H++ [Ob.box [M.ref (X.A .it) 0]]++ [Ob.box [M.ref (X.A (.fr π)) 0]]=g at y z j J⊢;have B:X.box g m (.ref (X.A .it) 0):=⟨YS,y⟩;have G:X.box g x (.ref (X.A (.fr π)) 0):=⟨YT,z⟩;have U:=j.inst;have RY:=j.unit;have Z:=j.mem;have Y:cV P n c d u X g:=⟨j,O.pu⟩;refine dO [2,2,0,2,44] W<|Po (eT W W)<|dL [2] W ?_;have QU:=pZ j O.pu ac.sz π hf l;have UW:X.gS c π l= .ref (X.A (.ce σ.1 σ.2)) 0:=by unfold aw.gS;rw[T]
   rw[UW]at QU;obtain⟨Qs,S,lp,eq,Qw,_,Qc,QA,_⟩:=mu Y hf T;rw[Qc]at hp;injection hp with hp
   subst hp;have rt:h<bW d:=by rw[<-ac.Bh];exact C
   have U1:=ac.rd X O.pu σ.1 h Qs (ac.lo σ.1 σ.2 h (Pu.ok ac O.pu Qs) Qc) rt;have UY:=jh (n:=bW d) (f:=ji X.x.m) rt;rw[show ji X.x.m h= .d (.int .i32 (c.rd h)) by rw[<-U1]]at UY;have Rl:decide (((h:Nat):Int)>=0)=true:=au5 (by omega);refine dO [3,2,0,2,0,2,0,2,0,2,1,2,78] W<|Po (aA W W G.2 W)<|dR [81] W<|Po (aq QU W W)<|dR [2,83] W<|Po (jC (by kernel_rfl) W W W W W)<|dR [88] W ?_
   first|refine Po (ax W W) ?_|(refine Po (av W) ?_;refine Po (aA W W QA W) ?_)
   refine dR [89] W ?_
   first|refine Po (ax W W) ?_|(refine Po (av W) ?_;refine Po (dY W W W (r:= .bool true) (by show some (D.bool (decide (_>=_)))=_;rw[<-Rl];rfl)) ?_)
   refine dL [1] W ?_;apply Ps bN
   ·intro s0 Oo;refine ay W W B.2 W<|fR 2 W<|ay W W U W<|fR 2 W<|ay W W RY W<|fR 3 W<|ay W W QA W<|c_ W W W Z (auJ h) (by exact awd.2 rt)<|j_ W W Z UY<|fR 1 W<|TF.nil ⟨by kernel_rfl,rfl⟩
   exact DC.ret ⟨_,W,W,X,cW.pre J (cW.refl Y (br.refl c _ X g) j)⟩
  ·rename_i o s l t k p S hx;rw[Xp.aC];refine dO [2,8] W<|Po (cH W W W)<|dR [9] W<|Po (cH W W W)<|dL [] W ?_;rw[<-L,<-K];rw[<-L]at y;rw[<-K]at z;generalize hK:H++ [Ob.box [M.ref (X.A .it) 0]]++ [Ob.box [M.ref (X.A (.fr π)) 0]]=g at y z j J⊢;have B:X.box g m (.ref (X.A .it) 0):=⟨YS,y⟩;have G:X.box g x (.ref (X.A (.fr π)) 0):=⟨YT,z⟩;have U:=j.inst;have RY:=j.unit;have Z:=j.mem;have Y:cV P n c d u X g:=⟨j,O.pu⟩;refine dO [2,2,0,2,44] W<|Po (eT W W)<|dL [2] W ?_;have Ww:a+aS ((Xp.mk 6 o s l t [k] p).kids.map xP)<=1000000000:=by rw[P4]at hb;omega
   have S5:xP (Xp.mk 6 o s l t [k] p)=0+(xP k+0):=P4;have rg:X.T c+(w.length)<=1000000000000:=by omega
   obtain⟨_,K1,⟨rfl,Y1,N⟩,V⟩:=u4 (i:=0) (a':=a) QG Ww W B G hf (br.refl c _ X g) (by simp[aS,Xp.kids]<;>omega) (Wh k (by simp[Xp.kids]) (a) S w hx X g Y (by omega) hP hf (by omega) (λh T h2=>ho h (by omega) (by omega)) (λh C=>hw h C));have R0:=N.2.1;have YV:=N;have XK:=YV.2.2.1;rw[Xp.aC]at V;refine dC [3,2,0,2,0,2,0,2,0,2,0,2,1] W ?_;apply Ps bN
   ·intro s0 Oo;refine fR 3 W<|pB V W W W<|aW (NJ o S) W W<|fR 1 W<|TF.nil ⟨by kernel_rfl,rfl⟩
   exact DC.ret ⟨_,W,W,Y1,cW.pre J YV⟩
  ·rename_i o s l t k q p S Q v2 w2 hx hy;rw[Xp.aC];refine dO [2,8] W<|Po (cH W W W)<|dR [9] W<|Po (cH W W W)<|dL [] W ?_;rw[<-L,<-K];rw[<-L]at y;rw[<-K]at z;generalize hK:H++ [Ob.box [M.ref (X.A .it) 0]]++ [Ob.box [M.ref (X.A (.fr π)) 0]]=g at y z j J⊢;have B:X.box g m (.ref (X.A .it) 0):=⟨YS,y⟩;have G:X.box g x (.ref (X.A (.fr π)) 0):=⟨YT,z⟩;have U:=j.inst;have RY:=j.unit;have Z:=j.mem;have Y:cV P n c d u X g:=⟨j,O.pu⟩;refine dO [2,2,0,2,44] W<|Po (eT W W)<|dL [2] W ?_;have Ww:a+aS ((Xp.mk 7 o s l t [k,q] p).kids.map xP)<=1000000000:=by rw[P4]at hb;omega
   have S5:xP (Xp.mk 7 o s l t [k,q] p)=0+(xP k+(xP q+0)):=P4;have rg:X.T c+(Q.length+w2.length)<=1000000000000:=by simp only[auN]at hT;omega
   obtain⟨_,K1,⟨rfl,Y1,N⟩,V⟩:=u4 (i:=0) (a':=a) QG Ww W B G hf (br.refl c _ X g) (by simp[aS,Xp.kids]<;>omega) (Wh k (by simp[Xp.kids]) (a) S Q hx X g Y (by omega) hP hf (by omega) (λh T h2=>ho h (by omega) (by omega)) (λh C=>hw h (auY _ C)));have R0:=N.2.1;have YV:=N;have XK:=YV.2.2.1;obtain⟨_,K2,⟨rfl,I,Rj⟩,PX⟩:=u4 (i:=1) (a':=a+xP k) QG Ww W B G hf R0 (by simp[aS,Xp.kids]<;>omega) (Wh q (by simp[Xp.kids]) (a+xP k) v2 w2 hy Y1 K1 N.1 (by omega) (hP.next R0) (R0.f2 π hf) (by omega) (λh T h2=>ho h (by omega) (by omega)) (λh C=>hw h (au0 _ C)));have Q_:=R0.trans Rj.2.1;have gc:=YV.trans Rj;have wd:=gc.2.2.1;rw[Xp.aC]at V PX;refine dO [3,2,0,2,0,2,0,2,0,2,0,2,0,2,1,2,117] W<|Po (mF V W W W)<|dL [] W ?_;apply Ps bN
   ·intro s0 Oo;refine fR 4 W<|pB PX W W W<|aW (L_ o S v2) W W<|fR 1 W<|TF.nil ⟨by kernel_rfl,rfl⟩
   exact DC.ret ⟨_,W,W,I,cW.pre J (gc.le (by simp only[auN];omega))⟩
  ·rename_i o s l t k q d7 p S Q v2 w2 v3 w3 hx hy hz;rw[Xp.aC];refine dO [2,8] W<|Po (cH W W W)<|dR [9] W<|Po (cH W W W)<|dL [] W ?_;rw[<-L,<-K];rw[<-L]at y;rw[<-K]at z;generalize hK:H++ [Ob.box [M.ref (X.A .it) 0]]++ [Ob.box [M.ref (X.A (.fr π)) 0]]=g at y z j J⊢;have B:X.box g m (.ref (X.A .it) 0):=⟨YS,y⟩;have G:X.box g x (.ref (X.A (.fr π)) 0):=⟨YT,z⟩;have U:=j.inst;have RY:=j.unit;have Z:=j.mem;have Y:cV P n c d u X g:=⟨j,O.pu⟩;refine dO [2,2,0,2,44] W<|Po (eT W W)<|dL [2] W ?_;have Ww:a+aS ((Xp.mk 8 o s l t [k,q,d7] p).kids.map xP)<=1000000000:=by rw[P4]at hb;omega
   have S5:xP (Xp.mk 8 o s l t [k,q,d7] p)=0+(xP k+(xP q+(xP d7+0))):=P4;have rg:X.T c+(Q.length+w2.length+w3.length)<=1000000000000:=by simp only[auN]at hT;omega
   obtain⟨_,K1,⟨rfl,Y1,N⟩,V⟩:=u4 (i:=0) (a':=a) QG Ww W B G hf (br.refl c _ X g) (by simp[aS,Xp.kids]<;>omega) (Wh k (by simp[Xp.kids]) (a) S Q hx X g Y (by omega) hP hf (by omega) (λh T h2=>ho h (by omega) (by omega)) (λh C=>hw h (auY _ (auY _ C))));have R0:=N.2.1;have YV:=N;have XK:=YV.2.2.1;obtain⟨_,K2,⟨rfl,I,Rj⟩,PX⟩:=u4 (i:=1) (a':=a+xP k) QG Ww W B G hf R0 (by simp[aS,Xp.kids]<;>omega) (Wh q (by simp[Xp.kids]) (a+xP k) v2 w2 hy Y1 K1 N.1 (by omega) (hP.next R0) (R0.f2 π hf) (by omega) (λh T h2=>ho h (by omega) (by omega)) (λh C=>hw h (auY _ (au0 _ C))));have Q_:=R0.trans Rj.2.1;have gc:=YV.trans Rj;have wd:=gc.2.2.1;obtain⟨_,K3,⟨rfl,Y3,Ta⟩,QN⟩:=u4 (i:=2) (a':=a+xP k+xP q) QG Ww W B G hf Q_ (by simp[aS,Xp.kids]<;>omega) (Wh d7 (by simp[Xp.kids]) (a+xP k+xP q) v3 w3 hz I K2 Rj.1 (by omega) (hP.next Q_) (Q_.f2 π hf) (by omega) (λh T h2=>ho h (by omega) (by omega)) (λh C=>hw h (au0 _ C)));have t4:=gc.trans Ta;rw[Xp.aC]at V PX QN;refine dC [3,2,0,2,0,2,0,2,0,2,0,2,0,2,0,2,1] W ?_;apply Ps bN
   ·intro s0 Oo;refine fR 1 W<|pB V W W W<|fR 1 W<|pB PX W W W<|fR 2 W<|TF.nil ⟨by kernel_rfl,rfl⟩
   refine dO [2,131] W<|Po (mF QN W W W)<|dL [2] W<|DC.cond W (λhc=> ?_) (λhc=> ?_)
   ·refine dC [2] W<|DC.ret ⟨_,W,by rw[au2 (by simpa using hc)];rfl,Y3,cW.pre J (t4.le (by simp only[auN];omega))⟩
   ·refine dC [2] W<|DC.ret ⟨_,W,by rw[auU (by simpa using hc)];rfl,Y3,cW.pre J (t4.le (by simp only[auN];omega))⟩
  ·rename_i o s l t k p hx;rw[Xp.aC];refine dO [2,8] W<|Po (cH W W W)<|dR [9] W<|Po (cH W W W)<|dL [] W ?_;rw[<-L,<-K];rw[<-L]at y;rw[<-K]at z;generalize hK:H++ [Ob.box [M.ref (X.A .it) 0]]++ [Ob.box [M.ref (X.A (.fr π)) 0]]=g at y z j J⊢;have B:X.box g m (.ref (X.A .it) 0):=⟨YS,y⟩;have G:X.box g x (.ref (X.A (.fr π)) 0):=⟨YT,z⟩;have U:=j.inst;have RY:=j.unit;have Z:=j.mem;have Y:cV P n c d u X g:=⟨j,O.pu⟩;refine dO [2,2,0,2,44] W<|Po (eT W W)<|dL [2] W ?_;have Ww:a+aS ((Xp.mk 12 o s l t [k] p).kids.map xP)<=1000000000:=by rw[P4]at hb;omega
   have S5:xP (Xp.mk 12 o s l t [k] p)=0+(xP k+0):=P4;obtain⟨_,K1,⟨rfl,Y1,N⟩,V⟩:=u4 (i:=0) (a':=a) QG Ww W B G hf (br.refl c _ X g) (by simp[aS,Xp.kids]<;>omega) (Wh k (by simp[Xp.kids]) (a) v w hx X g Y (by omega) hP hf (by omega) (λh T h2=>ho h (by omega) (by omega)) (λh C=>hw h C));have YV:=N;have XK:=YV.2.2.1;rw[Xp.aC]at V;refine dO [3,2,0,2,0,2,0,2,0,2,0,2,0,2,0,2,0,2,0,2,0,2,0,2,1,2,190] W<|Po (mF V W W W)<|dL [] W<|DC.ret ⟨_,W,W,Y1,cW.pre J YV⟩
  ·rename_i o s l t ah p σ i cn e1 T hi hn Vi hk hr he;rw[Xp.aC];refine dO [2,8] W<|Po (cH W W W)<|dR [9] W<|Po (cH W W W)<|dL [] W ?_;rw[<-L,<-K];rw[<-L]at y;rw[<-K]at z;generalize hK:H++ [Ob.box [M.ref (X.A .it) 0]]++ [Ob.box [M.ref (X.A (.fr π)) 0]]=g at y z j J⊢;have B:X.box g m (.ref (X.A .it) 0):=⟨YS,y⟩;have G:X.box g x (.ref (X.A (.fr π)) 0):=⟨YT,z⟩;have Y:cV P n c d u X g:=⟨j,O.pu⟩;refine dO [2,2,0,2,44] W<|Po (eT W W)<|dL [2] W ?_;have Ww:a+aS ((Xp.mk 13 o s l t ah p).kids.map xP)<=1000000000:=by rw[P4]at hb;omega
   have WW:=Mg hk;have S5:xP (Xp.mk 13 o s l t ah p)=0+aS (ah.map xP):=P4;have Zz:=I1 ac.en ac.sz hV Y rx hP hf (e:=Xp.mk 13 o s l t ah p) QG (σ:=σ) T hr (i:=i) (cn:=cn) hi hn Vi (km:= .fn 120 [.d (.bm [.int .i64 (a:Int)] 0),.d (.bm (Xp.mk 13 o s l t ah p).cells 0),.ref m 0,.ref x 0]) (a:=a) ⟨by show 1<=X.fs π;omega,m,x,rfl,B,G⟩ (post:=uM P n c d u X g v w) (λco R hC b4 b5 W1 h4 h5=>by
    injection W1 with _ W1
    injection W1 with _ W1
    injection W1 with _ W1
    injection W1 with e4 W1
    injection W1 with e5 _
    injection e4 with e4
    injection e5 with e5
    subst e4;subst e5;have XK:=hC.2.2.1;refine u4 (i:=i) (a':=a+eg (ah.take i)) QG Ww hk B G hf hC.2.1 (by rw[sd];rfl) ?_;obtain⟨r1,L1,⟨rfl,Y1,N⟩,V⟩:=Wh e1 (auQ hk) (a+eg (ah.take i)) v w he co R hC.1 (by omega) (hP.next hC.2.1) (hC.2.1.f2 π hf) (by rw[sd];omega) (λh T h2=>ho h (by omega) (by rw[sd]at h2;omega)) hw;refine⟨_,L1,⟨W,Y1,?_⟩,V⟩;have:=hC.trans N;rw[awc]at this;exact this)
   rw[Xp.aC]at Zz;obtain⟨r1,R,⟨rfl,co,hC⟩,wn⟩:=Zz;refine dO [3,2,0,2,0,2,0,2,0,2,0,2,0,2,0,2,0,2,0,2,0,2,0,2,0,2,1,2,193] W<|Po (aA W W B.2 W)<|dR [194] W<|Po (aA W W G.2 W)<|dR [197] W<|Po (aq wn W W)<|dL [] W<|DC.ret ⟨_,W,W,co,cW.pre J hC⟩
termination_by SizeOf.sizeOf e
end
section
variable{P:Pg}{n:Nat}{c:aK}{d:Nd}{u:US}{X:aw}{H:Hp}
theorem Kt{l:List (Nm×Nm)}{i:Nat}(h:i<l.length):(tG l)[((i:Nat):Int).toNat]?=some [.str l[i].1,.str l[i].2]:=by simp[tG,h]
theorem cW.same(h:cF P n c d X H)(k:Pu P c d u X):cW P n c d u X H 0 [] X H:=⟨⟨h,k⟩,br.refl c _ X H,auK _,by grind⟩
theorem tT(z:oF P n c d u){r:Nat}(hV:e_ P n c d u r){π:Path}{l:List (Nm×Nm)}(hl:l.length<=1000000){b:Bool}(hp:zQ P.aJ c π r l b)(J:cV P n c d u X H)(hT:X.T c<=1000000000000)(hP:mq c X r)(hf:X.fs π=2):
  DT prog 65 [.ref (X.A .it) 0,.ref (X.A (.fr π)) 0,.d (.sl (tG l))] H λm K=>m= .d (.bool b)/\ ∃Y,cW P n c d u X H 0 [] Y K:=by
 refine DT.ob func65 W ntmps65 W<|dO [2,2,17] W<|Po (bp W W W) ?_;rw[au8];refine dL [3] W<|DC.lp (λI ac=> ∃(g:Nat) (Y:aw) (K:Hp) (L:List (Nat×List M)),ac=⟨[nN 14 g,nN 13 l.length,nD 12 (.sl (tG l)),nR 0 (X.A .it),nR 1 (X.A (.fr π))],L,K⟩/\g<=l.length/\I=l.length-g/\zQ P.aJ c π r (l.drop g) b/\cW P n c d u X H 0 [] Y K) l.length _
  ⟨0,X,H,_,rfl,by omega,rfl,hp,cW.same J.lay J.pu⟩ W ?_
 rintro I s1 ⟨g,N,K0,L,rfl,hi,rfl,h,i⟩;refine dC [2] W<|DC.cond W (λhc=> ?_) (λhc=> ?_);rotate_left
 ·refine DC.exit ?_;have:g=l.length:=by grind
  subst this;rw[awn]at h;cases h;refine dC [2] W<|DC.ret ⟨_,W,W,N,i⟩
 have O:g<l.length:=by grind
 refine dC [] W ?_;have Q:=Kt O;rw[avQ O]at h;generalize co:l[g]=kx at h Q;obtain⟨s,t⟩:=kx;have RW: ∃e,c.find π t=some e/\c.jX e<r:=by cases h<;>exact⟨_,by assumption,by assumption⟩
 obtain⟨e,k,j⟩:=RW;have d6:=i.2.2.1;obtain⟨r1,K,⟨rfl,Y,R,d7⟩,S⟩:=hV N K0 i.1 (by omega) (hP.next i.2.1) π t e (i.2.1.f2 π hf) k j;have w:=i.trans R;have p:=R.1;have A:=w.2.1;have T:=A.f2 π hf;rw[(i.2.1.A .it trivial).2,(i.2.1.A (.fr π) (by show 1<=X.fs π;omega)).2]at S;have B:=pZ p.lay p.pu z.sz π T t;rw[(A.A (.fr π) (by show 1<=X.fs π;omega)).2]at B;have UW:Y.gS c π t= .ref (Y.A (.ce e.1 e.2)) 0:=by unfold aw.gS;rw[k]
 rw[UW]at B;obtain⟨Qs,v,lp,eq,f,VE,Qc,U,_⟩:=mu p T k;have V:c.de P.aJ e=fq P.aJ v.tk v.tn:=by unfold aK.de;rw[f]
 have C:=xl z.en v.tk v.tn;rw[<-V]at C;have Z:=zR (c.de P.aJ e) s (by rw[V];exact wA z.en _ _);have E:=p.lay.inst;rw[(A.A .it trivial).2]at E;have YR:=p.lay.unit;refine dO [3,2,20] W<|Po (aG W W W (auJ g) Q W)<|dR [2,27] W<|Po (aq S W W)<|dR [2,33] W<|Po (aq B W W)<|dL [] W ?_;cases x:c.val e.1 e.2 with
 |none=>
  have q:b=false:=by
   cases h with
   |no a j f=>rfl
   |ym a j f F G=>rw[k]at a;injection a with a;subst a;rw[x]at f;cases f
  subst q;refine dC [] W<|dF W W<|dC [1,2] W<|DC.ret ⟨_,W,W,Y,w⟩
 |some o=>
  have V_:c.get e=o:=by unfold aK.get;rw[x];rfl
  rw[V_];by_cases y:lJ (c.de P.aJ e) s=o
  ·have ah:zQ P.aJ c π r (l.drop (g+1)) b:=by
    cases h with
    |no a j f=>rw[k]at a;injection a with a;subst a;exact absurd y (f o x)
    |ym a j f F G=>exact G
   have q:(lJ (c.de P.aJ e) s !=o)=false:=by rw[y];simp
   refine dC [] W ?_;apply Ps bN
   ·intro s0 Oo;refine fR 4 W ?_
    first|refine aX W W W W ?_|refine aY W W W ?_|(refine aR W W ?_;(refine wG (by kernel_rfl) W W W W W ?_))
    refine fR 5 W ?_
    first|refine aX W W W W ?_|refine aY W W W ?_|(refine aR W W ?_;(refine ay W W E W ?_))
    refine fR 3 W ?_
    first|refine aX W W W W ?_|refine aY W W W ?_|(refine aR W W ?_;(refine ay W W YR W ?_))
    refine fR 4 W ?_
    first|refine aX W W W W ?_|refine aY W W W ?_|(refine aR W W ?_;(refine eQ W W U W W ?_))
    first|refine aX W W W W ?_|refine aY W W W ?_|(refine aR W W ?_;(refine aW C W W ?_))
    refine fR 2 W ?_
    first|refine aX W W W W ?_|refine aY W W W ?_|(refine aR W W ?_;(refine aW Z W W ?_))
    refine fR 1 W ?_
    first|refine aX W W W W ?_|refine aY W W W ?_|(refine aR W W ?_;(refine kq W W W (r:= .bool false) (by show some (D.bool (_ !=_))=_;rw[q]) ?_))
    refine fR 1 W<|TF.nil ⟨by kernel_rfl,rfl⟩
   refine dO [0,2,61] W<|Po (az W W W (by omega))<|dL [] W<|bK (k':=l.length-(g+1)) (by omega) ⟨g+1,Y,K,_,rfl,by omega,rfl,ah,w⟩ W W
  ·have R2:b=false:=by
    cases h with
    |no a j f=>rfl
    |ym a j f F G=>rw[k]at a;injection a with a;subst a;rw[x]at f;injection f with f;exact absurd (F.trans f.symm) y
   subst R2;have q:(lJ (c.de P.aJ e) s !=o)=true:=by simpa using y
   refine dC [] W ?_;apply Ps bN
   ·intro s0 Oo;refine fR 4 W ?_
    first|refine aX W W W W ?_|refine aY W W W ?_|(refine aR W W ?_;(refine wG (by kernel_rfl) W W W W W ?_))
    refine fR 5 W ?_
    first|refine aX W W W W ?_|refine aY W W W ?_|(refine aR W W ?_;(refine ay W W E W ?_))
    refine fR 3 W ?_
    first|refine aX W W W W ?_|refine aY W W W ?_|(refine aR W W ?_;(refine ay W W YR W ?_))
    refine fR 4 W ?_
    first|refine aX W W W W ?_|refine aY W W W ?_|(refine aR W W ?_;(refine eQ W W U W W ?_))
    first|refine aX W W W W ?_|refine aY W W W ?_|(refine aR W W ?_;(refine aW C W W ?_))
    refine fR 2 W ?_
    first|refine aX W W W W ?_|refine aY W W W ?_|(refine aR W W ?_;(refine aW Z W W ?_))
    refine fR 1 W ?_
    first|refine aX W W W W ?_|refine aY W W W ?_|(refine aR W W ?_;(refine kq W W W (r:= .bool true) (by show some (D.bool (_ !=_))=_;rw[q]) ?_))
    refine fR 1 W<|TF.nil ⟨by kernel_rfl,rfl⟩
   refine dC [1,2] W<|DC.ret ⟨_,W,W,Y,w⟩
end
end Go.Proofs.Sz
namespace Go.Sm
open Go.Mt
theorem gR.u5{f:xi}{k:Nat}{v:Va}{j j':Nat}(h:gR f k v j)(a:gR f k v j'):j=j':=by
 obtain⟨_,⟨b,c,d⟩,g⟩:=h;obtain⟨_,⟨i,l,m⟩,n⟩:=a;rcases av6 j j' with e|e|e
 ·grind
 ·exact e
 ·grind
theorem Src.u5{c:aK}{r:Nat}{π:Path}{j:Nat}{x:Nm}{s g:Option (Path×Nat)}(h:Src c r π j x s):Src c r π j x g->s=g:=by
 induction h generalizing g with
 |leaf b k l=>
  intro f;cases f with
  |leaf=>rfl
  |bA a d=>rw[b]at a;injection a with e;subst e;omega
  |last a d=>rw[b]at a;injection a with e;subst e;omega
 |bA b k l p q y z A=>
  intro f;cases f with
  |leaf a d=>rw[b]at a;injection a with e;subst e;omega
  |bA a d m n o t u=>
   rename_i v B C _ w D;rcases av6 v w with e|e|e
   ·grind
   ·grind
   ·grind
  |last a d m i=>exact absurd q (i _ (auQ p))
 |last b k l i=>
  intro f;cases f with
  |leaf a d=>rw[b]at a;injection a with e;subst e;omega
  |bA a d m n o t u=>exact absurd o (i _ (auQ n))
  |last=>rfl
end Go.Sm
namespace Go.Proofs.Sz
open Go.Mt Go.Sm Go.Proofs
section
variable{P:Pg}{n:Nat}{c:aK}{d:Nd}{u:US}{X:aw}{H:Hp}
def aw.cS(X:aw)(σ:Path×Nat)(s:Nat):aw:= {X with cs:= λπ k=>if(π,k)=σ then s else X.cs π k}
theorem cp(X:aw)(σ:Path×Nat)(s:Nat):(X.cS σ s).cs σ.1 σ.2=s:=by
 show(if(σ.1,σ.2)=σ then s else _)=s;rw[au2 W]
theorem bI(X:aw){σ:Path×Nat}{s:Nat}{π:Path}{k:Nat}(h:(π,k)≠σ):(X.cS σ s).cs π k=X.cs π k:=auU h
theorem cF.cS(h:cF P n c d X H){σ:Path×Nat}(s:Nat)(hf:X.fs σ.1=2){v:Va}{f:Option Nat}{eq:M}(r:(c.fr σ.1).vars[σ.2]?=some v)(t:(c.fr σ.1).cO[σ.2]?=some f)(u: ∀a,gR (c.fr σ.1) σ.2 v a->eq= .ref (X.A (.pl σ.1 a)) 0):
  cF P n c d (X.cS σ s) (H.set (X.A (.ce σ.1 σ.2)) (.box (dh v f eq (X.A (.fr σ.1)) (oE s) (if zB s then c.get (σ.1,σ.2)else 0)))):=by
 have w:σ.2<(c.fr σ.1).vars.length:=by
  grind
 refine h.zZ (.ce σ.1 σ.2) ⟨hf,w⟩ _ W W W W W W (λg=>by cases g<;>exact avU) ⟨v,f,eq,_,r,t,?_,W,u⟩ (λg E F G i=> ?_)
 ·show Ob.box (dh v f eq _ (oE s) (if zB s then c.get (σ.1,σ.2)else 0))=Ob.box (dh v f eq _ (oE ((X.cS σ s).cs σ.1 σ.2)) (if zB ((X.cS σ s).cs σ.1 σ.2)then c.get (σ.1,σ.2)else 0));rw[cp];rfl
 ·cases g with
  |ce b p=>
   obtain⟨x,y,z,q,j,k,l,m,A⟩:=i;have o:(b,p)≠σ:=by grind
   exact⟨x,y,z,q,j,k,by rw[bI X o];exact l,by rw[bI X o];exact m,A⟩
  |am b=>
   obtain⟨B,j,k,l,m⟩:=i;refine⟨B,j,k,λC a D=> ?_,m⟩;rw[show(X.cS σ s).A=X.A from rfl,l C a D];unfold aw.oS;by_cases e:(a::b,0)=σ
   ·subst e;rw[au2 (show X.fs (a::b)≠0 by grind),au2 (show(X.cS (a::b,0) s).fs (a::b)≠0 by simp only at hf;show X.fs (a::b)≠0;omega)];rfl
   ·rw[bI X e];rfl
  |_=>exact i
theorem Pu.cS(h:Pu P c d u X){σ:Path×Nat}{s:Nat}(E:s<=6)(Z:σ.1= []->d.ins.length<=σ.2)(F:zB s=true->(c.val σ.1 σ.2).isSome=true)(G:s=3->c.val σ.1 σ.2=none)(H:zB (X.cs σ.1 σ.2)=true->zB s=true)(Y:X.cs σ.1 σ.2=2\/X.cs σ.1 σ.2=4->s=2\/s=4)
  (I:s=2-> ∀g v,(c.fr σ.1).cO[σ.2]?=some (some g)->c.val σ.1 σ.2=some v->X.SS c g v)
  (J:s=2\/s=4-> ∀r v n o f,(c.fr σ.1).vars[σ.2]?=some v->gR (c.fr σ.1) σ.2 v r->Src c (c.sb σ.1 σ.2) σ.1 r v.name (some (n,o))->(c.fr n).au[o]?=some f->X.fs n=2/\(f.kd=1-> ∀y∈c.ew n o,X.SS c y.1 y.2)/\(f.kd=2->X.dn n o=true))
  (A: ∀a i f,σ=(i::a,0)->(c.fr a).au[i]?=some f->f.kd=2->s=1) (K:X.fs σ.1=2\/(σ.2=0/\ ∃i z f,σ.1=i::z/\(c.fr z).au[i]?=some f/\f.kd=2)):Pu P c d u (X.cS σ s):=by
 refine{f0:=h.f0,fp:=h.fp,f2:=h.f2,xm:=h.xm,xp:=h.xp,xd:=h.xd,xs:=h.xs,s3:=h.s3,s4:=h.s4,s5:=h.s5,fl:=h.fl,fn:=h.fn,fk:= λg l=>⟨(h.fk g l).ev,(h.fk g l).fs,(h.fk g l).lt,(h.fk g l).wr,(h.fk g l).sm,(h.fk g l).own,(h.fk g l).sz⟩,c6:= ?_,ci:= ?_,cv:= ?_,ca:= ?_,s1:= ?_,s2:= ?_,dl:= ?_,nk:= ?_,g0:= ?_,dz:=h.dz,cz:= ?_}
 ·intro a b;by_cases e:(a,b)=σ
  ·subst e;rw[cp X (a,b) s];exact E
  ·rw[bI X e];exact h.c6 a b
 ·intro b t;have e:(([]:Path),b)≠σ:=by grind
  rw[bI X e];exact h.ci b t
 ·intro a b m;by_cases e:(a,b)=σ
  ·subst e;rw[cp X (a,b) s]at m;exact F m
  ·rw[bI X e]at m;exact h.cv a b m
 ·intro a b m;by_cases e:(a,b)=σ
  ·subst e;rw[cp X (a,b) s]at m;exact G m
  ·rw[bI X e]at m;exact h.ca a b m
 ·intro a b g v q k;by_cases e:(a,b)=σ
  ·subst e;rw[cp X (a,b) s]at k;exactλ_=>I k g v
  ·rw[bI X e]at k;exact h.s1 a b g v q k
 ·intro j r v n o f q k;by_cases e:(j.1,j.2)=σ
  ·subst e;rw[cp X (j.1,j.2) s]at k;exactλ_=>J k r v n o f
  ·rw[bI X e]at k;exact h.s2 j r v n o f q k
 ·intro a i f q B x w D L j M;obtain⟨⟨N,O,Q,_⟩,_⟩:=h.s3 a i q B;have R:(i::a,0)≠σ:=by
   intro e;have:=A a i N e.symm O Q;subst e;rw[cp X (i::a,0) s]at x;omega
  rw[bI X R]at x;have p:=h.dl a i f q B x w D L j M;by_cases e:(j.1,j.2)=σ
  ·subst e;rw[cp X (j.1,j.2) s];exact Y p
  ·rw[bI X e];exact p
 ·intro g l;have p:=h.nk g l
  revert p
  generalize g.1=S;intro p;cases S with
  |cell ac j=>
   obtain⟨T,U,C,V⟩:=p;refine⟨T,U,?_,V⟩;by_cases e:(j.1,j.2)=σ
   ·subst e;rw[cp X (j.1,j.2) s];exact H C
   ·rw[bI X e];exact C
  |_=>exact p
 ·intro a i f w t;by_cases e:(i::a,0)=σ
  ·subst e;rw[cp X (i::a,0) s];exact .inr (.inl (A a i f W w t))
  ·rw[bI X e];exact h.g0 a i f w t
 ·intro a b k;by_cases e:(a,b)=σ
  ·subst e;exact K
  ·rw[bI X e]at k;exact h.cz a b k
theorem br.cS(h:cF P n c d X H){σ:Path×Nat}{s:Nat}(j:X.live c (.ce σ.1 σ.2))(ob:Ob)(k:X.cs σ.1 σ.2=2->s=2)(l:X.cs σ.1 σ.2=3->s=3)(m:s≠0):br c (·=σ) X H (X.cS σ s) (H.set (X.A (.ce σ.1 σ.2)) ob):=by
 refine{c0:= ?_,f0:= λ_ h=>h,len:=by simp,iY:= ?_,A:= λi o=>⟨by cases i<;>exact o,W⟩,aL:= λ_ _=>⟨rfl,rfl⟩,f2:= λ_ h=>h,f1:= λ_=>avU,c1:= ?_,c2:= ?_,c3:= ?_,c4:= ?_,dn:= λ_ _ h=>h,sj:= λ_ _ _ _=>rfl,lv:=rfl,S:= λ_ _ h=>h,fi:=rfl,ph:=rfl,F:=⟨[],by simp[aw.cS]⟩}
 ·intro a b e;by_cases f:(a,b)=σ
  ·subst f;rw[cp X (a,b) s]at e;exact absurd e m
  ·rw[bI X f]at e;exact e
 ·intro p r g;exact⟨g,auT (by rintro rfl;rw[h.own _ j]at g;cases g)⟩
 ·intro a b e;rw[bI X e]
 ·intro a b e;by_cases f:(a,b)=σ
  ·subst f;rw[cp X (a,b) s];exact k e
  ·rw[bI X f];exact e
 ·intro a b e;by_cases f:(a,b)=σ
  ·subst f;rw[cp X (a,b) s];exact l e
  ·rw[bI X f];exact e
 ·intro a b q e _;rw[bI X e]
theorem br.close{σ:Path×Nat}{Y:aw}{K:Hp}(h:br c (·=σ) X H Y K)(j:X.cs σ.1 σ.2=1↔Y.cs σ.1 σ.2=1)(k: ∀b,4<=b->(X.cs σ.1 σ.2=b↔Y.cs σ.1 σ.2=b))(l:X.cs σ.1 σ.2≠1):br c (λ_=>False) X H Y K:=by
 refine{h with c1:= λa d _=> ?_,c4:= λa d b _ g=> ?_,sj:= λa f _ i=>h.sj a f (by grind) i}
 ·by_cases e:(a,d)=σ
  ·grind
  ·exact h.c1 a d e
 ·by_cases e:(a,d)=σ
  ·grind
  ·exact h.c4 a d b e g
theorem BO{H:Hp}{i:Nat}{ob:Ob}(h:H[i]?=some ob):H.set i ob=H:=by
 apply awt;intro a;rw[List.getElem?_set];split
 ·grind
 ·rfl
theorem sn{σ:Path×Nat}{s:Nat}(h:s≠0):(X.cS σ s).T c<=X.T c:=by
 refine Da (a:=0) (b:=0) (λk d=> ?_) (auK _) (auK _);cases k with
 |cell f i=>
  simp only[aw.cu,awF]at d⊢;by_cases e:(f,i)=σ
  ·subst e;rw[cp X (f,i) s]at d;exact absurd d h
  ·rw[bI X e]at d;exact d
 |call f j=>
  simp only[aw.cu,avf,awF]at d⊢;refine⟨d.1,?_⟩;have g:=d.2;by_cases e:(j::f,0)=σ
  ·subst e;rw[cp X (j::f,0) s]at g;exact absurd g h
  ·rw[bI X e]at g;exact g
 |_=>exact d
theorem Ku{σ:Path×Nat}{s:Nat}(h:s≠0)(l:X.cs σ.1 σ.2=0)(m:It.cell σ.1 σ.2∈c.ap):(X.cS σ s).T c+c.wt (.cell σ.1 σ.2)<=X.T c:=by
 refine wD (a:=0) (b:=0) (λi d=> ?_) m (by simp[aw.cu,l]) (by simp only[aw.cu];rw[cp];simpa using h) (auK _) (auK _);cases i with
 |cell f j=>
  simp only[aw.cu,awF]at d⊢;by_cases e:(f,j)=σ
  ·grind
  ·rw[bI X e]at d;exact d
 |call f k=>
  simp only[aw.cu,avf,awF]at d⊢;refine⟨d.1,?_⟩;have g:=d.2;by_cases e:(k::f,0)=σ
  ·grind
  ·rw[bI X e]at g;exact g
 |_=>exact d
end
end Go.Proofs.Sz
