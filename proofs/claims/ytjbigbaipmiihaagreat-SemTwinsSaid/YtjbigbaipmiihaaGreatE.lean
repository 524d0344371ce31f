/- A part of the proof of the last text of this claim, without conditions. -/
import Derived.Test.YtjbigbaipmiihaaGreatD
set_option maxRecDepth 4000
set_option linter.all false
namespace Go.Sm
open Go.Mt
theorem z7{en:List En}{l:List Va}{i:Nat}(h:i<l.length):iF en (l.take (i+1))=iF en (l.take i)++(if l[i].last then [some (oO en l[i].first)]else []):=by
 rw[aqu h,Cr]
 congr 1
 cases a:l[i].last<;>simp[iF,a]
theorem D4{en:List En}{a:List ay}{i:Nat}(h:i<a.length):mT en (a.take (i+1))=mT en (a.take i)++tS en a[i]:=by
 rw[zT,zT,aqu h,aqO,arW];simp
theorem D5(en:List En)(a:List ay):(mT en a).length=aP (a.map qP):=by rw[vA,Fe]
end Go.Sm
namespace Go.Proofs.Sz
open Go.Mt Go.Sm Go.Proofs
theorem sg{l:List Va}{i:Nat}(h:i<l.length):aR (l.take (i+1))=aR (l.take i)+(if l[i].last then 1 else 0)/\aR (l.take (i+1))<=aR l:=by
 refine⟨?_,lm l (i+1)⟩;rw[aqu h,pw]
theorem x8(c:Mc)(L:qd c.P.aI)(fr j:Nat)(N:j<=bW c.d)(b:aW)(U:tQ b): ∀(a:Nat),a+bP b<=1000000000-> ∀x H,MM c x H->DT Tryz.prog 58 [.ref c.it 0,.d (.agg b.cells),dN a,dN fr,dN j] H λr K=>MS c H (x.fb (ku c.P.aI b) a fr j) K:=by
 induction U with
 | @mk h g h1 h2 V O q h6 h7 X=>
  intro a C x H A;have P:=vu (.mk h g);simp only[aW.vars,aW.au]at P;rw[P]at C;have Y: ∀e∈g,∀a∈e.ah,bP a.cp<=qP e:= λe hq a y=>by
   have Z:=jn (aqU (f:=fo) y);have he:=jt e;rw[mS]at Z;omega
  have Q: ∀e∈g,∀a∈e.ah,PT Tryz.prog 40 [.agg a.cp.cells] (·= [iN (bP a.cp)]):= λe i a y=>by
   have hm:=jn (aqU (f:=qP) i);have:=Y e i a y;exact kY _ (V e i a y) (by omega)
  have hE: ∀e∈g,PT Tryz.prog 55 [.agg e.cells] (·= [iN (qP e)]):= λe i=>by
   have hm:=jn (aqU (f:=qP) i);exact Bk e (q e i).1 (q e i).2.1 (q e i).2.2 (by omega) (O e i) (Q e i)
  have hR: ∀e∈g,∀(a:Nat),a+qP e<=1000000000-> ∀x H,MM c x H->DT Tryz.prog 87 [.ref c.it 0,.d (.agg e.cells),dN a,dN fr,dN j] H λr K=>MS c H (x.fb (tS c.P.aI e) a fr j) K:= λe i a C x H A=>
   CA c L fr j N e (O e i) (q e i).2.1 (q e i).1 (q e i).2.2 (Q e i) (X e i) a C x H A
  rw[aW.aA,Js];simp only[aW.vars,aW.au];refine DT.ob Tryz.func58 W Tryz.ntmps58 W<|dO [2,2,20] W<|Mu (bH W W W) ?_;rw[bw];refine dL [] W<|MG [nN 17 0,nN 16 h.length,nD 15 (.sl (aC h)),nN 2 (a+aR (h.take 0)),nD 6 (.aZ [.sl (aC h),.sl (g.map ay.cells)] 0),nN 4 j,nN 3 fr,nR 0 c.it] H W W<|dC [] W<|Ny (λR=> ∃K p,MS c H (x.fb (iF c.P.aI h) a fr j) K/\R=⟨[nN 2 (a+aR h),nD 6 (.aZ [.sl (aC h),.sl (g.map ay.cells)] 0),nN 4 j,nN 3 fr,nR 0 c.it],p,K⟩) ?_ ?_
  ·refine dC [3] W<|DC.lp (λt B=> ∃(d:Nat) (p:List (Nat×List M)) (K:Hp),B=⟨[nN 17 d,nN 16 h.length,nD 15 (.sl (aC h)),nN 2 (a+aR (h.take d)),nD 6 (.aZ [.sl (aC h),.sl (g.map ay.cells)] 0),nN 4 j,nN 3 fr,nR 0 c.it],p,K⟩/\MS c H (x.fb (iF c.P.aI (h.take d)) a fr j) K/\d<=h.length/\t=h.length-d) h.length _
    ⟨0,_,H,rfl,by rw[show iF c.P.aI (h.take 0)= []from rfl,Kp.uH];exact MS.refl A,by omega,rfl⟩ W ?_
   rintro t s1 ⟨d,p,K,rfl,k,hi,rfl⟩;refine dC [2] W<|DC.cond W (λD=> ?_) (λD=> ?_)
   ·have l:d<h.length:=by grind
    have m:=dM l;obtain⟨s,ac⟩:=sg l;have n:=z7 (en:=c.P.aI) l;generalize h[d]=w at m s n;rw[w.aA]at m;refine dC [3] W ?_;cases z:w.last with
    |true=>
     rw[z]at m s;simp only[arR]at s;rw[z]at n;simp only[arR]at n;obtain⟨r2,E,F,u⟩:=qe c L _ K k.mm (a+aR (h.take d)) fr j (by omega) N w.first;have v:=k.trans F;rw[show a+aR (h.take d)=a+(iF c.P.aI (h.take d)).length by rw[oQ],<-Kp.qa,<-n]at v;rw[w.first.aA]at u;have G:((a+aR (h.take d):Nat):Int)+1=((a+aR (h.take (d+1)):Nat):Int):=by omega
     refine dO [2,23] W<|Mu (aK W W W (aqe d) m W)<|dR [2,1,2,33] W<|Mu (ap u W W)<|dR [2,35] W<|Mu (ax W W W (by omega)) ?_;rw[G];refine dR [2,36] W<|Mu (ax W W W (by omega))<|dL [] W<|bE (k':=h.length-(d+1)) (by omega) ⟨d+1,_,E,rfl,v,by omega,rfl⟩ W W
    |false=>
     rw[z]at m s;simp only[are,arK,arV]at s;rw[z]at n;simp only[are,arK,aqC]at n;rw[<-n]at k;refine dO [2,23] W<|Mu (aK W W W (aqe d) m W)<|dR [2,0,2,36] W<|Mu (ax W W W (by omega))<|dL [] W<|bE (k':=h.length-(d+1)) (by omega) ⟨d+1,_,K,rfl,k,by omega,rfl⟩ W (kc W (kc W (kc W (kc (by rw[s];rfl) W))))
   ·refine DC.exit ?_;have l:d=h.length:=by grind
    subst l;rw[aqQ]at k⊢;exact⟨_,⟨K,p,k,rfl⟩,cF W W⟩
  rintro R ⟨K,p,k,rfl⟩;obtain⟨o,S⟩: ∃o,o=a+aR h:=⟨_,rfl⟩;rw[<-S];have co:a+(iF c.P.aI h).length=o:=by rw[oQ,S]
  generalize iF c.P.aI h=J at k co⊢;have d6:(g.map ay.cells).length=g.length:=by simp
  refine dO [2,39] W<|Mu (bH W W W) ?_;rw[d6];refine dL [] W<|MG [nN 36 0,nN 35 g.length,nD 34 (.sl (g.map ay.cells)),nN 2 (o+aP ((g.take 0).map qP)),nN 4 j,nN 3 fr,nR 0 c.it] K W W<|dC [3] W<|DC.lp (λt B=> ∃(d:Nat) (p:List (Nat×List M)) (K:Hp),B=⟨[nN 36 d,nN 35 g.length,nD 34 (.sl (g.map ay.cells)),nN 2 (o+aP ((g.take d).map qP)),nN 4 j,nN 3 fr,nR 0 c.it],p,K⟩/\MS c H (x.fb (J++mT c.P.aI (g.take d)) a fr j) K/\d<=g.length/\t=g.length-d) g.length _
   ⟨0,_,K,rfl,by rw[show mT c.P.aI (g.take 0)= []from rfl,aqC];exact k,by omega,rfl⟩ W ?_
  rintro t s1 ⟨d,p,K,rfl,k,hi,rfl⟩;refine dC [2] W<|DC.cond W (λD=> ?_) (λD=> ?_)
  ·have l:d<g.length:=by grind
   have m:(g.map ay.cells)[((d:Nat):Int).toNat]?=some g[d].cells:=by simp[l]
   obtain⟨Pt,ac⟩:=fD qP l;have I:=hE _ (aqz l);have T:=hR _ (aqz l);have n:=D4 (en:=c.P.aI) l;generalize g[d]=e at m I Pt T n;obtain⟨r2,E,F,u⟩:=T (o+aP ((g.take d).map qP)) (by omega) _ K k.mm;have v:=k.trans F;rw[show o+aP ((g.take d).map qP)=a+(J++mT c.P.aI (g.take d)).length by rw[aqg,D5];omega,<-Kp.qa,aqD,<-n]at v;rw[e.aA,e.ex.aA]at m u I;have G:((o+aP ((g.take d).map qP):Nat):Int)+((qP e:Nat):Int)=((o+aP ((g.take (d+1)).map qP):Nat):Int):=by omega
   refine dO [3,2,42] W<|Mu (aK W W W (aqe d) m W)<|dR [2,49] W<|Mu (ap u W W)<|dR [2,52] W<|Mu (aJ I W W)<|dR [53] W<|Mu (ax W W W (by omega)) ?_;rw[G];refine dR [2,54] W<|Mu (ax W W W (by omega))<|dL [] W<|bE (k':=g.length-(d+1)) (by omega) ⟨d+1,_,E,rfl,v,by omega,rfl⟩ W W
  ·refine DC.exit ?_;have l:d=g.length:=by grind
   subst l;rw[aqQ]at k;exact⟨_,rfl,k⟩
theorem z8(c:Mc)(p:qd c.P.aI)(fr b:Nat)(q:b<=bW c.d)(s:tQ c.d.b)(D:c.d.outs.length<=1000000)(E:bP c.d.b<=900000000)(x:Kp)(H:Hp)(h:MM c x H):DT Tryz.prog 42 [.ref c.it 0,dN fr,dN b] H λr K=>MS c H ((x.fb (iF c.P.aI c.d.outs) (bP c.d.b) fr b).fb (ku c.P.aI c.d.b) 0 fr b) K:=by
 have t:=kY c.d.b s (by omega);rw[aW.aA]at t;have z: ∀a,aR (c.d.outs.take a)<=1000000:= λa=>by
  have F:=lm c.d.outs a;have G:aR c.d.outs<=c.d.outs.length:=arM _ _;omega
 refine DT.ob Tryz.func42 W Tryz.ntmps42 W<|dO [2,16] W<|Mu (aw W W h.inst W)<|dR [20] W<|Mu (jV W W h.unit W W)<|dR [21] W<|Mu (aJ t W W)<|dR [2,25] W<|Mu (aw W W h.inst W)<|dR [29] W<|Mu (aw W W h.unit W)<|dR [30] W<|Mu (bH W W W) ?_;rw[bw];refine dL [] W<|MG [nN 27 0,nN 26 c.d.outs.length,nD 25 (.sl (aC c.d.outs)),nN 6 (bP c.d.b+aR (c.d.outs.take 0)),nN 2 b,nN 1 fr,nR 0 c.it] H W W<|dC [] W<|Ny (λu=> ∃K f,MS c H (x.fb (iF c.P.aI c.d.outs) (bP c.d.b) fr b) K/\u=⟨[nN 2 b,nN 1 fr,nR 0 c.it],f,K⟩) ?_ ?_
 ·refine dC [3] W<|DC.lp (λo y=> ∃(a:Nat) (f:List (Nat×List M)) (K:Hp),y=⟨[nN 27 a,nN 26 c.d.outs.length,nD 25 (.sl (aC c.d.outs)),nN 6 (bP c.d.b+aR (c.d.outs.take a)),nN 2 b,nN 1 fr,nR 0 c.it],f,K⟩/\MS c H (x.fb (iF c.P.aI (c.d.outs.take a)) (bP c.d.b) fr b) K/\a<=c.d.outs.length/\o=c.d.outs.length-a) c.d.outs.length _
   ⟨0,_,H,rfl,by rw[show iF c.P.aI (c.d.outs.take 0)= []from rfl,Kp.uH];exact MS.refl h,by omega,rfl⟩ W ?_
  rintro o I ⟨a,f,K,rfl,d,J,rfl⟩;refine dC [2] W<|DC.cond W (λA=> ?_) (λA=> ?_)
  ·have j:a<c.d.outs.length:=by grind
   have g:=dM j;obtain⟨i,N⟩:=sg j;have L:=z a;have e:=z7 (en:=c.P.aI) j;generalize c.d.outs[a]=l at g i e;rw[l.aA]at g;refine dC [3] W ?_;cases m:l.last with
   |true=>
    rw[m]at g i;simp only[arR]at i;rw[m]at e;simp only[arR]at e;obtain⟨B,v,n,k⟩:=qe c p _ K d.mm (bP c.d.b+aR (c.d.outs.take a)) fr b (by omega) q l.first;have w:=d.trans n;rw[show bP c.d.b+aR (c.d.outs.take a)=bP c.d.b+(iF c.P.aI (c.d.outs.take a)).length by rw[oQ],<-Kp.qa,<-e]at w;rw[l.first.aA]at k;have C:((bP c.d.b+aR (c.d.outs.take a):Nat):Int)+1=((bP c.d.b+aR (c.d.outs.take (a+1)):Nat):Int):=by omega
    refine dO [2,33] W<|Mu (aK W W W (aqe a) g W)<|dR [2,1,2,43] W<|Mu (ap k W W)<|dR [2,45] W<|Mu (ax W W W (by omega)) ?_;rw[C];refine dR [2,46] W<|Mu (ax W W W (by omega))<|dL [] W<|bE (k':=c.d.outs.length-(a+1)) (by omega) ⟨a+1,_,v,rfl,w,by omega,rfl⟩ W W
   |false=>
    rw[m]at g i;simp only[are,arK,arV]at i;rw[m]at e;simp only[are,arK,aqC]at e;rw[<-e]at d;refine dO [2,33] W<|Mu (aK W W W (aqe a) g W)<|dR [2,0,2,46] W<|Mu (ax W W W (by omega))<|dL [] W<|bE (k':=c.d.outs.length-(a+1)) (by omega) ⟨a+1,_,K,rfl,d,by omega,rfl⟩ W (kc W (kc W (kc W (kc (by rw[i];rfl) W))))
  ·refine DC.exit ?_;have j:a=c.d.outs.length:=by grind
   subst j;rw[aqQ]at d;exact⟨_,⟨K,f,d,rfl⟩,cF W W⟩
 rintro u ⟨K,f,d,rfl⟩;obtain⟨B,v,n,k⟩:=x8 c p fr b q c.d.b s 0 (by omega) _ K d.mm;rw[aW.aA]at k;refine dO [2,51] W<|Mu (aw W W d.mm.inst W)<|dR [55] W<|Mu (jV W W d.mm.unit W W)<|dR [58] W<|Mu (ap k W W)<|dL [] W<|⟨_,rfl,d.trans n⟩
end Go.Proofs.Sz
namespace Go.Sm
open Go.Mt
structure pb(P:Pg):Prop where
 e:qd P.aI
 n:P.nodes.length<=1000000
 d: ∀d∈P.nodes,tQ d.b/\d.outs.length<=1000/\bP d.b<=100000000
 i: ∀d∈P.nodes,d.ins.length<=1000/\iC d.b<=1000000
abbrev Bp(P:Pg)(d:Nd)(m p s:M)(sz:Nat):List M:=[.d (.sl (P.aI.map En.cells)),.d (.sl (P.nodes.map Nd.cells))]++HO d++ [m,p,s,dN sz]
theorem Bq{a b:List (Option Int)}{k:Nat} :cd (a++b) k=if k<a.length then cd a k else cd b (k-a.length):=by
 unfold cd;rw[lL];split<;>rfl
theorem CB{l:List (Option Int)}{k:Nat}(h:l.length<=k):cd l k=0:=by unfold cd;rw[aqj h];rfl
theorem HZ(P:Pg)(i:Nat)(d:Nd)(b:P.nodes[i]?=some d):(Kp.fb ⟨λ_=>0,λ_=>false,λ_=>none⟩ (iF P.aI d.outs) (bP d.b) 0 (bW d)).fb (ku P.aI d.b) 0 0 (bW d)=⟨(US.init P i).mem,(US.init P i).cu,(US.init P i).aj⟩:=by
 unfold Kp.fb
 congr 1
 ·funext a
  show lj _ _ _ _ _ a=(match P.nodes[i]? with|some d=>cd (iM P.aI d) a|none=>0);rw[b];simp only;rw[iM,Bq,uG];unfold lj;rw[uG,oQ];have e:bW d=bP d.b+aR d.outs:=rfl;by_cases c:a<bP d.b
  ·grind
  ·rw[aqo (by omega),aqo c];by_cases f:a<bW d
   ·grind
   ·rw[aqo (by omega),CB (by rw[oQ];omega)]
 ·funext a
  show px _ _ _ _ (px _ _ _ _ _) a=false;unfold px;split
  ·rfl
  ·grind
 ·funext a
  show py _ _ _ _ (py _ _ _ _ _) a=none;unfold py;split
  ·rfl
  ·grind
def x9(H:Hp)(n:Nat):M:=if n=0 then .d (.sl [])else .bB H.length 1 0
def x_(H:Hp)(ec n:Nat):Hp:=if n=0 then H else H++ [.row true ec 1 []]
theorem rv{a:Type}(L:List (List a))(i:Nat)(h:i<L.length):(L.take (i+1)).flatten=(L.take i).flatten++L[i]:=by
 rw[aqu h,arW];simp
theorem pL{a:Type}(L:List (List a))(i:Nat):(L.take i).flatten.length<=L.flatten.length:=by
 have:L.flatten=(L.take i).flatten++(L.drop i).flatten:=by rw[<-arW,arw]
 rw[this,aqg];omega
end Go.Sm
namespace Go.Proofs.Sz
open Go.Mt Go.Sm Go.Proofs
theorem Gy(n:Nat)(H:Hp)(c:n<=1000000):CT Tryz.prog 56 [.d (.sl []),.d (.int .i64 n)] H λr h=>r=x9 H n/\h=x_ H 15 n:=by
 refine CT.ob Tryz.func56 W Tryz.ntmps56 W λd e=>tC [2,2] W<|TC.cond W (λb=>by grind) (λb=> ?_)
 refine tO [2,14] W<|EW W W<|tR [17] W<|cC W W W (by simp)<|tR [18] W<|cC W W W (by simp;omega) ?_;rw[show((n:Int)-(0-((List.length ([]:List (List D)):Nat):Int)))=(n:Int) by simp];refine tL [2] W<|TC.cond W (λb=> ?_) (λb=> ?_)
 ·have a:0<n:=by grind
  refine tO [2,23] W<|EW W W<|tR [24] W<|FW W W W<|tR [26] W<|DM (len:=n) W W W W (by rfl) a (by omega) (by omega)<|tR [29] W<|FX true W W W (by exact ary) (by simp) (by simp) ?_;refine tL [2] W<|TC.ret ⟨_,rfl,?_,?_⟩
  ·simp only[x9,aqo (show ¬n=0 by omega)];rfl
  ·simp only[x_,aqo (show ¬n=0 by omega)];simp
 ·refine tC [] W ?_;have a:n=0:=by grind
  refine tC [2] W<|TC.ret ⟨_,rfl,?_,?_⟩
  ·simp only[x9,aqy a];rfl
  ·simp only[x_,aqy a]
theorem CC(L:List (List (List D)))(j: ∀l∈L,∀r∈l,r.length=15)(s:L.length<=1000)(o:L.flatten.length<=1000000):
  PT Tryz.prog 41 [.sl (L.map λl=>[D.sl l])] (·= [.sl L.flatten]):=by
 refine MP (CT.ob Tryz.func41 W Tryz.ntmps41 W λt u=> ?_);refine tO [2,2,2,14] W<|bH W W W ?_;rw[aqE];refine tL [3] W<|TC.lp (λb c=> ∃(i:Nat),c=⟨[nI 11 i,nI 10 (L.length:Nat),nD 9 (.sl (L.map λl=>[D.sl l])),nI 3 ((L.take i).flatten.length:Nat),nD 0 (.sl (L.map λl=>[D.sl l]))],[],[]⟩/\i<=L.length/\b=L.length-i) L.length _
  ⟨0,rfl,by omega,rfl⟩ W ?_
 rintro b c ⟨i,rfl,k,rfl⟩;have v:=pL L i;refine tC [2] W<|TC.cond W (λa=> ?_) (λa=> ?_)
 ·have d:i<L.length:=by have:=aqv a;omega
  have f:=rv L i d;have h:=pL L (i+1);rw[f,aqg]at h;refine tO [3,2,17] W<|aK W W W (aqe i) (r:=[.sl L[i]]) (by simp[d]) W<|tR [2,22] W<|ax W W W (by omega)<|tL [2] W<|TC.cond W (λa=>by have:=aqv a;omega) (λa=> ?_);refine tO [2,26] W<|ax W W W (by omega)<|tL [] W<|again (k':=L.length-(i+1)) (by omega) ⟨i+1,rfl,by omega,rfl⟩ W (kc W (kc W (kc W (kc (by rw[f,aqg,Int.natCast_add];rfl) W))))
 refine TC.exit ?_;obtain rfl:i=L.length:=by have:=aqA a;omega
 rw[aqQ];refine tO [2,28] W<|xg (Gy L.flatten.length [] o) W W ?_;rintro _ _ ⟨rfl,rfl⟩;refine tR [2,30] W<|bH W W W ?_;rw[aqE];refine tL [3] W ?_;by_cases e:L.flatten.length=0
 ·rw[x9,x_,aqy e,aqy e];refine TC.lp (λb c=> ∃(i:Nat),c=⟨[nI 27 i,nI 26 (L.length:Nat),nD 25 (.sl (L.map λl=>[D.sl l])),nD 6 (.sl [])],[],[]⟩/\i<=L.length/\b=L.length-i) L.length _
   ⟨0,rfl,by omega,rfl⟩ W ?_
  rintro b c ⟨i,rfl,k,rfl⟩;refine tC [2] W<|TC.cond W (λa=> ?_) (λa=> ?_)
  ·have d:i<L.length:=by have:=aqv a;omega
   have w:L[i]= []:=by
    have g:=aq4 e;rw[List.flatten_eq_nil_iff]at g;exact g _ (aqz d)
   refine tO [3,2,33] W<|aK W W W (aqe i) (r:=[.sl []]) (by simp_all) W<|tR [2,37] W<|pg W W W<|tR [2,38] W<|ax W W W (by omega)<|tL [] W<|again (k':=L.length-(i+1)) (by omega) ⟨i+1,rfl,by omega,rfl⟩ W W
  refine TC.exit<|tC [2] W<|TC.ret ⟨_,rfl,[_],rfl,by rw[aq4 e]⟩
 ·rw[x9,x_,aqo e,aqo e];refine TC.lp (λb c=> ∃(i:Nat),c=⟨[nI 27 i,nI 26 (L.length:Nat),nD 25 (.sl (L.map λl=>[D.sl l])),nM 6 (.bB 0 (i+1) (L.take i).flatten.length)],[],[.row true 15 (i+1) (aX (L.take i).flatten)]⟩/\i<=L.length/\b=L.length-i) L.length _
   ⟨0,rfl,by omega,rfl⟩ W ?_
  rintro b c ⟨i,rfl,k,rfl⟩;refine tC [2] W<|TC.cond W (λa=> ?_) (λa=> ?_)
  ·have d:i<L.length:=by have:=aqv a;omega
   have f:=rv L i d;have h:=pL L (i+1);rw[f,aqg]at h;refine tO [3,2,33] W<|aK W W W (aqe i) (r:=[.sl L[i]]) (by simp[d]) W<|tR [2,37] W<|fC W W W W (by rfl) (by exact j _ (aqz d)) (by omega) (by omega)<|tR [2,38] W<|ax W W W (by omega)<|tL [] W<|again (k':=L.length-(i+1)) (by omega) ⟨i+1,rfl,by omega,rfl⟩ (by rw[f];simp[aX]) (kc W (kc W (kc W (kc (by rw[f,aqg];rfl) W))))
  refine TC.exit ?_;obtain rfl:i=L.length:=by have:=aqA a;omega
  rw[aqQ];refine tC [2] W<|TC.b9 2 W (Acc.view (n:=15) (i:=0) (rs:=L.flatten) (.inr ⟨by intro m;rw[m]at e;exact e W,_,rfl,rfl⟩) (by intro r p;obtain⟨l,g,q⟩:=List.mem_flatten.1 p;exact j l g r q))<|TC.ret ⟨_,rfl,[_],rfl,rfl⟩
theorem qS(a:Nat)(z:D):d_ 1 a [z]=bz a λ_=> .d z:=by
 unfold d_ bz;rw[Nat.mul_one];simp[Nat.mod_one]
theorem z9(P:Pg)(p:pb P)(x:Nm)(i:Nat)(J:lK P.nodes x=some i)(d:Nd)(m:P.nodes[i]?=some d)(H:Hp):
  DT Tryz.prog 26 [.d (.agg P.cells),.d (.str x)] H λr K=> ∃iu F,r= .ref iu 0/\iq P 1 (US.init P i) iu F K/\(∀a,F a->H.length<=a)/\H.length<=K.length/\ ∀j:Nat,j<H.length->K[j]?=H[j]?:=by
 have v:=uI P x p.n;rw[J]at v;have e:(P.nodes.map Nd.cells)[((i:Nat):Int).toNat]?=some d.cells:=by simp[m]
 obtain⟨w,ho,Ok⟩:=p.d d (aqk m);have y:=kY d.b w (by omega);unfold Nd.cells at e;rw[aW.aA]at y;have z: ∀i,aR (d.outs.take i)<=1000:= λi=>by
  have h1:=lm d.outs i;have h2:aR d.outs<=d.outs.length:=arM _ _;omega
 refine DT.ob Tryz.func26 W Tryz.ntmps26 W<|dC [2] W ?_;apply Mz bT
 ·intro L N;refine fR 5 W<|aS v W W<|bK W W W (aqe i) e W<|fR 2 W<|AZ W W W<|fR 1 W<|TF.nil ⟨by kernel_rfl,rfl⟩
 refine dO [2,28] W<|Mu (jV W W ary W W) ?_;refine dR [29] W<|Mu (aJ y W W)<|dR [999] W<|Mu (bX W W ary W W W) ?_;refine dL [] W<|MG [nR 5 H.length] (H++ [Ob.box (Bp P d (.d (.sl [])) (.d (.sl [])) (.d (.sl [])) (bP d.b))]) W (by rw[arq _ _ (aqd _),asr];rfl) ?_;have A:=CC [aC d.outs] (by intro Z t;simp at t;subst t;exact cc _) (by simp) (by simp[bw];omega);have O:([aC d.outs].flatten)=aC d.outs:=by simp
 rw[O]at A;refine dO [2,36] W<|Mu (aw W W ary W) ?_;refine dR [38] W<|Mu (aJ A W W)<|dR [39] W<|Mu (bH W W W) ?_;rw[bw];refine dL [] W<|MG [nN 36 0,nN 35 d.outs.length,nD 34 (.sl (aC d.outs)),nR 5 H.length] (H++ [Ob.box (Bp P d (.d (.sl [])) (.d (.sl [])) (.d (.sl [])) (bP d.b+aR (d.outs.take 0)))]) W W<|dC [] W<|Ny (λB=> ∃g,B=⟨[nR 5 H.length],g,H++ [Ob.box (Bp P d (.d (.sl [])) (.d (.sl [])) (.d (.sl [])) (bP d.b+aR d.outs))]⟩) ?_ ?_
 ·refine dC [3] W<|DC.lp (λo I=> ∃(i:Nat) (g:List (Nat×List M)),I=⟨[nN 36 i,nN 35 d.outs.length,nD 34 (.sl (aC d.outs)),nR 5 H.length],g,H++ [Ob.box (Bp P d (.d (.sl [])) (.d (.sl [])) (.d (.sl [])) (bP d.b+aR (d.outs.take i)))]⟩/\i<=d.outs.length/\o=d.outs.length-i) d.outs.length _
   ⟨0,_,rfl,by omega,rfl⟩ W ?_
  rintro o s1 ⟨i,g,rfl,hi,rfl⟩;refine dC [2] W<|DC.cond W (λb=> ?_) (λb=> ?_)
  ·have n:i<d.outs.length:=by have:=aqv b;omega
   have e:=dM n;obtain⟨h,ac⟩:=sg n;have Qu:=z i;generalize d.outs[i]=u at e h;rw[u.aA]at e;refine dC [3] W ?_;cases C:u.last with
   |true=>
    rw[C]at e h;simp only[arR]at h;have Q:((bP d.b+aR (d.outs.take i):Nat):Int)+1=((bP d.b+aR (d.outs.take (i+1)):Nat):Int):=by omega
    refine dO [2,42] W<|Mu (aK W W W (aqe i) e W)<|dR [2,1,2,49] W<|Mu (aw W W ary W) ?_;refine dR [50] W<|Mu (ax W W W (by omega)) ?_;rw[Q];refine dR [999] W<|Mu (bX W W ary W W W) ?_;refine dR [2,53] W<|Mu (ax W W W (by omega))<|dL [] W<|bE (k':=d.outs.length-(i+1)) (by omega) ⟨i+1,_,rfl,by omega,rfl⟩ (by rw[arq _ _ (aqd _),asr];rfl) W
   |false=>
    rw[C]at e h;simp only[are,arK,arV]at h;refine dO [2,42] W<|Mu (aK W W W (aqe i) e W)<|dR [2,0,2,53] W<|Mu (ax W W W (by omega))<|dL [] W<|bE (k':=d.outs.length-(i+1)) (by omega) ⟨i+1,_,rfl,by omega,rfl⟩ (by rw[h]) W
  ·refine DC.exit ?_;have n:i=d.outs.length:=by have:=aqA b;omega
   subst n;rw[aqQ];exact⟨_,⟨g,rfl⟩,cF W W⟩
 rintro B ⟨g,rfl⟩;have s:bP d.b+aR d.outs<=1000000000:=by have:=z d.outs.length;rw[aqQ]at this;omega
 have Y:bP d.b+aR d.outs=bW d:=rfl;rw[Y]at s⊢;generalize R:bW d=sz at s;refine dC [] W ?_;apply DC.KL H.length 4 3 W (by simp)
 ·intro L N;rw[aqD];refine p8 W W W<|p8 W W W<|p8 W W W<|p8 W W W<|jX W W W W<|mh W W W<|tK (i:=0) W W W W W<|pH 1 W (by decide) W W W W W (by omega) (by omega) W<|p8 W W W<|jX W W W W<|mh W W W<|tK (i:=0) W W W W W<|pH 2 W (by decide) W W W W W (by omega) (by omega) W<|p8 W W W<|jX W W W W<|mh W W W<|tK (i:=0) W W W W W<|pH 3 W (by decide) W W W W W (by omega) (by omega) W<|jX W W W W<|mh W W W<|tM 0 W (by decide) W W W W W W<|jX W W W W<|mh W W W<|tM 0 W (by decide) W W W W W W<|jX W W W W<|mh W W W<|tM 0 W (by decide) W W W W W W<|TG.nil ⟨by kernel_rfl,rfl⟩
 subst R;obtain⟨c,b⟩: ∃c:Mc,c=⟨H.length+4,H.length,H.length+1,H.length+2,H.length+3,P,d,λ_=>0,.d .bQ,.d (.bool false),.d (.sl []),.d (.sl [])⟩:=⟨_,rfl⟩
 let k:Kp:=⟨λ_=>0,λ_=>false,λ_=>none⟩
 let l:List Ob:=[Ob.box (oP P d (H.length+1) (H.length+2) (H.length+3)),Ob.row false 1 0 (bz (bW d) (io k.m)),Ob.row false 1 0 (bz (bW d) (ju k.p)),Ob.row false 1 0 (bz (bW d) (eG k.s λ_=>0))]
 refine MG [nR 5 H.length] (H++l) W (by show _=H++ [_,Ob.row false 1 0 (bz (bW d) λ_=> .d (.int .i32 0)),Ob.row false 1 0 (bz (bW d) λ_=> .d (.bool false)),Ob.row false 1 0 (bz (bW d) λ_=> .d .bQ)];rw[<-qS,<-qS,<-qS];rfl)<|dO [2,79] W<|Mu (jT W W W W W)<|dR [80] W<|Mu (cA W W W)<|dL [] W ?_;have D:MM c k (H++(l++ [Ob.box (D1 c)])):=by
  subst b;exact⟨mR (i:=4) W,mR (i:=0) W,mR (i:=1) W,mR (i:=2) W,mR (i:=3) W,by simp,by simp,by simp,by simp,by simp,s⟩
 obtain⟨r2,E,q,S⟩:=z8 c (by subst b;exact p.e) 0 (bW d) (by subst b;exact aqd _) (by subst b;exact w) (by subst b;show d.outs.length<=_;omega) (by subst b;show bP d.b<=_;omega) k _ D;refine MG [nR 8 c.it,nR 5 c.iu] (H++(l++ [Ob.box (D1 c)])) (kc (by subst b;simp[l];rfl) (kc (by subst b;rfl) W)) (by subst b;simp)<|dO [2,85] W<|Mu (aw W W D.unit (by subst b;rfl))<|dR [86] W<|Mu (ap S W W)<|dL [2] W ?_;have G:H.length+5<=E.length:=by have:=q.len;simp[l]at this;omega
 refine DC.ret ⟨_,rfl,c.iu,λa=>a=H.length\/a=H.length+1\/a=H.length+2\/a=H.length+3,rfl,?_,by intro a T;omega,aq1 (arT _ 5) G,?_⟩
 ·have U:=HZ P i d m;have f:=q.mm;rw[show c.P=P by rw[b],show c.d=d by rw[b]]at f;change MM c ((k.fb (iF P.aI d.outs) (bP d.b) 0 (bW d)).fb (ku P.aI d.b) 0 0 (bW d)) E at f;rw[U]at f;subst b;refine⟨d,λa=>if a=H.length then some .un else if a=H.length+1 then some .me else if a=H.length+2 then some .pe else if a=H.length+3 then some .su else none,H.length+1,H.length+2,H.length+3,λ_=>0,m,?_,?_,⟨by simp,by simp,by simp,by simp⟩,f.unit,f.mem,f.cu,f.aj,?_⟩
  ·intro a;simp only[];split
   ·simp;omega
   ·split
    ·simp;omega
    ·split
     ·simp;omega
     ·split
      ·simp;omega
      ·simp;omega
  ·intro a T;exact ard (by omega) G
  ·intro o hk u' V;cases V
 ·intro j X;rw[q.gU j (by simp;omega) (by rw[b];show j≠H.length+1;omega) (by rw[b];show j≠H.length+2;omega) (by rw[b];show j≠H.length+3;omega),aqf X]
inductive Ro where
 |it|un|me|pe|su|nx|af
 |fr (J:Path)|am (J:Path)|tk (J:Path)|cr (J:Path)|er (J:Path)
 |ce (J:Path) (k:Nat)|pl (J:Path) (j:Nat)
 |sb (k:Nat)
 deriving DecidableEq
inductive NI where
 |cell (told:Bool) (σ:Path×Nat)
 |aL (J:Path) (j:Nat)
 |arrow (own:Nat)
 |put (own:Nat) (v:Int)
structure AI where
 J:Path
 e:Xp
 a:Nat
 own:Nat
 v:Int
 w:List (Nat×Int)
structure aq where
 A:Ro->Nat
 own:Nat->Option Ro
 cs:Path->Nat->Nat
 fs:Path->Nat
 dn:Path->Nat->Bool
 lv:Path->Nat->Bool
 N:List (NI×M)
 F:List (AI×M)
 fi:Nat
 vN:Nat
 vF:Nat
 vc:Path->Nat
 ve:Path->Nat
 x:Kp
 ad:Nat->Nat
 ph:Nat->Int->Prop
section
variable(P:Pg)(n:Nat)(c:aH)(d:Nd)(u:US)
def aq.live(X:aq):Ro->Prop
 | .it=>True| .un=>True| .me=>True| .pe=>True| .su=>True
 | .nx=>X.N≠ []| .af=>X.F≠ []
 | .fr J=>1<=X.fs J| .am J=>1<=X.fs J| .tk J=>1<=X.fs J
 | .cr J=>X.fs J=2/\(c.fr J).vars≠ []| .er J=>X.fs J=2/\(c.fr J).au≠ []
 | .ce J k=>X.fs J=2/\k<(c.fr J).vars.length| .pl J j=>X.fs J=2/\j<(c.fr J).au.length
 | .sb _=>False
def bG(i v len:Nat):M:=if len=0 then .d (.sl [])else .bB i v len
abbrev Mi(v:Va):List M:=[.d (.str v.name),.d (.int .u8 v.tk),.d (.str v.tn),.d (.sl (rX v.clock)),.d (.bool v.last),.d (.int .u8 v.first.kd),.d (.int .u8 v.first.op),.d (.int .i32 v.first.num),.d (.str v.first.nm),.d (.sl (dq v.first.names)),.d (.sl (v.first.kids.map Xp.cells)),.d (.int .i64 v.first.ps.1),.d (.int .i64 v.first.ps.2),.d (.int .i64 v.ps.1),.d (.int .i64 v.ps.2)]
def Mj(o:Option Nat):Int:=match o with
 |some p=>(p:Int)
 |none=> -1
abbrev cV(v:Va)(lp:Option Nat)(eq:M)(b:Nat)(st n:Int):List M:=Mi v++ [.d (.int .i64 (Mj lp)),eq,.ref b 0,.d (.int .u8 st),.d (.int .i32 n)]
abbrev Ml(e:Xp):List M:=[.d (.int .u8 e.kd),.d (.int .u8 e.op),.d (.int .i32 e.num),.d (.str e.nm),.d (.sl (dq e.names)),.d (.sl (e.kids.map Xp.cells)),.d (.int .i64 e.ps.1),.d (.int .i64 e.ps.2)]
abbrev dr(q:ay)(p:Nat):List M:=[.d (.int .u8 q.kd),.d (.sl (dq q.lhs)),.d (.str q.f),.d (.sl (q.args.map Xp.cells)),.d (.bool q.has)]++Ml q.ex++ [.d (.sl (q.ah.map aY.cells)),.d (.int .i64 q.ps.1),.d (.int .i64 q.ps.2),.d (.int .i64 (p:Int))]
def aq.up(X:aq):Path->M
 | []=> .d .bQ
 |_::J=> .ref (X.A (.fr J)) 0
def mW(s:Nat):Int:=if s=4 then 2 else if s=5 then 0 else if s=6 then 1 else(s:Int)
def zB(s:Nat):Bool:=s==2||decide (4<=s)
def aq.nz(X:aq)(J:Path)(j:Nat):Option M:=if X.fs (j::J)≠0 then some (.ref (X.A (.fr (j::J))) 0)else if X.dn J j=true/\X.cs (j::J) 0=3 then some (.ref (X.A (.fr J)) 0)else none
def aq.dK(X:aq):Ro->Ob->Prop
 | .it,ob=>ob= .box [.ref (X.A .un) 0,.ref (X.A (.fr [])) 0,.d (.bool false),bG (X.A .af) X.vF X.F.length,bG (X.A .nx) X.vN X.N.length]
 | .un,ob=>ob= .box (oP P d (X.A .me) (X.A .pe) (X.A .su))
 | .me,ob=>ob= .row false 1 0 (bz (bW d) (io X.x.m))
 | .pe,ob=>ob= .row false 1 0 (bz (bW d) (ju X.x.p))
 | .su,ob=>ob= .row false 1 0 (bz (bW d) (eG X.x.s X.ad))
 | .nx,ob=>ob= .row true 1 X.vN (X.N.map (·.2))
 | .af,ob=>ob= .row true 1 X.vF (X.F.map (·.2))
 | .fr J,ob=>ob= .box [X.up J,if X.fs J=2 then bG (X.A (.cr J)) (X.vc J) (c.fr J).vars.length else .d (.sl []),if X.fs J=2 then bG (X.A (.er J)) (X.ve J) (c.fr J).au.length else .d (.sl []),.mp (X.A (.am J)),.mp (X.A (.tk J))]
 | .am J,ob=> ∃es,ob= .map es/\gm es=true/\(X.fs J=2-> ∀j,j<(c.fr J).au.length->gv (X.A (.pl J j)) 0 es=X.nz J j)/\(X.fs J=1->es= [])
 | .tk J,ob=> ∃es,ob= .map es/\gm es=true/\(X.fs J=2-> ∀j,X.fs (j::J)=2->gv (X.A (.pl J j)) 0 es=some (dN (c.bN J j)))
 | .cr J,ob=>ob= .row true 1 (X.vc J) ((List.range (c.fr J).vars.length).map λk=> .ref (X.A (.ce J k)) 0)
 | .er J,ob=>ob= .row true 1 (X.ve J) ((List.range (c.fr J).au.length).map λk=> .ref (X.A (.pl J k)) 0)
 | .ce J k,ob=> ∃v lp eq z,(c.fr J).vars[k]?=some v/\(c.fr J).db[k]?=some lp/\ob= .box (cV v lp eq (X.A (.fr J)) (mW (X.cs J k)) z)/\z=(if zB (X.cs J k)then c.get (J,k)else 0)/\ ∀j,jB (c.fr J) k v j->eq= .ref (X.A (.pl J j)) 0
 | .pl J j,ob=> ∃q p,(c.fr J).au[j]?=some q/\(c.fr J).pos[j]?=some p/\ob= .box (dr q p)
 | .sb _,_=>True
def aq.box(X:aq)(H:Hp)(b:Nat)(m:M):Prop:=X.own b=none/\H[b]?=some (.box [m])
def aq.rZ(X:aq)(H:Hp)(m:M)(J:Path)(e:Xp)(a:Nat):Prop:=X.live c (.fr J)/\ ∃b4 b5,m= .fn 120 [.d (.aZ [.int .i64 (a:Int)] 0),.d (.aZ e.cells 0),.ref b4 0,.ref b5 0]/\X.box H b4 (.ref (X.A .it) 0)/\X.box H b5 (.ref (X.A (.fr J)) 0)
def aq.ry(X:aq)(H:Hp)(m:M):NI->Prop
 | .cell told σ=>X.live c (.ce σ.1 σ.2)/\ ∃bc bt,m= .fn (if told then 127 else 67) [.ref bc 0,.ref bt 0]/\X.box H bc (.ref (X.A (.ce σ.1 σ.2)) 0)/\X.box H bt (.ref (X.A .it) 0)
 | .aL J j=>X.live c (.pl J j)/\ ∃b4 b6,m= .fn 95 [.d (.aZ [iN (c.pJ J j)] 0),.d (.aZ [.bool (c.nan J j)] 0),.ref b4 0,.ref b6 0]/\X.box H b4 (.ref (X.A .it) 0)/\X.box H b6 (.ref (X.A (.pl J j)) 0)
 | .arrow own=> ∃b4,m= .fn 125 [.ref b4 0,.d (.aZ [.int .i64 (own:Int)] 0)]/\X.box H b4 (.ref (X.A .it) 0)
 | .put own v=> ∃bt,m= .fn 143 [.d (.aZ [.int .i32 v] 0),.ref bt 0,.d (.aZ [.int .i64 (own:Int)] 0)]/\X.box H bt (.ref (X.A .it) 0)
def aq.ya(X:aq)(H:Hp)(m:M)(ai:AI):Prop:= ∃bn bt bk km e i a0,m= .fn 142 [.ref bn 0,.ref bt 0,.d (.aZ [.int .i64 (ai.own:Int)] 0)]/\X.box H bn (.fn 124 [.ref bk 0,.d (.aZ [iN i] 0)])/\X.box H bk km/\X.box H bt (.ref (X.A .it) 0)
 /\X.rZ c H km ai.J e a0/\je e/\e.kids[i]?=some ai.e/\e.kids.length=i+1/\ai.a=a0+aP ((e.kids.take i).map xP)
structure cx(X:aq)(H:Hp):Prop where
 own: ∀r,X.live c r->X.own (X.A r)=some r
 lt: ∀a r,X.own a=some r->a<H.length
 ob: ∀r,X.live c r-> ∃ob,H[X.A r]?=some ob/\X.dK P c d r ob
 sub: ∀k,k<bW d-> ∀u',X.x.s k=some u'->iq P n u' (X.ad k) (λa=>X.own a=some (.sb k)) H
 nx: ∀p∈X.N,X.ry c H p.2 p.1
 af: ∀p∈X.F,X.ya c H p.2 p.1
end
def wC(c:aH)(J:Path)(k:Nat):Prop:= ∀j σ q p a,c.ok (j::σ)->(c.fr σ).au[j]?=some q->(c.fr σ).pos[j]?=some p->(q.kd=3\/q.kd=4\/q.kd=5)->q.ah[c.bN σ j]?=some a->dx q p (c.bN σ j)<=k->k<dx q p (c.bN σ j)+bP a.cp-> ∃τ,J=τ++(j::σ)
section
variable(P:Pg)(n:Nat)(c:aH)(d:Nd)(u:US)
def NI.wr:NI->Nat->Int->Prop
 | .cell _ σ,k,v=>(c.fr σ.1).db[σ.2]?=some (some k)/\c.val σ.1 σ.2=some v
 | .aL J j,k,v=>(c.fr J).pos[j]?=some k/\v=(c.pJ J j:Int)
 | .arrow own,k,v=>k=own/\v=0
 | .put own z,k,v=>k=own/\v=z
def aq.S(X:aq)(k:Nat)(v:Int):Prop:=(∃p∈X.N,NI.wr c p.1 k v)\/ ∃i p,X.fi<=i/\X.F[i]?=some p/\((k,v)=(p.1.own,p.1.v)\/(k,v)∈p.1.w)
def aq.SS(X:aq)(k:Nat)(v:Int):Prop:=X.S c k v\/X.ph k v
def aq.ER(X:aq)(k:Nat):Prop:= ∃J j q p a,X.fs (j::J)=2/\(c.fr J).au[j]?=some q/\(c.fr J).pos[j]?=some p/\(q.kd=3\/q.kd=4\/q.kd=5)/\c.mU J j=true/\q.ah[c.bN J j]?=some a/\dx q p (c.bN J j)<=k/\k<dx q p (c.bN J j)+bP a.cp
def aq.DC(X:aq)(k:Nat)(J:Path)(j:Nat):Prop:=X.fs J=2/\X.dn J j=true/\ ∃q,(c.fr J).au[j]?=some q/\q.kd=2/\(c.fr J).pos[j]?=some k
def NI.ok(X:aq):NI->Prop
 | .cell _ σ=>X.fs σ.1=2/\σ.2<(c.fr σ.1).vars.length/\zB (X.cs σ.1 σ.2)=true/\(∃k,k<bW d/\(c.fr σ.1).db[σ.2]?=some (some k))/\(σ.1= []->d.ins.length<=σ.2)
 | .aL J j=>X.fs (j::J)=2/\ ∃q p,(c.fr J).au[j]?=some q/\q.kd=4/\(c.fr J).pos[j]?=some p/\p<bW d
 | .arrow own=>own<bW d/\nU c own 0
 | .put own v=>own<bW d/\nU c own v
structure AI.ok(X:aq)(ai:AI):Prop where
 ev:gT P.aI c ai.J c.eV ai.e ai.a ai.v ai.w
 fs:X.fs ai.J=2
 lt:ai.own<bW d
 wr:nU c ai.own ai.v/\ ∀p∈ai.w,nU c p.1 p.2
 sm:je ai.e
 own: ∀k,ai.a<=k->k<ai.a+xP ai.e->wC c ai.J k
 sz:ai.a+xP ai.e<=1000000000
structure Pu(X:aq):Prop where
 f0:X.fs []=2
 fp: ∀j J,X.fs (j::J)≠0->X.fs J=2/\c.ok (j::J)
 f2: ∀J,X.fs J<=2
 c6: ∀J k,X.cs J k<=6
 ci: ∀k,k<d.ins.length->X.cs [] k=2
 cv: ∀J k,zB (X.cs J k)=true->(c.val J k).isSome=true
 ca: ∀J k,X.cs J k=3->c.val J k=none
 xm: ∀k,k<bW d->(X.ER c k->X.x.m k=cd (iM P.aI d) k)/\(¬X.ER c k->X.x.m k=u.mem k)
 xp: ∀k,k<bW d->(X.ER c k->(iM P.aI d)[k]?=some none->X.x.p k=false)/\(¬(X.ER c k/\(iM P.aI d)[k]?=some none)->X.x.p k=u.cu k)
 xd: ∀k,k<bW d-> ∀J j,X.DC c k J j->X.x.s k=some (c.ln J j)
 xs: ∀k,k<bW d->(∀J j,¬X.DC c k J j)->(X.ER c k->(iM P.aI d)[k]?=some none->X.x.s k=none)/\(¬(X.ER c k/\(iM P.aI d)[k]?=some none)->X.x.s k=u.aj k)
 s1: ∀J k p v,X.fs J=2->X.cs J k=2->(J= []->d.ins.length<=k)->(c.fr J).db[k]?=some (some p)->c.val J k=some v->X.SS c p v
 s2: ∀(σ:Path×Nat) j0 v ML j' q,X.fs σ.1=2->(X.cs σ.1 σ.2=2\/X.cs σ.1 σ.2=4)->(σ.1= []->d.ins.length<=σ.2)->(c.fr σ.1).vars[σ.2]?=some v->jB (c.fr σ.1) σ.2 v j0->Src c (c.sb σ.1 σ.2) σ.1 j0 v.name (some (ML,j'))->(c.fr ML).au[j']?=some q->X.fs ML=2/\(q.kd=1-> ∀w∈c.ew ML j',X.SS c w.1 w.2)/\(q.kd=2->X.dn ML j'=true)
 s3: ∀J j,X.fs J=2->X.dn J j=true->(∃q,(c.fr J).au[j]?=some q/\q.kd=2/\c.nu J q)/\ ∀w∈c.ew J j,X.SS c w.1 w.2
 s4: ∀J j,X.fs (j::J)=2-> ∀w∈c.ew J j,X.SS c w.1 w.2
 s5: ∀J j,X.lv J j=true-> ∃p∈X.N,p.1=NI.aL J j
 dl: ∀J j q,X.fs J=2->X.dn J j=true->X.cs (j::J) 0=3->(c.fr J).au[j]?=some q-> ∀x∈q.lhs,∀σ,c.find J x=some σ->X.cs σ.1 σ.2=2\/X.cs σ.1 σ.2=4
 nk: ∀p∈X.N,NI.ok c d X p.1
 fk: ∀p∈X.F,AI.ok P c d X p.1
 fl:X.fi<=X.F.length
 fn:X.fi<=X.N.length+1
 g0: ∀J j q,(c.fr J).au[j]?=some q->q.kd=2->(X.cs (j::J) 0=0/\X.dn J j=false)\/X.cs (j::J) 0=1\/(X.cs (j::J) 0=3/\X.dn J j=true)
 dz: ∀J j,X.dn J j=true->X.fs J=2
 cz: ∀J k,X.cs J k≠0->X.fs J=2\/(k=0/\ ∃j σ q,J=j::σ/\(c.fr σ).au[j]?=some q/\q.kd=2)
def aq.cu(X:aq):It->Bool
 | .cell J k=>X.cs J k==0
 | .call J j=> !X.dn J j&&X.cs (j::J) 0==0
 | .bN J j=>X.fs (j::J)==0
 | .lv J j=> !X.lv J j
def aq.T(X:aq):Nat:=X.N.length+aP ((X.F.drop X.fi).map λp=>1+p.1.w.length)+aP (c.an.map λi=>if X.cu i then c.wt i else 0)
structure k7(X:aq)(r:Nat):Prop where
 c1: ∀J k,X.cs J k=1->r<=c.sb J k
 f1: ∀j J,X.fs (j::J)=1->r<=c.ek J j
 c4: ∀J k,X.cs J k<=3
 tp:r<=c.eV
structure a_(E:Path×Nat->Prop)(X:aq)(H:Hp)(Y:aq)(K:Hp):Prop where
 c0: ∀J k,Y.cs J k=0->X.cs J k=0
 f0: ∀J,Y.fs J=0->X.fs J=0
 len:H.length<=K.length
 gU: ∀a,a<H.length->X.own a=none->Y.own a=none/\K[a]?=H[a]?
 A: ∀r,X.live c r->Y.live c r/\Y.A r=X.A r
 aG: ∀J,X.fs J=2->Y.vc J=X.vc J/\Y.ve J=X.ve J
 f2: ∀J,X.fs J=2->Y.fs J=2
 f1: ∀J,X.fs J=1↔Y.fs J=1
 c1: ∀J k,¬E (J,k)->(X.cs J k=1↔Y.cs J k=1)
 c2: ∀J k,X.cs J k=2->Y.cs J k=2
 c3: ∀J k,X.cs J k=3->Y.cs J k=3
 c4: ∀J k s,¬E (J,k)->4<=s->(X.cs J k=s↔Y.cs J k=s)
 dn: ∀J j,X.dn J j=true->Y.dn J j=true
 qT: ∀J j,¬E (j::J,0)->X.cs (j::J) 0=1->Y.dn J j=X.dn J j
 lv:Y.lv=X.lv
 S: ∀k v,X.S c k v->Y.S c k v
 fi:Y.fi=X.fi
 ph:Y.ph=X.ph
 F: ∃l,Y.F=X.F++l
end
section
variable{P:Pg}{n:Nat}{c:aH}{d:Nd}{X Y:aq}{H K:Hp}
theorem aq.box.up{b:Nat}{m:M}(h:X.box H b m)(g: ∀a,a<H.length->X.own a=none->Y.own a=none/\K[a]?=H[a]?):Y.box K b m:=by
 obtain⟨d,c⟩:=h;obtain⟨e,f⟩:=g b (lr c) d;exact⟨e,f.trans c⟩
theorem aq.rZ.up{m:M}{J:Path}{e:Xp}{a:Nat}(h:X.rZ c H m J e a)(g: ∀a,a<H.length->X.own a=none->Y.own a=none/\K[a]?=H[a]?)(A: ∀b,X.live c b->Y.live c b/\Y.A b=X.A b):Y.rZ c K m J e a:=by
 obtain⟨d,f,i,j,k,l⟩:=h;refine⟨(A _ d).1,f,i,j,?_,?_⟩
 ·rw[(A .it trivial).2];exact k.up g
 ·rw[(A _ d).2];exact l.up g
theorem aq.ry.up{m:M}{k:NI}(h:X.ry c H m k)(g: ∀e,e<H.length->X.own e=none->Y.own e=none/\K[e]?=H[e]?)(A: ∀i,X.live c i->Y.live c i/\Y.A i=X.A i):Y.ry c K m k:=by
 have j:=(A .it trivial).2;cases k with
 |cell s p=>
  obtain⟨f,b,l,a,d,n⟩:=h;exact⟨(A _ f).1,b,l,a,by rw[(A _ f).2];exact d.up g,by rw[j];exact n.up g⟩
 |aL q r=>
  obtain⟨f,b,l,a,d,n⟩:=h;exact⟨(A _ f).1,b,l,a,by rw[j];exact d.up g,by rw[(A _ f).2];exact n.up g⟩
 |arrow o=>
  obtain⟨b,a,d⟩:=h;exact⟨b,a,by rw[j];exact d.up g⟩
 |put o v=>
  obtain⟨b,a,d⟩:=h;exact⟨b,a,by rw[j];exact d.up g⟩
theorem aq.ya.up{m:M}{ai:AI}(h:X.ya c H m ai)(g: ∀a,a<H.length->X.own a=none->Y.own a=none/\K[a]?=H[a]?)(A: ∀b,X.live c b->Y.live c b/\Y.A b=X.A b):Y.ya c K m ai:=by
 obtain⟨f,i,j,k,e,d,l,n,o,p,q,r,s⟩:=h;exact⟨f,i,j,k,e,d,l,n,o.up g,p.up g,by rw[(A .it trivial).2];exact q.up g,r.up g A,s⟩
theorem cx.zh(h:cx P n c d X H)(W:Ro->Prop)(len:H.length<=K.length)
  (g: ∀b,b<H.length->X.own b=none->Y.own b=none/\K[b]?=H[b]?)
  (s: ∀b i,X.own b=some (.sb i)->K[b]?=H[b]?) (o: ∀b i,Y.own b=some (.sb i)↔X.own b=some (.sb i))
  (es:Y.x.s=X.x.s) (p:Y.ad=X.ad) (lt: ∀b a,Y.own b=some a->b<K.length)
  (A: ∀a,X.live c a->Y.live c a/\Y.A a=X.A a)
  (q: ∀a,Y.live c a-> ¬W a->X.live c a/\Y.own (X.A a)=some a/\K[X.A a]?=H[X.A a]?/\ ∀j,X.dK P c d a j->Y.dK P c d a j)
  (B: ∀a,Y.live c a->W a->Y.own (Y.A a)=some a/\ ∃j,K[Y.A a]?=some j/\Y.dK P c d a j)
  (nx: ∀e∈Y.N,e∈X.N\/Y.ry c K e.2 e.1) (af: ∀e∈Y.F,e∈X.F\/Y.ya c K e.2 e.1):cx P n c d Y K:=by
 refine⟨λa l=> ?_,lt,λa l=> ?_,λi r t m=> ?_,λe k=> ?_,λe k=> ?_⟩
 ·grind
 ·by_cases u:W a
  ·grind
  ·obtain⟨f,_,y,v⟩:=q a l u;obtain⟨j,z,w⟩:=h.ob a f;exact⟨j,by grind,v j w⟩
 ·rw[es]at m;rw[p];exact((h.sub i r t m).frame (λb x=>s b i x) len).congr λb=>(o b i).symm
 ·rcases nx e k with f|f
  ·exact(h.nx e f).up g A
  ·exact f
 ·rcases af e k with f|f
  ·exact(h.af e f).up g A
  ·exact f
theorem cx.ne(h:cx P n c d X H){r r':Ro}(b:X.live c r)(f:X.live c r')(g:r≠r'):X.A r≠X.A r':=by
 intro e;have a:=h.own r b;rw[e,h.own r' f]at a;injection a with a
 exact g a.symm
theorem cx.yb(h:cx P n c d X H)(e:Ro)(k:X.live c e)(NH:Ob)(s:Y.A=X.A)(m:Y.own=X.own)(y:Y.N=X.N)(z:Y.F=X.F)(es:Y.x.s=X.x.s)(t:Y.ad=X.ad)(i: ∀a,Y.live c a↔X.live c a)
  (u:Y.dK P c d e NH) (v: ∀a j,a≠e->X.live c a->X.dK P c d a j->Y.dK P c d a j):cx P n c d Y (H.set (X.A e) NH):=by
 have o: ∀b,b≠X.A e->(H.set (X.A e) NH)[b]?=H[b]?:= λb p=>aqn (aq7 p)
 have x:=h.own e k;refine h.zh (·=e) (by simp) (λb p f=>⟨by grind,o b (by grind)⟩) (λb q f=>o b (by rintro rfl;rw[x]at f;injection f with f;subst f;exact k)) (λb q=>by rw[m]) es t
  (λb a f=>by rw[m]at f;have:=h.lt b a f;simpa using this) (λa g=>⟨(i a).2 g,by rw[s]⟩) (λa g l=>⟨(i a).1 g,by rw[m];exact h.own a ((i a).1 g),o _ (h.ne ((i a).1 g) k l),λj=>v a j l ((i a).1 g)⟩)
  (λa g l=> ?_) (λr w=> .inl (by grind)) (λr w=> .inl (by grind))
 subst l;obtain⟨j,A,_⟩:=h.ob a k;exact⟨by grind,NH,by grind,u⟩
theorem cx.grow(h:cx P n c d X H)(T:Hp):cx P n c d X (H++T):=by
 have g: ∀a,a<H.length->(H++T)[a]?=H[a]?:= λa i=>aqf i
 refine h.zh (λ_=>False) (by simp) (λa i b=>⟨b,g a i⟩) (λa k b=>g a (h.lt a _ b)) (λa k=>ari) W W (λa e b=>by have:=h.lt a e b;simp;omega) (λe f=>⟨f,rfl⟩)
  (λe f _=>⟨f,h.own e f,g _ (h.lt _ _ (h.own e f)),λo b=>b⟩) (λe f m=>m.elim) (λl j=> .inl j) (λl j=> .inl j)
end
theorem a_.grow(c:aH)(E:Path×Nat->Prop)(X:aq)(H T:Hp):a_ c E X H X (H++T):=
 ⟨λ_ _ a=>a,λ_ a=>a,by simp,λd b a=>⟨a,aqf b⟩,λe a=>⟨a,rfl⟩,λ_ _=>⟨rfl,rfl⟩,λ_ a=>a,λ_=>ari,λ_ _ _=>ari,λ_ _ a=>a,λ_ _ a=>a,λ_ _ _ _ _=>ari,λ_ _ a=>a,λ_ _ _ _=>rfl,rfl,λ_ _ a=>a,rfl,rfl,[],by simp⟩
theorem a_.refl(c:aH)(E:Path×Nat->Prop)(X:aq)(H:Hp):a_ c E X H X H:=
 ⟨λ_ _ a=>a,λ_ a=>a,aqd _,λb _ a=>⟨a,rfl⟩,λd a=>⟨a,rfl⟩,λ_ _=>⟨rfl,rfl⟩,λ_ a=>a,λ_=>ari,λ_ _ _=>ari,λ_ _ a=>a,λ_ _ a=>a,λ_ _ _ _ _=>ari,λ_ _ a=>a,λ_ _ _ _=>rfl,rfl,λ_ _ a=>a,rfl,rfl,[],by simp⟩
theorem a_.trans{c:aH}{E:Path×Nat->Prop}{X Y Z:aq}{H K L:Hp}(h:a_ c E X H Y K)(k:a_ c E Y K Z L):a_ c E X H Z L:=by
 refine⟨λa b e=>h.c0 a b (k.c0 a b e),λa e=>h.f0 a (k.f0 a e),aq1 h.len k.len,λp s t=> ?_,λq u=> ?_,λa i=>⟨(k.aG a (h.f2 a i)).1.trans (h.aG a i).1,(k.aG a (h.f2 a i)).2.trans (h.aG a i).2⟩,λa w=>k.f2 a (h.f2 a w),λa=>(h.f1 a).trans (k.f1 a),λa b d=>(h.c1 a b d).trans (k.c1 a b d),λa b f=>k.c2 a b (h.c2 a b f),λa b f=>k.c3 a b (h.c3 a b f),λa b r d j=>(h.c4 a b r d j).trans (k.c4 a b r d j),λa g x=>k.dn a g (h.dn a g x),λa g d f=>(k.qT a g d ((h.c1 _ _ d).1 f)).trans (h.qT a g d f),k.lv.trans h.lv,λb v j=>k.S b v (h.S b v j),k.fi.trans h.fi,k.ph.trans h.ph,?_⟩
 ·obtain⟨l,m⟩:=h.gU p s t;obtain⟨n,o⟩:=k.gU p (ard s h.len) l;exact⟨n,o.trans m⟩
 ·obtain⟨l,m⟩:=h.A q u;obtain⟨n,o⟩:=k.A q l;exact⟨n,o.trans m⟩
 ·obtain⟨y,A⟩:=h.F;obtain⟨z,B⟩:=k.F;exact⟨y++z,by grind⟩
theorem a_.mono{c:aH}{E i:Path×Nat->Prop}{X Y:aq}{H K:Hp}(h:a_ c E X H Y K)(f: ∀g,E g->i g):a_ c i X H Y K:=
 ⟨h.c0,h.f0,h.len,h.gU,h.A,h.aG,h.f2,h.f1,λa d e=>h.c1 a d (λb=>e (f _ b)),h.c2,h.c3,λa d j e l=>h.c4 a d j (λb=>e (f _ b)) l,h.dn,λa k e=>h.qT a k (λb=>e (f _ b)),h.lv,h.S,h.fi,h.ph,h.F⟩
theorem a_.SS{c:aH}{E:Path×Nat->Prop}{X Y:aq}{H K:Hp}(h:a_ c E X H Y K)(k:Nat)(v:Int):X.SS c k v->Y.SS c k v:=by
 rintro(a|a)
 ·exact .inl (h.S k v a)
 ·exact .inr (by rw[h.ph];exact a)
theorem Br{c:Type}(l:List c)(f g:c->Nat)(h: ∀a∈l,f a<=g a):aP (l.map f)<=aP (l.map g):=by
 induction l with
 |nil=>exact aqd _
 |cons a l d=>
  simp only[aqN,jK];have i:=h a (aqP ..);have j:=d λb e=>h b (aqF _ e)
  omega
theorem Ju{c:Type}(l:List c)(f g:c->Nat)(h: ∀a∈l,f a<=g a){a:c}(d:a∈l){w:Nat}(i:f a+w<=g a):aP (l.map f)+w<=aP (l.map g):=by
 induction l with
 |nil=>cases d
 |cons b l j=>
  simp only[aqN,jK];rcases aqs.1 d with rfl|d
  ·have k:=Br l f g λb e=>h b (aqF _ e)
   omega
  ·grind
theorem Bs{c:aH}{X Y:aq}(f: ∀d,Y.cu d=true->X.cu d=true)(a b:Nat)(g:Y.N.length<=X.N.length+a)(h:aP ((Y.F.drop Y.fi).map λe=>1+e.1.w.length)<=aP ((X.F.drop X.fi).map λe=>1+e.1.w.length)+b):Y.T c<=X.T c+(a+b):=by
 unfold aq.T;have:=Br c.an (λd=>if Y.cu d then c.wt d else 0) (λd=>if X.cu d then c.wt d else 0) (λd _=>by
  grind)
 omega
theorem uN{c:aH}{X Y:aq}(f: ∀d,Y.cu d=true->X.cu d=true){i0:It}(hi:i0∈c.an)(g:X.cu i0=true)(h:Y.cu i0=false)(a b:Nat)(i:Y.N.length<=X.N.length+a)(j:aP ((Y.F.drop Y.fi).map λe=>1+e.1.w.length)<=aP ((X.F.drop X.fi).map λe=>1+e.1.w.length)+b):Y.T c+c.wt i0<=X.T c+(a+b):=by
 unfold aq.T;have:=Ju c.an (λd=>if Y.cu d then c.wt d else 0) (λd=>if X.cu d then c.wt d else 0) (λd _=>by
  grind) hi (w:=c.wt i0) (by grind)
 omega
theorem H3{P:Pg}{c:aH}{d:Nd}{u:US}{X:aq}(h:Pu P c d u X):X.F.length<=X.T c+1:=by
 have i:=h.fn;unfold aq.T;have f: ∀a:List (AI×M),a.length<=aP (a.map λb=>1+b.1.w.length):=by
  intro a
  induction a with
  |nil=>exact aqd _
  |cons g a j=>simp only[aqN,jK,aqw];omega
 have e:=f (X.F.drop X.fi);rw[List.length_drop]at e;omega
section
variable{X:bD}{ops:Array Oper}{rest:List Oper}{post:St->Prop}{sl:List (Nat×V)}{bx:List (Nat×List M)}{H:Hp}{d ty:Nat}{pos:String}{af:Array Edge}
theorem oT{t e:Nat}{x:Operand}{j aG len:Nat}[ht:aQ X.P t e](b:Nat.blt d X.n=true)(a:bj sl x=some (.m (bG j aG len)))(k:TL X ops rest ⟨(d,(.m (dN len)))::sl,bx,H⟩ post):TL X ops (⟨some d,.call ⟨.builtin .len,#[x],#[t]⟩,ty,pos,af,none⟩::rest) ⟨sl,bx,H⟩ post:=by
 unfold bG at a;split at a
 ·rename_i c;subst c;exact bH b a W k
 ·exact EU b a k
theorem k8{t e ec:Nat}{x y:Operand}{j aG len:Nat}{acc:Bool}{cs:List M}{b:IntKind}{i:Int}[ht:aQ X.P t e][m:bU X.P e ec](c:Nat.blt d X.n=true)(a:bj sl x=some (.m (bG j aG len)))(f:bj sl y=some (.m (.d (.int b i))))(g:H[j]?=some (.row acc ec aG cs))(h:0<=i)(l:i<len)(k:TL X ops rest ⟨(d,(.m (.dX j aG (i.toNat*ec))))::sl,bx,H⟩ post):TL X ops (⟨some d,.indexAddr t x y,ty,pos,af,none⟩::rest) ⟨sl,bx,H⟩ post:=by
 unfold bG at a;rw[aqo (by omega)]at a;exact zJ c a f g h l k
end
section
variable{P:Pg}{n:Nat}{c:aH}{d:Nd}{u:US}{X:aq}{H:Hp}
def aq.fU(X:aq)(c:aH)(J:Path)(x:Nm):M:=match c.find J x with
 |some σ=> .ref (X.A (.ce σ.1 σ.2)) 0
 |none=> .d .bQ
theorem cx.frame(h:cx P n c d X H){J:Path}(hf:X.fs J=2):H[X.A (.fr J)]?=some (.box [X.up J,bG (X.A (.cr J)) (X.vc J) (c.fr J).vars.length,bG (X.A (.er J)) (X.ve J) (c.fr J).au.length,.mp (X.A (.am J)),.mp (X.A (.tk J))]):=by
 obtain⟨f,a,b⟩:=h.ob (.fr J) (by show 1<=X.fs J;omega);have e:=b;subst e;rw[a,aqy hf,aqy hf]
theorem cx.LO(h:cx P n c d X H){J:Path}(hf:X.fs J=2)(a:(c.fr J).vars≠ []):H[X.A (.cr J)]?=some (.row true 1 (X.vc J) ((List.range (c.fr J).vars.length).map λk=> .ref (X.A (.ce J k)) 0)):=by
 obtain⟨f,b,e⟩:=h.ob (.cr J) ⟨hf,a⟩;rw[b,e]
theorem cx.H4(h:cx P n c d X H){J:Path}(hf:X.fs J=2)(a:(c.fr J).au≠ []):H[X.A (.er J)]?=some (.row true 1 (X.ve J) ((List.range (c.fr J).au.length).map λk=> .ref (X.A (.pl J k)) 0)):=by
 obtain⟨f,b,e⟩:=h.ob (.er J) ⟨hf,a⟩;rw[b,e]
theorem cx.cell(h:cx P n c d X H){J:Path}{k:Nat}{v:Va}(hf:X.fs J=2)(e:(c.fr J).vars[k]?=some v): ∃a eq,(c.fr J).db[k]?=some a/\H[X.A (.ce J k)]?=some (.box (cV v a eq (X.A (.fr J)) (mW (X.cs J k)) (if zB (X.cs J k)then c.get (J,k)else 0)))/\ ∀j,jB (c.fr J) k v j->eq= .ref (X.A (.pl J j)) 0:=by
 have f:k<(c.fr J).vars.length:=by
  grind
 obtain⟨o,g,p,a,eq,m,b,i,rfl,rfl,l⟩:=h.ob (.ce J k) ⟨hf,f⟩;rw[e]at b;injection b with b
 subst b;exact⟨a,eq,i,g,l⟩
theorem cx.fe(h:cx P n c d X H){J:Path}{j:Nat}{q:ay}(hf:X.fs J=2)(b:(c.fr J).au[j]?=some q): ∃p,(c.fr J).pos[j]?=some p/\H[X.A (.pl J j)]?=some (.box (dr q p)):=by
 have e:j<(c.fr J).au.length:=by
  grind
 obtain⟨i,f,k,p,a,g,rfl⟩:=h.ob (.pl J j) ⟨hf,e⟩;rw[b]at a;injection a with a
 subst a;exact⟨p,g,f⟩
theorem cx.inst(h:cx P n c d X H):H[X.A .it]?=some (.box [.ref (X.A .un) 0,.ref (X.A (.fr [])) 0,.d (.bool false),bG (X.A .af) X.vF X.F.length,bG (X.A .nx) X.vN X.N.length]):=by
 obtain⟨e,a,b⟩:=h.ob .it trivial;rw[a,b]
theorem cx.unit(h:cx P n c d X H):H[X.A .un]?=some (.box (oP P d (X.A .me) (X.A .pe) (X.A .su))):=by
 obtain⟨e,a,b⟩:=h.ob .un trivial;rw[a,b]
theorem cx.mem(h:cx P n c d X H):H[X.A .me]?=some (.row false 1 0 (bz (bW d) (io X.x.m))):=by
 obtain⟨e,a,b⟩:=h.ob .me trivial;rw[a,b]
theorem cx.cu(h:cx P n c d X H):H[X.A .pe]?=some (.row false 1 0 (bz (bW d) (ju X.x.p))):=by
 obtain⟨e,a,b⟩:=h.ob .pe trivial;rw[a,b]
theorem cx.aj(h:cx P n c d X H):H[X.A .su]?=some (.row false 1 0 (bz (bW d) (eG X.x.s X.ad))):=by
 obtain⟨e,a,b⟩:=h.ob .su trivial;rw[a,b]
theorem Pu.Jv(h:Pu P c d u X){j:Nat}{J:Path}(hf:X.fs (j::J)=2):X.fs J=2:=(h.fp j J (by rw[hf];simp)).1
theorem tX(c:aH)(j:Nat)(J:Path)(x:Nm):c.find (j::J) x=match fS (c.fr (j::J)).vars x with|some k=>some (j::J,k)|none=>c.find J x:=rfl
theorem H5{l:List Va}{x:Nm}{i:Nat}{v:Va}(f:l[i]?=some v)(h:v.name=x)(c: ∀(a:Nat) (b:Va),a<i->l[a]?=some b->b.name≠x):fS l x=some i:=by
 unfold fS;rw[aq2];have d:i<l.length:=by
  grind
 refine⟨d,by grind,λa e=> ?_⟩;have:=c a l[a] e (aqi (by omega));simp[this]
theorem Gz{l:List Va}{x:Nm}(c: ∀(a:Nat) (b:Va),l[a]?=some b->b.name≠x):fS l x=none:=by
 unfold fS;rw[arB];intro b d;obtain⟨a,e,rfl⟩:=List.getElem_of_mem d;simp[c a _ (aqi e)]
def aq.KS(X:aq):Option Path->M
 |some J=> .ref (X.A (.fr J)) 0
 |none=> .d .bQ
def D6(c:aH)(o:Option Path)(x:Nm):Option (Path×Nat):=match o with
 |some J=>c.find J x
 |none=>none
structure H6(X:aq)(c:aH)(H:Hp)(ρ:Path):Prop where
 fr: ∃m1 m2 m3,H[X.A (.fr ρ)]?=some (.box [X.up ρ,bG (X.A (.cr ρ)) (X.vc ρ) (c.fr ρ).vars.length,m1,m2,m3])
 cr:(c.fr ρ).vars≠ []->H[X.A (.cr ρ)]?=some (.row true 1 (X.vc ρ) ((List.range (c.fr ρ).vars.length).map λk=> .ref (X.A (.ce ρ k)) 0))
 ce: ∀(k:Nat) (v:Va),(c.fr ρ).vars[k]?=some v-> ∃lp eq st z,H[X.A (.ce ρ k)]?=some (.box (cV v lp eq (X.A (.fr ρ)) st z))
theorem cx.Jw(h:cx P n c d X H){J:Path}(hf:X.fs J=2):H6 X c H J:=⟨⟨_,_,_,h.frame hf⟩,h.LO hf,λe v a=>by obtain⟨f,eq,_,b,_⟩:=h.cell hf a;exact⟨_,_,_,_,b⟩⟩
theorem z_(F: ∀J,(c.fr J).vars.length<=1000000)(J:Path)(G: ∀p a,J=p++a->H6 X c H a)(x:Nm):CT Tryz.prog 60 [.ref (X.A (.fr J)) 0,.d (.str x)] H λr K=>r=X.fU c J x/\K=H:=by
 refine CT.ob Tryz.func60 W Tryz.ntmps60 W λQ R=>tC [2,3] W<|TC.lp (λh k=> ∃j:Option Path,k=⟨[nM 0 (X.KS j),nD 1 (.str x)],[],H⟩/\(∀a,j=some a-> ∃p,J=p++a)/\D6 c j x=c.find J x/\h=(match j with|some a=>a.length+1|none=>0)) (J.length+1) _
  ⟨some J,rfl,by rintro a d;injection d with d;subst d;exact⟨[],rfl⟩,rfl,rfl⟩ W ?_
 rintro h k ⟨j,rfl,I,o,rfl⟩;cases j with
 |none=>
  refine tO [2,12] W<|jY (by kernel_rfl) W W W W W<|tL [0] W<|TC.exit<|tC [2] W<|TC.ret ⟨_,rfl,by unfold aq.fU;rw[<-o];rfl,rfl⟩
 |some a=>
  obtain⟨z,E⟩:=I a W;have q:=G z a E;obtain⟨S,T,U,s⟩:=q.fr;refine tO [2,12] W<|jY (by kernel_rfl) W W W W W<|tR [1,3,2,20] W<|aw W W s W<|tR [21] W<|oT W W<|tL [] W<|Ou [nN 18 0,nN 17 ((c.fr a).vars.length),nM 16 (bG (X.A (.cr a)) (X.vc a) (c.fr a).vars.length),nM 0 (X.KS (some a)),nD 1 (.str x)] H W W<|tC [3] W<|TC.lp (λh k=> ∃b:Nat,k=⟨[nN 18 b,nN 17 ((c.fr a).vars.length),nM 16 (bG (X.A (.cr a)) (X.vc a) (c.fr a).vars.length),nM 0 (X.KS (some a)),nD 1 (.str x)],[],H⟩/\b<=(c.fr a).vars.length/\h=(c.fr a).vars.length-b/\ ∀(f:Nat) (i:Va),f<b->(c.fr a).vars[f]?=some i->i.name≠x) (c.fr a).vars.length _
   ⟨0,rfl,by omega,rfl,by intro f i A;omega⟩ W ?_
  rintro h k ⟨b,rfl,V,rfl,t⟩;have Z:=F a;refine tC [2] W<|TC.cond W (λu=> ?_) (λu=> ?_)
  ·have l:b<(c.fr a).vars.length:=by have:=aqv u;omega
   have n:=aqi l;have B:=q.cr (by intro e;rw[e]at l;simp at l);obtain⟨Y,eq,st,P,C⟩:=q.ce b _ n;generalize (c.fr a).vars[b]=v at n C;have L:((List.range (c.fr a).vars.length).map λh=>M.ref (X.A (.ce a h)) 0)[((b:Nat):Int).toNat*1]?=some (.ref (X.A (.ce a b)) 0):=by simp[l]
   refine tO [3,2,24] W<|k8 W W W B (aqe b) (by omega)<|tR [25] W<|lY W W B L<|tR [2,30] W<|aw W W C W<|tL [] W<|TC.cond W (λw=> ?_) (λw=> ?_)
   ·have y:=aqv w;refine tC [2] W ?_;have m:=H5 n y t;have N:c.find a x=some (a,b):=by
     cases a with
     |nil=>show Option.map _ _=_;rw[m];rfl
     |cons f J=>rw[tX,m]
    exact TC.ret ⟨_,rfl,by unfold aq.fU;rw[<-o];simp only[D6,N];rfl,rfl⟩
   ·refine tC [] W ?_;have y:=aqA w;refine tO [2,34] W<|ax W W W (by omega)<|tL [] W<|again (k':=(c.fr a).vars.length-(b+1)) (by omega) ⟨b+1,rfl,by omega,rfl,?_⟩ W W;intro f i A g;rcases aq0.1 A with O|rfl
    ·exact t f i O g
    ·rw[n]at g;injection g with g;subst g;exact y
  ·refine TC.exit ?_;have l:b=(c.fr a).vars.length:=by have:=aqA u;omega
   have m:=Gz λf i g=>t f i (by
    rcases aqh f b with d|d
    ·exact d
    ·rw[aqj (by omega)]at g;cases g) g
   cases a with
   |nil=>
    refine tO [2,16] W<|aw W W s W<|tL [] W<|again (k':=0) (by simp) ⟨none,rfl,by(intro a d;cases d),by rw[<-o];show none=Option.map _ _;rw[m];rfl,rfl⟩ W W
   |cons f D=>
    refine tO [2,16] W<|aw W W s W<|tL [] W<|again (k':=D.length+1) (by simp) ⟨some D,rfl,by(intro a d;injection d with d;subst d;exact⟨z++ [f],by rw[E];simp⟩),by rw[<-o];simp only[D6];rw[tX,m],rfl⟩ W W
theorem uO(b:Pu P c d u X): ∀{τ ρ:Path},X.fs (τ++ρ)=2->X.fs ρ=2
 | [],_,a=>a
 |e::τ,ρ,a=>uO b (τ:=τ) (b.Jv a)
theorem oU(h:cx P n c d X H)(a:Pu P c d u X)(b: ∀J,(c.fr J).vars.length<=1000000)(J:Path)(hf:X.fs J=2)(x:Nm):CT Tryz.prog 60 [.ref (X.A (.fr J)) 0,.d (.str x)] H λr K=>r=X.fU c J x/\K=H:=
 z_ b J (λτ f e=>h.Jw (uO a (τ:=τ) (e▸hf))) x
end
section
variable{P:Pg}{n:Nat}{c:aH}{d:Nd}{u:US}{X Y:aq}{H:Hp}
theorem dK.congr(a: ∀r,r≠ .nx->r≠ .af->Y.A r=X.A r)(n:Y.fs=X.fs)(ec:Y.cs=X.cs)(u:Y.dn=X.dn)(q:Y.vc=X.vc)(s:Y.ve=X.ve)(k:Y.x=X.x)(w:Y.ad=X.ad){r:Ro}(e:r≠ .it)(f:r≠ .nx)(i:r≠ .af){ob:Ob}(h:X.dK P c d r ob):Y.dK P c d r ob:=by
 cases r with
 |it=>exact absurd W e
 |nx=>exact absurd W f
 |af=>exact absurd W i
 |un=>simp only[aq.dK]at h⊢;rw[a .me (by simp) (by simp),a .pe (by simp) (by simp),a .su (by simp) (by simp)];exact h
 |me=>simp only[aq.dK]at h⊢;rw[k];exact h
 |pe=>simp only[aq.dK]at h⊢;rw[k];exact h
 |su=>simp only[aq.dK]at h⊢;rw[k,w];exact h
 |fr b=>
  have x:Y.up b=X.up b:=by cases b with
   |nil=>rfl
   |cons g b=>simp only[aq.up];rw[a _ (by simp) (by simp)]
  simp only[aq.dK]at h⊢;rw[x,n,q,s,a _ (by simp) (by simp),a _ (by simp) (by simp),a _ (by simp) (by simp),a _ (by simp) (by simp)];exact h
 |am b=>
  simp only[aq.dK]at h⊢;obtain⟨l,e,f,i,o⟩:=h;refine⟨l,e,f,λp g m=> ?_,λp=>o (by grind)⟩;rw[a _ (by simp) (by simp),i (by grind) g m];unfold aq.nz;rw[n,u,ec,a _ (by simp) (by simp),a _ (by simp) (by simp)]
 |tk b=>
  simp only[aq.dK]at h⊢;obtain⟨l,e,f,i⟩:=h;refine⟨l,e,f,λp g m=> ?_⟩;rw[a _ (by simp) (by simp)];exact i (by grind) g (by grind)
 |cr b=>
  simp only[aq.dK]at h⊢;rw[q,h]
  congr 1
  exact aq3 λj _=>by grind
 |er b=>
  simp only[aq.dK]at h⊢;rw[s,h]
  congr 1
  exact aq3 λj _=>by grind
 |ce b j=>
  simp only[aq.dK]at h⊢;obtain⟨v,y,eq,t,e,f,i,o,z⟩:=h;refine⟨v,y,eq,t,e,f,by grind,by grind,λg m=>by grind⟩
 |pl b g=>exact h
 |sb j=>trivial
def aq.c7(X:aq)(H:Hp)(p:NI×M):aq:= {X with
 N:=X.N++ [p]
 vN:=if X.N= []then 0 else X.vN+1
 A:=if X.N= []thenλr=>if r= .nx then H.length+1 else X.A r else X.A
 own:=if X.N= []thenλa=>if a=H.length+1 then some .nx else X.own a else X.own}
def aq.cY(X:aq)(H:Hp)(m:M):Hp:=
 (if X.N= []then(H++ [Ob.row false 1 0 [m]])++ [Ob.row true 1 0 [m]]else(H++ [Ob.row false 1 0 [m]]).set (X.A .nx) (Ob.row true 1 (X.vN+1) (X.N.map (·.2)++ [m]))).set (X.A .it)
  (Ob.box [.ref (X.A .un) 0,.ref (X.A (.fr [])) 0,.d (.bool false),bG (X.A .af) X.vF X.F.length,if X.N= []then .bB (H.length+1) 0 1 else .bB (X.A .nx) (X.vN+1) (X.N.length+1)])
theorem iU(a:Y.fs=X.fs){r:Ro}(b:r≠ .nx)(d:r≠ .af):Y.live c r↔X.live c r:=by
 cases r<;>simp only[aq.live,a]<;>first|exact absurd W b|exact absurd W d
theorem oV(h:cx P n c d X H){g:NI}{m:M}(Q:X.ry c H m g):cx P n c d (X.c7 H (g,m)) (X.cY H m)/\a_ c (λ_=>False) X H (X.c7 H (g,m)) (X.cY H m):=by
 have A:=h.own .it trivial;have V:=h.lt _ _ A;by_cases p:X.N= []
 ·have o: ∀a,a≠ .nx->(X.c7 H (g,m)).A a=X.A a:= λa l=>by simp[aq.c7,p,l]
  have I:(X.c7 H (g,m)).A .nx=H.length+1:=by simp[aq.c7,p]
  have q: ∀b,b≠H.length+1->(X.c7 H (g,m)).own b=X.own b:= λb r=>by simp[aq.c7,p,r]
  have R:(X.c7 H (g,m)).own (H.length+1)=some .nx:=by simp[aq.c7,p]
  have S:X.own (H.length+1)=none:=by
   cases e:X.own (H.length+1)with
   |none=>rfl
   |some a=>have:=h.lt _ _ e;omega
  have t:X.cY H m=((H++ [Ob.row false 1 0 [m]])++ [Ob.row true 1 0 [m]]).set (X.A .it) (Ob.box [.ref (X.A .un) 0,.ref (X.A (.fr [])) 0,.d (.bool false),bG (X.A .af) X.vF X.F.length,.bB (H.length+1) 0 1]):=by simp[aq.cY,p]
  have E:H.length<=(X.cY H m).length:=by rw[t];simp
  have B: ∀b,b<H.length->b≠X.A .it->(X.cY H m)[b]?=H[b]?:= λb i j=>by
   rw[t,aqn (aq7 j),aqf (by simp;omega),aqf i]
  have J:(X.cY H m)[X.A .it]?=some (Ob.box [.ref (X.A .un) 0,.ref (X.A (.fr [])) 0,.d (.bool false),bG (X.A .af) X.vF X.F.length,.bB (H.length+1) 0 1]):=by
   rw[t,aqZ (by simp;omega)]
  have K:(X.cY H m)[H.length+1]?=some (Ob.row true 1 0 [m]):=by
   rw[t,aqn (by omega),aqm (by simp)];simp
  have x: ∀b,b<H.length->X.own b=none->(X.c7 H (g,m)).own b=none/\(X.cY H m)[b]?=H[b]?:= λb r f=>⟨by rw[q b (by omega)];exact f,B b r (by rintro rfl;rw[A]at f;cases f)⟩
  have y: ∀a,X.live c a->(X.c7 H (g,m)).live c a/\(X.c7 H (g,m)).A a=X.A a:= λa l=>by
   have j:a≠ .nx:=by rintro rfl;exact l p
   refine⟨?_,o a j⟩;by_cases k:a= .af
   ·subst k;exact l
   ·exact(iU (X:=X) (Y:=X.c7 H (g,m)) W j k).2 l
  refine⟨?_,⟨λ_ _ h=>h,λ_ h=>h,E,x,y,λ_ _=>⟨rfl,rfl⟩,λ_ h=>h,λ_=>ari,λ_ _ _=>ari,λ_ _ h=>h,λ_ _ h=>h,λ_ _ _ _ _=>ari,λ_ _ h=>h,λ_ _ _ _=>rfl,rfl,?_,rfl,rfl,[],by simp[aq.c7]⟩⟩
  ·refine h.zh (λa=>a= .nx\/a= .it) E x (λb D f=>B b (h.lt b _ f) (by rintro rfl;rw[A]at f;cases f)) (λb D=> ?_) W W (λb a f=> ?_) y (λa l u=> ?_) (λa l u=> ?_) (λz s=> ?_) (λz s=> .inl s)
   ·by_cases r:b=H.length+1
    ·subst r;rw[R,S];simp
    ·rw[q b r]
   ·by_cases r:b=H.length+1
    ·subst r;rw[t];simp
    ·rw[q b r]at f;have:=h.lt b a f;omega
   ·have j:a≠ .nx:= λe=>u (.inl e)
    have i:a≠ .it:= λe=>u (.inr e)
    have w:X.live c a:=by
     by_cases k:a= .af
     ·subst k;exact l
     ·exact(iU (X:=X) (Y:=X.c7 H (g,m)) W j k).1 l
    have f:=h.own a w;have L:=h.lt _ _ f;refine⟨w,by rw[q _ (by omega)];exact f,B _ L (h.ne w trivial i),λT F=> ?_⟩;by_cases k:a= .af
    ·subst k;exact F
    ·exact dK.congr (X:=X) (Y:=X.c7 H (g,m)) (λa j _=>o a j) W W W W W W W i j k F
   ·rcases u with rfl|rfl
    ·exact⟨by rw[I];exact R,_,by rw[I];exact K,by simp only[aq.dK];simp[aq.c7,p]⟩
    ·refine⟨by rw[o _ (by simp),q _ (by omega)];exact A,_,by rw[o _ (by simp)];exact J,?_⟩;simp only[aq.dK];rw[o _ (by simp),o _ (by simp),o _ (by simp),I];simp[aq.c7,p,bG]
   ·rcases aql.1 s with i|i
    ·exact .inl i
    ·rw[aqp]at i;subst i;exact .inr (Q.up x y)
  ·intro D v C;rcases C with⟨z,s,N⟩|C
   ·exact .inl ⟨z,aqq _ s,N⟩
   ·exact .inr C
 ·have o:(X.c7 H (g,m)).A=X.A:=by simp[aq.c7,p]
  have q:(X.c7 H (g,m)).own=X.own:=by simp[aq.c7,p]
  have O:X.live c .nx:=p;have G:=h.own .nx O;have Z:=h.lt _ _ G;have U:=h.ne O (r':= .it) trivial (by simp);have t:X.cY H m=((H++ [Ob.row false 1 0 [m]]).set (X.A .nx) (Ob.row true 1 (X.vN+1) (X.N.map (·.2)++ [m]))).set (X.A .it) (Ob.box [.ref (X.A .un) 0,.ref (X.A (.fr [])) 0,.d (.bool false),bG (X.A .af) X.vF X.F.length,.bB (X.A .nx) (X.vN+1) (X.N.length+1)]):=by simp[aq.cY,p]
  have E:H.length<=(X.cY H m).length:=by rw[t];simp
  have B: ∀b,b<H.length->b≠X.A .it->b≠X.A .nx->(X.cY H m)[b]?=H[b]?:= λb i j k=>by
   rw[t,aqn (aq7 j),aqn (aq7 k),aqf i]
  have J:(X.cY H m)[X.A .it]?=some (Ob.box [.ref (X.A .un) 0,.ref (X.A (.fr [])) 0,.d (.bool false),bG (X.A .af) X.vF X.F.length,.bB (X.A .nx) (X.vN+1) (X.N.length+1)]):=by
   rw[t,aqZ (by simp;omega)]
  have K:(X.cY H m)[X.A .nx]?=some (Ob.row true 1 (X.vN+1) (X.N.map (·.2)++ [m])):=by
   rw[t,aqn (aq7 U),aqZ (by simp;omega)]
  have x: ∀b,b<H.length->X.own b=none->(X.c7 H (g,m)).own b=none/\(X.cY H m)[b]?=H[b]?:= λb r f=>⟨by rw[q];exact f,B b r (by rintro rfl;rw[A]at f;cases f) (by rintro rfl;rw[G]at f;cases f)⟩
  have y: ∀a,X.live c a->(X.c7 H (g,m)).live c a/\(X.c7 H (g,m)).A a=X.A a:= λa l=>by
   refine⟨?_,by rw[o]⟩;by_cases j:a= .nx
   ·subst j;show X.N++_≠ [];simp
   by_cases k:a= .af
   ·subst k;exact l
   ·exact(iU (X:=X) (Y:=X.c7 H (g,m)) W j k).2 l
  refine⟨?_,⟨λ_ _ h=>h,λ_ h=>h,E,x,y,λ_ _=>⟨rfl,rfl⟩,λ_ h=>h,λ_=>ari,λ_ _ _=>ari,λ_ _ h=>h,λ_ _ h=>h,λ_ _ _ _ _=>ari,λ_ _ h=>h,λ_ _ _ _=>rfl,rfl,?_,rfl,rfl,[],by simp[aq.c7]⟩⟩
  ·refine h.zh (λa=>a= .nx\/a= .it) E x (λb D f=>B b (h.lt b _ f) (by rintro rfl;rw[A]at f;cases f) (by rintro rfl;rw[G]at f;cases f)) (λb D=>by rw[q]) W W (λb a f=> ?_) y (λa l u=> ?_) (λa l u=> ?_) (λz s=> ?_) (λz s=> .inl s)
   ·rw[q]at f;have:=h.lt b a f;omega
   ·have j:a≠ .nx:= λe=>u (.inl e)
    have i:a≠ .it:= λe=>u (.inr e)
    have w:X.live c a:=by
     by_cases k:a= .af
     ·subst k;exact l
     ·exact(iU (X:=X) (Y:=X.c7 H (g,m)) W j k).1 l
    have f:=h.own a w;have L:=h.lt _ _ f;refine⟨w,by rw[q];exact f,B _ L (h.ne w trivial i) (h.ne w O j),λT F=> ?_⟩;by_cases k:a= .af
    ·subst k;exact F
    ·exact dK.congr (X:=X) (Y:=X.c7 H (g,m)) (λa j _=>by rw[o]) W W W W W W W i j k F
   ·rcases u with rfl|rfl
    ·exact⟨by rw[o,q];exact G,_,by rw[o];exact K,by simp only[aq.dK];simp[aq.c7,p]⟩
    ·refine⟨by rw[o,q];exact A,_,by rw[o];exact J,?_⟩;simp only[aq.dK];rw[o];simp[aq.c7,p,bG]
   ·rcases aql.1 s with i|i
    ·exact .inl i
    ·rw[aqp]at i;subst i;exact .inr (Q.up x y)
  ·intro D v C;rcases C with⟨z,s,N⟩|C
   ·exact .inl ⟨z,aqq _ s,N⟩
   ·exact .inr C
theorem Pu.Bt(h:Pu P c d u X)(g:Y.fs=X.fs)(ec:Y.cs=X.cs)(n:Y.dn=X.dn)(K:Y.lv=X.lv)(r:Y.x=X.x)(w: ∀a v,X.SS c a v->Y.SS c a v)(L: ∀b∈X.N,b∈Y.N)(M: ∀b∈Y.N,b∈X.N\/NI.ok c d X b.1)(N: ∀b∈Y.F,b∈X.F\/AI.ok P c d X b.1)(O:Y.fi<=Y.F.length)(fn:Y.fi<=Y.N.length+1):Pu P c d u Y:=by
 have z: ∀a,Y.ER c a↔X.ER c a:= λa=>by unfold aq.ER;rw[g]
 have H: ∀a e f,Y.DC c a e f↔X.DC c a e f:= λa e f=>by unfold aq.DC;rw[g,n]
 have V: ∀s,NI.ok c d X s->NI.ok c d Y s:= λs h=>by cases s<;>simp only[NI.ok,g,ec]at h⊢ <;>exact h
 have Z: ∀A,AI.ok P c d X A->AI.ok P c d Y A:= λA h=>⟨h.ev,by rw[g];exact h.fs,h.lt,h.wr,h.sm,h.own,h.sz⟩
 refine⟨by rw[g];exact h.f0,by rw[g];exact h.fp,by rw[g];exact h.f2,by rw[ec];exact h.c6,by rw[ec];exact h.ci,by rw[ec];exact h.cv,by rw[ec];exact h.ca,?_,?_,?_,?_,?_,?_,?_,?_,?_,?_,?_,?_,O,fn,by rw[ec,n];exact h.g0,by rw[g,n];exact h.dz,by rw[g,ec];exact h.cz⟩
 ·intro a j;rw[z,r];exact h.xm a j
 ·intro a j;rw[z,r];exact h.xp a j
 ·intro a j e f k;rw[r];exact h.xd a j e f ((H _ _ _).1 k)
 ·intro a j k;rw[z,r];exact h.xs a j λe f Q=>k e f ((H _ _ _).2 Q)
 ·intro e a b v i o B t C;rw[g]at i;rw[ec]at o;exact w _ _ (h.s1 e a b v i o B t C)
 ·intro x R v S T y i o B C D E F;rw[g]at i;rw[ec]at o;obtain⟨l,G,h3⟩:=h.s2 x R v S T y i o B C D E F;exact⟨by grind,λj m p=>w _ _ (G j m p),λj=>by grind⟩
 ·intro e f i k;rw[g]at i;rw[n]at k;obtain⟨l,G⟩:=h.s3 e f i k;exact⟨l,λm p=>w _ _ (G m p)⟩
 ·intro e f i m p;rw[g]at i;exact w _ _ (h.s4 e f i m p)
 ·intro e f t;rw[K]at t;obtain⟨b,q,D⟩:=h.s5 e f t;exact⟨b,L b q,D⟩
 ·intro e f y i k I F J U x E;rw[g]at i;rw[n]at k;rw[ec]at I⊢;exact h.dl e f y i k I F J U x E
 ·intro b q;rcases M b q with l|l
  ·exact V _ (h.nk b l)
  ·grind
 ·intro b q;rcases N b q with l|l
  ·exact Z _ (h.fk b l)
  ·grind
theorem Pu.more(h:Pu P c d u X)(e:Y.fs=X.fs)(ec:Y.cs=X.cs)(f:Y.dn=X.dn)(g:Y.lv=X.lv)(i:Y.x=X.x)(o:Y.ph=X.ph)(j: ∀b v,X.S c b v->Y.S c b v)(k: ∀a∈X.N,a∈Y.N)(l: ∀a∈Y.N,a∈X.N\/NI.ok c d X a.1)(m: ∀a∈Y.F,a∈X.F\/AI.ok P c d X a.1)(n:Y.fi<=Y.F.length)(fn:Y.fi<=Y.N.length+1):Pu P c d u Y:=
 h.Bt e ec f g i (λb v h=>by
  rcases h with h|h
  ·exact .inl (j b v h)
  ·exact .inr (by grind)) k l m n fn
theorem qf(h:Pu P c d u X){p:NI×M}(l:NI.ok c d X p.1):Pu P c d u (X.c7 H p)/\(∀k v,NI.wr c p.1 k v->(X.c7 H p).S c k v)/\(X.c7 H p).T c=X.T c+1:=by
 refine⟨h.more W W W W W W (λk v f=> ?_) (λb a=>aqq _ a) (λb a=> ?_) (λb a=> .inl a) h.fl (by show X.fi<=(X.N++ [p]).length+1;have:=h.fn;simp;omega),λk v g=> .inl ⟨p,aqt _ (aru _),g⟩,?_⟩
 ·rcases f with⟨b,a,g⟩|f
  ·exact .inl ⟨b,aqq _ a,g⟩
  ·exact .inr f
 ·rcases aql.1 a with i|i
  ·exact .inl i
  ·grind
 ·have e:(X.c7 H p).cu=X.cu:=by funext j;cases j<;>rfl
  unfold aq.T;rw[e];simp only[aq.c7,aqg,aqH];omega
end
section
variable{P:Pg}{n:Nat}{c:aH}{d:Nd}{u:US}{X:aq}{H:Hp}
structure cL(P:Pg)(n:Nat)(c:aH)(d:Nd)(u:US)(X:aq)(H:Hp):Prop where
 lay:cx P n c d X H
 pu:Pu P c d u X
theorem lu(K:Hp)(m:M):oF (K++ [Ob.row false 1 0 [m]]) 1 (.bB K.length 0 1)=some ([m],1):=by simp[oF]
theorem tY(K:Hp)(ob:Ob):(K++ [ob])[K.length]?=some ob:=by simp
theorem bp{K T:Hp}{i:Nat}{ob:Ob}(h:K[i]?=some ob):(K++T)[i]?=some ob:=by grind
theorem fB{K:Hp}{i j:Nat}{ob NH:Ob}(h:K[i]?=some ob)(a:j≠i):(K.set j NH)[i]?=some ob:=by grind
theorem uP(h:cx P n c d X H)(a:X.N≠ []):H[X.A .nx]?=some (.row true 1 X.vN (X.N.map (·.2))):=by
 obtain⟨f,b,e⟩:=h.ob .nx a;rw[b,e]
theorem yd(a:X.T c<=1000000000000):X.N.length<=1000000000000:=by unfold aq.T at a;omega
theorem H7(s:cL P n c d u X H)(L:X.T c<=1000000000000){J:Path}{k:Nat}{v:Va}(hf:X.fs J=2)(t:(c.fr J).vars[k]?=some v){m:Option Nat}(w:(c.fr J).db[k]?=some m)(N:zB (X.cs J k)=true)(O: ∀p,m=some p->p<bW d)(Q:J= []->d.ins.length<=k):
  DT Tryz.prog 92 [.ref (X.A .it) 0,.ref (X.A (.ce J k)) 0] H λr K=> ∃Y,cL P n c d u Y K/\a_ c (λ_=>False) X H Y K/\Y.cs=X.cs/\Y.fs=X.fs/\Y.dn=X.dn/\Y.lv=X.lv/\Y.T c<=X.T c+1/\ ∀p,m=some p-> ∀z,c.val J k=some z->Y.S c p z:=by
 have a:=s.lay;obtain⟨Wf,eq,o,R,_⟩:=a.cell hf t;rw[w]at o;injection o with o
 subst o;have D:k<(c.fr J).vars.length:=by
  rcases aqh k (c.fr J).vars.length with a|a
  ·exact a
  ·rw[aqj a]at t;cases t
 have x:=bp (T:=[Ob.box [.ref (X.A (.ce J k)) 0]]) (bp (T:=[Ob.box [.ref (X.A .it) 0]]) R);have h:(H++ [Ob.box [.ref (X.A .it) 0]]++ [Ob.box [.ref (X.A (.ce J k)) 0]])[H.length]?=some (Ob.box [.ref (X.A .it) 0]):=by simp
 have q:(H++ [Ob.box [.ref (X.A .it) 0]]++ [Ob.box [.ref (X.A (.ce J k)) 0]])[(H++ [Ob.box [M.ref (X.A .it) 0]]).length]?=some (Ob.box [.ref (X.A (.ce J k)) 0]):=by simp
 have j:cx P n c d X (H++ [Ob.box [.ref (X.A .it) 0]]++ [Ob.box [.ref (X.A (.ce J k)) 0]]):=(a.grow _).grow _;have y:a_ c (λ_=>False) X H X (H++ [Ob.box [.ref (X.A .it) 0]]++ [Ob.box [.ref (X.A (.ce J k)) 0]]):=(a_.grow c _ X H _).trans (a_.grow c _ X _ _);refine DT.ob Tryz.func92 W Tryz.ntmps92 W<|dO [2,6] W<|Mu (cA W W W)<|dR [7] W<|Mu (cA W W W)<|dL [] W ?_;have A: ∀b,H.length<=b->X.own b=none:= λb hb=>by
  cases e:X.own b with
  |none=>rfl
  |some r=>have:=a.lt b r e;omega
 generalize hK:H++ [Ob.box [.ref (X.A .it) 0]]++ [Ob.box [.ref (X.A (.ce J k)) 0]]=K at x h q j y;cases m with
 |none=>
  refine dO [2,8] W<|Mu (aw W W q W)<|dR [11] W<|Mu (aw W W x W)<|dL [0] W<|⟨_,rfl,X,⟨j,s.pu⟩,y,rfl,rfl,rfl,rfl,by omega,λp l=>by cases l⟩
 |some p=>
  refine dO [2,8] W<|Mu (aw W W q W)<|dR [11] W<|Mu (aw W W x W)<|dR [12] W<|Mu (aN (aqI (aqe p)) W W W W)<|dL [1] W ?_;have g:=j.inst;have S:X.ry c K (.fn 127 [.ref (H++ [Ob.box [M.ref (X.A .it) 0]]).length 0,.ref H.length 0]) (.cell true (J,k)):=
   ⟨(⟨hf,D⟩),_,_,rfl,⟨A _ (by simp),q⟩,⟨A _ (aqd _),h⟩⟩
  obtain⟨U,V⟩:=oV j S;obtain⟨Z,hS,ac⟩:=qf s.pu (p:=(.cell true (J,k),.fn 127 [.ref (H++ [Ob.box [M.ref (X.A .it) 0]]).length 0,.ref H.length 0])) (⟨hf,D,N,⟨p,O p W,w⟩,Q⟩) (H:=K);have E: ∀f,X.cY K (.fn 127 [.ref (H++ [Ob.box [M.ref (X.A .it) 0]]).length 0,.ref H.length 0])=f-> ∃Y,cL P n c d u Y f/\a_ c (λ_=>False) X H Y f/\Y.cs=X.cs/\Y.fs=X.fs/\Y.dn=X.dn/\Y.lv=X.lv/\Y.T c<=X.T c+1/\ ∀B,some p=some B-> ∀z,c.val J k=some z->Y.S c B z:=by
   rintro f rfl;exact⟨_,⟨U,Z⟩,y.trans V,rfl,rfl,rfl,rfl,Nat.le_of_eq ac,λB l z Rx=>by injection l with l;subst l;exact hS _ _ ⟨w,Rx⟩⟩
  let F:M->Hp->Prop:= λI f=>f[H.length]?=some (Ob.box [.ref (X.A .it) 0])/\f[X.A .it]?=some (Ob.box [.ref (X.A .un) 0,.ref (X.A (.fr [])) 0,.d (.bool false),bG (X.A .af) X.vF X.F.length,I])
  by_cases i:X.N= []
  ·have C:bG (X.A .nx) X.vN X.N.length= .d (.sl []):=by simp[i,bG]
   rw[C]at g;refine dC [] W ?_;apply NT (F (.d (.sl []))) (⟨h,g⟩) bT
   ·intro s0 Oo;refine MK W W (λf a=>⟨_,a.1,rfl⟩)<|MK W W (λf a=>⟨_,a.1,rfl⟩)<|iR 2 W<|MK W W (λf a=>⟨_,a.2,rfl⟩) ?_;apply MF
    ·skip
     refine eD W W<|TF.nil ⟨rfl,rfl⟩
    apply MF
    ·skip
     refine dJ (cs:=[_]) W W W W W W<|TF.nil ⟨rfl,rfl⟩
    apply MF
    ·skip
     refine oJ true W W W (lu _ _) W W (by decide) (by decide)<|TF.nil ⟨rfl,rfl⟩
    refine iR 2 W ?_;apply MF
    ·skip
     refine fh W W (bp (bp g)) W W W<|TF.nil ⟨rfl,rfl⟩
    exact iT.nil ⟨by kernel_rfl,by repeat' first|exact trivial|exact .inl ((by first|exact⟨bp h,bp g⟩|exact⟨bp (bp h),bp (bp g)⟩))|exact .inr (by kernel_rfl)|refine⟨?_,?_⟩,rfl⟩
   refine⟨_,rfl,E _ ?_⟩;simp only[aq.cY,aqy i,aqg,aqH];rfl
  ·have C:bG (X.A .nx) X.vN X.N.length= .bB (X.A .nx) X.vN X.N.length:=by unfold bG;rw[aqo];intro e;exact i (aq4 e)
   rw[C]at g;have co:=yd L;have G:=j.ne (r:= .nx) (r':= .it) i trivial (by simp);refine dC [] W ?_;apply NT (F (.bB (X.A .nx) X.vN X.N.length)) (⟨h,g⟩) bT
   ·intro s0 Oo;refine MK W W (λf a=>⟨_,a.1,rfl⟩)<|MK W W (λf a=>⟨_,a.1,rfl⟩)<|iR 2 W<|MK W W (λf a=>⟨_,a.2,rfl⟩) ?_;apply MF
    ·skip
     refine eD W W<|TF.nil ⟨rfl,rfl⟩
    apply MF
    ·skip
     refine dJ (cs:=[_]) W W W W W W<|TF.nil ⟨rfl,rfl⟩
    apply MF
    ·skip
     refine oK W W W (lu _ _) (bp (uP j i)) W (by omega) (by omega)<|TF.nil ⟨rfl,rfl⟩
    refine iR 2 W ?_;apply MF
    ·skip
     refine fh W W (fB (bp g) G) W W W<|TF.nil ⟨rfl,rfl⟩
    exact iT.nil ⟨by kernel_rfl,by repeat' first|exact trivial|exact .inl ((by first|exact⟨bp h,bp g⟩|exact⟨fB (bp h) (by intro e;have:=a.own .nx i;rw[e,A _ (aqd _)]at this;cases this),fB (bp g) G⟩))|exact .inr (by kernel_rfl)|refine⟨?_,?_⟩,rfl⟩
   refine⟨_,rfl,E _ ?_⟩;simp only[aq.cY,aqo i];rfl
end
section
variable{P:Pg}{n:Nat}{c:aH}{d:Nd}{u:US}{X Y:aq}{H:Hp}
theorem H8{b:Type}{l r:List b}{i:Nat}{a:b}(h:l[i]?=some a):(l++r)[i]?=some a:=by grind
def aq.eg(X:aq)(H:Hp)(p:AI×M):aq:= {X with
 F:=X.F++ [p]
 vF:=if X.F= []then 0 else X.vF+1
 A:=if X.F= []thenλr=>if r= .af then H.length+1 else X.A r else X.A
 own:=if X.F= []thenλa=>if a=H.length+1 then some .af else X.own a else X.own}
def aq.gy(X:aq)(H:Hp)(m:M):Hp:=
 (if X.F= []then(H++ [Ob.row false 1 0 [m]])++ [Ob.row true 1 0 [m]]else(H++ [Ob.row false 1 0 [m]]).set (X.A .af) (Ob.row true 1 (X.vF+1) (X.F.map (·.2)++ [m]))).set (X.A .it)
  (Ob.box [.ref (X.A .un) 0,.ref (X.A (.fr [])) 0,.d (.bool false),if X.F= []then .bB (H.length+1) 0 1 else .bB (X.A .af) (X.vF+1) (X.F.length+1),bG (X.A .nx) X.vN X.N.length])
theorem D7(h:cx P n c d X H){g:AI}{m:M}(S:X.ya c H m g):cx P n c d (X.eg H (g,m)) (X.gy H m)/\a_ c (λ_=>False) X H (X.eg H (g,m)) (X.gy H m):=by
 have A:=h.own .it trivial;have ac:=h.lt _ _ A;by_cases p:X.F= []
 ·have o: ∀a,a≠ .af->(X.eg H (g,m)).A a=X.A a:= λa l=>by simp[aq.eg,p,l]
  have J:(X.eg H (g,m)).A .af=H.length+1:=by simp[aq.eg,p]
  have q: ∀b,b≠H.length+1->(X.eg H (g,m)).own b=X.own b:= λb r=>by simp[aq.eg,p,r]
  have T:(X.eg H (g,m)).own (H.length+1)=some .af:=by simp[aq.eg,p]
  have U:X.own (H.length+1)=none:=by
   cases e:X.own (H.length+1)with
   |none=>rfl
   |some a=>have:=h.lt _ _ e;omega
  have t:X.gy H m=((H++ [Ob.row false 1 0 [m]])++ [Ob.row true 1 0 [m]]).set (X.A .it) (Ob.box [.ref (X.A .un) 0,.ref (X.A (.fr [])) 0,.d (.bool false),.bB (H.length+1) 0 1,bG (X.A .nx) X.vN X.N.length]):=by simp[aq.gy,p]
  have F:H.length<=(X.gy H m).length:=by rw[t];simp
  have B: ∀b,b<H.length->b≠X.A .it->(X.gy H m)[b]?=H[b]?:= λb i k=>by
   rw[t,aqn (aq7 k),aqf (by simp;omega),aqf i]
  have K:(X.gy H m)[X.A .it]?=some (Ob.box [.ref (X.A .un) 0,.ref (X.A (.fr [])) 0,.d (.bool false),.bB (H.length+1) 0 1,bG (X.A .nx) X.vN X.N.length]):=by
   rw[t,aqZ (by simp;omega)]
  have L:(X.gy H m)[H.length+1]?=some (Ob.row true 1 0 [m]):=by
   rw[t,aqn (by omega),aqm (by simp)];simp
  have x: ∀b,b<H.length->X.own b=none->(X.eg H (g,m)).own b=none/\(X.gy H m)[b]?=H[b]?:= λb r f=>⟨by rw[q b (by omega)];exact f,B b r (by rintro rfl;rw[A]at f;cases f)⟩
  have y: ∀a,X.live c a->(X.eg H (g,m)).live c a/\(X.eg H (g,m)).A a=X.A a:= λa l=>by
   have k:a≠ .af:=by rintro rfl;exact l p
   refine⟨?_,o a k⟩;by_cases j:a= .nx
   ·subst j;exact l
   ·exact(iU (X:=X) (Y:=X.eg H (g,m)) W j k).2 l
  refine⟨?_,⟨λ_ _ h=>h,λ_ h=>h,F,x,y,λ_ _=>⟨rfl,rfl⟩,λ_ h=>h,λ_=>ari,λ_ _ _=>ari,λ_ _ h=>h,λ_ _ h=>h,λ_ _ _ _ _=>ari,λ_ _ h=>h,λ_ _ _ _=>rfl,rfl,?_,rfl,rfl,[(g,m)],rfl⟩⟩
  ·refine h.zh (λa=>a= .af\/a= .it) F x (λb D f=>B b (h.lt b _ f) (by rintro rfl;rw[A]at f;cases f)) (λb D=> ?_) W W (λb a f=> ?_) y (λa l u=> ?_) (λa l u=> ?_) (λz s=> .inl s) (λz s=> ?_)
   ·by_cases r:b=H.length+1
    ·subst r;rw[T,U];simp
    ·rw[q b r]
   ·by_cases r:b=H.length+1
    ·subst r;rw[t];simp
    ·rw[q b r]at f;have:=h.lt b a f;omega
   ·have k:a≠ .af:= λe=>u (.inl e)
    have i:a≠ .it:= λe=>u (.inr e)
    have w:X.live c a:=by
     by_cases j:a= .nx
     ·subst j;exact l
     ·exact(iU (X:=X) (Y:=X.eg H (g,m)) W j k).1 l
    have f:=h.own a w;have N:=h.lt _ _ f;refine⟨w,by rw[q _ (by omega)];exact f,B _ N (h.ne w trivial i),λV G=> ?_⟩;by_cases j:a= .nx
    ·subst j;exact G
    ·exact dK.congr (X:=X) (Y:=X.eg H (g,m)) (λa _ k=>o a k) W W W W W W W i j k G
   ·rcases u with rfl|rfl
    ·exact⟨by rw[J];exact T,_,by rw[J];exact L,by simp only[aq.dK];simp[aq.eg,p]⟩
    ·refine⟨by rw[o _ (by simp),q _ (by omega)];exact A,_,by rw[o _ (by simp)];exact K,?_⟩;simp only[aq.dK];rw[o _ (by simp),o _ (by simp),J,o _ (by simp)];simp[aq.eg,p,bG]
   ·rcases aql.1 s with i|i
    ·exact .inl i
    ·rw[aqp]at i;subst i;exact .inr (S.up x y)
  ·intro D v C;rcases C with C|⟨E,z,O,s,Q⟩
   ·exact .inl C
   ·exact .inr ⟨E,z,O,by show(X.F++_)[E]?=_;exact H8 s,Q⟩
 ·have o:(X.eg H (g,m)).A=X.A:=by simp[aq.eg,p]
  have q:(X.eg H (g,m)).own=X.own:=by simp[aq.eg,p]
  have R:X.live c .af:=p;have I:=h.own .af R;have co:=h.lt _ _ I;have Z:=h.ne R (r':= .it) trivial (by simp);have t:X.gy H m=((H++ [Ob.row false 1 0 [m]]).set (X.A .af) (Ob.row true 1 (X.vF+1) (X.F.map (·.2)++ [m]))).set (X.A .it) (Ob.box [.ref (X.A .un) 0,.ref (X.A (.fr [])) 0,.d (.bool false),.bB (X.A .af) (X.vF+1) (X.F.length+1),bG (X.A .nx) X.vN X.N.length]):=by simp[aq.gy,p]
  have F:H.length<=(X.gy H m).length:=by rw[t];simp
  have B: ∀b,b<H.length->b≠X.A .it->b≠X.A .af->(X.gy H m)[b]?=H[b]?:= λb i k j=>by
   rw[t,aqn (aq7 k),aqn (aq7 j),aqf i]
  have K:(X.gy H m)[X.A .it]?=some (Ob.box [.ref (X.A .un) 0,.ref (X.A (.fr [])) 0,.d (.bool false),.bB (X.A .af) (X.vF+1) (X.F.length+1),bG (X.A .nx) X.vN X.N.length]):=by
   rw[t,aqZ (by simp;omega)]
  have L:(X.gy H m)[X.A .af]?=some (Ob.row true 1 (X.vF+1) (X.F.map (·.2)++ [m])):=by
   rw[t,aqn (aq7 Z),aqZ (by simp;omega)]
  have x: ∀b,b<H.length->X.own b=none->(X.eg H (g,m)).own b=none/\(X.gy H m)[b]?=H[b]?:= λb r f=>⟨by rw[q];exact f,B b r (by rintro rfl;rw[A]at f;cases f) (by rintro rfl;rw[I]at f;cases f)⟩
  have y: ∀a,X.live c a->(X.eg H (g,m)).live c a/\(X.eg H (g,m)).A a=X.A a:= λa l=>by
   refine⟨?_,by rw[o]⟩;by_cases k:a= .af
   ·subst k;show X.F++_≠ [];simp
   by_cases j:a= .nx
   ·subst j;exact l
   ·exact(iU (X:=X) (Y:=X.eg H (g,m)) W j k).2 l
  refine⟨?_,⟨λ_ _ h=>h,λ_ h=>h,F,x,y,λ_ _=>⟨rfl,rfl⟩,λ_ h=>h,λ_=>ari,λ_ _ _=>ari,λ_ _ h=>h,λ_ _ h=>h,λ_ _ _ _ _=>ari,λ_ _ h=>h,λ_ _ _ _=>rfl,rfl,?_,rfl,rfl,[(g,m)],rfl⟩⟩
  ·refine h.zh (λa=>a= .af\/a= .it) F x (λb D f=>B b (h.lt b _ f) (by rintro rfl;rw[A]at f;cases f) (by rintro rfl;rw[I]at f;cases f)) (λb D=>by rw[q]) W W (λb a f=> ?_) y (λa l u=> ?_) (λa l u=> ?_) (λz s=> .inl s) (λz s=> ?_)
   ·rw[q]at f;have:=h.lt b a f;omega
   ·have k:a≠ .af:= λe=>u (.inl e)
    have i:a≠ .it:= λe=>u (.inr e)
    have w:X.live c a:=by
     by_cases j:a= .nx
     ·subst j;exact l
     ·exact(iU (X:=X) (Y:=X.eg H (g,m)) W j k).1 l
    have f:=h.own a w;have N:=h.lt _ _ f;refine⟨w,by rw[q];exact f,B _ N (h.ne w trivial i) (h.ne w R k),λV G=> ?_⟩;by_cases j:a= .nx
    ·subst j;exact G
    ·exact dK.congr (X:=X) (Y:=X.eg H (g,m)) (λa _ _=>by rw[o]) W W W W W W W i j k G
   ·rcases u with rfl|rfl
    ·exact⟨by rw[o,q];exact I,_,by rw[o];exact L,by simp only[aq.dK];simp[aq.eg,p]⟩
    ·refine⟨by rw[o,q];exact A,_,by rw[o];exact K,?_⟩;simp only[aq.dK];rw[o];simp[aq.eg,p,bG]
   ·rcases aql.1 s with i|i
    ·exact .inl i
    ·rw[aqp]at i;subst i;exact .inr (S.up x y)
  ·intro D v C;rcases C with C|⟨E,z,O,s,Q⟩
   ·exact .inl C
   ·exact .inr ⟨E,z,O,by show(X.F++_)[E]?=_;exact H8 s,Q⟩
theorem GA(h:Pu P c d u X){p:AI×M}(m:AI.ok P c d X p.1):Pu P c d u (X.eg H p)/\(∀k v,(k,v)∈((p.1.own,p.1.v)::p.1.w)->(X.eg H p).S c k v)/\(X.eg H p).T c=X.T c+(1+p.1.w.length):=by
 refine⟨h.more W W W W W W (λk v g=> ?_) (λb a=>a) (λb a=> .inl a) (λb a=> ?_) (by show X.fi<=(X.F++ [p]).length;have:=h.fl;simp;omega) h.fn,λk v i=> .inr ⟨X.F.length,p,h.fl,by show(X.F++ [p])[X.F.length]?=_;simp,by grind⟩,?_⟩
 ·rcases g with g|⟨f,b,l,a,i⟩
  ·exact .inl g
  ·exact .inr ⟨f,b,l,H8 a,i⟩
 ·rcases aql.1 a with j|j
  ·exact .inl j
  ·grind
 ·have e:(X.eg H p).cu=X.cu:=by funext f;cases f<;>rfl
  unfold aq.T;rw[e];show X.N.length+aP (((X.F++ [p]).drop X.fi).map _)+_=_;rw[asx h.fl,aqO,nT];simp only[aqN,arf,jK];show _+(_+(1+p.1.w.length+0))+_=_;omega
end
end Go.Proofs.Sz
namespace Go.Mt
section
variable{X:bD}{ops:Array Oper}{rest:List Oper}{sl:List (Nat×V)}{bx:List (Nat×List M)}{H:Hp}{post:St->Prop}{d ty:Nat}{pos:String}{af:Array Edge}
theorem D8{t e n h:Nat}{y x:Operand}{rows:List (List D)}{c:IntKind}[ht:aQ X.P t e][s:bU X.P e n](f:Nat.blt d X.n=true)(i:bj sl x=some (.m (.d (.sl rows))))(j:bj sl y=some (.m (.d (.int c ((h:Nat):Int)))))(m:rows≠ [])(q:h<=rows.length)(o: ∀a∈rows,a.length=n)
  (k:TL X ops rest ⟨(d,.m (.d (A_ (rows.take h))))::sl,bx,H⟩ post):TL X ops (⟨some d,.slice t x none (some y) none,ty,pos,af,none⟩::rest) ⟨sl,bx,H⟩ post:=by
 refine No (v:= .m (.d (A_ (rows.take h)))) (Na:=sl) (Ns:=bx) (H':=H) W W f ?_ k;have this:=tJ (X:=X) (st:=⟨sl,bx,H⟩) (dst:=some d) (ty:=ty) (pos:=pos) (af:=af) (g:=none) (t:=t) (lo:=none) (hi:=some y) (l:=none) (h:=some h) i W (by simp only[tI,St.ev,j]) m (aqY _) q o;have p:(rows.drop ((none:Option Nat).getD 0)).take (((some h:Option Nat).getD rows.length)-(none:Option Nat).getD 0)=rows.take h:=by simp
 rw[p]at this;cases b:rows.take h with
 |nil=>rw[b]at this;exact this
 |cons r a=>rw[b]at this;exact this
end
end Go.Mt
namespace Go.Proofs.Sz
open Go.Mt Go.Sm Go.Proofs
section
variable{P:Pg}{n:Nat}{c:aH}{d:Nd}{u:US}{X:aq}{H:Hp}
theorem Jx(h:cx P n c d X H)(a:X.F≠ []):H[X.A .af]?=some (.row true 1 X.vF (X.F.map (·.2))):=by
 obtain⟨f,b,e⟩:=h.ob .af a;rw[b,e]
theorem qg(h:cx P n c d X H): ∀b,H.length<=b->X.own b=none:= λb f=>by
 cases e:X.own b with
 |none=>rfl
 |some a=>have:=h.lt b a e;omega
structure KT(c:aH)(X:aq)(H:Hp)(m:M)(ai:AI)(bk:Nat)(km:M)(e:Xp)(i:Nat)(a0:Nat):Prop where
 m:m= .fn 124 [.ref bk 0,.d (.aZ [iN i] 0)]
 bk:X.box H bk km
 rZ:X.rZ c H km ai.J e a0
 sm:je e
 hk:e.kids[i]?=some ai.e
 hl:e.kids.length=i+1
 ha:ai.a=a0+aP ((e.kids.take i).map xP)
theorem z'(t:cL P n c d u X H)(ac:X.F.length<=1000000000000){m:M}{ai:AI}{g:Nat}{km:M}{e:Xp}{i w:Nat}(C:KT c X H m ai g km e i w)(D:AI.ok P c d X ai):
  DT Tryz.prog 123 [.ref (X.A .it) 0,m,.d (.int .i64 (ai.own:Int))] H λr K=> ∃Y,cL P n c d u Y K/\a_ c (λ_=>False) X H Y K/\Y.cs=X.cs/\Y.fs=X.fs/\Y.dn=X.dn/\Y.lv=X.lv/\Y.x=X.x/\Y.N=X.N/\Y.T c<=X.T c+(1+ai.w.length)/\ ∀k v,(k,v)∈((ai.own,ai.v)::ai.w)->Y.S c k v:=by
 have a:=t.lay;have q:=qg a;obtain⟨rfl,E,F,G,I,J,U⟩:=C;have h:(H++ [Ob.box [.ref (X.A .it) 0]]++ [Ob.box [.fn 124 [.ref g 0,.d (.aZ [iN i] 0)]]])[H.length]?=some (Ob.box [.ref (X.A .it) 0]):=by simp
 have x:(H++ [Ob.box [.ref (X.A .it) 0]]++ [Ob.box [.fn 124 [.ref g 0,.d (.aZ [iN i] 0)]]])[(H++ [Ob.box [M.ref (X.A .it) 0]]).length]?=some (Ob.box [.fn 124 [.ref g 0,.d (.aZ [iN i] 0)]]):=by simp
 have l:=(a.grow [Ob.box [.ref (X.A .it) 0]]).grow [Ob.box [.fn 124 [.ref g 0,.d (.aZ [iN i] 0)]]];have o:=(a_.grow c (λ_=>False) X H [Ob.box [.ref (X.A .it) 0]]).trans (a_.grow c (λ_=>False) X _ [Ob.box [.fn 124 [.ref g 0,.d (.aZ [iN i] 0)]]]);refine DT.ob Tryz.func123 W Tryz.ntmps123 W<|dO [2,7] W<|Mu (cA W W W)<|dR [8] W<|Mu (cA W W W)<|dL [] W ?_;generalize Z:H++ [Ob.box [.ref (X.A .it) 0]]++ [Ob.box [.fn 124 [.ref g 0,.d (.aZ [iN i] 0)]]]=K at h x l o;have f:=l.inst;have L:X.ya c K (.fn 142 [.ref (H++ [Ob.box [M.ref (X.A .it) 0]]).length 0,.ref H.length 0,.d (.aZ [.int .i64 (ai.own:Int)] 0)]) ai:=
  ⟨_,_,g,km,e,i,w,rfl,⟨q _ (by simp),x⟩,E.up o.gU,⟨q _ (aqd _),h⟩,F.up o.gU o.A,G,I,J,U⟩
 obtain⟨N,O⟩:=D7 l L;obtain⟨Q,R,V⟩:=GA t.pu (p:=(ai,.fn 142 [.ref (H++ [Ob.box [M.ref (X.A .it) 0]]).length 0,.ref H.length 0,.d (.aZ [.int .i64 (ai.own:Int)] 0)])) D (H:=K);have y: ∀b,X.gy K (.fn 142 [.ref (H++ [Ob.box [M.ref (X.A .it) 0]]).length 0,.ref H.length 0,.d (.aZ [.int .i64 (ai.own:Int)] 0)])=b-> ∃Y,cL P n c d u Y b/\a_ c (λ_=>False) X H Y b/\Y.cs=X.cs/\Y.fs=X.fs/\Y.dn=X.dn/\Y.lv=X.lv/\Y.x=X.x/\Y.N=X.N/\Y.T c<=X.T c+(1+ai.w.length)/\ ∀k v,(k,v)∈((ai.own,ai.v)::ai.w)->Y.S c k v:=by
  rintro b rfl;exact⟨_,⟨N,Q⟩,o.trans O,rfl,rfl,rfl,rfl,rfl,rfl,Nat.le_of_eq V,R⟩
 let z:M->Hp->Prop:= λB b=>b[H.length]?=some (Ob.box [.ref (X.A .it) 0])/\b[X.A .it]?=some (Ob.box [.ref (X.A .un) 0,.ref (X.A (.fr [])) 0,.d (.bool false),B,bG (X.A .nx) X.vN X.N.length])
 by_cases j:X.F= []
 ·have s:bG (X.A .af) X.vF X.F.length= .d (.sl []):=by simp[j,bG]
  rw[s]at f;refine dC [] W ?_;apply NT (z (.d (.sl []))) (⟨h,f⟩) bT
  ·intro S T;refine MK W W (λb a=>⟨_,a.1,rfl⟩)<|MK W W (λb a=>⟨_,a.1,rfl⟩)<|iR 2 W<|MK W W (λb a=>⟨_,a.2,rfl⟩) ?_;apply MF
   ·skip
    refine eD W W<|TF.nil ⟨rfl,rfl⟩
   apply MF
   ·skip
    refine dJ (cs:=[_]) W W W W W W<|TF.nil ⟨rfl,rfl⟩
   apply MF
   ·skip
    refine oJ true W W W (lu _ _) W W (by decide) (by decide)<|TF.nil ⟨rfl,rfl⟩
   refine iR 2 W ?_;apply MF
   ·skip
    refine fh W W (bp (bp f)) W W W<|TF.nil ⟨rfl,rfl⟩
   exact iT.nil ⟨by kernel_rfl,by repeat' first|exact trivial|exact .inl ((by first|exact⟨bp h,bp f⟩|exact⟨bp (bp h),bp (bp f)⟩))|exact .inr (by kernel_rfl)|refine⟨?_,?_⟩,rfl⟩
  refine⟨_,rfl,y _ ?_⟩;simp only[aq.gy,aqy j,aqg,aqH];rfl
 ·have s:bG (X.A .af) X.vF X.F.length= .bB (X.A .af) X.vF X.F.length:=by unfold bG;rw[aqo];intro e;exact j (aq4 e)
  rw[s]at f;have A:=l.ne (r:= .af) (r':= .it) j trivial (by simp);refine dC [] W ?_;apply NT (z (.bB (X.A .af) X.vF X.F.length)) (⟨h,f⟩) bT
  ·intro S T;refine MK W W (λb a=>⟨_,a.1,rfl⟩)<|MK W W (λb a=>⟨_,a.1,rfl⟩)<|iR 2 W<|MK W W (λb a=>⟨_,a.2,rfl⟩) ?_;apply MF
   ·skip
    refine eD W W<|TF.nil ⟨rfl,rfl⟩
   apply MF
   ·skip
    refine dJ (cs:=[_]) W W W W W W<|TF.nil ⟨rfl,rfl⟩
   apply MF
   ·skip
    refine oK W W W (lu _ _) (bp (Jx l j)) W (by omega) (by omega)<|TF.nil ⟨rfl,rfl⟩
   refine iR 2 W ?_;apply MF
   ·skip
    refine fh W W (fB (bp f) A) W W W<|TF.nil ⟨rfl,rfl⟩
   exact iT.nil ⟨by kernel_rfl,by repeat' first|exact trivial|exact .inl ((by first|exact⟨bp h,bp f⟩|exact⟨fB (bp h) (by intro e;have:=a.own .af j;rw[e,q _ (aqd _)]at this;cases this),fB (bp f) A⟩))|exact .inr (by kernel_rfl)|refine⟨?_,?_⟩,rfl⟩
  refine⟨_,rfl,y _ ?_⟩;simp only[aq.gy,aqo j];rfl
theorem Fi{h j:Nat}{q r:M}{e:Xp}{a i:Nat}{k:Xp}(s:je e)(D:a+aP (e.kids.map xP)<=1000000000)(t:e.kids[i]?=some k)(E:H[h]?=some (.box [q]))(F:H[j]?=some (.box [r])){post:M->Hp->Prop}
  (u:DT Tryz.prog 91 [q,r,.d (.agg k.cells),.d (.int .i64 (((a+aP ((e.kids.take i).map xP):Nat)):Int))] H post):
  DT Tryz.prog 120 [dN i,.d (.aZ [.int .i64 (a:Int)] 0),.d (.aZ e.cells 0),.ref h 0,.ref j 0] H post:=by
 have m:i<e.kids.length:=by
  rcases aqh i e.kids.length with l|l
  ·exact l
  ·grind
 have G:aP (e.kids.map xP)<=1000000000:=by omega
 have R:=D;have z: ∀g∈e.kids,je g:= λg I=>s.rZ I
 have J:=s.kids;rw[e.aA];generalize e.kids=b at t m G R z J u⊢;obtain⟨B,S,K,v⟩:=u;have L:b.map Xp.cells≠ []:=by
                    intro l;have:(b.map Xp.cells).length=0:=by rw[l];rfl
                    simp at this;rw[this]at m;simp at m
 refine DT.ob Tryz.func120 W Tryz.ntmps120 W<|dO [2,2,2,18] W<|Mu (D8 W W W L (by simp;omega) (by intro B N;obtain⟨_,_,rfl⟩:=aqM.1 N;exact Xp.len _))<|dR [19] W<|Mu (bH W W (Ga _)) ?_;rw[show((b.map Xp.cells).take i).length=i by simp;omega];refine dL [] W<|MG [nN 16 0,nN 15 i,nD 14 (A_ ((b.map Xp.cells).take i)),nN 7 (a+aP ((b.take 0).map xP)),nN 0 i,nD 2 (.aZ (bO e.kd e.op e.num e.nm e.names (b.map Xp.cells) e.ps) 0),nR 3 h,nR 4 j] H W W<|dC [] W<|Ny (λw=> ∃f,w=⟨[nN 7 (a+aP ((b.take i).map xP)),nN 0 i,nD 2 (.aZ (bO e.kd e.op e.num e.nm e.names (b.map Xp.cells) e.ps) 0),nR 3 h,nR 4 j],f,H⟩) ?_ ?_
 ·refine dC [3] W ?_;obtain⟨n,O⟩: ∃n,n=bO e.kd e.op e.num e.nm e.names (b.map Xp.cells) e.ps:=⟨_,rfl⟩;rw[<-O];refine DC.lp (λk C=> ∃(c:Nat) (f:List (Nat×List M)),C=⟨[nN 16 c,nN 15 i,nD 14 (A_ ((b.map Xp.cells).take i)),nN 7 (a+aP ((b.take c).map xP)),nN 0 i,nD 2 (.aZ n 0),nR 3 h,nR 4 j],f,H⟩/\c<=i/\k=i-c) i _
   ⟨0,_,rfl,by omega,rfl⟩ W ?_
  rintro k T ⟨c,f,rfl,U,rfl⟩;refine dC [2] W<|DC.cond W (λx=> ?_) (λx=> ?_)
  ·have y:c<i:=by have:=aqv x;omega
   have A:c<b.length:=by omega
   have d:((b.map Xp.cells).take i)[((c:Nat):Int).toNat]?=some b[c].cells:=by grind
   obtain⟨P,Z⟩:=fD xP A;have o:=jo b[c] (z _ (aqz A)) (by grind);generalize b[c]=g at d o P;rw[g.aA]at d o;have Q:((a+aP ((b.take c).map xP):Nat):Int)+((xP g:Nat):Int)=((a+aP ((b.take (c+1)).map xP):Nat):Int):=by omega
   generalize (b.map Xp.cells).take i=p at d⊢;cases p with
   |nil=>simp at d
   |cons V p=>
    refine dO [3,2,22] W<|Mu (aK W W W (aqe c) d W)<|dR [2,26] W<|Mu (aJ o W W)<|dR [27] W<|Mu (ax W W W (by omega)) ?_;rw[Q];refine dR [2,28] W<|Mu (ax W W W (by omega))<|dL [] W<|bE (k':=i-(c+1)) (by omega) ⟨c+1,_,rfl,by omega,rfl⟩ W W
  ·refine DC.exit ?_;have y:c=i:=by grind
   subst y;exact⟨_,⟨f,rfl⟩,cF W W⟩
 rintro w ⟨f,rfl⟩;have d:(b.map Xp.cells)[((i:Nat):Int).toNat]?=some k.cells:=by simp[t]
 rw[k.aA]at d v;refine dC [] W ?_;apply Mz bT
 ·intro X Y;refine av W W E W<|av W W F W<|fR 3 W<|bK W W W (aqe i) d W<|fR 2 W<|bm v W W<|fR 1 W<|TF.nil ⟨by kernel_rfl,rfl⟩
 exact DC.ret ⟨_,rfl,K⟩
end
end Go.Proofs.Sz
namespace Go.Mt
section
variable{P:Program}{n B:Nat}{post:Exit->St->Prop}
theorem DC.freeze{c:Code}(t:Nat){ds:List D}{sl:List (Nat×V)}{bx:List (Nat×List M)}{H:Hp}(d:get bx t=some (ds.map .d))(e:get sl t=some (.loc t 0))(k:DC P n B c ⟨(t,.m (.d (.aZ ds 0)))::sl,del bx t,H⟩ post):DC P n B c ⟨sl,bx,H⟩ post:=
 Oj _ (λ_ _ _ i j a=>by
  obtain⟨l,f,rfl,a⟩:=a;obtain⟨b,g,h⟩:=a.freeze d e;exact⟨b,f,g,h⟩) k
end
section
variable{X:bD}{ops:Array Oper}{rest:List Oper}{sl:List (Nat×V)}{bx:List (Nat×List M)}{H:Hp}{M6:List Ef->St->Prop}{d ty:Nat}{pos:String}{af:Array Edge}
theorem ot{x:Operand}{f:Nat}{b:List M}{args:List Operand}{O_:Array Nat}{ms:List M}{r:M}{H':Hp}[hf:br X.P f](h:CT X.P f (ms++b) H λg i=>g=r/\i=H')(j:Nat.blt d X.n=true)(l:bj sl x=some (.m (.fn f b)))(m:fG sl args=some ms)
  (k:TF X ops rest ⟨(d,.m r)::sl,bx,H'⟩ λn o=>M6 (⟨some d,.m r,[],[],none,true,some H'⟩::n) o):TF X ops (⟨some d,.call ⟨.value x,args.toArray,O_⟩,ty,pos,af,none⟩::rest) ⟨sl,bx,H⟩ M6:=by
 refine TF.cons (e:=⟨some d,.m r,[],[],none,true,some H'⟩) (Oi W W (bL j) λs a=> ?_) W k;have c:=a.H W;simp only at c;exact xB (v_ (by exact(a.ev (x:=x) (by simp[Op.operands,Call.operands])).trans l) (by rw[a.fG (λq p=>by simp[Op.operands,Call.operands];exact .inr p),mP];exact m)) (by rw[c];exact h)
theorem ou{x y:Operand}{a c:Nat}{v u:V}{z:Bool}(f:kX X.P a=1)(g:Nat.blt d X.n=true)(h:bj sl x=some v)(i:bj sl y=some u)(j:gw 1 v=some z)(l:gw 1 u=some true)
  (k:TF X ops rest ⟨(d,.m (.d (.bool (!z))))::sl,bx,H⟩ λm n=>M6 (⟨some d,.m (.d (.bool (!z))),[],[],none,false,none⟩::m) n):TF X ops (⟨some d,.binOp .neq a x y c,ty,pos,af,none⟩::rest) ⟨sl,bx,H⟩ M6:=by
 refine TF.cons (e:=⟨some d,.m (.d (.bool (!z))),[],[],none,false,none⟩) (M2 W W (bL g) λo b=> ?_) W k;exact wK (.inr W) f (.inl W) ((b.ev (x:=x) (by simp[Op.operands])).trans h) ((b.ev (x:=y) (by simp[Op.operands])).trans i) j l
theorem uQ{x y:Operand}{a c:Nat}{v u:V}{z:Bool}(f:kX X.P a=1)(g:Nat.blt d X.n=true)(h:bj sl x=some v)(i:bj sl y=some u)(j:gw 1 v=some z)(l:gw 1 u=some true)
  (k:TF X ops rest ⟨(d,.m (.d (.bool z)))::sl,bx,H⟩ λm n=>M6 (⟨some d,.m (.d (.bool z)),[],[],none,false,none⟩::m) n):TF X ops (⟨some d,.binOp .eql a x y c,ty,pos,af,none⟩::rest) ⟨sl,bx,H⟩ M6:=by
 refine TF.cons (e:=⟨some d,.m (.d (.bool z)),[],[],none,false,none⟩) (M2 W W (bL g) λo b=> ?_) W k;exact wK (.inl W) f (.inl W) ((b.ev (x:=x) (by simp[Op.operands])).trans h) ((b.ev (x:=y) (by simp[Op.operands])).trans i) j l
end
end Go.Mt
namespace Go.Proofs.Sz
open Go.Mt Go.Sm Go.Proofs
section
variable{P:Pg}{n:Nat}{c:aH}{d:Nd}{u:US}{X:aq}{H:Hp}
def cM(P:Pg)(n:Nat)(c:aH)(d:Nd)(u:US)(X:aq)(H:Hp)(t:Nat)(w:List (Nat×Int))(Y:aq)(K:Hp):Prop:=
 cL P n c d u Y K/\a_ c (λ_=>False) X H Y K/\Y.T c<=X.T c+t/\ ∀p∈w,Y.S c p.1 p.2
theorem cM.trans{Y Z:aq}{K L:Hp}{t s:Nat}{w v:List (Nat×Int)}(h:cM P n c d u X H t w Y K)(k:cM P n c d u Y K s v Z L):cM P n c d u X H (t+s) (w++v) Z L:=by
 obtain⟨_,f,m,g⟩:=h;obtain⟨i,e,o,j⟩:=k;refine⟨i,f.trans e,by omega,λb l=> ?_⟩;rcases aql.1 l with a|a
 ·exact e.S _ _ (g b a)
 ·exact j b a
theorem k7.next{Y:aq}{K:Hp}{r:Nat}(h:k7 c X r)(k:a_ c (λ_=>False) X H Y K):k7 c Y r:=by
 refine⟨λa b f=>h.c1 a b ((k.c1 a b (λh=>h)).2 f),λe a g=>h.f1 e a ((k.f1 _).2 g),λa b=> ?_,h.tp⟩;rcases aqh 3 (Y.cs a b)with d|d
 ·have i:=(k.c4 a b _ (λh=>h) (Nat.succ_le_of_lt d)).2 W;have:=h.c4 a b;omega
 ·exact d
theorem si(f:Pu P c d u X){J:Path}(hf:X.fs J=2){x:Nm}{σ:Path×Nat}(h:c.find J x=some σ):X.fs σ.1=2/\fS (c.fr σ.1).vars x=some σ.2:=by
 induction J with
 |nil=>
  change Option.map _ _=_ at h;cases a:fS (c.fr []).vars x with
  |none=>rw[a]at h;cases h
  |some b=>rw[a]at h;injection h with h;subst h;exact⟨hf,a⟩
 |cons e J g=>
  rw[tX]at h;cases a:fS (c.fr (e::J)).vars x with
  |none=>rw[a]at h;exact g (f.Jv hf) h
  |some b=>rw[a]at h;injection h with h;subst h;exact⟨hf,a⟩
theorem CD{l:List Va}{x:Nm}{i:Nat}(h:fS l x=some i): ∃v,l[i]?=some v/\v.name=x:=by
 unfold fS at h;rw[aq2]at h;obtain⟨a,b,_⟩:=h;exact⟨l[i],aqi a,by grind⟩
theorem k9(b:cL P n c d u X H){J:Path}(hf:X.fs J=2){x:Nm}{σ:Path×Nat}(h:c.find J x=some σ):X.fs σ.1=2/\ ∃v a eq,(c.fr σ.1).vars[σ.2]?=some v/\v.name=x/\(c.fr σ.1).db[σ.2]?=some a/\H[X.A (.ce σ.1 σ.2)]?=some (.box (cV v a eq (X.A (.fr σ.1)) (mW (X.cs σ.1 σ.2)) (if zB (X.cs σ.1 σ.2)then c.get (σ.1,σ.2)else 0)))/\ ∀j,jB (c.fr σ.1) σ.2 v j->eq= .ref (X.A (.pl σ.1 j)) 0:=by
 obtain⟨e,g⟩:=si b.pu hf h;obtain⟨v,f,i⟩:=CD g;obtain⟨a,eq,k,l,m⟩:=b.lay.cell e f;exact⟨e,v,a,eq,f,i,k,l,m⟩
def H9(P:Pg)(n:Nat)(c:aH)(d:Nd)(u:US)(X:aq)(H:Hp)(σ:Path×Nat)(r:M)(K:Hp):Prop:=
 r= .cZ [.d (.int .i32 (c.get σ)),.d (.bool (c.val σ.1 σ.2).isSome)]/\ ∃Y,cM P n c d u X H 0 [] Y K/\(Y.cs σ.1 σ.2=2\/Y.cs σ.1 σ.2=3)
def et(P:Pg)(n:Nat)(c:aH)(d:Nd)(u:US)(r:Nat):Prop:= ∀(X:aq) (H:Hp),cL P n c d u X H->X.T c<=1000000000000->k7 c X r-> ∀(J:Path) (x:Nm) (σ:Path×Nat),X.fs J=2->c.find J x=some σ->c.mV σ<r->
 DT Tryz.prog 45 [.ref (X.A .it) 0,.ref (X.A (.fr J)) 0,.d (.str x)] H (H9 P n c d u X H σ)
theorem GD(I:qd P.aI)(Z: ∀J,(c.fr J).vars.length<=1000000){r:Nat}(hV:et P n c d u r)(hI:cL P n c d u X H)(hT:X.T c<=1000000000000)(hP:k7 c X r){J:Path}(hf:X.fs J=2){e:Xp}(N7:je e){σ:Path×Nat}(y:c.find J e.nm=some σ)(hr:c.mV σ<r)
  {i:Nat} {cn:Nm} (hi:e.names[i]?=some cn) (hn:kB (c.dD P.aI σ) cn=c.get σ) (K: ∀(L:Nat) (x:Nm),L<i->e.names[L]?=some x->kB (c.dD P.aI σ) x≠c.get σ)
  {km:M} {a:Nat} (q:X.rZ c H km J e a) {post:M->Hp->Prop}
  (ih: ∀h g,cM P n c d u X H 0 [] h g-> ∀j k,km= .fn 120 [.d (.aZ [.int .i64 (a:Int)] 0),.d (.aZ e.cells 0),.ref j 0,.ref k 0]->g[j]?=some (.box [.ref (X.A .it) 0])->g[k]?=some (.box [.ref (X.A (.fr J)) 0])->
   DT Tryz.prog 120 [dN i,.d (.aZ [.int .i64 (a:Int)] 0),.d (.aZ e.cells 0),.ref j 0,.ref k 0] g post):
  DT Tryz.prog 126 [.ref (X.A .it) 0,.ref (X.A (.fr J)) 0,.d (.agg e.cells),km] H post:=by
 obtain⟨r1,g,⟨rfl,h,z,d6⟩,Rm⟩:=hV X H hI hT hP J e.nm σ hf y hr;have m:=z.1;have o:=z.2.1;have N:=o.f2 J hf;have A:=oU m.lay m.pu Z J N e.nm;rw[(o.A (.fr J) (by show 1<=X.fs J;omega)).2]at A;have Q5:h.fU c J e.nm= .ref (h.A (.ce σ.1 σ.2)) 0:=by unfold aq.fU;rw[y]
 rw[Q5]at A;obtain⟨Nt,v,lp,eq,hv,RO,Ng,O,_⟩:=k9 m N y;have Q:c.dD P.aI σ=eM P.aI v.tk v.tn:=by unfold aH.dD;rw[hv]
 have B:=vD I v.tk v.tn;rw[<-Q]at B;obtain⟨_,j,k,q,h4,h5⟩:=q;have R1:=ih h g z j k q ((h4.up o.gU).2) ((h5.up o.gU).2);obtain⟨r2,co,NC,s⟩:=R1;have C:=m.lay.inst;rw[(o.A .it trivial).2]at C;have R:=m.lay.unit;have QO:=N7.names;rw[q];rw[e.aA]at s⊢;generalize e.names=f at hi K QO s⊢;refine DT.ob Tryz.func126 W Tryz.ntmps126 W<|dO [2,2,23] W<|Mu (ap Rm W W)<|dR [2,29] W<|Mu (ap A W W)<|dR [2,32] W<|Mu (bH W W W) ?_;rw[aqE];refine dL [] W ?_;obtain⟨l,E⟩: ∃l,l=bO e.kd e.op e.num e.nm f (e.kids.map Xp.cells) e.ps:=⟨_,rfl⟩;refine MG [nN 29 0,nN 28 f.length,nD 27 (.sl (dq f)),nR 11 (h.A (.ce σ.1 σ.2)),nD 9 (.int .i32 (c.get σ)),nD 6 (.aZ l 0),nR 0 (X.A .it),nR 1 (X.A (.fr J)),nM 3 (.fn 120 [.d (.aZ [.int .i64 (a:Int)] 0),.d (.aZ l 0),.ref j 0,.ref k 0])] g (kc W (kc W (kc W (kc W (kc W (kc (by rw[E];rfl) (kc W (kc W (kc (by rw[E];rfl) W))))))))) W ?_;rw[<-E]at s;have da:i<f.length:=by
  grind
 refine dC [3] W<|DC.lp (λG Y=> ∃(b:Nat) (S:List (Nat×List M)),Y=⟨[nN 29 b,nN 28 f.length,nD 27 (.sl (dq f)),nR 11 (h.A (.ce σ.1 σ.2)),nD 9 (.int .i32 (c.get σ)),nD 6 (.aZ l 0),nR 0 (X.A .it),nR 1 (X.A (.fr J)),nM 3 (.fn 120 [.d (.aZ [.int .i64 (a:Int)] 0),.d (.aZ l 0),.ref j 0,.ref k 0])],S,g⟩/\b<=i/\G=f.length-b) f.length _
  ⟨0,_,rfl,by omega,rfl⟩ W ?_
 rintro G s1 ⟨b,S,rfl,hj,rfl⟩;refine dO [2,34] W<|Mu (aN (aqI (by omega)) W W W W)<|dL [1] W ?_;have T:b<f.length:=by omega
 have t:=jZ T;have p:=aqi T;have w:=xW (c.dD P.aI σ) f[b] (by rw[Q];exact uK I _ _);refine dC [3] W ?_;rcases aqh b i with U|U
 ·have V:=K b _ U p;generalize f[b]=x at t w V;have F:=aqV.2 V;refine dO [2,36] W<|Mu (aK W W W (aqe b) t W)<|dL [] W ?_;apply Mz bT
  ·intro s0 Oo;refine fR 1 W<|ou (by kernel_rfl) W W W W W<|fR 4 W ?_
   first|refine bg W W W W ?_|refine bh W W W ?_|(refine aU W W ?_;(refine av W W C W ?_))
   refine fR 3 W ?_
   first|refine bg W W W W ?_|refine bh W W W ?_|(refine aU W W ?_;(refine av W W R W ?_))
   refine fR 4 W ?_
   first|refine bg W W W W ?_|refine bh W W W ?_|(refine aU W W ?_;(refine fg W W O W W ?_))
   first|refine bg W W W W ?_|refine bh W W W ?_|(refine aU W W ?_;(refine aS B W W ?_))
   refine fR 1 W ?_
   first|refine bg W W W W ?_|refine bh W W W ?_|(refine aU W W ?_;(refine aS w W W ?_))
   refine fR 1 W ?_
   first|refine bg W W W W ?_|refine bh W W W ?_|(refine aU W W ?_;(refine lX W W W (r:= .bool false) (by show some (D.bool (_==_))=_;rw[F]) ?_))
   refine fR 1 W<|TF.nil ⟨by kernel_rfl,rfl⟩
  refine dO [0,2,63] W<|Mu (ax W W W (by omega))<|dL [] W<|bE (k':=f.length-(b+1)) (by omega) ⟨b+1,_,rfl,by omega,rfl⟩ W W
 ·have ac:b=i:=by omega
  subst ac;rw[hi]at p;injection p with p
  rw[<-p]at t w;have F:(kB (c.dD P.aI σ) cn==c.get σ)=true:=by rw[hn];simp
  refine dO [2,36] W<|Mu (aK W W W (aqe b) t W)<|dL [] W ?_;apply Mz bT
  ·intro s0 Oo;refine fR 1 W<|ou (by kernel_rfl) W W W W W<|fR 4 W ?_
   first|refine bg W W W W ?_|refine bh W W W ?_|(refine aU W W ?_;(refine av W W C W ?_))
   refine fR 3 W ?_
   first|refine bg W W W W ?_|refine bh W W W ?_|(refine aU W W ?_;(refine av W W R W ?_))
   refine fR 4 W ?_
   first|refine bg W W W W ?_|refine bh W W W ?_|(refine aU W W ?_;(refine fg W W O W W ?_))
   first|refine bg W W W W ?_|refine bh W W W ?_|(refine aU W W ?_;(refine aS B W W ?_))
   refine fR 1 W ?_
   first|refine bg W W W W ?_|refine bh W W W ?_|(refine aU W W ?_;(refine aS w W W ?_))
   refine fR 1 W ?_
   first|refine bg W W W W ?_|refine bh W W W ?_|(refine aU W W ?_;(refine lX W W W (r:= .bool true) (by show some (D.bool (_==_))=_;rw[F]) ?_))
   refine fR 1 W<|TF.nil ⟨by kernel_rfl,rfl⟩
  refine dO [1,2,62] W<|Mu (ll s W W W)<|dL [] W<|DC.ret ⟨_,rfl,NC⟩
end
section
variable{P:Pg}{n:Nat}{c:aH}{d:Nd}{u:US}{X:aq}{H:Hp}
structure mX(P:Pg)(n:Nat)(c:aH)(d:Nd)(u:US):Prop where
 en:qd P.aI
 sz: ∀J,(c.fr J).vars.length<=1000000
 zq:c.sz=bW d
 cl: ∀(J:Path) (k:Nat) (v:Va),c.ok J->(c.fr J).vars[k]?=some v->v.clock.length<=1000000
 H_:bW d<=900000000
 rd: ∀X,Pu P c d u X-> ∀J k,X.fs J=2->wC c J k->k<bW d->X.x.m k=c.rd k
 Gi:c.ok []
 lo: ∀(J:Path) (k q:Nat),c.ok J->(c.fr J).db[k]?=some (some q)->wC c J q
 gh: ∀(J:Path) (j:Nat) (q:ay),(c.fr J).au[j]?=some q->q.kd=2->c.sb (j::J) 0=c.ek J j/\c.val (j::J) 0=none
 Bu: ∀(J:Path) (j:Nat) (q:ay),c.ok J->(c.fr J).au[j]?=some q->je q.ex/\q.args.length<=1000000/\(∀e∈q.args,je e)/\q.ah.length<=1000/\(∀a∈q.ah,tQ a.cp/\a.eT.length<=1000000/\a.eU.length<=1000000)/\q.lhs.length<=1000000/\oS q<=1000000
 Jy: ∀J,(c.fr J).au.length<=1000000
 iZ: ∀(J:Path) (j:Nat) (q:ay),c.ok J->(c.fr J).au[j]?=some q-> ∀a∈q.ah,∀t:Tr,(t∈a.eT\/t∈a.eU)->je t.e/\xP t.e=0
 pq: ∀(J:Path) (j:Nat) (q:ay) (p:Nat),c.ok J->(c.fr J).au[j]?=some q->(c.fr J).pos[j]?=some p->p+qP q<=bW d
 oq: ∀(J:Path) (j:Nat) (q:ay) (p:Nat),c.ok J->(c.fr J).au[j]?=some q->(c.fr J).pos[j]?=some p-> ∀k,p<=k->k<p+(ij q.kd+xP q.ex+aP (q.args.map xP))->wC c J k
 KU: ∀(J:Path) (k q:Nat),c.ok J->(c.fr J).db[k]?=some (some q)->q<bW d
 rs: ∀X,Pu P c d u X-> ∀(J:Path) (j:Nat) (q:ay) (p:Nat),X.fs J=2->(c.fr J).au[j]?=some q->q.kd=2->(c.fr J).pos[j]?=some p->X.dn J j=false->X.x.s p=c.rs p
 rp: ∀X,Pu P c d u X-> ∀(J:Path) (j:Nat) (q:ay) (p:Nat),X.fs J=2->(c.fr J).au[j]?=some q->q.kd=4->(c.fr J).pos[j]?=some p->X.x.p p=c.rp p
 lh: ∀(J:Path) (j:Nat) (q:ay),c.ok J->(c.fr J).au[j]?=some q-> ∀x∈q.lhs,∀σ,c.find J x=some σ->σ.1= []->d.ins.length<=σ.2
 LP: ∀(J:Path) (i:Nat) (lp:Option Nat),c.ok J->(c.fr J).db[i]?=some lp-> ∃v,(c.fr J).vars[i]?=some v
 LQ: ∀(i k:Nat),(c.fr []).db[i]?=some (some k)->d.ins.length<=i
 inj: ∀(J:Path) (j:Nat) (q:ay) (ML:Path) (j':Nat) (q':ay) (p:Nat),c.ok J->c.ok ML->(c.fr J).au[j]?=some q->(c.fr ML).au[j']?=some q'->q.kd=2->q'.kd=2->(c.fr J).pos[j]?=some p->(c.fr ML).pos[j']?=some p->ML=J/\j'=j
def s_(P:Pg)(n:Nat)(c:aH)(d:Nd)(u:US)(X:aq)(H:Hp)(v:Int)(w:List (Nat×Int))(r:M)(K:Hp):Prop:=r= .d (.int .i32 v)/\ ∃Y,cM P n c d u X H w.length w Y K
theorem Pu.ok(a:mX P n c d u)(h:Pu P c d u X){J:Path}(hf:X.fs J=2):c.ok J:=by
 cases J with
 |nil=>exact a.Gi
 |cons b J=>exact(h.fp b J (by rw[hf];simp)).2
theorem a_.box{E:Path×Nat->Prop}{Y:aq}{K:Hp}(h:a_ c E X H Y K){b:Nat}{m:M}(a:X.box H b m):Y.box K b m:=a.up h.gU
theorem ts{K L:Hp}{Y:aq}{d f b a' i:Nat}{J:Path}{e k:Xp}(h:je e)(j:b+aP (e.kids.map xP)<=1000000000)(l:e.kids[i]?=some k)(m:X.box K d (.ref (X.A .it) 0))(n:X.box K f (.ref (X.A (.fr J)) 0))(hf:X.fs J=2)(a:a_ c (λ_=>False) X K Y L)
  (o:a'=b+aP ((e.kids.take i).map xP)) {post:M->Hp->Prop} (g:DT Tryz.prog 91 [.ref (Y.A .it) 0,.ref (Y.A (.fr J)) 0,.d (.agg k.cells),dN a'] L post):
  DT Tryz.prog 120 [dN i,.d (.aZ [.int .i64 (b:Int)] 0),.d (.aZ e.cells 0),.ref d 0,.ref f 0] L post:=by
 subst o;refine Fi h j l (a.box m).2 (a.box n).2 ?_;rw[(a.A .it trivial).2,(a.A (.fr J) (by show 1<=X.fs J;omega)).2]at g;exact g
theorem cM.refl(a:cL P n c d u X H){K:Hp}(b:a_ c (λ_=>False) X H X K)(e:cx P n c d X K):cM P n c d u X H 0 [] X K:=⟨⟨e,a.pu⟩,b,aqd _,by grind⟩
theorem cM.pre{K L:Hp}{Y:aq}{t:Nat}{w:List (Nat×Int)}(a:a_ c (λ_=>False) X H X K)(h:cM P n c d u X K t w Y L):cM P n c d u X H t w Y L:=⟨h.1,a.trans h.2.1,h.2.2⟩
theorem cM.le{K:Hp}{Y:aq}{t a:Nat}{w:List (Nat×Int)}(h:cM P n c d u X H t w Y K)(l:t<=a):cM P n c d u X H a w Y K:=⟨h.1,h.2.1,aq1 h.2.2.1 (Nat.add_le_add_left l _),h.2.2.2⟩
theorem Jz{kids:List Xp}{i:Nat}{e:Xp}(h:kids[i]?=some e):aP ((kids.take i).map xP)+xP e<=aP (kids.map xP):=by
 induction kids generalizing i with
 |nil=>cases h
 |cons b c a=>cases i with
  |zero=>injection h with h;subst h;simp[aP]
  |succ i=>have:=a (i:=i) h;simp only[asa,aqN,aP,asz]at this⊢;omega
theorem dt(ac:mX P n c d u){r:Nat}(hV:et P n c d u r)(J:Path)(e:Xp)(N7:je e)(a:Nat)(v:Int)(w:List (Nat×Int))(OC:gT P.aI c J r e a v w)(X:aq)(H:Hp)(Q:cL P n c d u X H)(hT:X.T c+w.length<=1000000000000)(hP:k7 c X r)(hf:X.fs J=2)
  (hb:a+xP e<=1000000000) (ho: ∀E,a<=E->E<a+xP e->wC c J E) (hw: ∀p∈w,nU c p.1 p.2):
  DT Tryz.prog 91 [.ref (X.A .it) 0,.ref (X.A (.fr J)) 0,.d (.agg e.cells),dN a] H (s_ P n c d u X H v w):=by
 have Sj: ∀E∈e.kids,∀(a:Nat) (v:Int) (w:List (Nat×Int)),gT P.aI c J r E a v w-> ∀(X:aq) (H:Hp),cL P n c d u X H->X.T c+w.length<=1000000000000->k7 c X r->X.fs J=2->a+xP E<=1000000000->(∀h,a<=h->h<a+xP E->wC c J h)->(∀p∈w,nU c p.1 p.2)->
   DT Tryz.prog 91 [.ref (X.A .it) 0,.ref (X.A (.fr J)) 0,.d (.agg E.cells),dN a] H (s_ P n c d u X H v w):= λE hk a v w OC X H=>
  have:=Xp.Bf hk
  dt ac hV J E (N7.rZ hk) a v w OC X H
 have A:=Q.lay;have M9:=qg A;have i8:X.T c<=1000000000000:=by omega
 have y:(H++ [Ob.box [.ref (X.A .it) 0]]++ [Ob.box [.ref (X.A (.fr J)) 0]])[H.length]?=some (Ob.box [.ref (X.A .it) 0]):=by simp
 have z:(H++ [Ob.box [.ref (X.A .it) 0]]++ [Ob.box [.ref (X.A (.fr J)) 0]])[(H++ [Ob.box [M.ref (X.A .it) 0]]).length]?=some (Ob.box [.ref (X.A (.fr J)) 0]):=by simp
 have j:=(A.grow [Ob.box [.ref (X.A .it) 0]]).grow [Ob.box [.ref (X.A (.fr J)) 0]];have K:=(a_.grow c (λ_=>False) X H [Ob.box [.ref (X.A .it) 0]]).trans (a_.grow c (λ_=>False) X _ [Ob.box [.ref (X.A (.fr J)) 0]]);have M4:=DZ e;obtain⟨m,N⟩: ∃b,b=H.length:=⟨_,rfl⟩;obtain⟨x,L⟩: ∃b,b=(H++ [Ob.box [M.ref (X.A .it) 0]]).length:=⟨_,rfl⟩;have UU:X.own m=none:=M9 _ (by omega);have UW:X.own x=none:=M9 _ (by rw[L];simp);refine DT.ob Tryz.func91 W Tryz.ntmps91 W ?_;by_cases Oz:e.kd=9\/e.kd=10\/e.kd=11
 ·have Zf:dE e.kd=1:=by unfold dE;rw[aqy Oz]
  have f7:=ho a (aqd _) (by omega);have N8:((a:Nat):Int)+1=((a+1:Nat):Int):=by omega
  rw[Zf]at M4;cases OC<;>simp only[Xp.kd]at Oz<;>try (exfalso;omega)
  ·rename_i o s l t k q p T R ha hy;have RZ:a<bW d:=by rw[<-ac.zq];exact ha
   have Q8:=ac.rd X Q.pu J a hf f7 RZ;rw[Xp.aA];refine dO [2,8] W<|Mu (cA W W W)<|dR [9] W<|Mu (cA W W W)<|dR [11] W<|Mu (AX W W W W)<|dL [] W ?_;rw[<-N,<-L];rw[<-N]at y;rw[<-L]at z;generalize hK:H++ [Ob.box [M.ref (X.A .it) 0]]++ [Ob.box [M.ref (X.A (.fr J)) 0]]=g at y z j K⊢;have B:X.box g m (.ref (X.A .it) 0):=⟨UU,y⟩;have G:X.box g x (.ref (X.A (.fr J)) 0):=⟨UW,z⟩;refine dO [2,2,1,2,43] W<|Mu (ax W W W (by omega)) ?_;rw[N8];refine dL [] W<|DC.freeze 7 (ds:=[iN (a+1)]) W W ?_;obtain⟨F,Rl⟩: ∃F,F=bO 9 o s l t ([k,q].map Xp.cells) p:=⟨_,rfl⟩;refine dO [2,44] W<|Mu (eb W W)<|dR [14] W<|Mu (vq W)<|dR [999] W<|Mu (bX W W (tY _ _) W W W)<|dL [] W ?_;have V0: ∀ob NH:Ob,(g++ [ob]).set g.length NH=g++ [NH]:= λob NH=>by rw[arq _ _ (aqd _),asr];rfl
   refine MG [nR 4 m,nR 5 x,nD 6 (.aZ F 0),(9,.loc 9 0),nR 10 g.length] (g++ [Ob.box [(M.fn 120 [.d (.aZ [iN (a+1)] 0),.d (.aZ F 0),.ref m 0,.ref x 0])]]) (kc W (kc W (kc (by rw[Rl];rfl) W))) (by rw[Rl];exact V0 _ _) ?_;have f8:=qg j _ (aqd _);have Rn:=j.grow [Ob.box [(M.fn 120 [.d (.aZ [iN (a+1)] 0),.d (.aZ F 0),.ref m 0,.ref x 0])]];have d9:=K.trans (a_.grow c (λ_=>False) X g [Ob.box [(M.fn 120 [.d (.aZ [iN (a+1)] 0),.d (.aZ F 0),.ref m 0,.ref x 0])]]);have hg:=a_.grow c (λ_=>False) X g [Ob.box [(M.fn 120 [.d (.aZ [iN (a+1)] 0),.d (.aZ F 0),.ref m 0,.ref x 0])]];have Q6:=hg.box B;have f4:=hg.box G;have UH:X.box (g++ [Ob.box [(M.fn 120 [.d (.aZ [iN (a+1)] 0),.d (.aZ F 0),.ref m 0,.ref x 0])]]) g.length (M.fn 120 [.d (.aZ [iN (a+1)] 0),.d (.aZ F 0),.ref m 0,.ref x 0]):=⟨f8,tY _ _⟩;generalize g++ [Ob.box [(M.fn 120 [.d (.aZ [iN (a+1)] 0),.d (.aZ F 0),.ref m 0,.ref x 0])]]=K3 at Rn d9 Q6 f4 UH⊢;have UR:X.rZ c K3 (M.fn 120 [.d (.aZ [iN (a+1)] 0),.d (.aZ F 0),.ref m 0,.ref x 0]) J (.mk 9 o s l t [k,q] p) (a+1):=⟨by show 1<=X.fs J;omega,m,x,by rw[Xp.aA,Rl];rfl,Q6,f4⟩;have f9:KT c X K3 (.fn 124 [.ref g.length 0,.d (.aZ [iN 1] 0)]) ⟨J,q,a+1+xP k,a,T,R⟩ g.length (M.fn 120 [.d (.aZ [iN (a+1)] 0),.d (.aZ F 0),.ref m 0,.ref x 0]) (.mk 9 o s l t [k,q] p) 1 (a+1):=⟨rfl,UH,UR,N7,rfl,rfl,by simp[Xp.kids,aP]⟩;have UX:xP (Xp.mk 9 o s l t [k,q] p)=1+(xP k+(xP q+0)):=M4;have gc:a+1+xP k+xP q<=1000000000:=by omega
   have TK: ∀E,a+1+xP k<=E->E<a+1+xP k+xP q->wC c J E:= λE U h2=>ho E (by omega) (by omega)
   have ge:AI.ok P c d X ⟨J,q,a+1+xP k,a,T,R⟩:=⟨hy,hf,RZ,⟨hw _ (aqP ..),λh C=>hw h (aqF _ C)⟩,N7.rZ (by simp[Xp.kids]),TK,gc⟩;obtain⟨r1,S,⟨d6,OL,NF,_,On,_,_,i6,_,R2,i7⟩,N9⟩:=z' ⟨Rn,Q.pu⟩ (by have:=H3 Q.pu;simp only[aqw]at hT;omega) f9 ge;refine dO [2,46] W ?_;subst Rl;refine Mu (zE W W W)<|dR [3,2,0,2,0,2,0,2,0,2,0,2,0,2,0,2,0,2,1,1,2,142] W<|Mu (cC W W W (by simp))<|dL [] W<|DC.freeze 20 (ds:=[iN 1]) W W<|dO [2,143] W<|Mu (aw W W Q6.2 W)<|dR [144] W<|Mu (eb W W)<|dR [146] W<|Mu (ap N9 W W)<|dL [] W ?_;have Wh:=(NF.box Q6).2;have V:=OL.lay.inst;rw[(NF.A .it trivial).2]at V;have O6:=OL.lay.unit;have PA:=OL.lay.mem;have Q7:=il (n:=bW d) (f:=io d6.x.m) RZ;rw[show io d6.x.m a= .d (.int .i32 (c.rd a)) by rw[<-Q8,i6]]at Q7;apply Mz bT
   ·intro s0 Oo;refine av W W Wh W<|fR 2 W<|av W W V W<|fR 2 W<|av W W O6 W<|fR 1 W<|cS W W W PA (aqe a) (by exact arD.2 RZ)<|jl W W PA Q7<|fR 1 W<|TF.nil ⟨by kernel_rfl,rfl⟩
   exact DC.ret ⟨_,rfl,rfl,d6,OL,d9.trans NF,aq1 R2 (by show _+(1+R.length)<=_+(R.length+1);omega),λh C=>i7 h.1 h.2 C⟩
  ·rename_i o s l t q p T R ha hy;have RZ:a<bW d:=by rw[<-ac.zq];exact ha
   have Q8:=ac.rd X Q.pu J a hf f7 RZ;rw[Xp.aA];refine dO [2,8] W<|Mu (cA W W W)<|dR [9] W<|Mu (cA W W W)<|dR [11] W<|Mu (AX W W W W)<|dL [] W ?_;rw[<-N,<-L];rw[<-N]at y;rw[<-L]at z;generalize hK:H++ [Ob.box [M.ref (X.A .it) 0]]++ [Ob.box [M.ref (X.A (.fr J)) 0]]=g at y z j K⊢;have B:X.box g m (.ref (X.A .it) 0):=⟨UU,y⟩;have G:X.box g x (.ref (X.A (.fr J)) 0):=⟨UW,z⟩;refine dO [2,2,1,2,43] W<|Mu (ax W W W (by omega)) ?_;rw[N8];refine dL [] W<|DC.freeze 7 (ds:=[iN (a+1)]) W W ?_;obtain⟨F,Rl⟩: ∃F,F=bO 10 o s l t ([q].map Xp.cells) p:=⟨_,rfl⟩;refine dO [2,44] W<|Mu (eb W W)<|dR [14] W<|Mu (vq W)<|dR [999] W<|Mu (bX W W (tY _ _) W W W)<|dL [] W ?_;have V0: ∀ob NH:Ob,(g++ [ob]).set g.length NH=g++ [NH]:= λob NH=>by rw[arq _ _ (aqd _),asr];rfl
   refine MG [nR 4 m,nR 5 x,nD 6 (.aZ F 0),(9,.loc 9 0),nR 10 g.length] (g++ [Ob.box [(M.fn 120 [.d (.aZ [iN (a+1)] 0),.d (.aZ F 0),.ref m 0,.ref x 0])]]) (kc W (kc W (kc (by rw[Rl];rfl) W))) (by rw[Rl];exact V0 _ _) ?_;have f8:=qg j _ (aqd _);have Rn:=j.grow [Ob.box [(M.fn 120 [.d (.aZ [iN (a+1)] 0),.d (.aZ F 0),.ref m 0,.ref x 0])]];have d9:=K.trans (a_.grow c (λ_=>False) X g [Ob.box [(M.fn 120 [.d (.aZ [iN (a+1)] 0),.d (.aZ F 0),.ref m 0,.ref x 0])]]);have hg:=a_.grow c (λ_=>False) X g [Ob.box [(M.fn 120 [.d (.aZ [iN (a+1)] 0),.d (.aZ F 0),.ref m 0,.ref x 0])]];have Q6:=hg.box B;have f4:=hg.box G;have UH:X.box (g++ [Ob.box [(M.fn 120 [.d (.aZ [iN (a+1)] 0),.d (.aZ F 0),.ref m 0,.ref x 0])]]) g.length (M.fn 120 [.d (.aZ [iN (a+1)] 0),.d (.aZ F 0),.ref m 0,.ref x 0]):=⟨f8,tY _ _⟩;generalize g++ [Ob.box [(M.fn 120 [.d (.aZ [iN (a+1)] 0),.d (.aZ F 0),.ref m 0,.ref x 0])]]=K3 at Rn d9 Q6 f4 UH⊢;have UR:X.rZ c K3 (M.fn 120 [.d (.aZ [iN (a+1)] 0),.d (.aZ F 0),.ref m 0,.ref x 0]) J (.mk 10 o s l t [q] p) (a+1):=⟨by show 1<=X.fs J;omega,m,x,by rw[Xp.aA,Rl];rfl,Q6,f4⟩;have f9:KT c X K3 (.fn 124 [.ref g.length 0,.d (.aZ [iN 0] 0)]) ⟨J,q,a+1,a,T,R⟩ g.length (M.fn 120 [.d (.aZ [iN (a+1)] 0),.d (.aZ F 0),.ref m 0,.ref x 0]) (.mk 10 o s l t [q] p) 0 (a+1):=⟨rfl,UH,UR,N7,rfl,rfl,by simp[Xp.kids,aP]⟩;have UX:xP (Xp.mk 10 o s l t [q] p)=1+(xP q+0):=M4;have gc:a+1+xP q<=1000000000:=by omega
   have TK: ∀E,a+1<=E->E<a+1+xP q->wC c J E:= λE U h2=>ho E (by omega) (by omega)
   have ge:AI.ok P c d X ⟨J,q,a+1,a,T,R⟩:=⟨hy,hf,RZ,⟨hw _ (aqP ..),λh C=>hw h (aqF _ C)⟩,N7.rZ (by simp[Xp.kids]),TK,gc⟩;obtain⟨r1,S,⟨d6,OL,NF,_,On,_,_,i6,_,R2,i7⟩,N9⟩:=z' ⟨Rn,Q.pu⟩ (by have:=H3 Q.pu;simp only[aqw]at hT;omega) f9 ge;refine dO [2,46] W ?_;subst Rl;refine Mu (zE W W W)<|dR [3,2,0,2,0,2,0,2,0,2,0,2,0,2,0,2,0,2,0,2,1,2,142] W<|Mu (cC W W W (by simp))<|dL [] W<|DC.freeze 20 (ds:=[iN 0]) W W<|dO [2,143] W<|Mu (aw W W Q6.2 W)<|dR [144] W<|Mu (eb W W)<|dR [146] W<|Mu (ap N9 W W)<|dL [] W ?_;have Wh:=(NF.box Q6).2;have V:=OL.lay.inst;rw[(NF.A .it trivial).2]at V;have O6:=OL.lay.unit;have PA:=OL.lay.mem;have Q7:=il (n:=bW d) (f:=io d6.x.m) RZ;rw[show io d6.x.m a= .d (.int .i32 (c.rd a)) by rw[<-Q8,i6]]at Q7;apply Mz bT
   ·intro s0 Oo;refine av W W Wh W<|fR 2 W<|av W W V W<|fR 2 W<|av W W O6 W<|fR 1 W<|cS W W W PA (aqe a) (by exact arD.2 RZ)<|jl W W PA Q7<|fR 1 W<|TF.nil ⟨by kernel_rfl,rfl⟩
   exact DC.ret ⟨_,rfl,rfl,d6,OL,d9.trans NF,aq1 R2 (by show _+(1+R.length)<=_+(R.length+1);omega),λh C=>i7 h.1 h.2 C⟩
  ·rename_i o s l t k q p T R v2 w2 ha hx hy;have RZ:a<bW d:=by rw[<-ac.zq];exact ha
   have Q8:=ac.rd X Q.pu J a hf f7 RZ;rw[Xp.aA];refine dO [2,8] W<|Mu (cA W W W)<|dR [9] W<|Mu (cA W W W)<|dR [11] W<|Mu (AX W W W W)<|dL [] W ?_;rw[<-N,<-L];rw[<-N]at y;rw[<-L]at z;generalize hK:H++ [Ob.box [M.ref (X.A .it) 0]]++ [Ob.box [M.ref (X.A (.fr J)) 0]]=g at y z j K⊢;have B:X.box g m (.ref (X.A .it) 0):=⟨UU,y⟩;have G:X.box g x (.ref (X.A (.fr J)) 0):=⟨UW,z⟩;refine dO [2,2,1,2,43] W<|Mu (ax W W W (by omega)) ?_;rw[N8];refine dL [] W<|DC.freeze 7 (ds:=[iN (a+1)]) W W<|DC.freeze 9 (ds:=[.int .i64 (a:Int)]) W W ?_;obtain⟨F,Rl⟩: ∃F,F=bO 11 o s l t ([k,q].map Xp.cells) p:=⟨_,rfl⟩;refine dO [2,44] W<|Mu (eb W W)<|dL [] W<|DC.uC [nR 4 m,nR 5 x,nD 6 (.aZ F 0),nD 9 (.aZ [.int .i64 (a:Int)] 0),(10,.loc 10 0)] [(10,[(M.fn 120 [.d (.aZ [iN (a+1)] 0),.d (.aZ F 0),.ref m 0,.ref x 0])])] g (kc W (kc W (kc (by rw[Rl];rfl) W))) (λd8=> ?_) W ?_
   ·rw[Rl];by_cases Zc:d8=10
    ·subst Zc;rfl
    ·have mt:Nat.beq 10 d8=false:=by rw[<-arp];intro A;exact Zc (aqr A).symm
     by_cases e7:d8=7
     ·subst e7;rfl
     ·have n7:Nat.beq 7 d8=false:=by rw[<-arp];intro A;exact e7 (aqr A).symm
      by_cases e9:d8=9
      ·subst e9;rfl
      ·have n9:Nat.beq 9 d8=false:=by rw[<-arp];intro A;exact e9 (aqr A).symm
       simp[Mt.get,Mt.del,mt,n7,n9,show Nat.beq 9 7=false from rfl,show Nat.beq 9 9=true from rfl]
   have PG:xP (Xp.mk 11 o s l t [k,q] p)=1+(xP k+(xP q+0)):=M4;have SB:a+1+aP ((Xp.mk 11 o s l t [k,q] p).kids.map xP)<=1000000000:=by show a+1+(xP k+(xP q+0))<=_;omega
   have Zg:X.T c+(R.length+w2.length)+1<=1000000000000:=by simp only[aqw,aqg]at hT;omega
   obtain⟨_,K1,⟨rfl,Y1,O⟩,Y⟩:=ts (i:=0) (a':=a+1) N7 SB W B G hf (a_.refl c _ X g) (by simp[aP]) (Sj k (by simp[Xp.kids]) (a+1) T R hx X g ⟨j,Q.pu⟩ (by omega) hP hf (by omega) (λh U h2=>ho h (by omega) (by omega)) (λh C=>hw h (aqF _ (aqq _ C))));have TM:=O.2.2.1;obtain⟨_,K2,⟨rfl,I,N'⟩,M1⟩:=ts (i:=1) (a':=a+1+xP k) N7 SB W B G hf O.2.1 (by simp[aP,Xp.kids]) (Sj q (by simp[Xp.kids]) (a+1+xP k) v2 w2 hy Y1 K1 O.1 (by omega) (hP.next O.2.1) (O.2.1.f2 J hf) (by omega) (λh U h2=>ho h (by omega) (by omega)) (λh C=>hw h (aqF _ (aqt _ C))));have hC:=(cM.pre K O).trans N';have N3:=O.2.1.trans N'.2.1;have PZ:=(N3.A .it trivial).2;rw[Xp.aA]at Y M1;change CT _ _ [_,_,.d (.aZ (bO 11 o s l t ([k,q].map Xp.cells) p) 0),_,_] _ _ at Y;change CT _ _ [_,_,.d (.aZ (bO 11 o s l t ([k,q].map Xp.cells) p) 0),_,_] _ _ at M1;rw[<-Rl]at Y M1;have V:=j.inst;have O6:=j.unit;have PA:=j.mem;have Q7:=il (n:=bW d) (f:=io X.x.m) RZ;rw[show io X.x.m a= .d (.int .i32 (c.rd a)) by rw[<-Q8]]at Q7;have Wh:=N3.box B;rw[<-PZ]at Wh;have Ri:I.ry c K2 (.fn 125 [.ref m 0,.d (.aZ [.int .i64 (a:Int)] 0)]) (.arrow a):=⟨m,rfl,Wh⟩;obtain⟨hL,hE⟩:=oV N'.1.lay Ri;obtain⟨pm,hS,qr⟩:=qf N'.1.pu (p:=(.arrow a,.fn 125 [.ref m 0,.d (.aZ [.int .i64 (a:Int)] 0)])) (⟨RZ,hw _ (aqP ..)⟩) (H:=K2)
   have NC: ∀S d7,I.cY K2 (.fn 125 [.ref m 0,.d (.aZ [.int .i64 (a:Int)] 0)])=S->d7=(if c.rd a=0 then v2 else T)->s_ P n c d u X H (if c.rd a=0 then v2 else T) ((a,0)::(R++w2)) (.d (.int .i32 d7)) S:=by
    rintro S d7 rfl rfl;refine⟨rfl,_,⟨hL,pm⟩,hC.2.1.trans hE,?_,λh C=> ?_⟩
    ·rw[qr];have:=hC.2.2.1;simp only[aqw,aqg];omega
    ·rcases aqs.1 C with rfl|C
     ·exact hS a 0 ⟨rfl,rfl⟩
     ·exact hE.S _ _ (hC.2.2.2 h C)
   subst Rl;refine dC [2,3,2,0,2,0,2,0,2,0,2,0,2,0,2,0,2,0,2,0,2,0,2,1] W ?_;apply Mz bT
   ·intro s0 Oo;refine av W W B.2 W<|fR 2 W<|av W W V W<|fR 2 W<|av W W O6 W<|fR 1 W<|cS W W W PA (aqe a) (by exact arD.2 RZ)<|jl W W PA Q7<|fR 2 W<|TF.nil ⟨by kernel_rfl,rfl⟩
   refine dC [] W ?_;apply Mz bT
   ·intro s0 Oo;refine fR 1 W<|ot Y W W W<|fR 1 W<|ot M1 W W W<|fR 2 W<|TF.nil ⟨by kernel_rfl,rfl⟩
   have Nb:=N'.1.lay.inst;rw[PZ]at Nb;rw[PZ]at Wh;have VN:=Wh.2
   let Iv:M->Hp->Prop:= λl S=>S[m]?=some (Ob.box [.ref (X.A .it) 0])/\S[X.A .it]?=some (Ob.box [.ref (I.A .un) 0,.ref (I.A (.fr [])) 0,.d (.bool false),bG (I.A .af) I.vF I.F.length,l])
   by_cases hN:I.N= []
   ·have e0:bG (I.A .nx) I.vN I.N.length= .d (.sl []):=by simp[hN,bG]
    rw[e0]at Nb;refine dC [] W ?_;apply NT (Iv (.d (.sl []))) (⟨VN,Nb⟩) bT
    ·intro s0 Oo;refine MK W W (λS A=>⟨_,A.1,rfl⟩)<|MK W W (λS A=>⟨_,A.1,rfl⟩)<|iR 2 W<|MK W W (λS A=>⟨_,A.2,rfl⟩) ?_;apply MF
     ·skip
      refine eD W W<|TF.nil ⟨rfl,rfl⟩
     apply MF
     ·skip
      refine dJ (cs:=[_]) W W W W W W<|TF.nil ⟨rfl,rfl⟩
     apply MF
     ·skip
      refine oJ true W W W (lu _ _) W W (by decide) (by decide)<|TF.nil ⟨rfl,rfl⟩
     refine iR 2 W ?_;apply MF
     ·skip
      refine fh W W (bp (bp Nb)) W W W<|TF.nil ⟨rfl,rfl⟩
     exact iT.nil ⟨by kernel_rfl,by repeat' first|exact trivial|exact .inl ((by first|exact⟨bp VN,bp Nb⟩|exact⟨bp (bp VN),bp (bp Nb)⟩))|exact .inr (by kernel_rfl)|refine⟨?_,?_⟩,rfl⟩
    refine dC [2] W<|DC.cond W (λhc=> ?_) (λhc=> ?_)
    ·refine dC [2] W<|DC.ret ⟨_,rfl,NC _ _ ?_ (by rw[aqo];intro h0;rw[h0]at hc;cases hc)⟩;simp only[aq.cY,aqy hN,aqg,aqH,PZ];rfl
    ·refine dC [2] W<|DC.ret ⟨_,rfl,NC _ _ ?_ (by rw[aqy];simpa using hc)⟩;simp only[aq.cY,aqy hN,aqg,aqH,PZ];rfl
   ·have e0:bG (I.A .nx) I.vN I.N.length= .bB (I.A .nx) I.vN I.N.length:=by unfold bG;rw[aqo];intro e;exact hN (aq4 e)
    rw[e0]at Nb;have t3:=yd (c:=c) (X:=I) (by have:=N'.2.2.1;omega);have MW:I.A .nx≠X.A .it:=by rw[<-PZ];exact N'.1.lay.ne (r:= .nx) (r':= .it) hN trivial (by simp)
    refine dC [] W ?_;apply NT (Iv (.bB (I.A .nx) I.vN I.N.length)) (⟨VN,Nb⟩) bT
    ·intro s0 Oo;refine MK W W (λS A=>⟨_,A.1,rfl⟩)<|MK W W (λS A=>⟨_,A.1,rfl⟩)<|iR 2 W<|MK W W (λS A=>⟨_,A.2,rfl⟩) ?_;apply MF
     ·skip
      refine eD W W<|TF.nil ⟨rfl,rfl⟩
     apply MF
     ·skip
      refine dJ (cs:=[_]) W W W W W W<|TF.nil ⟨rfl,rfl⟩
     apply MF
     ·skip
      refine oK W W W (lu _ _) (bp (uP N'.1.lay hN)) W (by omega) (by omega)<|TF.nil ⟨rfl,rfl⟩
     refine iR 2 W ?_;apply MF
     ·skip
      refine fh W W (fB (bp Nb) MW) W W W<|TF.nil ⟨rfl,rfl⟩
     exact iT.nil ⟨by kernel_rfl,by repeat' first|exact trivial|exact .inl ((by first|exact⟨bp VN,bp Nb⟩|exact⟨fB (bp VN) (by intro e;have:=N'.1.lay.own .nx hN;rw[e,Wh.1]at this;cases this),fB (bp Nb) MW⟩))|exact .inr (by kernel_rfl)|refine⟨?_,?_⟩,rfl⟩
    refine dC [2] W<|DC.cond W (λhc=> ?_) (λhc=> ?_)
    ·refine dC [2] W<|DC.ret ⟨_,rfl,NC _ _ ?_ (by rw[aqo];intro h0;rw[h0]at hc;cases hc)⟩;simp only[aq.cY,aqo hN,aqg,aqH,PZ];rfl
    ·refine dC [2] W<|DC.ret ⟨_,rfl,NC _ _ ?_ (by rw[aqy];simpa using hc)⟩;simp only[aq.cY,aqo hN,aqg,aqH,PZ];rfl
 ·have Zf:dE e.kd=0:=by unfold dE;rw[aqo Oz]
  rw[Zf]at M4;cases OC<;>try first|exact absurd (Or.inl W) Oz|exact absurd (Or.inr (Or.inl W)) Oz|exact absurd (Or.inr (Or.inr W)) Oz
  ·rename_i E o s l t co p hk;have hv:=vE ac.en (Xp.mk E o s l t co p);rw[Xp.aA]at hv;rw[Xp.aA];refine dO [2,8] W<|Mu (cA W W W)<|dR [9] W<|Mu (cA W W W)<|dL [] W ?_;rw[<-N,<-L];rw[<-N]at y;rw[<-L]at z;generalize hK:H++ [Ob.box [M.ref (X.A .it) 0]]++ [Ob.box [M.ref (X.A (.fr J)) 0]]=g at y z j K⊢;have B:X.box g m (.ref (X.A .it) 0):=⟨UU,y⟩;have G:X.box g x (.ref (X.A (.fr J)) 0):=⟨UW,z⟩;have V:=j.inst;have O6:=j.unit;have PA:=j.mem;have Z:cL P n c d u X g:=⟨j,Q.pu⟩;refine dC [2] W ?_;have rg:(E==9)=false:=by rcases hk with A|A|A<;>rw[A]<;>rfl
   have rt:(E==10)=false:=by rcases hk with A|A|A<;>rw[A]<;>rfl
   have rx:(E==11)=false:=by rcases hk with A|A|A<;>rw[A]<;>rfl
   refine dO [2,31] W<|Mu (fZ W W W (r:= .bool false) (by show some (D.bool (_==_))=_;rw[<-rg];rfl))<|dR [35] W ?_
   first|refine Mu (aE W W) ?_|(refine Mu (aB W) ?_;refine Mu (fZ W W W (r:= .bool false) (by show some (D.bool (_==_))=_;rw[<-rt];rfl)) ?_)
   refine dR [40] W ?_
   first|refine Mu (aE W W) ?_|(refine Mu (aB W) ?_;refine Mu (fZ W W W (r:= .bool false) (by show some (D.bool (_==_))=_;rw[<-rx];rfl)) ?_)
   refine dR [0,2,44] W<|Mu (eb W W)<|dL [2] W ?_;have OB:CT Tryz.prog 86 [.d (.sl (P.aI.map En.cells)),.d (.agg (bO E o s l t (co.map Xp.cells) p))] g λr' K'=>r'= .cZ [.d (.int .i32 (oO P.aI (.mk E o s l t co p))),.d (.bool (isConst P.aI (.mk E o s l t co p)))]/\K'=g:=(CT.xx hv).mono (by rintro _ _ ⟨⟨_,rfl,rfl⟩,rfl⟩;exact⟨rfl,rfl⟩)
   rcases hk with rfl|rfl|rfl
   ·refine dC [3,2,1,1] W ?_;apply Mz bT
    ·intro s0 Oo;refine av W W B.2 W<|fR 2 W<|av W W V W<|fR 3 W<|av W W O6 W<|fR 1 W<|jW OB W W<|fR 5 W<|TF.nil ⟨by kernel_rfl,rfl⟩
    refine dC [2] W<|DC.ret ⟨_,rfl,rfl,X,cM.pre K (cM.refl Z (a_.refl c _ X g) j)⟩
   ·refine dC [3,2,0,2,1,1] W ?_;apply Mz bT
    ·intro s0 Oo;refine av W W B.2 W<|fR 2 W<|av W W V W<|fR 3 W<|av W W O6 W<|fR 1 W<|jW OB W W<|fR 5 W<|TF.nil ⟨by kernel_rfl,rfl⟩
    refine dC [2] W<|DC.ret ⟨_,rfl,rfl,X,cM.pre K (cM.refl Z (a_.refl c _ X g) j)⟩
   ·refine dC [3,2,0,2,0,2,1] W ?_;apply Mz bT
    ·intro s0 Oo;refine av W W B.2 W<|fR 2 W<|av W W V W<|fR 3 W<|av W W O6 W<|fR 1 W<|jW OB W W<|fR 5 W<|TF.nil ⟨by kernel_rfl,rfl⟩
    refine dC [2] W<|DC.ret ⟨_,rfl,rfl,X,cM.pre K (cM.refl Z (a_.refl c _ X g) j)⟩
  ·rename_i o s l t co p σ U hr;rw[Xp.aA];refine dO [2,8] W<|Mu (cA W W W)<|dR [9] W<|Mu (cA W W W)<|dL [] W ?_;rw[<-N,<-L];rw[<-N]at y;rw[<-L]at z;generalize hK:H++ [Ob.box [M.ref (X.A .it) 0]]++ [Ob.box [M.ref (X.A (.fr J)) 0]]=g at y z j K⊢;have B:X.box g m (.ref (X.A .it) 0):=⟨UU,y⟩;have G:X.box g x (.ref (X.A (.fr J)) 0):=⟨UW,z⟩;have V:=j.inst;have O6:=j.unit;have PA:=j.mem;have Z:cL P n c d u X g:=⟨j,Q.pu⟩;refine dO [2,2,0,2,44] W<|Mu (eb W W)<|dL [2] W ?_;obtain⟨r1,S,⟨rfl,d6,hC,_⟩,Rm⟩:=hV X g Z i8 hP J l σ hf U hr;refine dO [3,2,0,2,0,2,0,2,1,2,68] W<|Mu (aw W W B.2 W)<|dR [69] W<|Mu (aw W W G.2 W)<|dR [72] W<|Mu (ap Rm W W)<|dL [2] W<|DC.ret ⟨_,rfl,rfl,d6,cM.pre K hC⟩
  ·rename_i o s l t co p σ h U hp C;rw[Xp.aA];refine dO [2,8] W<|Mu (cA W W W)<|dR [9] W<|Mu (cA W W W)<|dL [] W ?_;rw[<-N,<-L];rw[<-N]at y;rw[<-L]at z;generalize hK:H++ [Ob.box [M.ref (X.A .it) 0]]++ [Ob.box [M.ref (X.A (.fr J)) 0]]=g at y z j K⊢;have B:X.box g m (.ref (X.A .it) 0):=⟨UU,y⟩;have G:X.box g x (.ref (X.A (.fr J)) 0):=⟨UW,z⟩;have V:=j.inst;have O6:=j.unit;have PA:=j.mem;have Z:cL P n c d u X g:=⟨j,Q.pu⟩;refine dO [2,2,0,2,44] W<|Mu (eb W W)<|dL [2] W ?_;have NQ:=oU j Q.pu ac.sz J hf l;have Q5:X.fU c J l= .ref (X.A (.ce σ.1 σ.2)) 0:=by unfold aq.fU;rw[U]
   rw[Q5]at NQ;obtain⟨Nt,T,lp,eq,NA,_,Ng,Nz,_⟩:=k9 Z hf U;rw[Ng]at hp;injection hp with hp
   subst hp;have XW:h<bW d:=by rw[<-ac.zq];exact C
   have Q8:=ac.rd X Q.pu σ.1 h Nt (ac.lo σ.1 σ.2 h (Pu.ok ac Q.pu Nt) Ng) XW;have Q7:=il (n:=bW d) (f:=io X.x.m) XW;rw[show io X.x.m h= .d (.int .i32 (c.rd h)) by rw[<-Q8]]at Q7;have Ol:decide (((h:Nat):Int)>=0)=true:=aqI (by omega);refine dO [3,2,0,2,0,2,0,2,0,2,1,2,78] W<|Mu (aw W W G.2 W)<|dR [81] W<|Mu (ap NQ W W)<|dR [2,83] W<|Mu (jY (by kernel_rfl) W W W W W)<|dR [88] W ?_
   first|refine Mu (aE W W) ?_|(refine Mu (aB W) ?_;refine Mu (aw W W Nz W) ?_)
   refine dR [89] W ?_
   first|refine Mu (aE W W) ?_|(refine Mu (aB W) ?_;refine Mu (fZ W W W (r:= .bool true) (by show some (D.bool (decide (_>=_)))=_;rw[<-Ol];rfl)) ?_)
   refine dL [1] W ?_;apply Mz bT
   ·intro s0 Oo;refine av W W B.2 W<|fR 2 W<|av W W V W<|fR 2 W<|av W W O6 W<|fR 3 W<|av W W Nz W<|cS W W W PA (aqe h) (by exact arD.2 XW)<|jl W W PA Q7<|fR 1 W<|TF.nil ⟨by kernel_rfl,rfl⟩
   exact DC.ret ⟨_,rfl,rfl,X,cM.pre K (cM.refl Z (a_.refl c _ X g) j)⟩
  ·rename_i o s l t k p T hx;rw[Xp.aA];refine dO [2,8] W<|Mu (cA W W W)<|dR [9] W<|Mu (cA W W W)<|dL [] W ?_;rw[<-N,<-L];rw[<-N]at y;rw[<-L]at z;generalize hK:H++ [Ob.box [M.ref (X.A .it) 0]]++ [Ob.box [M.ref (X.A (.fr J)) 0]]=g at y z j K⊢;have B:X.box g m (.ref (X.A .it) 0):=⟨UU,y⟩;have G:X.box g x (.ref (X.A (.fr J)) 0):=⟨UW,z⟩;have V:=j.inst;have O6:=j.unit;have PA:=j.mem;have Z:cL P n c d u X g:=⟨j,Q.pu⟩;refine dO [2,2,0,2,44] W<|Mu (eb W W)<|dL [2] W ?_;have SB:a+aP ((Xp.mk 6 o s l t [k] p).kids.map xP)<=1000000000:=by rw[M4]at hb;omega
   have PG:xP (Xp.mk 6 o s l t [k] p)=0+(xP k+0):=M4;have Zg:X.T c+(w.length)<=1000000000000:=by omega
   obtain⟨_,K1,⟨rfl,Y1,O⟩,Y⟩:=ts (i:=0) (a':=a) N7 SB W B G hf (a_.refl c _ X g) (by simp[aP,Xp.kids]<;>omega) (Sj k (by simp[Xp.kids]) (a) T w hx X g Z (by omega) hP hf (by omega) (λh U h2=>ho h (by omega) (by omega)) (λh C=>hw h C));have OM:=O.2.1;have UY:=O;have TM:=UY.2.2.1;rw[Xp.aA]at Y;refine dC [3,2,0,2,0,2,0,2,0,2,0,2,1] W ?_;apply Mz bT
   ·intro s0 Oo;refine fR 3 W<|ot Y W W W<|aS (KR o T) W W<|fR 1 W<|TF.nil ⟨by kernel_rfl,rfl⟩
   exact DC.ret ⟨_,rfl,rfl,Y1,cM.pre K UY⟩
  ·rename_i o s l t k q p T R v2 w2 hx hy;rw[Xp.aA];refine dO [2,8] W<|Mu (cA W W W)<|dR [9] W<|Mu (cA W W W)<|dL [] W ?_;rw[<-N,<-L];rw[<-N]at y;rw[<-L]at z;generalize hK:H++ [Ob.box [M.ref (X.A .it) 0]]++ [Ob.box [M.ref (X.A (.fr J)) 0]]=g at y z j K⊢;have B:X.box g m (.ref (X.A .it) 0):=⟨UU,y⟩;have G:X.box g x (.ref (X.A (.fr J)) 0):=⟨UW,z⟩;have V:=j.inst;have O6:=j.unit;have PA:=j.mem;have Z:cL P n c d u X g:=⟨j,Q.pu⟩;refine dO [2,2,0,2,44] W<|Mu (eb W W)<|dL [2] W ?_;have SB:a+aP ((Xp.mk 7 o s l t [k,q] p).kids.map xP)<=1000000000:=by rw[M4]at hb;omega
   have PG:xP (Xp.mk 7 o s l t [k,q] p)=0+(xP k+(xP q+0)):=M4;have Zg:X.T c+(R.length+w2.length)<=1000000000000:=by simp only[aqg]at hT;omega
   obtain⟨_,K1,⟨rfl,Y1,O⟩,Y⟩:=ts (i:=0) (a':=a) N7 SB W B G hf (a_.refl c _ X g) (by simp[aP,Xp.kids]<;>omega) (Sj k (by simp[Xp.kids]) (a) T R hx X g Z (by omega) hP hf (by omega) (λh U h2=>ho h (by omega) (by omega)) (λh C=>hw h (aqq _ C)));have OM:=O.2.1;have UY:=O;have TM:=UY.2.2.1;obtain⟨_,K2,⟨rfl,I,N'⟩,M1⟩:=ts (i:=1) (a':=a+xP k) N7 SB W B G hf OM (by simp[aP,Xp.kids]<;>omega) (Sj q (by simp[Xp.kids]) (a+xP k) v2 w2 hy Y1 K1 O.1 (by omega) (hP.next OM) (OM.f2 J hf) (by omega) (λh U h2=>ho h (by omega) (by omega)) (λh C=>hw h (aqt _ C)));have N3:=OM.trans N'.2.1;have Wi:=UY.trans N';have t1:=Wi.2.2.1;rw[Xp.aA]at Y M1;refine dO [3,2,0,2,0,2,0,2,0,2,0,2,0,2,1,2,117] W<|Mu (ll Y W W W)<|dL [] W ?_;apply Mz bT
   ·intro s0 Oo;refine fR 4 W<|ot M1 W W W<|aS (Jt o T v2) W W<|fR 1 W<|TF.nil ⟨by kernel_rfl,rfl⟩
   exact DC.ret ⟨_,rfl,rfl,I,cM.pre K (Wi.le (by simp only[aqg];omega))⟩
  ·rename_i o s l t k q d7 p T R v2 w2 v3 w3 hx hy hz;rw[Xp.aA];refine dO [2,8] W<|Mu (cA W W W)<|dR [9] W<|Mu (cA W W W)<|dL [] W ?_;rw[<-N,<-L];rw[<-N]at y;rw[<-L]at z;generalize hK:H++ [Ob.box [M.ref (X.A .it) 0]]++ [Ob.box [M.ref (X.A (.fr J)) 0]]=g at y z j K⊢;have B:X.box g m (.ref (X.A .it) 0):=⟨UU,y⟩;have G:X.box g x (.ref (X.A (.fr J)) 0):=⟨UW,z⟩;have V:=j.inst;have O6:=j.unit;have PA:=j.mem;have Z:cL P n c d u X g:=⟨j,Q.pu⟩;refine dO [2,2,0,2,44] W<|Mu (eb W W)<|dL [2] W ?_;have SB:a+aP ((Xp.mk 8 o s l t [k,q,d7] p).kids.map xP)<=1000000000:=by rw[M4]at hb;omega
   have PG:xP (Xp.mk 8 o s l t [k,q,d7] p)=0+(xP k+(xP q+(xP d7+0))):=M4;have Zg:X.T c+(R.length+w2.length+w3.length)<=1000000000000:=by simp only[aqg]at hT;omega
   obtain⟨_,K1,⟨rfl,Y1,O⟩,Y⟩:=ts (i:=0) (a':=a) N7 SB W B G hf (a_.refl c _ X g) (by simp[aP,Xp.kids]<;>omega) (Sj k (by simp[Xp.kids]) (a) T R hx X g Z (by omega) hP hf (by omega) (λh U h2=>ho h (by omega) (by omega)) (λh C=>hw h (aqq _ (aqq _ C))));have OM:=O.2.1;have UY:=O;have TM:=UY.2.2.1;obtain⟨_,K2,⟨rfl,I,N'⟩,M1⟩:=ts (i:=1) (a':=a+xP k) N7 SB W B G hf OM (by simp[aP,Xp.kids]<;>omega) (Sj q (by simp[Xp.kids]) (a+xP k) v2 w2 hy Y1 K1 O.1 (by omega) (hP.next OM) (OM.f2 J hf) (by omega) (λh U h2=>ho h (by omega) (by omega)) (λh C=>hw h (aqq _ (aqt _ C))));have N3:=OM.trans N'.2.1;have Wi:=UY.trans N';have t1:=Wi.2.2.1;obtain⟨_,K3,⟨rfl,Y3,PN⟩,NP⟩:=ts (i:=2) (a':=a+xP k+xP q) N7 SB W B G hf N3 (by simp[aP,Xp.kids]<;>omega) (Sj d7 (by simp[Xp.kids]) (a+xP k+xP q) v3 w3 hz I K2 N'.1 (by omega) (hP.next N3) (N3.f2 J hf) (by omega) (λh U h2=>ho h (by omega) (by omega)) (λh C=>hw h (aqt _ C)));have i9:=Wi.trans PN;rw[Xp.aA]at Y M1 NP;refine dC [3,2,0,2,0,2,0,2,0,2,0,2,0,2,0,2,1] W ?_;apply Mz bT
   ·intro s0 Oo;refine fR 1 W<|ot Y W W W<|fR 1 W<|ot M1 W W W<|fR 2 W<|TF.nil ⟨by kernel_rfl,rfl⟩
   refine dO [2,131] W<|Mu (ll NP W W W)<|dL [2] W<|DC.cond W (λhc=> ?_) (λhc=> ?_)
   ·refine dC [2] W<|DC.ret ⟨_,rfl,by rw[aqy (by simpa using hc)];rfl,Y3,cM.pre K (i9.le (by simp only[aqg];omega))⟩
   ·refine dC [2] W<|DC.ret ⟨_,rfl,by rw[aqo (by simpa using hc)];rfl,Y3,cM.pre K (i9.le (by simp only[aqg];omega))⟩
  ·rename_i o s l t k p hx;rw[Xp.aA];refine dO [2,8] W<|Mu (cA W W W)<|dR [9] W<|Mu (cA W W W)<|dL [] W ?_;rw[<-N,<-L];rw[<-N]at y;rw[<-L]at z;generalize hK:H++ [Ob.box [M.ref (X.A .it) 0]]++ [Ob.box [M.ref (X.A (.fr J)) 0]]=g at y z j K⊢;have B:X.box g m (.ref (X.A .it) 0):=⟨UU,y⟩;have G:X.box g x (.ref (X.A (.fr J)) 0):=⟨UW,z⟩;have V:=j.inst;have O6:=j.unit;have PA:=j.mem;have Z:cL P n c d u X g:=⟨j,Q.pu⟩;refine dO [2,2,0,2,44] W<|Mu (eb W W)<|dL [2] W ?_;have SB:a+aP ((Xp.mk 12 o s l t [k] p).kids.map xP)<=1000000000:=by rw[M4]at hb;omega
   have PG:xP (Xp.mk 12 o s l t [k] p)=0+(xP k+0):=M4;obtain⟨_,K1,⟨rfl,Y1,O⟩,Y⟩:=ts (i:=0) (a':=a) N7 SB W B G hf (a_.refl c _ X g) (by simp[aP,Xp.kids]<;>omega) (Sj k (by simp[Xp.kids]) (a) v w hx X g Z (by omega) hP hf (by omega) (λh U h2=>ho h (by omega) (by omega)) (λh C=>hw h C));have UY:=O;have TM:=UY.2.2.1;rw[Xp.aA]at Y;refine dO [3,2,0,2,0,2,0,2,0,2,0,2,0,2,0,2,0,2,0,2,0,2,0,2,1,2,190] W<|Mu (ll Y W W W)<|dL [] W<|DC.ret ⟨_,rfl,rfl,Y1,cM.pre K UY⟩
  ·rename_i o s l t co p σ i cn e1 U hi hn S2 hk hr he;rw[Xp.aA];refine dO [2,8] W<|Mu (cA W W W)<|dR [9] W<|Mu (cA W W W)<|dL [] W ?_;rw[<-N,<-L];rw[<-N]at y;rw[<-L]at z;generalize hK:H++ [Ob.box [M.ref (X.A .it) 0]]++ [Ob.box [M.ref (X.A (.fr J)) 0]]=g at y z j K⊢;have B:X.box g m (.ref (X.A .it) 0):=⟨UU,y⟩;have G:X.box g x (.ref (X.A (.fr J)) 0):=⟨UW,z⟩;have Z:cL P n c d u X g:=⟨j,Q.pu⟩;refine dO [2,2,0,2,44] W<|Mu (eb W W)<|dL [2] W ?_;have SB:a+aP ((Xp.mk 13 o s l t co p).kids.map xP)<=1000000000:=by rw[M4]at hb;omega
   have SZ:=Jz hk;have PG:xP (Xp.mk 13 o s l t co p)=0+aP (co.map xP):=M4;have Vs:=GD ac.en ac.sz hV Z i8 hP hf (e:=Xp.mk 13 o s l t co p) N7 (σ:=σ) U hr (i:=i) (cn:=cn) hi hn S2 (km:= .fn 120 [.d (.aZ [.int .i64 (a:Int)] 0),.d (.aZ (Xp.mk 13 o s l t co p).cells 0),.ref m 0,.ref x 0]) (a:=a) ⟨by show 1<=X.fs J;omega,m,x,rfl,B,G⟩ (post:=s_ P n c d u X g v w) (λd6 S hC b4 b5 S5 h4 h5=>by
    injection S5 with _ S5
    injection S5 with _ S5
    injection S5 with _ S5
    injection S5 with e4 S5
    injection S5 with e5 _
    injection e4 with e4
    injection e5 with e5
    subst e4;subst e5;have TM:=hC.2.2.1;refine ts (i:=i) (a':=a+fQ (co.take i)) N7 SB hk B G hf hC.2.1 (by rw[s7];rfl) ?_;obtain⟨r1,L1,⟨rfl,Y1,O⟩,Y⟩:=Sj e1 (aqk hk) (a+fQ (co.take i)) v w he d6 S hC.1 (by omega) (hP.next hC.2.1) (hC.2.1.f2 J hf) (by rw[s7];omega) (λh U h2=>ho h (by omega) (by rw[s7]at h2;omega)) hw;refine⟨_,L1,⟨rfl,Y1,?_⟩,Y⟩;have:=hC.trans O;rw[arF]at this;exact this)
   rw[Xp.aA]at Vs;obtain⟨r1,S,⟨rfl,d6,hC⟩,t2⟩:=Vs;refine dO [3,2,0,2,0,2,0,2,0,2,0,2,0,2,0,2,0,2,0,2,0,2,0,2,0,2,1,2,193] W<|Mu (aw W W B.2 W)<|dR [194] W<|Mu (aw W W G.2 W)<|dR [197] W<|Mu (ap t2 W W)<|dL [] W<|DC.ret ⟨_,rfl,rfl,d6,cM.pre K hC⟩
termination_by SizeOf.sizeOf e
end
section
variable{P:Pg}{n:Nat}{c:aH}{d:Nd}{u:US}{X:aq}{H:Hp}
theorem Ia{l:List (Nm×Nm)}{i:Nat}(h:i<l.length):(rX l)[((i:Nat):Int).toNat]?=some [.str l[i].1,.str l[i].2]:=by simp[rX,h]
theorem cM.same(h:cx P n c d X H)(k:Pu P c d u X):cM P n c d u X H 0 [] X H:=⟨⟨h,k⟩,a_.refl c _ X H,aqd _,by grind⟩
theorem sj(z:mX P n c d u){r:Nat}(hV:et P n c d u r){J:Path}{l:List (Nm×Nm)}(hl:l.length<=1000000){b:Bool}(hp:Bi P.aI c J r l b)(L:cL P n c d u X H)(hT:X.T c<=1000000000000)(hP:k7 c X r)(hf:X.fs J=2):
  DT Tryz.prog 65 [.ref (X.A .it) 0,.ref (X.A (.fr J)) 0,.d (.sl (rX l))] H λm K=>m= .d (.bool b)/\ ∃Y,cM P n c d u X H 0 [] Y K:=by
 refine DT.ob Tryz.func65 W Tryz.ntmps65 W<|dO [2,2,17] W<|Mu (bH W W W) ?_;rw[aqE];refine dL [3] W<|DC.lp (λI ac=> ∃(g:Nat) (Y:aq) (K:Hp) (N:List (Nat×List M)),ac=⟨[nN 14 g,nN 13 l.length,nD 12 (.sl (rX l)),nR 0 (X.A .it),nR 1 (X.A (.fr J))],N,K⟩/\g<=l.length/\I=l.length-g/\Bi P.aI c J r (l.drop g) b/\cM P n c d u X H 0 [] Y K) l.length _
  ⟨0,X,H,_,rfl,by omega,rfl,hp,cM.same L.lay L.pu⟩ W ?_
 rintro I s1 ⟨g,O,K0,N,rfl,hi,rfl,h,i⟩;refine dC [2] W<|DC.cond W (λhc=> ?_) (λhc=> ?_);rotate_left
 ·refine DC.exit ?_;have:g=l.length:=by grind
  subst this;rw[arO]at h;cases h;refine dC [2] W<|DC.ret ⟨_,rfl,rfl,O,i⟩
 have Q:g<l.length:=by grind
 refine dC [] W ?_;have R:=Ia Q;rw[arb Q]at h;generalize d6:l[g]=kx at h R;obtain⟨s,t⟩:=kx;have Px: ∃e,c.find J t=some e/\c.mV e<r:=by cases h<;>exact⟨_,by assumption,by assumption⟩
 obtain⟨e,k,j⟩:=Px;have d7:=i.2.2.1;obtain⟨r1,K,⟨rfl,Y,S,d8⟩,T⟩:=hV O K0 i.1 (by omega) (hP.next i.2.1) J t e (i.2.1.f2 J hf) k j;have w:=i.trans S;have p:=S.1;have A:=w.2.1;have U:=A.f2 J hf;rw[(i.2.1.A .it trivial).2,(i.2.1.A (.fr J) (by show 1<=X.fs J;omega)).2]at T;have B:=oU p.lay p.pu z.sz J U t;rw[(A.A (.fr J) (by show 1<=X.fs J;omega)).2]at B;have Q5:Y.fU c J t= .ref (Y.A (.ce e.1 e.2)) 0:=by unfold aq.fU;rw[k]
 rw[Q5]at B;obtain⟨Nt,v,lp,eq,f,RO,Ng,V,_⟩:=k9 p U k;have Z:c.dD P.aI e=eM P.aI v.tk v.tn:=by unfold aH.dD;rw[f]
 have C:=vD z.en v.tk v.tn;rw[<-Z]at C;have OJ:=xW (c.dD P.aI e) s (by rw[Z];exact uK z.en _ _);have E:=p.lay.inst;rw[(A.A .it trivial).2]at E;have UT:=p.lay.unit;refine dO [3,2,20] W<|Mu (aK W W W (aqe g) R W)<|dR [2,27] W<|Mu (ap T W W)<|dR [2,33] W<|Mu (ap B W W)<|dL [] W ?_;cases x:c.val e.1 e.2 with
 |none=>
  have q:b=false:=by
   cases h with
   |no a j f=>rfl
   |Co a j f F G=>rw[k]at a;injection a with a;subst a;rw[x]at f;cases f
  subst q;refine dC [] W<|dF W W<|dC [1,2] W<|DC.ret ⟨_,rfl,rfl,Y,w⟩
 |some o=>
  have W2:c.get e=o:=by unfold aH.get;rw[x];rfl
  rw[W2];by_cases y:kB (c.dD P.aI e) s=o
  ·have co:Bi P.aI c J r (l.drop (g+1)) b:=by
    cases h with
    |no a j f=>rw[k]at a;injection a with a;subst a;exact absurd y (f o x)
    |Co a j f F G=>exact G
   have q:(kB (c.dD P.aI e) s !=o)=false:=by rw[y];simp
   refine dC [] W ?_;apply Mz bT
   ·intro s0 Oo;refine fR 4 W ?_
    first|refine bg W W W W ?_|refine bh W W W ?_|(refine aU W W ?_;(refine uQ (by kernel_rfl) W W W W W ?_))
    refine fR 5 W ?_
    first|refine bg W W W W ?_|refine bh W W W ?_|(refine aU W W ?_;(refine av W W E W ?_))
    refine fR 3 W ?_
    first|refine bg W W W W ?_|refine bh W W W ?_|(refine aU W W ?_;(refine av W W UT W ?_))
    refine fR 4 W ?_
    first|refine bg W W W W ?_|refine bh W W W ?_|(refine aU W W ?_;(refine fg W W V W W ?_))
    first|refine bg W W W W ?_|refine bh W W W ?_|(refine aU W W ?_;(refine aS C W W ?_))
    refine fR 2 W ?_
    first|refine bg W W W W ?_|refine bh W W W ?_|(refine aU W W ?_;(refine aS OJ W W ?_))
    refine fR 1 W ?_
    first|refine bg W W W W ?_|refine bh W W W ?_|(refine aU W W ?_;(refine lX W W W (r:= .bool false) (by show some (D.bool (_ !=_))=_;rw[q]) ?_))
    refine fR 1 W<|TF.nil ⟨by kernel_rfl,rfl⟩
   refine dO [0,2,61] W<|Mu (ax W W W (by omega))<|dL [] W<|bE (k':=l.length-(g+1)) (by omega) ⟨g+1,Y,K,_,rfl,by omega,rfl,co,w⟩ W W
  ·have ON:b=false:=by
    cases h with
    |no a j f=>rfl
    |Co a j f F G=>rw[k]at a;injection a with a;subst a;rw[x]at f;injection f with f;exact absurd (F.trans f.symm) y
   subst ON;have q:(kB (c.dD P.aI e) s !=o)=true:=by simpa using y
   refine dC [] W ?_;apply Mz bT
   ·intro s0 Oo;refine fR 4 W ?_
    first|refine bg W W W W ?_|refine bh W W W ?_|(refine aU W W ?_;(refine uQ (by kernel_rfl) W W W W W ?_))
    refine fR 5 W ?_
    first|refine bg W W W W ?_|refine bh W W W ?_|(refine aU W W ?_;(refine av W W E W ?_))
    refine fR 3 W ?_
    first|refine bg W W W W ?_|refine bh W W W ?_|(refine aU W W ?_;(refine av W W UT W ?_))
    refine fR 4 W ?_
    first|refine bg W W W W ?_|refine bh W W W ?_|(refine aU W W ?_;(refine fg W W V W W ?_))
    first|refine bg W W W W ?_|refine bh W W W ?_|(refine aU W W ?_;(refine aS C W W ?_))
    refine fR 2 W ?_
    first|refine bg W W W W ?_|refine bh W W W ?_|(refine aU W W ?_;(refine aS OJ W W ?_))
    refine fR 1 W ?_
    first|refine bg W W W W ?_|refine bh W W W ?_|(refine aU W W ?_;(refine lX W W W (r:= .bool true) (by show some (D.bool (_ !=_))=_;rw[q]) ?_))
    refine fR 1 W<|TF.nil ⟨by kernel_rfl,rfl⟩
   refine dC [1,2] W<|DC.ret ⟨_,rfl,rfl,Y,w⟩
end
end Go.Proofs.Sz
namespace Go.Sm
open Go.Mt
theorem jB.tt{f:zj}{k:Nat}{v:Va}{j a:Nat}(h:jB f k v j)(b:jB f k v a):j=a:=by
 obtain⟨_,⟨c,d,g⟩,i⟩:=h;obtain⟨_,⟨l,m,n⟩,o⟩:=b;rcases arx j a with e|e|e
 ·grind
 ·exact e
 ·grind
theorem Src.tt{c:aH}{r:Nat}{J:Path}{j:Nat}{x:Nm}{s g:Option (Path×Nat)}(h:Src c r J j x s):Src c r J j x g->s=g:=by
 induction h generalizing g with
 |leaf b k l=>
  intro f;cases f with
  |leaf=>rfl
  |bN a d=>rw[b]at a;injection a with e;subst e;omega
  |last a d=>rw[b]at a;injection a with e;subst e;omega
 |bN b k l p q y z A=>
  intro f;cases f with
  |leaf a d=>rw[b]at a;injection a with e;subst e;omega
  |bN a d m n o t u=>
   rename_i v B C _ w D;rcases arx v w with e|e|e
   ·grind
   ·grind
   ·grind
  |last a d m i=>exact absurd q (i _ (aqk p))
 |last b k l i=>
  intro f;cases f with
  |leaf a d=>rw[b]at a;injection a with e;subst e;omega
  |bN a d m n o t u=>exact absurd o (i _ (aqk n))
  |last=>rfl
end Go.Sm
namespace Go.Proofs.Sz
open Go.Mt Go.Sm Go.Proofs
section
variable{P:Pg}{n:Nat}{c:aH}{d:Nd}{u:US}{X:aq}{H:Hp}
def aq.cH(X:aq)(σ:Path×Nat)(s:Nat):aq:= {X with cs:= λJ k=>if(J,k)=σ then s else X.cs J k}
theorem b8(X:aq)(σ:Path×Nat)(s:Nat):(X.cH σ s).cs σ.1 σ.2=s:=by
 show(if(σ.1,σ.2)=σ then s else _)=s;rw[aqy W]
theorem bC(X:aq){σ:Path×Nat}{s:Nat}{J:Path}{k:Nat}(h:(J,k)≠σ):(X.cH σ s).cs J k=X.cs J k:=aqo h
theorem cx.cH(h:cx P n c d X H){σ:Path×Nat}(s:Nat)(hf:X.fs σ.1=2){v:Va}{f:Option Nat}{eq:M}(r:(c.fr σ.1).vars[σ.2]?=some v)(t:(c.fr σ.1).db[σ.2]?=some f)(u: ∀a,jB (c.fr σ.1) σ.2 v a->eq= .ref (X.A (.pl σ.1 a)) 0):
  cx P n c d (X.cH σ s) (H.set (X.A (.ce σ.1 σ.2)) (.box (cV v f eq (X.A (.fr σ.1)) (mW s) (if zB s then c.get (σ.1,σ.2)else 0)))):=by
 have w:σ.2<(c.fr σ.1).vars.length:=by
  grind
 refine h.yb (.ce σ.1 σ.2) ⟨hf,w⟩ _ W W W W W W (λg=>by cases g<;>exact ari) ⟨v,f,eq,_,r,t,?_,rfl,u⟩ (λg E F G i=> ?_)
 ·show Ob.box (cV v f eq _ (mW s) (if zB s then c.get (σ.1,σ.2)else 0))=Ob.box (cV v f eq _ (mW ((X.cH σ s).cs σ.1 σ.2)) (if zB ((X.cH σ s).cs σ.1 σ.2)then c.get (σ.1,σ.2)else 0));rw[b8];rfl
 ·cases g with
  |ce b p=>
   obtain⟨x,y,z,q,j,k,l,m,A⟩:=i;have o:(b,p)≠σ:=by grind
   exact⟨x,y,z,q,j,k,by rw[bC X o];exact l,by rw[bC X o];exact m,A⟩
  |am b=>
   obtain⟨B,j,k,l,m⟩:=i;refine⟨B,j,k,λC a D=> ?_,m⟩;rw[show(X.cH σ s).A=X.A from rfl,l C a D];unfold aq.nz;by_cases e:(a::b,0)=σ
   ·subst e;rw[aqy (show X.fs (a::b)≠0 by grind),aqy (show(X.cH (a::b,0) s).fs (a::b)≠0 by simp only at hf;show X.fs (a::b)≠0;omega)];rfl
   ·rw[bC X e];rfl
  |_=>exact i
theorem Pu.cH(h:Pu P c d u X){σ:Path×Nat}{s:Nat}(E:s<=6)(Z:σ.1= []->d.ins.length<=σ.2)(F:zB s=true->(c.val σ.1 σ.2).isSome=true)(G:s=3->c.val σ.1 σ.2=none)(H:zB (X.cs σ.1 σ.2)=true->zB s=true)(I:X.cs σ.1 σ.2=2\/X.cs σ.1 σ.2=4->s=2\/s=4)
  (J:s=2-> ∀g v,(c.fr σ.1).db[σ.2]?=some (some g)->c.val σ.1 σ.2=some v->X.SS c g v)
  (K:s=2\/s=4-> ∀r v n o f,(c.fr σ.1).vars[σ.2]?=some v->jB (c.fr σ.1) σ.2 v r->Src c (c.sb σ.1 σ.2) σ.1 r v.name (some (n,o))->(c.fr n).au[o]?=some f->X.fs n=2/\(f.kd=1-> ∀y∈c.ew n o,X.SS c y.1 y.2)/\(f.kd=2->X.dn n o=true))
  (A: ∀a i f,σ=(i::a,0)->(c.fr a).au[i]?=some f->f.kd=2->s=1) (L:X.fs σ.1=2\/(σ.2=0/\ ∃i z f,σ.1=i::z/\(c.fr z).au[i]?=some f/\f.kd=2)):Pu P c d u (X.cH σ s):=by
 refine{f0:=h.f0,fp:=h.fp,f2:=h.f2,xm:=h.xm,xp:=h.xp,xd:=h.xd,xs:=h.xs,s3:=h.s3,s4:=h.s4,s5:=h.s5,fl:=h.fl,fn:=h.fn,fk:= λg l=>⟨(h.fk g l).ev,(h.fk g l).fs,(h.fk g l).lt,(h.fk g l).wr,(h.fk g l).sm,(h.fk g l).own,(h.fk g l).sz⟩,c6:= ?_,ci:= ?_,cv:= ?_,ca:= ?_,s1:= ?_,s2:= ?_,dl:= ?_,nk:= ?_,g0:= ?_,dz:=h.dz,cz:= ?_}
 ·intro a b;by_cases e:(a,b)=σ
  ·subst e;rw[b8 X (a,b) s];exact E
  ·rw[bC X e];exact h.c6 a b
 ·intro b t;have e:(([]:Path),b)≠σ:=by grind
  rw[bC X e];exact h.ci b t
 ·intro a b m;by_cases e:(a,b)=σ
  ·subst e;rw[b8 X (a,b) s]at m;exact F m
  ·rw[bC X e]at m;exact h.cv a b m
 ·intro a b m;by_cases e:(a,b)=σ
  ·subst e;rw[b8 X (a,b) s]at m;exact G m
  ·rw[bC X e]at m;exact h.ca a b m
 ·intro a b g v q k;by_cases e:(a,b)=σ
  ·subst e;rw[b8 X (a,b) s]at k;exactλ_=>J k g v
  ·rw[bC X e]at k;exact h.s1 a b g v q k
 ·intro j r v n o f q k;by_cases e:(j.1,j.2)=σ
  ·subst e;rw[b8 X (j.1,j.2) s]at k;exactλ_=>K k r v n o f
  ·rw[bC X e]at k;exact h.s2 j r v n o f q k
 ·intro a i f q B x w D M j N;obtain⟨⟨O,Q,R,_⟩,_⟩:=h.s3 a i q B;have S:(i::a,0)≠σ:=by
   intro e;have:=A a i O e.symm Q R;subst e;rw[b8 X (i::a,0) s]at x;omega
  rw[bC X S]at x;have p:=h.dl a i f q B x w D M j N;by_cases e:(j.1,j.2)=σ
  ·subst e;rw[b8 X (j.1,j.2) s];exact I p
  ·rw[bC X e];exact p
 ·intro g l;have p:=h.nk g l
  revert p
  generalize g.1=T;intro p;cases T with
  |cell ac j=>
   obtain⟨U,V,C,Y⟩:=p;refine⟨U,V,?_,Y⟩;by_cases e:(j.1,j.2)=σ
   ·subst e;rw[b8 X (j.1,j.2) s];exact H C
   ·rw[bC X e];exact C
  |_=>exact p
 ·intro a i f w t;by_cases e:(i::a,0)=σ
  ·subst e;rw[b8 X (i::a,0) s];exact .inr (.inl (A a i f W w t))
  ·rw[bC X e];exact h.g0 a i f w t
 ·intro a b k;by_cases e:(a,b)=σ
  ·subst e;exact L
  ·rw[bC X e]at k;exact h.cz a b k
theorem a_.cH(h:cx P n c d X H){σ:Path×Nat}{s:Nat}(j:X.live c (.ce σ.1 σ.2))(ob:Ob)(k:X.cs σ.1 σ.2=2->s=2)(l:X.cs σ.1 σ.2=3->s=3)(m:s≠0):a_ c (·=σ) X H (X.cH σ s) (H.set (X.A (.ce σ.1 σ.2)) ob):=by
 refine{c0:= ?_,f0:= λ_ h=>h,len:=by simp,gU:= ?_,A:= λi o=>⟨by cases i<;>exact o,rfl⟩,aG:= λ_ _=>⟨rfl,rfl⟩,f2:= λ_ h=>h,f1:= λ_=>ari,c1:= ?_,c2:= ?_,c3:= ?_,c4:= ?_,dn:= λ_ _ h=>h,qT:= λ_ _ _ _=>rfl,lv:=rfl,S:= λ_ _ h=>h,fi:=rfl,ph:=rfl,F:=⟨[],by simp[aq.cH]⟩}
 ·intro a b e;by_cases f:(a,b)=σ
  ·subst f;rw[b8 X (a,b) s]at e;exact absurd e m
  ·rw[bC X f]at e;exact e
 ·intro p r g;exact⟨g,aqn (by rintro rfl;rw[h.own _ j]at g;cases g)⟩
 ·intro a b e;rw[bC X e]
 ·intro a b e;by_cases f:(a,b)=σ
  ·subst f;rw[b8 X (a,b) s];exact k e
  ·rw[bC X f];exact e
 ·intro a b e;by_cases f:(a,b)=σ
  ·subst f;rw[b8 X (a,b) s];exact l e
  ·rw[bC X f];exact e
 ·intro a b q e _;rw[bC X e]
theorem a_.close{σ:Path×Nat}{Y:aq}{K:Hp}(h:a_ c (·=σ) X H Y K)(j:X.cs σ.1 σ.2=1↔Y.cs σ.1 σ.2=1)(k: ∀b,4<=b->(X.cs σ.1 σ.2=b↔Y.cs σ.1 σ.2=b))(l:X.cs σ.1 σ.2≠1):a_ c (λ_=>False) X H Y K:=by
 refine{h with c1:= λa d _=> ?_,c4:= λa d b _ g=> ?_,qT:= λa f _ i=>h.qT a f (by grind) i}
 ·by_cases e:(a,d)=σ
  ·grind
  ·exact h.c1 a d e
 ·by_cases e:(a,d)=σ
  ·grind
  ·exact h.c4 a d b e g
theorem Aa{H:Hp}{i:Nat}{ob:Ob}(h:H[i]?=some ob):H.set i ob=H:=by
 apply ar4;intro a;rw[List.getElem?_set];split
 ·grind
 ·rfl
theorem qU{σ:Path×Nat}{s:Nat}(h:s≠0):(X.cH σ s).T c<=X.T c:=by
 refine Bs (a:=0) (b:=0) (λk d=> ?_) (aqd _) (aqd _);cases k with
 |cell f i=>
  simp only[aq.cu,ar6]at d⊢;by_cases e:(f,i)=σ
  ·subst e;rw[b8 X (f,i) s]at d;exact absurd d h
  ·rw[bC X e]at d;exact d
 |call f j=>
  simp only[aq.cu,aqB,ar6]at d⊢;refine⟨d.1,?_⟩;have g:=d.2;by_cases e:(j::f,0)=σ
  ·subst e;rw[b8 X (j::f,0) s]at g;exact absurd g h
  ·rw[bC X e]at g;exact g
 |_=>exact d
theorem Ib{σ:Path×Nat}{s:Nat}(h:s≠0)(l:X.cs σ.1 σ.2=0)(m:It.cell σ.1 σ.2∈c.an):(X.cH σ s).T c+c.wt (.cell σ.1 σ.2)<=X.T c:=by
 refine uN (a:=0) (b:=0) (λi d=> ?_) m (by simp[aq.cu,l]) (by simp only[aq.cu];rw[b8];simpa using h) (aqd _) (aqd _);cases i with
 |cell f j=>
  simp only[aq.cu,ar6]at d⊢;by_cases e:(f,j)=σ
  ·grind
  ·rw[bC X e]at d;exact d
 |call f k=>
  simp only[aq.cu,aqB,ar6]at d⊢;refine⟨d.1,?_⟩;have g:=d.2;by_cases e:(k::f,0)=σ
  ·grind
  ·rw[bC X e]at g;exact g
 |_=>exact d
end
end Go.Proofs.Sz
