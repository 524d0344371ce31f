/- A part of the proof of the last text of this claim, without conditions. -/
import Derived.Test.YtjbigbaipmiihaaGreatF
set_option maxRecDepth 4000
set_option linter.all false
namespace Go.Sm
open Go.Mt
theorem yh{l:List Va} : ∀{a i:Nat} {v:Va},l[i]?=some v->(cm l a)[i]?=some (if v.last then some (a+aR (l.take i))else none):=by
 induction l with
 |nil=>intro a i v b;cases b
 |cons c l d=>
  intro a i v b;cases i with
  |zero=>
   injection b with b
   subst b;unfold cm;split<;>simp[aR]
  |succ i=>
   unfold cm;rw[asa,wl];split
   ·grind
   ·grind
theorem uS{l:List ay} : ∀{a i:Nat} {q:ay},l[i]?=some q->(fy l a)[i]?=some (a+aP ((l.take i).map qP)):=by
 induction l with
 |nil=>intro a i v b;cases b
 |cons e l c=>
  intro a i v b;cases i with
  |zero=>simp[fy,aP]
  |succ i=>
   have d:l[i]?=some v:=by simpa using b
   rw[fy,List.getElem?_cons_succ,c d,asa,aqN,jK,asd]
theorem vJ{c:aH}{x:Nm}{σ:Path×Nat} : ∀{ρ:Path},c.find ρ x=some σ->(∃τ,ρ=τ++σ.1)/\fS (c.fr σ.1).vars x=some σ.2
 | [],a=>by
  change Option.map _ _=_ at a;cases b:fS (c.fr []).vars x with
  |none=>rw[b]at a;cases a
  |some e=>rw[b]at a;injection a with a;subst a;exact⟨⟨[],rfl⟩,b⟩
 |d::ρ,a=>by
  rw[show c.find (d::ρ) x=match fS (c.fr (d::ρ)).vars x with|some e=>some (d::ρ,e)|none=>c.find ρ x from rfl]at a;cases b:fS (c.fr (d::ρ)).vars x with
  |none=>
   rw[b]at a;obtain⟨⟨τ,g⟩,f⟩:=vJ a;exact⟨⟨d::τ,by simp_all⟩,f⟩
  |some e=>rw[b]at a;injection a with a;subst a;exact⟨⟨[],rfl⟩,b⟩
theorem vK{c:aH}{x:Nm}{J:Path}{k:Nat}(h:fS (c.fr J).vars x=some k):c.find J x=some (J,k):=by
 cases J with
 |nil=>show Option.map _ _=_;rw[h];rfl
 |cons b a=>rw[show c.find (b::a) x=match fS (c.fr (b::a)).vars x with|some k=>some (b::a,k)|none=>c.find a x from rfl,h]
theorem Ec{c:aH}{x:Nm}{J:Path}(h:fS (c.fr J).vars x=none){σ:Path×Nat}(hf:c.find J x=some σ): ∃j ρ,J=j::ρ/\c.find ρ x=some σ:=by
 cases J with
 |nil=>change Option.map _ _=_ at hf;rw[h]at hf;cases hf
 |cons j ρ=>rw[show c.find (j::ρ) x=match fS (c.fr (j::ρ)).vars x with|some a=>some (j::ρ,a)|none=>c.find ρ x from rfl,h]at hf;exact⟨j,ρ,rfl,hf⟩
end Go.Sm
namespace Go.Proofs.Sz
open Go.Mt Go.Sm Go.Proofs
section
variable{c:aH}{g:zj}{st z:Nat->Int}{X:aq}{J:Path}{H K:Hp}
theorem Ad{H:Hp}{a b:Ob} :(H++ [a]).set H.length b=H++ [b]:=by simp
structure GR(X:aq)(c:aH)(H:Hp)(σ:Path):Prop where
 r:H6 X c H σ
 fr:X.own (X.A (.fr σ))=some (.fr σ)
 cr:(c.fr σ).vars≠ []->X.own (X.A (.cr σ))=some (.cr σ)
 ce: ∀k,k<(c.fr σ).vars.length->X.own (X.A (.ce σ k))=some (.ce σ k)
theorem cx.Mm{P:Pg}{n:Nat}{d:Nd}(h:cx P n c d X H){ρ:Path}(hf:X.fs ρ=2):GR X c H ρ:=
 ⟨h.Jw hf,h.own _ (by show 1<=X.fs ρ;omega),λa=>h.own _ ⟨hf,a⟩,λe b=>h.own _ ⟨hf,b⟩⟩
theorem GR.up{Y:aq}{σ:Path}(h:GR X c H σ)(e:lQ J X H Y K)(g:σ≠J):GR Y c K σ:=by
 have f:=e.A;have l: ¬(Ro.fr σ).qj J:=id;have m: ¬(Ro.cr σ).qj J:=g;have n: ∀a,¬(Ro.ce σ a).qj J:= λ_=>g
 have s: ∀{r ob},X.own (X.A r)=some r-> ¬r.qj J->r≠ .fr J->H[X.A r]?=some ob->K[Y.A r]?=some ob:= λ{r ob} d i o w=>by
  rw[f r i,e.gU _ (lr w) (λE j=>by rw[d]at j;injection j with j;subst j;exact⟨i,o⟩)];exact w
 have p: ∀{r},X.own (X.A r)=some r-> ¬r.qj J->X.A r<H.length->Y.own (Y.A r)=some r:= λ{r} d i o=>by rw[f r i,e.own _ o];exact d
 obtain⟨z,A,B,x⟩:=h.r.fr;have C:Y.up σ=X.up σ:=by cases σ with
  |nil=>rfl
  |cons D σ=>simp only[aq.up];rw[f _ (id: ¬(Ro.fr σ).qj J)]
 refine⟨⟨⟨z,A,B,?_⟩,λb=> ?_,λa v b=> ?_⟩,p h.fr l (lr x),λb=>p (h.cr b) m (lr (h.r.cr b)),λa k=> ?_⟩
 ·rw[C,f _ m,(e.v σ g).1];exact s h.fr l (by intro q;injection q with q;exact g q) x
 ·rw[(e.v σ g).1,s (h.cr b) m (by simp) (h.r.cr b)]
  congr 2
  exact aq3 λa _=>by rw[f _ (n a)]
 ·obtain⟨y,eq,t,u,d⟩:=h.r.ce a v b;have k:a<(c.fr σ).vars.length:=by
   rcases aqh a (c.fr σ).vars.length with h|h
   ·exact h
   ·rw[aqj h]at b;cases b
  exact⟨y,eq,t,u,by rw[f _ l];exact s (h.ce a k) (n a) (by simp) d⟩
 ·obtain⟨y,eq,t,u,d⟩:=h.r.ce a _ (aqi k);exact p (h.ce a k) (n a) (lr d)
theorem Fl.Jw{e:Nat}{L:Nat->Nm->Prop}(h:Fl (c.fr J) st z (X.up J) X J (c.fr J).vars.length e L H):H6 X c H J:=by
 refine⟨⟨_,_,_,h.fr⟩,λb=>h.cr (asA.2 b),λd v b=> ?_⟩;have f:d<(c.fr J).vars.length:=by
  grind
 obtain⟨j,g,eq,a,k,i,_⟩:=h.ce d f;rw[b]at a;injection a with a
 subst a;exact⟨g,eq,_,_,i⟩
theorem dM{l:List Va}{i:Nat}(h:i<l.length):(aC l)[((i:Nat):Int).toNat]?=some l[i].cells:=by simp[aC,h]
theorem CI(Ok: ∀J,(c.fr J).vars.length<=1000000)(b:aW)(hb:tQ b)(i6:iC b<=1000000)(a:Nat)(ha:a+bP b<=1000000000)(s:Nat)(Wa:(c.fr J).vars.length=s+b.vars.length)(d7: ∀i v,b.vars[i]?=some v->(c.fr J).vars[s+i]?=some v)(TQ: ∀i F,(cm b.vars a)[i]?=some F->(c.fr J).db[s+i]?=some F)
  (Ol:(c.fr J).au=b.au) (d8:(c.fr J).pos=fy b.au (a+aR b.vars)) (Nu: ∀n,s<=n->st n=0/\z n=0) (m0:M) (hF:Fl (c.fr J) st z (X.up J) X J s 0 (λ_ _=>False) H) (VJ: ∀g w,J=g::w-> ∀A o,w=A++o->GR X c H o):
  DT Tryz.prog 43 [m0,.ref (X.A (.fr J)) 0,.d (.agg b.cells),dN a] H λ_ K=> ∃Y,Fl (c.fr J) st z (X.up J) Y J (c.fr J).vars.length (c.fr J).au.length (λ_ _=>True) K/\lQ J X H Y K:=by
 have YX:=vu b;obtain⟨vars,au⟩:=b;cases hb with
 |mk NA Rc Qn NX OR Tc i7=>
 rw[aW.aA];simp only[aW.vars,aW.au]at Wa d7 TQ Ol d8 YX⊢;refine DT.ob Tryz.func43 W Tryz.ntmps43 W<|dO [2,2,25] W<|Mu (bH W W W) ?_;rw[show(aC vars).length=vars.length by simp[aC]];refine dL [] W<|MG [nN 22 0,nN 21 vars.length,nD 20 (.sl (aC vars)),nD 6 (.aZ [.sl (aC vars),.sl (au.map ay.cells)] 0),nR 1 (X.A (.fr J)),nN 3 a] H W W<|dC [] W<|Ny (λMJ=> ∃Y K p,Fl (c.fr J) st z (X.up J) Y J (s+vars.length) 0 (λ_ _=>False) K/\lQ J X H Y K/\MJ=⟨[nD 6 (.aZ [.sl (aC vars),.sl (au.map ay.cells)] 0),nR 1 (X.A (.fr J)),nN 3 (a+aR vars)],p,K⟩) ?_ ?_
 ·refine dC [3] W<|DC.lp (λk L=> ∃(i:Nat) (Y:aq) (K:Hp) (p:List (Nat×List M)),L=⟨[nN 22 i,nN 21 vars.length,nD 20 (.sl (aC vars)),nD 6 (.aZ [.sl (aC vars),.sl (au.map ay.cells)] 0),nR 1 (X.A (.fr J)),nN 3 (a+aR (vars.take i))],p,K⟩/\i<=vars.length/\k=vars.length-i/\
    Fl (c.fr J) st z (X.up J) Y J (s+i) 0 (λ_ _=>False) K/\lQ J X H Y K) vars.length _
   ⟨0,X,H,_,rfl,by omega,rfl,hF,lQ.refl hF.lt⟩ (kc W (kc W (kc W (kc W (kc W (kc (by simp[aR];rfl) W)))))) ?_
  rintro k s1 ⟨i,Y,K,p,rfl,hi,rfl,t,G⟩;refine dC [2] W<|DC.cond W (λh=> ?_) (λh=> ?_);rotate_left
  ·have e:i=vars.length:=by have:=aqA h;omega
   subst e;rw[aqQ];refine DC.exit<|⟨_,⟨Y,K,_,t,G,rfl⟩,cF W W⟩
  have x:i<vars.length:=by have:=aqv h;omega
  have RA:=aqi x;have OU:=dM x;have QA:aR (vars.take (i+1))=aR (vars.take i)+(if vars[i].last then 1 else 0):=by rw[aqu x,pw]
  have MV:=lm vars i;generalize vars[i]=v at RA OU QA;have r:Y.A (.fr J)=X.A (.fr J):=G.A _ id;have I:=t.fr;rw[r]at I;have Xl:=yh (a:=a) RA;rw[show v.cells= [.str v.name,.int .u8 v.tk,.str v.tn,.sl (rX v.clock),.bool v.last]++v.first.cells++ [.int .i64 v.ps.1,.int .i64 v.ps.2]from rfl,Xp.aA]at OU;refine dO [3,2,28] W<|Mu (aK W W W (aqe i) OU W)<|dR [2,32] W<|Mu (jT W W W W W)<|dR [33] W<|Mu (cA W W W)<|dL [2] W<|Ny (λMJ=> ∃Ns,MJ=⟨[nR 10 K.length,nN 22 i,nN 21 vars.length,nD 20 (.sl (aC vars)),nD 6 (.aZ [.sl (aC vars),.sl (au.map ay.cells)] 0),nR 1 (X.A (.fr J)),nN 3 (a+aR (vars.take (i+1)))],Ns,K++ [Ob.box (cV v (if v.last then some (a+aR (vars.take i))else none) (.d .bQ) (X.A (.fr J)) 0 0)]⟩) ?_ ?_
  ·have f9:(K++ [Ob.box (cV v none (.d .bQ) (X.A (.fr J)) 0 0)])[K.length]?=some (Ob.box (cV v none (.d .bQ) (X.A (.fr J)) 0 0)):=tY K _;refine DC.cond W (λh=> ?_) (λh=> ?_)
   ·rw[aqy h]at QA;refine dO [2,999] W<|Mu (bX W W f9 W W W)<|dR [2,41] W<|Mu (ax W W W (by omega))<|dL [] W<|⟨_,⟨_,rfl⟩,cF (by rw[aqy h];exact Ad) (kc W (kc W (kc W (kc W (kc W (kc W (kc (by rw[QA];rfl) W)))))))⟩
   ·rw[aqo (by rw[h];simp)]at QA;refine dC [] W<|⟨_,⟨_,rfl⟩,cF (by rw[aqo (by rw[h];simp)];rfl) (kc W (kc W (kc W (kc W (kc W (kc W (kc (by rw[QA];rfl) W)))))))⟩
  rintro _ ⟨Ns,rfl⟩;generalize i8:(if v.last then some (a+aR (vars.take i))else none)=F at Xl;have Tj:=Nu (s+i) (by omega);obtain⟨N,O⟩:=t.eE (C:=cV v F (.d .bQ) (X.A (.fr J)) 0 0) (k:=s+i) ⟨rfl,rfl,rfl,rfl⟩ ⟨v,F,.d .bQ,d7 i v RA,TQ i F Xl,by rw[Tj.1,Tj.2,r]⟩;have i9:=lr I;have u:=bp (T:=[Ob.box (cV v F (.d .bQ) (X.A (.fr J)) 0 0)]) I;have WL:=Ok J;have TW:vars.length-(i+1)<vars.length-i:=by omega
  rcases aqJ (s+i)with y|y
  ·have S:bG (Y.A (.cr J)) (Y.vc J) (s+i)= .d (.sl []):=by rw[y];rfl
   rw[S]at u;refine dO [2,46] W<|Mu (aw W W u W)<|dR [48] W<|Mu (ig (cs:=[_]) W W W W W W)<|dR [49] W<|Mu (xQ true W W W (lu _ _) W W (by decide) (by decide))<|dR [999] W<|Mu (bX W W (bp (bp u)) W W W)<|dR [2,52] W<|Mu (ax W W W (by omega))<|dL [] W<|bE (k':=vars.length-(i+1)) TW ⟨i+1,_,_,_,rfl,by omega,rfl,N,G.trans O⟩ ?_ W;simp only[aq.pM,aqy y,r,aqg,aqH];rfl
  ·have S:bG (Y.A (.cr J)) (Y.vc J) (s+i)= .bB (Y.A (.cr J)) (Y.vc J) (s+i):=by unfold bG;rw[aqo (by omega)]
   rw[S]at u;have MW:Y.A (.cr J)≠X.A (.fr J):=by intro e;have:=t.mr y;rw[e,<-r,t.kE]at this;cases this
   refine dO [2,46] W<|Mu (aw W W u W)<|dR [48] W<|Mu (ig (cs:=[_]) W W W W W W)<|dR [49] W<|Mu (xR W W W (lu _ _) (bp (bp (t.cr y))) W (by omega) (by omega))<|dR [999] W<|Mu (bX W W (fB (bp u) MW) W W W)<|dR [2,52] W<|Mu (ax W W W (by omega))<|dL [] W<|bE (k':=vars.length-(i+1)) TW ⟨i+1,_,_,_,rfl,by omega,rfl,N,G.trans O⟩ ?_ W;simp only[aq.pM,aqo (show ¬s+i=0 by omega),r];rfl
 rintro _ ⟨Y0,K0,mt,Ye,TR,rfl⟩;rw[<-Wa]at Ye;refine dO [2,55] W<|Mu (bH W W W) ?_;rw[aqE];refine dL [] W<|MG [nN 52 0,nN 51 au.length,nD 50 (.sl (au.map ay.cells)),nR 1 (X.A (.fr J)),nN 3 (a+aR vars)] K0 W W<|dC [] W<|Ny (λMJ=> ∃Y K p,Fl (c.fr J) st z (X.up J) Y J (c.fr J).vars.length au.length (λ_ _=>False) K/\lQ J X H Y K/\MJ=⟨[nR 1 (X.A (.fr J))],p,K⟩) ?_ ?_
 ·refine dC [3] W<|DC.lp (λk L=> ∃(i:Nat) (Y:aq) (K:Hp) (p:List (Nat×List M)),L=⟨[nN 52 i,nN 51 au.length,nD 50 (.sl (au.map ay.cells)),nR 1 (X.A (.fr J)),nN 3 (a+aR vars+aP ((au.take i).map qP))],p,K⟩/\i<=au.length/\k=au.length-i/\
    Fl (c.fr J) st z (X.up J) Y J (c.fr J).vars.length i (λ_ _=>False) K/\lQ J X H Y K) au.length _
   ⟨0,Y0,K0,_,rfl,by omega,rfl,Ye,TR⟩ (kc W (kc W (kc W (kc W (kc (by simp[aP];rfl) W))))) ?_
  rintro k s1 ⟨i,Y,K,p,rfl,hi,rfl,t,G⟩;refine dC [2] W<|DC.cond W (λh=> ?_) (λh=> ?_);rotate_left
  ·have e:i=au.length:=by have:=aqA h;omega
   subst e;refine DC.exit<|⟨_,⟨Y,K,_,t,G,rfl⟩,cF W W⟩
  have x:i<au.length:=by have:=aqv h;omega
  have U:=aqi x;have D:=aqz x;have Yf:(au.map ay.cells)[((i:Nat):Int).toNat]?=some (au[i].cells):=by simp[x]
  have PU:=fD qP (l:=au) x;have W_:=uS (a:=a+aR vars) U;have U9:=Bk au[i] (OR _ D).1 (OR _ D).2.1 (OR _ D).2.2 (by omega) (NX _ D) (λar Xc=>kY ar.cp (Qn _ D ar Xc) (by
   have d:=jn (aqU (f:=fo) Xc);rw[mS]at d;have P:=jt au[i];omega))
  generalize au[i]=q at U D Yf PU W_ U9;have r:Y.A (.fr J)=X.A (.fr J):=G.A _ id;have I:=t.fr;rw[r]at I;rw[q.aA,q.ex.aA]at Yf U9;refine dO [3,2,58] W<|Mu (aK W W W (aqe i) Yf W)<|dR [2,63] W<|Mu (cA W W W)<|dL [] W ?_;have u:=bp (T:=[Ob.box (dr q (a+aR vars+aP ((au.take i).map qP)))]) I;have TW:au.length-(i+1)<au.length-i:=by omega
  obtain⟨N,O⟩:=t.eZ (C:=dr q (a+aR vars+aP ((au.take i).map qP))) ⟨rfl,rfl,rfl,rfl⟩ ⟨q,a+aR vars+aP ((au.take i).map qP),by rw[Ol];exact U,by rw[d8];exact W_,rfl⟩;have d9:a+aR vars+aP ((au.take (i+1)).map qP)=a+aR vars+aP ((au.take i).map qP)+qP q:=by omega
  rcases aqJ i with y|y
  ·have S:bG (Y.A (.er J)) (Y.ve J) i= .d (.sl []):=by rw[y];rfl
   rw[S]at u;refine dO [2,68] W<|Mu (aw W W u W)<|dR [70] W<|Mu (ig (cs:=[_]) W W W W W W)<|dR [71] W<|Mu (xQ true W W W (lu _ _) W W (by decide) (by decide))<|dR [999] W<|Mu (bX W W (bp (bp u)) W W W)<|dR [2,76] W<|Mu (aJ U9 W W)<|dR [77] W<|Mu (ax W W W (by omega))<|dR [2,78] W<|Mu (ax W W W (by omega))<|dL [] W<|bE (k':=au.length-(i+1)) TW ⟨i+1,_,_,_,rfl,by omega,rfl,N,G.trans O⟩ ?_ (kc W (kc W (kc W (kc W (kc (by rw[d9];rfl) W)))));simp only[aq.vI,aqy y,r,aqg,aqH];rfl
  ·have S:bG (Y.A (.er J)) (Y.ve J) i= .bB (Y.A (.er J)) (Y.ve J) i:=by unfold bG;rw[aqo (by omega)]
   rw[S]at u;have Ta:=t.er y;have MW:Y.A (.er J)≠X.A (.fr J):=by intro e;have:=t.mZ y;rw[e,<-r,t.kE]at this;cases this
   refine dO [2,68] W<|Mu (aw W W u W)<|dR [70] W<|Mu (ig (cs:=[_]) W W W W W W)<|dR [71] W<|Mu (xR W W W (lu _ _) (bp (bp Ta)) W (by omega) (by omega))<|dR [999] W<|Mu (bX W W (fB (bp u) MW) W W W)<|dR [2,76] W<|Mu (aJ U9 W W)<|dR [77] W<|Mu (ax W W W (by omega))<|dR [2,78] W<|Mu (ax W W W (by omega))<|dL [] W<|bE (k':=au.length-(i+1)) TW ⟨i+1,_,_,_,rfl,by omega,rfl,N,G.trans O⟩ ?_ (kc W (kc W (kc W (kc W (kc (by rw[d9];rfl) W)))));simp only[aq.vI,aqo (show ¬i=0 by omega),r];rfl
 rintro _ ⟨Y,K1,pm,Ww,OM,rfl⟩;have r:Y.A (.fr J)=X.A (.fr J):=OM.A _ id;have I:=Ww.fr;rw[r]at I;refine dO [2,82] W<|Mu (aw W W I W)<|dR [83] W<|Mu (oT W W)<|dL [] W<|MG [nN 80 0,nN 79 au.length,nM 78 (bG (Y.A (.er J)) (Y.ve J) au.length),nR 1 (X.A (.fr J))] K1 W W<|dC [3] W<|DC.lp (λk L=> ∃(i:Nat) (K:Hp) (p:List (Nat×List M)),L=⟨[nN 80 i,nN 79 au.length,nM 78 (bG (Y.A (.er J)) (Y.ve J) au.length),nR 1 (X.A (.fr J))],p,K⟩/\i<=au.length/\k=au.length-i/\
   Fl (c.fr J) st z (X.up J) Y J (c.fr J).vars.length au.length (λg _=>g<i) K/\lQ J X H Y K) au.length _
  ⟨0,K1,_,rfl,by omega,rfl,Ww.mono (λg v _ n _ j=>by omega),OM⟩ W ?_
 rintro k s1 ⟨i,K,p,rfl,hi,rfl,ac,f4⟩;refine dC [2] W<|DC.cond W (λh=> ?_) (λh=> ?_);rotate_left
 ·have e:i=au.length:=by have:=aqA h;omega
  subst e;refine DC.exit<|⟨_,rfl,Y,?_,f4⟩;rw[Ol];exact ac.mono (λg v _ n hE _=>by
   obtain⟨_,⟨q,hq,_⟩,_⟩:=hE;rw[Ol]at hq;rcases aqh g au.length with R|R
   ·exact R
   ·rw[aqj R]at hq;cases hq)
 have x:i<au.length:=by have:=aqv h;omega
 obtain⟨q,gc,U,W_,M4⟩:=ac.pl i x;have D:q∈au:=aqk (by rw[<-Ol];exact U);have qr:=uL (b:= .mk vars au) (q:=q) D;have Pp:=uM q (NX _ D) (Qn _ D) (by omega);rw[q.aA,q.ex.aA]at Pp;have Oc:=mq q;have Ta:=ac.er (by omega);have MC:((List.range au.length).map λk=>M.ref (Y.A (.pl J k)) 0)[((i:Nat):Int).toNat*1]?=some (.ref (Y.A (.pl J i)) 0):=by simp[x]
 refine dO [3,2,86] W<|Mu (k8 W W W Ta (aqe i) (by omega))<|dR [87] W<|Mu (lY W W Ta MC)<|dR [2,91] W<|Mu (jV W W M4 W W)<|dR [92] W<|Mu (aJ Pp W W)<|dR [93] W<|Mu (bH W W W) ?_;rw[aqE];refine dL [] W<|MG [nN 90 0,nN 89 ((b_ q).length),nD 88 (.sl (dq (b_ q))),nR 15 (Y.A (.pl J i)),nN 80 i,nN 79 au.length,nM 78 (bG (Y.A (.er J)) (Y.ve J) au.length),nR 1 (X.A (.fr J))] K W W<|dC [3] W<|DC.lp (λk L=> ∃(m:Nat) (B:Hp) (p:List (Nat×List M)),L=⟨[nN 90 m,nN 89 ((b_ q).length),nD 88 (.sl (dq (b_ q))),nR 15 (Y.A (.pl J i)),nN 80 i,nN 79 au.length,nM 78 (bG (Y.A (.er J)) (Y.ve J) au.length),nR 1 (X.A (.fr J))],p,B⟩/\m<=(b_ q).length/\k=(b_ q).length-m/\
   Fl (c.fr J) st z (X.up J) Y J (c.fr J).vars.length au.length (λg nm=>g<i\/(g=i/\nm∈(b_ q).take m)) B/\lQ J X H Y B) (b_ q).length _
  ⟨0,K,_,rfl,by omega,rfl,ac.mono (λg v _ n _ j=>by
   rcases j with j|⟨_,j⟩
   ·exact j
   ·simp at j),f4⟩ W ?_
 rintro k s2 ⟨m,B,p,rfl,hm,rfl,Zn,V⟩;refine dC [2] W<|DC.cond W (λh=> ?_) (λh=> ?_);rotate_left
 ·have e:m=(b_ q).length:=by have:=aqA h;omega
  subst e;refine DC.exit<|dO [2,116] W<|Mu (ax W W W (by omega))<|dL [] W<|bE (k':=au.length-(i+1)) (by omega) ⟨i+1,B,_,rfl,by omega,rfl,Zn.mono (λg v _ n hE j=> ?_),V⟩ W W;rcases aq0.1 j with d|d
  ·exact .inl d
  ·subst d;obtain⟨_,⟨q',MO,Qj⟩,_⟩:=hE;rw[U]at MO;injection MO with MO
   subst MO;exact .inr ⟨rfl,by rw[aqQ];exact Qj⟩
 have VA:m<(b_ q).length:=by have:=aqv h;omega
 have Qw:=aqz VA;have Qz:=jZ VA;have Nv:=aqu VA;generalize (b_ q)[m]=n at Qw Qz Nv;have Q7:(b_ q).length-(m+1)<(b_ q).length-m:=by omega
 have hR: ∀A w,J=A++w->H6 Y c B w:=by
  intro A w e;cases A with
  |nil=>
   have e':=e;subst e';have:=Zn;have Su:Y.up J=X.up J:=by cases J with
    |nil=>rfl
    |cons g o=>simp only[aq.up];rw[V.A _ (id: ¬(Ro.fr o).qj _)]
   rw[<-Su]at this;exact this.Jw
  |cons g A=>
   have hn:w≠J:=by
    intro e2;have:=arI List.length e;rw[e2]at this;simp only[aqg,aqw]at this;omega
   exact((VJ g (A++w) e A w W).up V hn).r
 have Z:=z_ Ok J hR n;rw[r]at Z;refine dO [3,2,96] W<|Mu (aK W W W (aqe m) Qz W)<|dL [] W ?_;have f7:fS (c.fr J).vars n=none->Fl (c.fr J) st z (X.up J) Y J (c.fr J).vars.length au.length (λg nm=>g<i\/(g=i/\nm∈(b_ q).take (m+1))) B:=by
  intro M9;refine(Zn.skip (i:=i) (nm:=n) (λco v _ hv Q e=>by rw[e,M9]at Q;cases Q)).mono (λg v _ co _ j=> ?_);rcases j with j|⟨d,P⟩
  ·exact .inl (.inl j)
  ·rw[Nv]at P;rcases aql.1 P with h3|h3
   ·exact .inl (.inr ⟨d,h3⟩)
   ·exact .inr ⟨d,aqp.1 h3⟩
 cases E:c.find J n with
 |none=>
  have Q:fS (c.fr J).vars n=none:=by
   cases e:fS (c.fr J).vars n with
   |none=>rfl
   |some k=>rw[vK e]at E;cases E
  have Q5:Y.fU c J n= .d .bQ:=by unfold aq.fU;rw[E]
  rw[Q5]at Z;refine dO [2,100] W<|Mu (ap Z W W)<|dR [2,102] W<|Mu (jY (by kernel_rfl) W W W W W)<|dR [0,2,115] W<|Mu (ax W W W (by omega))<|dL [] W<|bE (k':=(b_ q).length-(m+1)) Q7 ⟨m+1,B,_,rfl,by omega,rfl,f7 Q,V⟩ W W
 |some o=>
  have Q5:Y.fU c J n= .ref (Y.A (.ce o.1 o.2)) 0:=by unfold aq.fU;rw[E]
  rw[Q5]at Z;obtain⟨⟨A,OX⟩,Q⟩:=vJ E;obtain⟨v,hv,RO⟩:=CD Q;by_cases Px:o.1=J
  ·rw[Px]at Z Q hv;have hk:o.2<(c.fr J).vars.length:=by
    rcases aqh o.2 (c.fr J).vars.length with R|R
    ·exact R
    ·rw[aqj R]at hv;cases hv
   obtain⟨v',F,eq,d,P,Nz,h4⟩:=Zn.ce o.2 hk;rw[hv]at d;injection d with d
   subst d;obtain⟨N,O⟩:=Zn.link (i:=i) (q:=q) hk hv (by rw[RO];exact Q) P U (by rw[RO];exact Qw) (λg nm j=>by rcases j with j|j<;>omega) Nz;rw[r]at Nz N O;have d6:(Nat.beq (X.A (.fr J)) (X.A (.fr J))&&Nat.beq 0 0)=true:=by simp
   refine dO [2,100] W<|Mu (ap Z W W)<|dR [2,102] W<|Mu (jY (by kernel_rfl) W W W W W)<|dR [107] W ?_
   first|refine Mu (aE W W) ?_|(refine Mu (aB W) ?_;refine Mu (aw W W Nz W) ?_)
   refine dR [109] W ?_
   first|refine Mu (aE W W) ?_|(refine Mu (aB W) ?_;refine Mu (E8 W (by kernel_rfl) W W) ?_;rw[d6])
   refine dR [1,2,999] W<|Mu (bX W W Nz W W W)<|dR [2,115] W<|Mu (ax W W W (by omega))<|dL [] W<|bE (k':=(b_ q).length-(m+1)) Q7 ⟨m+1,_,_,rfl,by omega,rfl,N.mono (λg ge _ co _ j=> ?_),V.trans O⟩ W W;rcases j with j|⟨d,P⟩
   ·exact .inl (.inl j)
   ·rw[Nv]at P;rcases aql.1 P with h3|h3
    ·exact .inl (.inr ⟨d,h3⟩)
    ·exact .inr ⟨d,by rw[aqp.1 h3,RO]⟩
  ·have f8:fS (c.fr J).vars n=none:=by
    cases e:fS (c.fr J).vars n with
    |none=>rfl
    |some k=>rw[vK e]at E;injection E with E;exact absurd (by rw[<-E]) Px
   obtain⟨F,eq,L,co,Nz⟩:=(hR A o.1 OX).ce _ _ hv;have hO:GR Y c B o.1:=by
    obtain⟨g,w,e1,e2⟩:=Ec f8 E;obtain⟨⟨PP,d⟩,_⟩:=vJ e2;exact(VJ g w e1 PP o.1 d).up V Px
   have MW:Y.A (.fr o.1)≠X.A (.fr J):=by
    intro e;have d:=hO.fr;rw[e,<-r,Zn.kE]at d;injection d with d
    injection d with d
    exact Px d.symm
   have d6:(Nat.beq (Y.A (.fr o.1)) (X.A (.fr J))&&Nat.beq 0 0)=false:=by
    cases e:Nat.beq (Y.A (.fr o.1)) (X.A (.fr J))with
    |false=>rfl
    |true=>exact absurd (aqr e) MW
   refine dO [2,100] W<|Mu (ap Z W W)<|dR [2,102] W<|Mu (jY (by kernel_rfl) W W W W W)<|dR [107] W ?_
   first|refine Mu (aE W W) ?_|(refine Mu (aB W) ?_;refine Mu (aw W W Nz W) ?_)
   refine dR [109] W ?_
   first|refine Mu (aE W W) ?_|(refine Mu (aB W) ?_;refine Mu (E8 W (by kernel_rfl) W W) ?_;rw[d6])
   refine dR [0,2,115] W<|Mu (ax W W W (by omega))<|dL [] W<|bE (k':=(b_ q).length-(m+1)) Q7 ⟨m+1,B,_,rfl,by omega,rfl,f7 f8,V⟩ W W
end
section
variable{P:Pg}{n:Nat}{c:aH}{d:Nd}{u:US}{X Y Z:aq}{H K L:Hp}
theorem JC(h:cx P n c d X H){a:Nat}(f:H.length<=a):X.own a=none:=by
 cases e:X.own a with
 |none=>rfl
 |some b=>have:=h.lt a b e;omega
def aq.bA(X:aq)(ρ:Path)(H:Hp):aq:= {X with
 A:= λr=>if r= .fr ρ then H.length+2 else if r= .am ρ then H.length else if r= .tk ρ then H.length+1 else X.A r
 own:= λa=>if a=H.length then some (.am ρ)else if a=H.length+1 then some (.tk ρ)else if a=H.length+2 then some (.fr ρ)else X.own a
 fs:= λσ=>if σ=ρ then 1 else X.fs σ}
theorem cx.bA(h:cx P n c d X H){J:Path}{j:Nat}(hf:X.fs J=2)(Rp:X.fs (j::J)=0)(TX: ∀l,X.fs (l::j::J)=0){q:ay}(hq:(c.fr J).au[j]?=some q){es:List (D×M)}(WZ:H[X.A (.am J)]?=some (.map es)):
  cx P n c d (X.bA (j::J) H) ((((H++ [Ob.map []])++ [Ob.map []])++ [Ob.box [.ref (X.A (.fr J)) 0,.d (.sl []),.d (.sl []),.mp H.length,.mp (H.length+1)]]).set (X.A (.am J)) (.map (iJ (X.A (.pl J j)) 0 (.ref (H.length+2) 0) es))):=by
 have hj:j<(c.fr J).au.length:=by
  rcases aqh j (c.fr J).au.length with h|h
  ·exact h
  ·rw[aqj h]at hq;cases hq
 obtain⟨b,u⟩: ∃b,b=j::J:=⟨_,rfl⟩;have O:J≠b:=by rw[u];intro e;have:=arI List.length e;simp at this
 have f9:X.fs b=0:=by rw[u];exact Rp
 have f4: ∀l,X.fs (l::b)=0:=by rw[u];exact TX
 have Q:=h.own (.am J) (by show 1<=X.fs J;omega);have f7:=h.lt _ _ Q;rw[<-u];generalize F:(((H++ [Ob.map []])++ [Ob.map []])++ [Ob.box [M.ref (X.A (.fr J)) 0,.d (.sl []),.d (.sl []),.mp H.length,.mp (H.length+1)]]).set (X.A (.am J)) (.map (iJ (X.A (.pl J j)) 0 (.ref (H.length+2) 0) es))=E;have hl:E.length=H.length+3:=by rw[<-F];simp
 have S: ∀k,k<H.length->k≠X.A (.am J)->E[k]?=H[k]?:= λk g y=>by
  rw[<-F,aqn (aq7 y),aqf (by simp;omega),aqf (by simp;omega),aqf g]
 have k1:E[H.length]?=some (.map []):=by
  rw[<-F,aqn (by omega),aqf (by simp),aqf (by simp)];simp
 have k2:E[H.length+1]?=some (.map []):=by
  rw[<-F,aqn (by omega),aqf (by simp),aqm (by simp)];simp
 have k3:E[H.length+2]?=some (.box [.ref (X.A (.fr J)) 0,.d (.sl []),.d (.sl []),.mp H.length,.mp (H.length+1)]):=by
  rw[<-F,aqn (by omega),aqm (by simp)];simp
 have k4:E[X.A (.am J)]?=some (.map (iJ (X.A (.pl J j)) 0 (.ref (H.length+2) 0) es)):=by rw[<-F];exact aqZ (by simp;omega)
 have T:(X.bA b H).A (.fr b)=H.length+2:=by simp[aq.bA]
 have U:(X.bA b H).A (.am b)=H.length:=by simp[aq.bA]
 have V:(X.bA b H).A (.tk b)=H.length+1:=by simp[aq.bA]
 have i: ∀r,r≠ .fr b->r≠ .am b->r≠ .tk b->(X.bA b H).A r=X.A r:= λr g y K=>by simp[aq.bA,g,y,K]
 have R: ∀k,k<H.length->(X.bA b H).own k=X.own k:= λk L=>by
  simp only[aq.bA];rw[aqo (by omega),aqo (by omega),aqo (by omega)]
 have ac: ∀k,H.length<=k->X.own k=none:= λk L=>JC h L
 have x:(X.bA b H).fs b=1:=aqy W;have m: ∀a,a≠b->(X.bA b H).fs a=X.fs a:= λa Px=>aqo Px
 have z: ∀a,1<=X.fs a->a≠b:=by rintro a g rfl;omega
 have d7: ∀r,X.live c r->(X.bA b H).live c r/\(X.bA b H).A r=X.A r:=by
  intro r f;cases r with
  |fr a=>have e:=z a f;exact⟨by show 1<=(X.bA b H).fs a;rw[m a e];exact f,i _ (by simp[e]) (by simp) (by simp)⟩
  |am a=>have e:=z a f;exact⟨by show 1<=(X.bA b H).fs a;rw[m a e];exact f,i _ (by simp) (by simp[e]) (by simp)⟩
  |tk a=>have e:=z a f;exact⟨by show 1<=(X.bA b H).fs a;rw[m a e];exact f,i _ (by simp) (by simp) (by simp[e])⟩
  |cr a=>have e:=z a (by rw[f.1];decide);exact⟨⟨by rw[m a e];exact f.1,f.2⟩,i _ (by simp) (by simp) (by simp)⟩
  |er a=>have e:=z a (by rw[f.1];decide);exact⟨⟨by rw[m a e];exact f.1,f.2⟩,i _ (by simp) (by simp) (by simp)⟩
  |ce a w=>have e:=z a (by rw[f.1];decide);exact⟨⟨by rw[m a e];exact f.1,f.2⟩,i _ (by simp) (by simp) (by simp)⟩
  |pl a w=>have e:=z a (by rw[f.1];decide);exact⟨⟨by rw[m a e];exact f.1,f.2⟩,i _ (by simp) (by simp) (by simp)⟩
  |_=>exact⟨f,i _ (by simp) (by simp) (by simp)⟩
 have f8: ∀r,(X.bA b H).live c r-> ¬(r= .fr b\/r= .am b\/r= .tk b)->X.live c r:=by
  intro r f s;cases r with
  |fr a=>
       have e:a≠b:=by rintro rfl;exact s (.inl W)
       have g:1<=(X.bA b H).fs a:=f;rw[m a e]at g;exact g
  |am a=>
       have e:a≠b:=by rintro rfl;exact s (.inr (.inl W))
       have g:1<=(X.bA b H).fs a:=f;rw[m a e]at g;exact g
  |tk a=>
       have e:a≠b:=by rintro rfl;exact s (.inr (.inr W))
       have g:1<=(X.bA b H).fs a:=f;rw[m a e]at g;exact g
  |cr a=>
       have e:a≠b:=by rintro rfl;have:=f.1;rw[x]at this;cases this
       exact⟨by rw[<-m a e];exact f.1,f.2⟩
  |er a=>
       have e:a≠b:=by rintro rfl;have:=f.1;rw[x]at this;cases this
       exact⟨by rw[<-m a e];exact f.1,f.2⟩
  |ce a w=>
        have e:a≠b:=by rintro rfl;have:=f.1;rw[x]at this;cases this
        exact⟨by rw[<-m a e];exact f.1,f.2⟩
  |pl a w=>
        have e:a≠b:=by rintro rfl;have:=f.1;rw[x]at this;cases this
        exact⟨by rw[<-m a e];exact f.1,f.2⟩
  |_=>exact f
 have d6: ∀a l,l::a≠b->a≠b->(X.bA b H).nz a l=X.nz a l:= λa l G A=>by
  unfold aq.nz;rw[m _ G,i (.fr (l::a)) (by simp[G]) (by simp) (by simp),i (.fr a) (by simp[A]) (by simp) (by simp)];rfl
 refine h.zh (λr=>(r= .fr b\/r= .am b\/r= .tk b)\/r= .am J) (by omega) (λk L o=>⟨by rw[R k L];exact o,S k L (by rintro rfl;rw[Q]at o;cases o)⟩) (λk w o=>S k (h.lt k _ o) (by rintro rfl;rw[Q]at o;cases o)) (λk w=> ?_) W W (λk r o=> ?_) d7 (λr f s=> ?_) (λr f s=> ?_) (λd8 Y=> .inl Y) (λd8 Y=> .inl Y)
 ·rcases aqh k H.length with g|g
  ·rw[R k g]
  ·rw[ac k g];simp only[aq.bA];constructor
   ·intro e;split at e
    ·cases e
    ·split at e
     ·cases e
     ·split at e
      ·cases e
      ·rw[ac k g]at e;cases e
   ·intro e;cases e
 ·rcases aqh k H.length with g|g
  ·omega
  ·simp only[aq.bA]at o;split at o
   ·omega
   ·split at o
    ·omega
    ·split at o
     ·omega
     ·rw[ac k g]at o;cases o
 ·have N:=f8 r f (λe=>s (.inl e));have o:=h.own r N;refine⟨N,by rw[R _ (h.lt _ _ o)];exact o,S _ (h.lt _ _ o) (h.ne N (by show 1<=X.fs J;omega) (λe=>s (.inr e))),λob p=> ?_⟩;cases r with
  |fr a=>
   have e:a≠b:=by rintro rfl;exact s (.inl (.inl W))
   have Su:(X.bA b H).up a=X.up a:=by
    cases a with
    |nil=>rfl
    |cons l a=>
     have A:a≠b:=by rintro rfl;have g:1<=X.fs (l::a):=N;rw[f4 l]at g;omega
     simp only[aq.up];rw[i _ (by simp[A]) (by simp) (by simp)]
   simp only[aq.dK]at p⊢;rw[Su,m a e,i _ (by simp) (by simp) (by simp),i _ (by simp) (by simp) (by simp),i _ (by simp) (by simp[e]) (by simp),i _ (by simp) (by simp) (by simp[e])];exact p
  |am a=>
   have e:a≠b:=by rintro rfl;exact s (.inl (.inr (.inl W)))
   obtain⟨co,G,A,Z,e4⟩:=p;refine⟨co,G,A,λB l t=> ?_,λB=>e4 (by rw[<-m a e];exact B)⟩;rw[m a e]at B;have e5:l::a≠b:=by
    intro I;rw[u]at I;injection I with _ I
    subst I;exact s (.inr W)
   rw[i _ (by simp) (by simp) (by simp),d6 a l e5 e];exact Z B l t
  |tk a=>
   have e:a≠b:=by rintro rfl;exact s (.inl (.inr (.inr W)))
   obtain⟨co,G,A,Z⟩:=p;refine⟨co,G,A,λB l t=> ?_⟩;rw[m a e]at B;have e5:l::a≠b:=by
    intro I;rw[I,x]at t;cases t
   rw[m _ e5]at t;rw[i _ (by simp) (by simp) (by simp)];exact Z B l t
  |cr a=>
   simp only[aq.dK]at p⊢;rw[p,show(X.bA b H).vc=X.vc from rfl]
   congr 1
   try exact aq3 λw _=>by rw[i _ (by simp) (by simp) (by simp)]
  |er a=>
   simp only[aq.dK]at p⊢;rw[p,show(X.bA b H).ve=X.ve from rfl]
   congr 1
   try exact aq3 λw _=>by rw[i _ (by simp) (by simp) (by simp)]
  |ce a w=>
   have e:=z a (by rw[N.1];decide);obtain⟨v,lp,eq,d9,g,y,K,h4,h5⟩:=p;exact⟨v,lp,eq,d9,g,y,by rw[i (.fr a) (by simp[e]) (by simp) (by simp)];exact K,h4,λl t=>by rw[i _ (by simp) (by simp) (by simp)];exact h5 l t⟩
  |pl a w=>exact p
  |it=>simp only[aq.dK]at p⊢;rw[i _ (by simp) (by simp) (by simp),i (.fr []) (by simp[u]) (by simp) (by simp),i _ (by simp) (by simp) (by simp),i _ (by simp) (by simp) (by simp)];exact p
  |un=>simp only[aq.dK]at p⊢;rw[i _ (by simp) (by simp) (by simp),i _ (by simp) (by simp) (by simp),i _ (by simp) (by simp) (by simp)];exact p
  |_=>exact p
 ·rcases s with(rfl|rfl|rfl)|rfl
  ·refine⟨by rw[T];simp[aq.bA],_,by rw[T];exact k3,?_⟩;simp only[aq.dK];rw[x,U,V,aqo (by decide),aqo (by decide)];have:(X.bA b H).up b= .ref (X.A (.fr J)) 0:=by
    rw[u];show M.ref ((X.bA (j::J) H).A (.fr J)) 0=_;rw[<-u,i _ (by simp[O]) (by simp) (by simp)]
   rw[this]
  ·exact⟨by rw[U];simp[aq.bA],_,by rw[U];exact k1,[],rfl,rfl,λ(e:(X.bA b H).fs b=2)=>by(rw[x]at e;cases e),λ_=>rfl⟩
  ·exact⟨by rw[V];simp[aq.bA],_,by rw[V];exact k2,[],rfl,rfl,λ(e:(X.bA b H).fs b=2)=>by(rw[x]at e;cases e)⟩
  ·have e0:(X.bA b H).A (.am J)=X.A (.am J):=i _ (by simp) (by simp[O]) (by simp);obtain⟨ob,g,QI,rfl,y,K,h4⟩:=h.ob (.am J) (by show 1<=X.fs J;omega);rw[WZ]at g;injection g with g
   injection g with g
   subst g;refine⟨by rw[e0,R _ f7];exact Q,_,by rw[e0];exact k4,_,rfl,nS _ _ _ y,λ_ l t=> ?_,λe=>by rw[m J O]at e;omega⟩;rw[i (.pl J l) (by simp) (by simp) (by simp),oL _ _ _ _ _ y];by_cases e:l=j
   ·subst e;rw[aqy ⟨rfl,rfl⟩];unfold aq.nz;rw[<-u,x,aqy (by decide),T]
   ·rw[aqo (λhh=>h.ne (r:= .pl J l) (r':= .pl J j) ⟨hf,t⟩ ⟨hf,hj⟩ (by intro C;injection C with _ C;exact e C) hh.1),d6 J l (by rw[u];intro C;injection C with C _;exact e C) O];exact K hf l t
theorem Pu.LU(h:Pu P c d u X)(i: ∀m,Y.fs m=2↔X.fs m=2)(L: ∀e a,Y.fs (e::a)≠0->Y.fs a=2/\c.ok (e::a))(M: ∀a,Y.fs a<=2)(ec:Y.cs=X.cs)(r:Y.dn=X.dn)(N:Y.lv=X.lv)(s:Y.x=X.x)(t:Y.N=X.N)(A:Y.F=X.F)(B:Y.fi=X.fi)(O:Y.ph=X.ph):Pu P c d u Y:=by
 have w: ∀b v,Y.SS c b v↔X.SS c b v:= λb v=>by unfold aq.SS aq.S;rw[t,A,B,O]
 have C: ∀b,Y.ER c b↔X.ER c b:= λb=>by unfold aq.ER;simp only[i]
 have I: ∀b a e,Y.DC c b a e↔X.DC c b a e:= λb a e=>by unfold aq.DC;rw[i,r]
 have Z: ∀x,NI.ok c d X x->NI.ok c d Y x:= λx h=>by cases x<;>simp only[NI.ok,i,ec]at h⊢ <;>exact h
 refine⟨(i _).2 h.f0,L,M,by rw[ec];exact h.c6,by rw[ec];exact h.ci,by rw[ec];exact h.cv,by rw[ec];exact h.ca,?_,?_,?_,?_,?_,?_,?_,?_,?_,?_,?_,?_,by rw[B,A];exact h.fl,by rw[B,t];exact h.fn,by rw[ec,r];exact h.g0,λa e j=>(i _).2 (h.dz a e (by grind)),λa b l=> ?_⟩
 ·intro b k;rw[C,s];exact h.xm b k
 ·intro b k;rw[C,s];exact h.xp b k
 ·intro b k a e j;rw[s];exact h.xd b k a e ((I _ _ _).1 j)
 ·intro b k j;rw[C,s];exact h.xs b k λa e Q=>j a e ((I _ _ _).2 Q)
 ·intro a b n v f l D y E;rw[i]at f;rw[ec]at l;exact(w _ _).2 (h.s1 a b n v f l D y E)
 ·intro m R v S T z f l D E U F G;rw[i]at f;rw[ec]at l;obtain⟨g,H,h3⟩:=h.s2 m R v S T z f l D E U F G;exact⟨(i _).2 g,λk o p=>(w _ _).2 (H k o p),λk=>by grind⟩
 ·intro a e f j;rw[i]at f;rw[r]at j;obtain⟨g,H⟩:=h.s3 a e f j;exact⟨g,λo p=>(w _ _).2 (H o p)⟩
 ·intro a e f o p;rw[i]at f;exact(w _ _).2 (h.s4 a e f o p)
 ·intro a e y;rw[N]at y;rw[t];exact h.s5 a e y
 ·intro a e z f j J G K V m F;rw[i]at f;rw[r]at j;rw[ec]at J⊢;exact h.dl a e z f j J G K V m F
 ·intro n q;rw[t]at q;exact Z _ (h.nk n q)
 ·intro n q;rw[A]at q;have g:=h.fk n q;exact⟨g.ev,(i _).2 g.fs,g.lt,g.wr,g.sm,g.own,g.sz⟩
 ·rw[ec]at l;rcases h.cz a b l with g|g
  ·grind
  ·exact .inr g
theorem Pu.bA(h:Pu P c d u X){J:Path}{j:Nat}(hf:X.fs J=2)(m:X.fs (j::J)=0)(n:c.ok (j::J)):Pu P c d u (X.bA (j::J) H):=by
 have o:(X.bA (j::J) H).fs (j::J)=1:=aqy W;have b: ∀a,a≠j::J->(X.bA (j::J) H).fs a=X.fs a:= λa i=>aqo i
 refine h.LU (λa=> ?_) (λf a g=> ?_) (λa=> ?_) W W W W W W W W
 ·grind
 ·by_cases e:f::a=j::J
  ·grind
  ·rw[b _ e]at g;obtain⟨k,l⟩:=h.fp f a g;refine⟨?_,l⟩;rw[b a (by grind)];exact k
 ·by_cases e:a=j::J
  ·grind
  ·rw[b a e];exact h.f2 a
theorem cx.KW(h:cx P n c d X H){J:Path}{j:Nat}(hf:X.fs J=2)(s:X.fs (j::J)≠2)(g:j<(c.fr J).au.length)(q: ∀a,X.fs (a::J)=2->a<(c.fr J).au.length){es:List (D×M)}(i:H[X.A (.tk J)]?=some (.map es))(m:M):
  gm es=true/\cx P n c d X (H.set (X.A (.tk J)) (.map (iJ (X.A (.pl J j)) 0 m es))):=by
 obtain⟨k,b,t,rfl,e,l⟩:=h.ob (.tk J) (by show 1<=X.fs J;omega);rw[i]at b;injection b with b
 injection b with b
 subst b;refine⟨e,h.yb (.tk J) (by show 1<=X.fs J;omega) _ W W W W W W (λ_=>ari) ⟨_,rfl,nS _ _ _ e,λ_ a f=> ?_⟩ (λr k _ _ o=>o)⟩;rw[oL _ _ _ _ _ e,aqo (λp=>h.ne (r:= .pl J a) (r':= .pl J j) ⟨hf,q a f⟩ ⟨hf,g⟩ (by grind) p.1)];exact l hf a f
end
section
variable{P:Pg}{n:Nat}{c:aH}{d:Nd}{u:US}{X Y Z W:aq}{H K L:Hp}
def Fk(P:Pg)(d:Nd)(X:aq):Mc:=⟨X.A .it,X.A .un,X.A .me,X.A .pe,X.A .su,P,d,X.ad,.ref (X.A (.fr [])) 0,.d (.bool false),bG (X.A .af) X.vF X.F.length,bG (X.A .nx) X.vN X.N.length⟩
theorem cx.mm(h:cx P n c d X H)(j:bW d<=1000000000):MM (Fk P d X) X.x H:=by
 have a: ∀f g:Ro,X.live c f->X.live c g->f≠g->X.A f≠X.A g:= λf g i b e=>h.ne i b e
 exact⟨h.inst,h.unit,h.mem,h.cu,h.aj,a .me .pe trivial trivial (by simp),a .me .su trivial trivial (by simp),a .pe .su trivial trivial (by simp),
  ⟨a .it .me trivial trivial (by simp),a .it .pe trivial trivial (by simp),a .it .su trivial trivial (by simp)⟩,⟨a .un .me trivial trivial (by simp),a .un .pe trivial trivial (by simp),a .un .su trivial trivial (by simp)⟩,j⟩
theorem cx.reset(h:cx P n c d X H){g:Kp}(k:MS (Fk P d X) H g K)(y: ∀j,j<bW d-> ∀l,g.s j=some l->X.x.s j=some l):cx P n c d {X with x:=g} K/\ ∀a,a<H.length->X.own a≠some .me->X.own a≠some .pe->X.own a≠some .su->K[a]?=H[a]?:=by
 have m: ∀a,a<H.length->X.own a≠some .me->X.own a≠some .pe->X.own a≠some .su->K[a]?=H[a]?:= λa f p q z=>
  k.gU a f (by rintro rfl;exact p (h.own .me trivial)) (by rintro rfl;exact q (h.own .pe trivial)) (by rintro rfl;exact z (h.own .su trivial))
 have s: ∀a,a<H.length->X.own a=none->({X with x:=g} :aq).own a=none/\K[a]?=H[a]?:= λa f e=>⟨e,m a f (by rw[e];simp) (by rw[e];simp) (by rw[e];simp)⟩
 have t: ∀b,X.live c b->({X with x:=g} :aq).live c b/\({X with x:=g} :aq).A b=X.A b:= λb i=>⟨by cases b<;>exact i,rfl⟩
 have u: ∀b,({X with x:=g} :aq).live c b->X.live c b:= λb i=>by cases b<;>exact i
 refine⟨⟨λb i=>h.own b (u b i),λa b e=>ard (h.lt a b e) k.len,λb i=> ?_,λj v l A=>(h.sub j v l (y j v l A)).frame (λa f=>m a (h.lt a _ f) (by rw[f];simp) (by rw[f];simp) (by rw[f];simp)) k.len,λo r=>(h.nx o r).up s t,λo r=>(h.af o r).up s t⟩,m⟩;have w:=u b i;have e:=h.own b w;obtain⟨B,p,q⟩:=h.ob b w;cases b with
 |me=>exact⟨_,k.mm.mem,rfl⟩
 |pe=>exact⟨_,k.mm.cu,rfl⟩
 |su=>exact⟨_,k.mm.aj,rfl⟩
 |_=>exact⟨B,(m _ (h.lt _ _ e) (by rw[e];simp) (by rw[e];simp) (by rw[e];simp)).trans p,q⟩
def aq.full(Z:aq)(ρ:Path):aq:= {Z with fs:= λσ=>if σ=ρ then 2 else Z.fs σ}
theorem cx.filled{st z:Nat->Int}(h:cx P n c d Y K){ρ:Path}(OT:Y.fs ρ=1)(TX: ∀j,Y.fs (j::ρ)=0)(RR: ∀j,Y.dn ρ j=false)(Nu: ∀D,D<(c.fr ρ).vars.length->st D=mW (Y.cs ρ D)/\z D=if zB (Y.cs ρ D)then c.get (ρ,D)else 0)
  (Nv: ∀U N,ρ=U::N-> ∃y,K[Y.A (.tk N)]?=some (.map y)/\gv (Y.A (.pl N U)) 0 y=some (dN (c.bN N U)))
  (q:Fl (c.fr ρ) st z (Y.up ρ) Z ρ (c.fr ρ).vars.length (c.fr ρ).au.length (λ_ _=>True) L) (p:lQ ρ Y K Z L):
  cx P n c d (Z.full ρ) L/\(∀r,Y.live c r->(Z.full ρ).live c r/\(Z.full ρ).A r=Y.A r)/\ ∀a,a<K.length->Y.own a=none->(Z.full ρ).own a=none/\L[a]?=K[a]?:=by
 have l: ∀r,¬r.qj ρ->(Z.full ρ).A r=Y.A r:=p.A;obtain⟨A0,o0,v0,e0,t⟩:=id p.eq;have E: ∀b,(Z.full ρ).fs b=if b=ρ then 2 else Y.fs b:= λb=>by unfold aq.full;rw[t]
 have Tk:(Z.full ρ).fs ρ=2:=by rw[E,aqy W]
 have o: ∀b,b≠ρ->(Z.full ρ).fs b=Y.fs b:= λb e=>by rw[E,aqo e]
 have G:(Z.full ρ).cs=Y.cs:=by unfold aq.full;rw[t]
 have Zo:(Z.full ρ).dn=Y.dn:=by unfold aq.full;rw[t]
 have H:(Z.full ρ).N=Y.N:=by unfold aq.full;rw[t]
 have I:(Z.full ρ).F=Y.F:=by unfold aq.full;rw[t]
 have O:(Z.full ρ).x=Y.x:=by unfold aq.full;rw[t]
 have co:(Z.full ρ).ad=Y.ad:=by unfold aq.full;rw[t]
 have d6:(Z.full ρ).vF=Y.vF:=by unfold aq.full;rw[t]
 have d7:(Z.full ρ).vN=Y.vN:=by unfold aq.full;rw[t]
 have Q: ∀b,b≠ρ->(Z.full ρ).vc b=Y.vc b/\(Z.full ρ).ve b=Y.ve b:=p.v;have RN: ∀j:Nat,j::ρ≠ρ:= λj e=>by have:=arI List.length e;simp at this
 have d8: ∀r,(Z.full ρ).live c r-> ¬r.qj ρ->Y.live c r:=by
  intro r f g;cases r with
  |nx=>show Y.N≠ [];rw[<-H];exact f
  |af=>show Y.F≠ [];rw[<-I];exact f
  |fr b=>
       show 1<=Y.fs b;have m:1<=(Z.full ρ).fs b:=f;rw[E]at m;split at m
       ·rename_i e;subst e;omega
       ·exact m
  |am b=>
       show 1<=Y.fs b;have m:1<=(Z.full ρ).fs b:=f;rw[E]at m;split at m
       ·rename_i e;subst e;omega
       ·exact m
  |tk b=>
       show 1<=Y.fs b;have m:1<=(Z.full ρ).fs b:=f;rw[E]at m;split at m
       ·rename_i e;subst e;omega
       ·exact m
  |cr b=>exact⟨by rw[<-o b g];exact f.1,f.2⟩
  |er b=>exact⟨by rw[<-o b g];exact f.1,f.2⟩
  |ce b k=>exact⟨by rw[<-o b g];exact f.1,f.2⟩
  |pl b k=>exact⟨by rw[<-o b g];exact f.1,f.2⟩
  |_=>exact f
 have d9: ∀r,Y.live c r-> ¬r.qj ρ:=by
  intro r f g;cases r with
  |cr b=>
       have e:=g;subst e;have:=f.1;omega
  |er b=>
       have e:=g;subst e;have:=f.1;omega
  |ce b k=>
        have e:=g;subst e;have:=f.1;omega
  |pl b k=>
        have e:=g;subst e;have:=f.1;omega
  |_=>exact g
 have R: ∀b,Y.fs b=2->(Z.full ρ).fs b=2:= λb i=>by rw[o b (by rintro rfl;omega)];exact i
 have ac: ∀b,1<=Y.fs b->1<=(Z.full ρ).fs b:= λb i=>by rw[E];split<;>omega
 have A: ∀r,Y.live c r->(Z.full ρ).live c r/\(Z.full ρ).A r=Y.A r:=by
  intro r f;refine⟨?_,l r (d9 r f)⟩;cases r with
  |nx=>show(Z.full ρ).N≠ [];rw[H];exact f
  |af=>show(Z.full ρ).F≠ [];rw[I];exact f
  |fr b=>exact ac b f
  |am b=>exact ac b f
  |tk b=>exact ac b f
  |cr b=>exact⟨R b f.1,f.2⟩
  |er b=>exact⟨R b f.1,f.2⟩
  |ce b k=>exact⟨R b f.1,f.2⟩
  |pl b k=>exact⟨R b f.1,f.2⟩
  |_=>exact f
 have V: ∀a,a<K.length->Y.own a=none->(Z.full ρ).own a=none/\L[a]?=K[a]?:= λa J x=>
  ⟨(p.own a J).trans x,p.gU a J (λr f=>by rw[x]at f;cases f)⟩
 have cB: ∀r,Y.live c r->r≠ .fr ρ->L[Y.A r]?=K[Y.A r]?:= λr f hn=>p.gU _ (h.lt _ _ (h.own r f)) (λr' m=>by
  rw[h.own r f]at m;injection m with m;subst m;exact⟨d9 r f,hn⟩)
 have up: ∀b,(Z.full ρ).up b=Y.up b:= λb=>by
  cases b with
  |nil=>rfl
  |cons j b=>simp only[aq.up];rw[l _ (id: ¬(Ro.fr b).qj ρ)]
 have S: ∀{α:Type} {X:List α},X≠ []->0<X.length:= λ{α} {X} MW=>asA.2 MW
 refine⟨⟨λr f=> ?_,q.lt,λr f=> ?_,λk hk u' hu=> ?_,λF M=> ?_,λF M=> ?_⟩,A,V⟩
 ·by_cases g:r.qj ρ
  ·cases r with
   |cr b=>
        have e:=g;subst e;exact q.mr (S f.2)
   |er b=>
        have e:=g;subst e;exact q.mZ (S f.2)
   |ce b k=>
         have e:=g;subst e;exact q.nA k f.2
   |pl b k=>
         have e:=g;subst e;exact q.nB k f.2
   |_=>exact g.elim
  ·rw[l r g];exact(λr f=>(p.own _ (h.lt _ _ (h.own r f))).trans (h.own r f)) r (d8 r f g)
 ·by_cases g:r.qj ρ
  ·cases r with
   |cr b=>
        have e:=g;subst e;exact⟨_,q.cr (S f.2),rfl⟩
   |er b=>
        have e:=g;subst e;exact⟨_,q.er (S f.2),rfl⟩
   |ce b k=>
         have e:=g;subst e;obtain⟨v,lp,eq,m,i,u,h4⟩:=q.ce k f.2;obtain⟨w,s⟩:=Nu k f.2;exact⟨_,u,v,lp,eq,z k,m,i,by rw[w,G];rfl,by rw[s,G],λj g=>h4 j g trivial⟩
   |pl b k=>
         have e:=g;subst e;obtain⟨f4,F,m,i,u⟩:=q.pl k f.2;exact⟨_,u,f4,F,m,i,rfl⟩
   |_=>exact g.elim
  ·have OY:=d8 r f g;by_cases OE:r= .fr ρ
   ·subst OE;refine⟨_,q.fr,?_⟩;simp only[aq.dK];rw[Tk,aqy W,aqy W,up];rfl
   obtain⟨ob,m,i⟩:=h.ob r OY;refine⟨ob,by rw[l r g,cB r OY OE];exact m,?_⟩;cases r with
   |it=>
    simp only[aq.dK]at i⊢;rw[l .un id,l (.fr []) id,l .af id,l .nx id,d6,d7,H,I];exact i
   |un=>simp only[aq.dK]at i⊢;rw[l .me id,l .pe id,l .su id];exact i
   |me=>simp only[aq.dK]at i⊢;rw[O];exact i
   |pe=>simp only[aq.dK]at i⊢;rw[O];exact i
   |su=>simp only[aq.dK]at i⊢;rw[O,co];exact i
   |nx=>simp only[aq.dK]at i⊢;rw[d7,H];exact i
   |af=>simp only[aq.dK]at i⊢;rw[d6,I];exact i
   |fr b=>
    have e:b≠ρ:=by rintro rfl;exact OE W
    simp only[aq.dK]at i⊢;rw[up,o b e,l (.cr b) e,l (.er b) e,l (.am b) id,l (.tk b) id,(Q b e).1,(Q b e).2];exact i
   |am b=>
    obtain⟨y,B,T,e3,e4⟩:=i;by_cases e:b=ρ
    ·subst e;refine⟨y,B,T,λ_ j g=> ?_,λhh=>by rw[Tk]at hh;cases hh⟩;rw[e4 OT];unfold aq.nz;rw[o _ (RN j),TX j,Zo,RR j];simp[gv]
    ·refine⟨y,B,T,λC j g=> ?_,λC=>e4 (by rw[<-o b e];exact C)⟩;rw[o b e]at C;rw[l (.pl b j) e,e3 C j g];unfold aq.nz;rw[l (.fr (j::b)) id,l (.fr b) id,Zo,G];by_cases w:j::b=ρ
     ·rw[w,Tk,OT];rfl
     ·rw[o _ w]
   |tk b=>
    obtain⟨y,B,T,e3⟩:=i;refine⟨y,B,T,λC j g=> ?_⟩;by_cases e:b=ρ
    ·subst e;rw[o _ (RN j),TX j]at g;cases g
    ·rw[o b e]at C;rw[l (.pl b j) e];by_cases w:j::b=ρ
     ·obtain⟨QI,s,h7⟩:=Nv j b w.symm;rw[m,B]at s;injection s with s
      injection s with s
      subst s;exact h7
     ·rw[o _ w]at g;exact e3 C j g
   |cr b=>
    have e:=g;simp only[aq.dK]at i⊢;rw[i,(Q b e).1]
    congr 1
    exact aq3 λk _=>by rw[l (.ce b k) e]
   |er b=>
    have e:=g;simp only[aq.dK]at i⊢;rw[i,(Q b e).2]
    congr 1
    exact aq3 λk _=>by rw[l (.pl b k) e]
   |ce b k=>
    have e:=g;obtain⟨v,lp,eq,f7,u,h4,w,s,h7⟩:=i;exact⟨v,lp,eq,f7,u,h4,by rw[l (.fr b) id,G];exact w,by rw[G];exact s,λj g=>by rw[l (.pl b j) e];exact h7 j g⟩
   |pl b k=>exact i
   |sb k=>exact i
 ·rw[O]at hu;rw[co];have B: ∀a,(Z.full ρ).own a=some (.sb k)↔Y.own a=some (.sb k):= λa=>by
   constructor
   ·intro x;rcases p.new a _ x with u|u
    ·rw[<-p.own a u];exact x
    ·exact u.elim
   ·intro x;exact(p.own a (h.lt a _ x)).trans x
  exact((h.sub k hk u' hu).frame (λa J=>p.gU a (h.lt a _ J) (λr f=>by rw[J]at f;injection f with f;subst f;exact⟨id,by simp⟩)) p.len).congr λa=>(B a).symm
 ·rw[H]at M;exact(h.nx F M).up V A
 ·rw[I]at M;exact(h.af F M).up V A
end
section
variable{P:Pg}{n:Nat}{c:aH}{d:Nd}{u:US}{X Y Z W:aq}{H K L:Hp}
def kF(c:aH)(J:Path)(j:Nat)(q:ay)(p:Nat)(a:aY)(k:Nat):Prop:=c.mU J j=true/\dx q p (c.bN J j)<=k/\k<dx q p (c.bN J j)+bP a.cp
theorem Pu.yi(co:mX P n c d u)(h:Pu P c d u Y){J:Path}{j:Nat}{q:ay}{p:Nat}{a:aY}(OT:Y.fs (j::J)=1)(O:(c.fr J).au[j]?=some q)(F:q.kd=3\/q.kd=4\/q.kd=5)(B:(c.fr J).pos[j]?=some p)(Z:q.ah[c.bN J j]?=some a)(K: ∀A∈c.ew J j,Y.SS c A.1 A.2)
  (hm: ∀b,b<bW d->(kF c J j q p a b->W.x.m b=cd (iM P.aI d) b)/\(¬kF c J j q p a b->W.x.m b=Y.x.m b))
  (ac: ∀b,b<bW d->(kF c J j q p a b->(iM P.aI d)[b]?=some none->W.x.p b=false)/\(¬(kF c J j q p a b/\(iM P.aI d)[b]?=some none)->W.x.p b=Y.x.p b))
  (Q: ∀b,b<bW d->(kF c J j q p a b->(iM P.aI d)[b]?=some none->W.x.s b=none)/\(¬(kF c J j q p a b/\(iM P.aI d)[b]?=some none)->W.x.s b=Y.x.s b))
  (RS: ∀g,W.fs g=if g=j::J then 2 else Y.fs g) (ec:W.cs=Y.cs) (G:W.dn=Y.dn) (el:W.lv=Y.lv) (R:W.N=Y.N) (eF:W.F=Y.F) (ei:W.fi=Y.fi) (We:W.ph=Y.ph):Pu P c d u W:=by
 have Ow: ∀g,g≠j::J->W.fs g=Y.fs g:= λg e=>by rw[RS,aqo e]
 have w: ∀g,Y.fs g=2->W.fs g=2:= λg m=>by rw[Ow g (by rintro rfl;omega)];exact m
 have S: ∀g,W.fs g=2->g≠j::J->Y.fs g=2:= λg m e=>by rw[Ow g e]at m;exact m
 have RN:=h.fp j J (by rw[OT];decide);have L: ∀b v,W.SS c b v↔Y.SS c b v:= λb v=>by unfold aq.SS aq.S;rw[R,eF,ei,We]
 have d7: ∀b,Y.cs (j::J) b=0:= λb=>by
  rcases aqJ (Y.cs (j::J) b)with e|e
  ·exact e
  ·rcases h.cz (j::J) b (by omega)with o|⟨_,i,g,x,o,s,e3⟩
   ·omega
   ·injection o with e4 e5
    subst e4;subst e5;rw[O]at s;injection s with s;subst s;omega
 have C: ∀b,W.ER c b↔Y.ER c b\/kF c J j q p a b:= λb=>by
  constructor
  ·rintro⟨f,i,x,M,a',k,m,t,h4,H,N,T,U⟩;by_cases e:i::f=j::J
   ·injection e with o s
    subst o;subst s;rw[O]at m;injection m with m;subst m
    rw[B]at t;injection t with t;subst t
    rw[Z]at N;injection N with N;subst N
    exact .inr ⟨H,T,U⟩
   ·exact .inl ⟨f,i,x,M,a',S _ k e,m,t,h4,H,N,T,U⟩
  ·rintro(⟨f,i,x,M,a',k,m⟩|⟨H,T,U⟩)
   ·exact⟨f,i,x,M,a',w _ k,m⟩
   ·exact⟨J,j,q,p,a,(by rw[RS,aqy rfl]),O,B,F,H,Z,T,U⟩
 have W1: ∀b f i,W.DC c b f i↔Y.DC c b f i:= λb f i=>by
  unfold aq.DC;rw[G];constructor
  ·rintro⟨k,m,t⟩;exact⟨h.dz _ _ m,m,t⟩
  ·rintro⟨k,m,t⟩;exact⟨w _ k,m,t⟩
 have f4: ∀b f i,Y.DC c b f i-> ¬kF c J j q p a b:=by
  rintro b f i ⟨k,m,x,t,h4,H⟩ ⟨r1,r2,r3⟩;have hO:=co.oq f i x b (Pu.ok co h k) t H b (aqd _) (by
                                     have:ij x.kd=1:=by rw[h4];rfl
                                     omega)
  obtain⟨τ,e⟩:=hO j J q p a RN.2 O B F Z r2 r3;have:=uO h (τ:=τ) (ρ:=j::J) (by rw[<-e];exact k);omega
 have f7: ∀V,NI.ok c d Y V->NI.ok c d W V:= λV k=>by
  cases V with
  |cell f8 g=>obtain⟨a1,a2,a3,a4⟩:=k;exact⟨w _ a1,a2,by rw[ec];exact a3,a4⟩
  |aL f i=>obtain⟨a1,a2⟩:=k;exact⟨w _ a1,a2⟩
  |_=>exact k
 refine⟨w _ h.f0,λd6 g I=> ?_,λg=> ?_,by rw[ec];exact h.c6,by rw[ec];exact h.ci,by rw[ec];exact h.cv,by rw[ec];exact h.ca,λb r=>⟨λe=> ?_,λe=> ?_⟩,λb r=>⟨λe s=> ?_,λe=> ?_⟩,?_,?_,?_,?_,?_,?_,?_,?_,?_,?_,by rw[ei,eF];exact h.fl,by rw[ei,R];exact h.fn,by rw[ec,G];exact h.g0,λJ j y=>w _ (h.dz J j (by rw[<-G];exact y)),λJ b z=> ?_⟩
 ·by_cases e:d6::g=j::J
  ·injection e with o s
   subst o;subst s;exact⟨w _ RN.1,RN.2⟩
  ·rw[Ow _ e]at I;obtain⟨k,m⟩:=h.fp d6 g I;exact⟨w _ k,m⟩
 ·rw[RS];split
  ·omega
  ·exact h.f2 g
 ·by_cases l:kF c J j q p a b
  ·exact(hm b r).1 l
  ·rw[(hm b r).2 l];rcases(C b).1 e with o|o
   ·exact(h.xm b r).1 o
   ·exact absurd o l
 ·have o: ¬kF c J j q p a b:= λl=>e ((C b).2 (.inr l))
  rw[(hm b r).2 o];exact(h.xm b r).2 λl=>e ((C b).2 (.inl l))
 ·by_cases l:kF c J j q p a b
  ·exact(ac b r).1 l s
  ·rw[(ac b r).2 λD=>l D.1];rcases(C b).1 e with o|o
   ·exact(h.xp b r).1 o s
   ·exact absurd o l
 ·rw[(ac b r).2 λl=>e ⟨(C b).2 (.inr l.1),l.2⟩];exact(h.xp b r).2 λl=>e ⟨(C b).2 (.inl l.1),l.2⟩
 ·intro b r f i y;have Qj:=(W1 _ _ _).1 y;rw[(Q b r).2 λD=>f4 _ _ _ Qj D.1];exact h.xd b r f i Qj
 ·intro b r M9;have d8: ∀f i,¬Y.DC c b f i:= λf i D=>M9 f i ((W1 _ _ _).2 D)
  refine⟨λe s=> ?_,λe=> ?_⟩
  ·by_cases l:kF c J j q p a b
   ·exact(Q b r).1 l s
   ·rw[(Q b r).2 λD=>l D.1];rcases(C b).1 e with o|o
    ·exact(h.xs b r d8).1 o s
    ·exact absurd o l
  ·rw[(Q b r).2 λl=>e ⟨(C b).2 (.inr l.1),l.2⟩];exact(h.xs b r d8).2 λl=>e ⟨(C b).2 (.inl l.1),l.2⟩
 ·intro f b M v E z I X hv;rw[ec]at z;have MW:f≠j::J:=by rintro rfl;rw[d7]at z;cases z
  exact(L _ _).2 (h.s1 f b M v (S _ E MW) z I X hv)
 ·intro g j0 v f i x E z I hv he hs MO;rw[ec]at z;have MW:g.1≠j::J:=by intro e;rw[e,d7]at z;omega
  obtain⟨k,m,t⟩:=h.s2 g j0 v f i x (S _ E MW) z I hv he hs MO;exact⟨w _ k,λF A K=>(L _ _).2 (m F A K),λF=>by rw[G];exact t F⟩
 ·intro f i E y;rw[G]at y;obtain⟨k,m⟩:=h.s3 f i (h.dz _ _ y) y;exact⟨k,λA K=>(L _ _).2 (m A K)⟩
 ·intro f i E A QN;by_cases e:i::f=j::J
  ·injection e with o s
   subst o;subst s;exact(L _ _).2 (K A QN)
  ·exact(L _ _).2 (h.s4 f i (S _ E e) A QN)
 ·intro f i X;rw[el]at X;rw[R];exact h.s5 f i X
 ·intro f i x E y hg MO d9 hx g hs;rw[G]at y;rw[ec]at hg⊢;exact h.dl f i x (h.dz _ _ y) y hg MO d9 hx g hs
 ·intro p B;rw[R]at B;exact f7 _ (h.nk p B)
 ·intro p B;rw[eF]at B;have k:=h.fk p B;exact⟨k.ev,w _ k.fs,k.lt,k.wr,k.sm,k.own,k.sz⟩
 ·rw[ec]at z;rcases h.cz J b z with k|k
  ·exact .inl (w _ k)
  ·exact .inr k
theorem a_.yi{ρ:Path}{n k:Hp}(U:X.fs ρ=0)(b:a_ c (λ_=>False) (X.bA ρ H) n Y k)(V:H.length<=n.length)(E: ∀d,d<H.length->X.own d=none->(X.bA ρ H).own d=none/\n[d]?=H[d]?)(G: ∀f,X.live c f->(X.bA ρ H).live c f/\(X.bA ρ H).A f=X.A f)
  (Z:k.length<=L.length) (T: ∀d,d<k.length->Y.own d=none->W.own d=none/\L[d]?=k[d]?) (I: ∀f,Y.live c f->W.live c f/\W.A f=Y.A f)
  (J: ∀a,a≠ρ->W.vc a=Y.vc a/\W.ve a=Y.ve a) (RS: ∀a,W.fs a=if a=ρ then 2 else Y.fs a) (ec:W.cs=Y.cs) (x:W.dn=Y.dn) (K:W.lv=Y.lv) (M:W.N=Y.N) (y:W.F=Y.F) (z:W.fi=Y.fi) (N:W.ph=Y.ph):a_ c (λ_=>False) X H W L:=by
 have o: ∀a,a≠ρ->W.fs a=Y.fs a:= λa e=>by grind
 have B: ∀a,a≠ρ->(X.bA ρ H).fs a=X.fs a:= λa O=>aqo O
 refine{c0:= λg h e=>b.c0 g h (by grind),f0:= λa e=> ?_,len:=by have:=b.len;omega,gU:= λd P Q=> ?_,A:= λf R=> ?_,aG:= λa e=> ?_,f2:= λa e=> ?_,f1:= λa=> ?_,c1:= λg h j=>by rw[ec];exact b.c1 g h j,c2:= λg h e=>by rw[ec];exact b.c2 g h e,c3:= λg h e=>by rw[ec];exact b.c3 g h e,c4:= λg h D j p=>by rw[ec];exact b.c4 g h D j p,dn:= λg m e=>by rw[x];exact b.dn g m e,qT:= λg m j e=>by rw[x];exact b.qT g m j e,lv:=by rw[K];exact b.lv,S:= λh v p=> ?_,fi:=by rw[z];exact b.fi,ph:=by rw[N];exact b.ph,F:=by rw[y];exact b.F}
 ·have i:a≠ρ:=by grind
  rw[o a i]at e;have:=b.f0 a e;rw[B a i]at this;exact this
 ·obtain⟨q,r⟩:=E d P Q;obtain⟨s,t⟩:=b.gU d (by omega) q;obtain⟨u,w⟩:=T d (by have:=b.len;omega) s;exact⟨u,(w.trans t).trans r⟩
 ·obtain⟨q,r⟩:=G f R;obtain⟨s,t⟩:=b.A f q;obtain⟨u,w⟩:=I f s;exact⟨u,(w.trans t).trans r⟩
 ·have i:a≠ρ:=by grind
  have l:=b.aG a (by grind);have C:=J a i;exact⟨C.1.trans l.1,C.2.trans l.2⟩
 ·have i:a≠ρ:=by grind
  rw[o a i];exact b.f2 a (by grind)
 ·by_cases i:a=ρ
  ·grind
  ·rw[o a i,<-b.f1 a,B a i]
 ·have l:=b.S h v p;unfold aq.S;rw[M,y,z];exact l
theorem Ig{J:Path}{j:Nat}(f:X.fs (j::J)=0)(g:It.bN J j∈c.an):(X.bA (j::J) H).T c+c.wt (.bN J j)<=X.T c:=by
 refine uN (a:=0) (b:=0) (λe d=> ?_) g (by simp[aq.cu,f]) (by simp[aq.cu,aq.bA]) (aqd _) (aqd _);cases e with
 |bN a b=>
  simp only[aq.cu,aq.bA,ar6]at d⊢;split at d
  ·cases d
  ·exact d
 |_=>exact d
theorem JD{ρ:Path}(h: ∀e,W.fs e=if e=ρ then 2 else Y.fs e)(ec:W.cs=Y.cs)(i:W.dn=Y.dn)(j:W.lv=Y.lv)(m:W.N=Y.N)(n:W.F=Y.F)(o:W.fi=Y.fi):W.T c<=Y.T c:=by
 refine Bs (a:=0) (b:=0) (λf d=> ?_) (by grind) (by grind);cases f with
 |cell g k=>simp only[aq.cu]at d⊢;rw[<-ec];exact d
 |call g l=>simp only[aq.cu]at d⊢;rw[<-ec,<-i];exact d
 |bN a b=>
  simp only[aq.cu,ar6]at d⊢;rw[h]at d;split at d
  ·cases d
  ·exact d
 |lv a b=>simp only[aq.cu]at d⊢;rw[<-j];exact d
theorem GU(en:List En)(d:Nd)(x:Kp)(fr a:Nat)(p:a<=bW d)(k:Nat)(q:k<bW d):
  let b:=(x.fb (iF en d.outs) (bP d.b) fr a).fb (ku en d.b) 0 fr a
  (fr<=k/\k<a->b.m k=cd (iM en d) k/\((iM en d)[k]?=some none->b.p k=false/\b.s k=none))/\(¬(fr<=k/\k<a)->b.m k=x.m k/\b.p k=x.p k/\b.s k=x.s k)/\((iM en d)[k]?≠some none->b.p k=x.p k/\b.s k=x.s k):=by
 have m:=uG en d.b;have r:bW d=bP d.b+aR d.outs:=rfl;have n:iM en d=ku en d.b++iF en d.outs:=rfl;simp only[Kp.fb,Go.Sm.lj,Go.Sm.px,Go.Sm.py];rw[m,oQ en d.outs,n];rcases aqh k (bP d.b)with o|o
 ·have f:(ku en d.b++iF en d.outs)[k]?=(ku en d.b)[k]?:=aqf (by omega);have h:cd (ku en d.b++iF en d.outs) k=cd (ku en d.b) k:=by unfold cd;rw[f]
  rw[f,h];have g: ¬(bP d.b<=k/\k<bP d.b+aR d.outs/\fr<=k/\k<a):=by omega
  have i: ∀c:Prop,¬((bP d.b<=k/\k<bP d.b+aR d.outs/\fr<=k/\k<a)/\c):= λc j=>g j.1
  simp only[aqo g,aqo (i _),Nat.sub_zero,arF,aqY,true_and];refine⟨λl=>⟨by grind,λe=>by grind⟩,λl=> ?_,λe=> ?_⟩
  ·grind
  ·grind
 ·have f:(ku en d.b++iF en d.outs)[k]?=(iF en d.outs)[k-bP d.b]?:=by grind
  have h:cd (ku en d.b++iF en d.outs) k=cd (iF en d.outs) (k-bP d.b):=by unfold cd;rw[f]
  rw[f,h];have g: ¬(0<=k/\k<0+bP d.b/\fr<=k/\k<a):=by omega
  have i: ∀c:Prop,¬((0<=k/\k<0+bP d.b/\fr<=k/\k<a)/\c):= λc j=>g j.1
  simp only[aqo g,aqo (i _)];refine⟨λl=>⟨by grind,λe=>by grind⟩,λl=> ?_,λe=> ?_⟩
  ·grind
  ·grind
end
section
variable{P:Pg}{n:Nat}{c:aH}{d:Nd}{u:US}{X Y Z W:aq}{H K L:Hp}
theorem Ae{ins outs:List Int}{u':US}(R:mX P n c d u)(NG:pb P)(hC:gX P (fT P n) c d u ins outs u'){r:Nat}(hV:et P n c d u r):ye P n c d u r:=by
 intro X H S hT J j q O t hk i YI Sn;have o:=S.lay;have MU:=Pu.ok R S.pu O;obtain⟨g,G,M4⟩:=o.fe O t;have OO:j<(c.fr J).au.length:=by
  rcases aqh j (c.fr J).au.length with o|o
  ·exact o
  ·rw[aqj o]at t;cases t
 have OE:=o.frame O;obtain⟨ob,R6,es,rfl,TS,P7,_⟩:=o.ob (.am J) (by show 1<=X.fs J;omega);have P7:=P7 O j OO;have N7:=R.Bu J j q MU t;have YZ:=R.pq J j q g MU t G;have Fr:=R.H_;have TP:=(hC.eq J j q g MU t G).1;obtain⟨a,s⟩: ∃a,uE c J j q g a:=by
  cases TP with
  |df Nw=>omega
  |call Nw=>omega
  |sw Nw he a s=>exact⟨a,s⟩
  |aL Nw M3 d9 a0 hs h0 Fn T ht a s=>exact⟨a,s⟩
  |reset Nw he a s=>exact⟨a,s⟩
 have QQ:=(hC.wq J j q MU t).2.1 hk;have Xm:=NG.d d (aqk hC.nd);refine DT.ob Tryz.func63 rfl Tryz.ntmps63 rfl ?_;rcases aqh (X.fs (j::J)) 2 with MV|Ol
 rotate_left
 ·have O1:X.fs (j::J)=2:=by have:=S.pu.f2 (j::J);omega
  have Th:X.nz J j=some (.ref (X.A (.fr (j::J))) 0):=by unfold aq.nz;rw[aqy (by omega)]
  rw[Th]at P7;refine dO [2,2,20] rfl<|Mu (aw rfl rfl OE rfl)<|dR [22] rfl<|Mu (oI rfl rfl rfl rfl rfl R6 TS) ?_;rw[P7];refine dR [2,24] rfl<|Mu (jY (by kernel_rfl) rfl rfl rfl rfl rfl)<|dL [1,2] rfl<|DC.ret ⟨_,rfl,X,rfl,⟨S,a_.refl ..,by omega,by intro g G;cases G⟩,O1⟩
 have Rp:X.fs (j::J)=0:=by omega
 have rt:X.dn J j=false:=by
  cases e:X.dn J j with
  |false=>rfl
  |true=>
       obtain⟨⟨q',U,Nw,_⟩,_⟩:=S.pu.s3 J j O e;rw[t]at U;injection U with U;subst U;omega
 have Th:X.nz J j=none:=by unfold aq.nz;rw[aqo (by omega),aqo (by rw[rt];simp)]
 rw[Th]at P7;have TX: ∀h,X.fs (h::j::J)=0:= λh=>by
  rcases aqJ (X.fs (h::j::J))with e|e
  ·exact e
  ·have:=(S.pu.fp h (j::J) (by omega)).1;omega
 have W3:=o.bA O Rp TX t R6;have FS:=Ig (c:=c) (X:=X) (H:=H) Rp QQ.1;have C: ∀r,r≠ .fr (j::J)->r≠ .am (j::J)->r≠ .tk (j::J)->(X.bA (j::J) H).A r=X.A r:= λr w m h3=>by simp[aq.bA,w,m,h3]
 have f4:J≠j::J:=by intro e;have:=arI List.length e;simp at this
 have PZ:(X.bA (j::J) H).A .it=X.A .it:=C _ (by simp) (by simp) (by simp);have f7:(X.bA (j::J) H).A (.fr J)=X.A (.fr J):=C _ (by simp[f4]) (by simp) (by simp);have f8:(X.bA (j::J) H).A (.pl J j)=X.A (.pl J j):=C _ (by simp) (by simp) (by simp);have rx:(X.bA (j::J) H).fs (j::J)=1:=aqy rfl;have I: ∀f,f≠j::J->(X.bA (j::J) H).fs f=X.fs f:= λf Px=>aqo Px
 have Tb:(X.bA (j::J) H).fs J=2:=by rw[I J f4];exact O
 have t1:k7 c (X.bA (j::J) H) (c.ek J j):=by
  rw[i];refine⟨Sn.c1,λh f e=> ?_,Sn.c4,Sn.tp⟩;by_cases p:h::f=j::J
  ·injection p with p k;subst p;subst k;omega
  ·rw[I _ p]at e;exact Sn.f1 h f e
 have t2: ∀a,a<H.length->X.own a=none->(X.bA (j::J) H).own a=none:= λa w m=>by
  simp only[aq.bA];rw[aqo (by omega),aqo (by omega),aqo (by omega)];exact m
 have t3: ∀r,X.live c r->(X.bA (j::J) H).live c r/\(X.bA (j::J) H).A r=X.A r:=by
  have V: ∀f,1<=X.fs f->f≠j::J:=by rintro f w rfl;omega
  intro r i;cases r with
  |fr f=>have e:=V f i;exact⟨by show 1<=(X.bA (j::J) H).fs f;rw[I f e];exact i,C _ (by simp[e]) (by simp) (by simp)⟩
  |am f=>have e:=V f i;exact⟨by show 1<=(X.bA (j::J) H).fs f;rw[I f e];exact i,C _ (by simp) (by simp[e]) (by simp)⟩
  |tk f=>have e:=V f i;exact⟨by show 1<=(X.bA (j::J) H).fs f;rw[I f e];exact i,C _ (by simp) (by simp) (by simp[e])⟩
  |cr f=>have e:=V f (by rw[i.1];decide);exact⟨⟨by rw[I f e];exact i.1,i.2⟩,C _ (by simp) (by simp) (by simp)⟩
  |er f=>have e:=V f (by rw[i.1];decide);exact⟨⟨by rw[I f e];exact i.1,i.2⟩,C _ (by simp) (by simp) (by simp)⟩
  |ce f b=>have e:=V f (by rw[i.1];decide);exact⟨⟨by rw[I f e];exact i.1,i.2⟩,C _ (by simp) (by simp) (by simp)⟩
  |pl f b=>have e:=V f (by rw[i.1];decide);exact⟨⟨by rw[I f e];exact i.1,i.2⟩,C _ (by simp) (by simp) (by simp)⟩
  |_=>exact⟨i,C _ (by simp) (by simp) (by simp)⟩
 refine dO [2,2,20] rfl<|Mu (aw rfl rfl OE rfl)<|dR [22] rfl<|Mu (oI rfl rfl rfl rfl rfl R6 TS) ?_;rw[P7];refine dR [2,24] rfl<|Mu (jY (by kernel_rfl) rfl rfl rfl rfl rfl)<|dR [0,2,27] rfl<|Mu (qD rfl)<|dR [28] rfl<|Mu (qD rfl)<|dR [29] rfl<|Mu (jT rfl rfl rfl rfl rfl)<|dR [30] rfl<|Mu (cA rfl rfl rfl)<|dR [2,34] rfl<|Mu (aw rfl rfl (bp (bp (bp OE))) rfl)<|dR [999] rfl<|Mu (pI rfl rfl rfl rfl rfl (bp (bp (bp R6))) TS)<|dL [] rfl ?_;obtain⟨K1,co⟩: ∃K1,(((H++ [Ob.map []])++ [Ob.map []])++ [Ob.box [.ref (X.A (.fr J)) 0,.d (.sl []),.d (.sl []),.mp H.length,.mp (H.length+1)]]).set (X.A (.am J)) (.map (iJ (X.A (.pl J j)) 0 (.ref (H.length+2) 0) es))=K1:=⟨_,rfl⟩;have Z4: ∀a,a<H.length->X.own a=none->(X.bA (j::J) H).own a=none/\K1[a]?=H[a]?:= λa w m=>by
  refine⟨t2 a w m,?_⟩;rw[<-co,aqn (by rintro rfl;rw[o.own (.am J) (by show 1<=X.fs J;omega)]at m;cases m),aqf (by simp;omega),aqf (by simp;omega),aqf w]
 rw[co]at W3;refine MG [nR 8 (H.length+2),nR 0 (X.A .it),nR 1 (X.A (.fr J)),nR 2 (X.A (.pl J j))] K1 (kc (by simp;rfl) rfl) (by rw[<-co];simp) ?_;obtain⟨m2,A,⟨rfl,Y,D⟩,Um⟩:=D_ R hC (i▸hV) ⟨W3,(S.pu.bA O Rp s.ok)⟩ (by omega) t1 Tb t hk G;rw[PZ,f7,f8]at Um;have Z:=D.2.1;have On:=Z.f2 J Tb;have f9:=(Z.f1 _).1 rx;have Td:=((Z.A (.pl J j) ⟨Tb,OO⟩).2).trans f8;have gc:Y.A (.fr (j::J))=H.length+2:=((Z.A (.fr (j::J)) (by show 1<=(X.bA (j::J) H).fs (j::J);omega)).2).trans (by simp[aq.bA]);have OZ:A[X.A (.pl J j)]?=some (.box (dr q g)):=by
  obtain⟨p',M3,Q3⟩:=D.1.lay.fe On t;rw[G]at M3;injection M3 with M3
  subst M3;rw[Td]at Q3;exact Q3
 have OQ:c.bN J j<q.ah.length:=by
  rcases aqh (c.bN J j) q.ah.length with o|o
  ·exact o
  ·have:=s.ha;rw[aqj o]at this;cases this
 have Vy:=aqk s.ha;have U5:=sn s.ha;have Wm:=jt q;have GT:gr q g+aP (q.ah.map fo)<=g+qP q:=by
  unfold gr;rcases hk with e|e|e
  ·rw[aqo (by omega)];omega
  ·rw[aqy e];have:ij q.kd=1:=by rw[e];rfl
   omega
  ·rw[aqo (by omega)];omega
 have t4:=fD fo OQ;have QE:q.ah[c.bN J j]=a:=by have:=s.ha;rw[aqi OQ]at this;injection this
 rw[QE,mS]at t4;have Oy:dx q g (c.bN J j)=gr q g+aP ((q.ah.take (c.bN J j)).map fo):=rfl;have Xn:=kY a.cp (N7.2.2.2.2.1 a Vy).1 (by omega);rw[aW.aA]at Xn;refine dO [2,41] rfl<|Mu (ap Um rfl rfl)<|dL [2] rfl<|MG [nN 42 0,nN 41 (c.bN J j),nN 10 (gr q g),nN 9 (c.bN J j),nD 11 (.bool (c.mU J j)),nR 8 (H.length+2),nR 0 (X.A .it),nR 1 (X.A (.fr J)),nR 2 (X.A (.pl J j))] A rfl rfl<|dC [] rfl<|Ny (λMJ=> ∃bx,MJ=⟨[nN 10 (dx q g (c.bN J j)),nN 9 (c.bN J j),nD 11 (.bool (c.mU J j)),nR 8 (H.length+2),nR 0 (X.A .it),nR 1 (X.A (.fr J)),nR 2 (X.A (.pl J j))],bx,A⟩) ?_ ?_
 ·refine dC [3] rfl<|DC.lp (λb d9=> ∃(h:Nat) (bx:List (Nat×List M)),d9=⟨[nN 42 h,nN 41 (c.bN J j),nN 10 (gr q g+aP ((q.ah.take h).map fo)),nN 9 (c.bN J j),nD 11 (.bool (c.mU J j)),nR 8 (H.length+2),nR 0 (X.A .it),nR 1 (X.A (.fr J)),nR 2 (X.A (.pl J j))],bx,A⟩/\h<=c.bN J j/\b=c.bN J j-h) (c.bN J j) _
   ⟨0,_,rfl,by omega,rfl⟩ (kc rfl (kc rfl (kc (by simp[aP];rfl) rfl))) ?_
  rintro b s1 ⟨h,bx,rfl,hi,rfl⟩;refine dC [2] rfl<|DC.cond rfl (λhc=> ?_) (λhc=> ?_);rotate_left
  ·have e:h=c.bN J j:=by have:=aqA hc;omega
   subst e;refine DC.exit<|⟨_,⟨_,rfl⟩,cF rfl rfl⟩
  have M7:h<c.bN J j:=by have:=aqv hc;omega
  have Rr:h<q.ah.length:=by omega
  have Rk:=aqi Rr;have YO:=fD fo Rr;generalize q.ah[h]=ai at Rk YO;rw[mS]at YO;have ge:=kY ai.cp (N7.2.2.2.2.1 ai (aqk Rk)).1 (by omega);rw[aW.aA]at ge;have Nu:gr q g+aP ((q.ah.take (h+1)).map fo)=gr q g+aP ((q.ah.take h).map fo)+bP ai.cp:=by omega
  refine dO [3,2,2,54] rfl<|Mu (aw rfl rfl OZ rfl)<|dR [56] rfl<|Mu (aK rfl rfl rfl (aqe h) (sn Rk) rfl)<|dR [59] rfl<|Mu (aJ ge rfl rfl)<|dR [60] rfl<|Mu (ax rfl rfl rfl (by omega))<|dR [2,61] rfl<|Mu (ax rfl rfl rfl (by omega))<|dL [] rfl<|bE (k':=c.bN J j-(h+1)) (by omega) ⟨h+1,_,rfl,by omega,rfl⟩ rfl (kc rfl (kc rfl (kc (by rw[Nu];rfl) rfl)))
 rintro _ ⟨bx,rfl⟩;have Ut:=D.1.lay;have t5:=Ut.mm (by omega);refine dC [2] rfl<|Ny (λMJ=> ∃l x,cx P n c d {Y with x:=l} x/\A.length<=x.length/\(∀a,a<A.length->Y.own a≠some .me->Y.own a≠some .pe->Y.own a≠some .su->x[a]?=A[a]?)/\
   (∀b,b<bW d->(kF c J j q g a b->l.m b=cd (iM P.aI d) b)/\(¬kF c J j q g a b->l.m b=Y.x.m b))/\
   (∀b,b<bW d->(kF c J j q g a b->(iM P.aI d)[b]?=some none->l.p b=false)/\(¬(kF c J j q g a b/\(iM P.aI d)[b]?=some none)->l.p b=Y.x.p b))/\
   (∀b,b<bW d->(kF c J j q g a b->(iM P.aI d)[b]?=some none->l.s b=none)/\(¬(kF c J j q g a b/\(iM P.aI d)[b]?=some none)->l.s b=Y.x.s b))/\
   MJ=⟨[nN 10 (dx q g (c.bN J j)),nN 9 (c.bN J j),nR 8 (H.length+2),nR 0 (X.A .it),nR 1 (X.A (.fr J)),nR 2 (X.A (.pl J j))],bx,x⟩) ?_ ?_
 ·cases i6:c.mU J j with
  |true=>
   refine dC [1] rfl ?_;obtain⟨m3,x,t6,RN⟩:=z8 (Fk P d Y) NG.e (dx q g (c.bN J j)) (dx q g (c.bN J j)+bP a.cp) (by show _<=bW d;omega) Xm.1 (by show d.outs.length<=_;have:=Xm.2.1;omega) (by show bP d.b<=_;have:=Xm.2.2;omega) Y.x A t5;have RN:CT Tryz.prog 42 [.ref (Y.A .it) 0,dN (dx q g (c.bN J j)),dN (dx q g (c.bN J j)+bP a.cp)] A _:=RN;rw[((Z.A .it trivial).2).trans PZ]at RN;have E:=GU P.aI d Y.x (dx q g (c.bN J j)) (dx q g (c.bN J j)+bP a.cp) (by omega);obtain⟨l,NK⟩: ∃l,l=(Y.x.fb (iF P.aI d.outs) (bP d.b) (dx q g (c.bN J j)) (dx q g (c.bN J j)+bP a.cp)).fb (ku P.aI d.b) 0 (dx q g (c.bN J j)) (dx q g (c.bN J j)+bP a.cp):=⟨_,rfl⟩;rw[<-NK]at E;have i7:MS (Fk P d Y) A l x:=by rw[NK];exact t6
   simp only at E;have VU: ∀b,kF c J j q g a b↔(dx q g (c.bN J j)<=b/\b<dx q g (c.bN J j)+bP a.cp):= λb=>by unfold kF;rw[i6];simp
   obtain⟨R4,X_⟩:=Ut.reset i7 (λb B u' T=>by
    obtain⟨r1,r2,r3⟩:=E b B;by_cases e:dx q g (c.bN J j)<=b/\b<dx q g (c.bN J j)+bP a.cp
    ·by_cases k:(iM P.aI d)[b]?=some none
     ·rw[((r1 e).2 k).2]at T;cases T
     ·rw[(r3 k).2]at T;exact T
    ·rw[(r2 e).2.2]at T;exact T)
   refine dO [2,70] rfl<|Mu (aw rfl rfl OZ rfl)<|dR [72] rfl<|Mu (aK rfl rfl rfl (aqe _) U5 rfl)<|dR [75] rfl<|Mu (aJ Xn rfl rfl)<|dR [76] rfl<|Mu (ax rfl rfl rfl (by omega))<|dR [77] rfl<|Mu (ap RN rfl rfl)<|dL [] rfl<|⟨_,⟨l,x,R4,i7.len,X_,λb B=>⟨λe=>((E b B).1 ((VU b).1 e)).1,λe=>((E b B).2.1 (λF=>e ((VU b).2 F))).1⟩,λb B=>⟨λe k=>(((E b B).1 ((VU b).1 e)).2 k).1,λe=> ?_⟩,λb B=>⟨λe k=>(((E b B).1 ((VU b).1 e)).2 k).2,λe=> ?_⟩,rfl⟩,cF rfl rfl⟩
   ·by_cases p:dx q g (c.bN J j)<=b/\b<dx q g (c.bN J j)+bP a.cp
    ·exact((E b B).2.2 (λk=>e ⟨(VU b).2 p,k⟩)).1
    ·exact((E b B).2.1 p).2.1
   ·by_cases p:dx q g (c.bN J j)<=b/\b<dx q g (c.bN J j)+bP a.cp
    ·exact((E b B).2.2 (λk=>e ⟨(VU b).2 p,k⟩)).2
    ·exact((E b B).2.1 p).2.2
  |false=>
   refine dC [0] rfl ?_;have d6: ∀b,¬kF c J j q g a b:= λb F=>by have:=F.1;rw[i6]at this;cases this
   exact⟨_,⟨Y.x,A,Ut,aqd _,λ_ _ _ _ _=>rfl,λb _=>⟨λe=>absurd e (d6 b),λ_=>rfl⟩,λb _=>⟨λe=>absurd e (d6 b),λ_=>rfl⟩,λb _=>⟨λe=>absurd e (d6 b),λ_=>rfl⟩,rfl⟩,cF rfl rfl⟩
 rintro _ ⟨l,x,R4,Id,X_,t7,Wn,Wg,rfl⟩;have t8: ∀r,Y.live c r->r≠ .me->r≠ .pe->r≠ .su->x[Y.A r]?=A[Y.A r]?:= λr h0 w m h3=>by
  have ho:=Ut.own r h0;refine X_ _ (Ut.lt _ _ ho) ?_ ?_ ?_<;>(rw[ho];intro e;injection e with e)
  ·exact w e
  ·exact m e
  ·exact h3 e
 have UX:x[X.A (.pl J j)]?=some (.box (dr q g)):=by
  have:=t8 (.pl J j) ⟨On,OO⟩ (by simp) (by simp) (by simp);rw[Td]at this;exact this.trans OZ
 have i8:=R4.frame (J:=J) On;rw[show({Y with x:=l} :aq).A=Y.A from rfl,((Z.A (.fr J) (by show 1<=(X.bA (j::J) H).fs J;omega)).2).trans f7]at i8;obtain⟨In,U4,t9,rfl,i9,_⟩:=R4.ob (.tk J) (by show 1<=Y.fs J;omega);have U4:=U4;have ut: ∀h,Y.fs (h::J)=2->h<(c.fr J).au.length:= λh e=>by
  obtain⟨_,q',U,_⟩:=hC.iG h J (D.1.pu.fp h J (by omega)).2;rcases aqh h (c.fr J).au.length with o|o
  ·exact o
  ·rw[aqj o]at U;cases U
 obtain⟨_,K⟩:=R4.KW (j:=j) (show({Y with x:=l} :aq).fs J=2 from On) (show({Y with x:=l} :aq).fs (j::J)≠2 by show Y.fs (j::J)≠2;omega) OO ut U4 (dN (c.bN J j));have K:=K;rw[Td]at K;have mt:=Ut.own (.tk J) (by show 1<=Y.fs J;omega);have pm:Y.own (X.A (.pl J j))=some (.pl J j):=by rw[<-Td];exact Ut.own _ ⟨On,OO⟩
 obtain⟨Q,ac⟩: ∃Q,x.set (Y.A (.tk J)) (.map (iJ (X.A (.pl J j)) 0 (dN (c.bN J j)) t9))=Q:=⟨_,rfl⟩;have Ya:Q.length=x.length:=by rw[<-ac];simp
 have SG: ∀a,a≠Y.A (.tk J)->Q[a]?=x[a]?:= λa s=>by rw[<-ac];exact aqn (aq7 s)
 rw[ac]at K;have Xo:=s.fr;have v6:Q[Y.A (.fr (j::J))]?=some (.box [Y.up (j::J),.d (.sl []),.d (.sl []),.mp (Y.A (.am (j::J))),.mp (Y.A (.tk (j::J)))]):=by
  obtain⟨ob,w,m⟩:=K.ob (.fr (j::J)) (by show 1<=Y.fs (j::J);omega);have Rv:=m;subst Rv;rw[show({Y with x:=l} :aq).A=Y.A from rfl]at w;rw[w,aqo (by show Y.fs (j::J)≠2;omega),aqo (by show Y.fs (j::J)≠2;omega)];rfl
 have Ye:Fl (c.fr (j::J)) (λ_=>0) (λ_=>0) (({Y with x:=l} :aq).up (j::J)) {Y with x:=l} (j::J) 0 0 (λ_ _=>False) Q:=
  {lt:=K.lt,kE:=K.own (.fr (j::J)) (by show 1<=Y.fs (j::J);omega),mr:= λF=>by omega,mZ:= λF=>by omega,nA:= λN F=>by omega,nB:= λN F=>by omega,fr:=v6,cr:= λF=>by omega,er:= λF=>by omega,ce:= λN F=>by omega,pl:= λN F=>by omega}
 have IO:=s9 (q:=q) (a:=a) Vy;obtain⟨m5,qr,⟨y,wd,Zq⟩,Rf⟩:=CI (c:=c) (st:= λ_=>0) (z:= λ_=>0) (X:= {Y with x:=l}) (J:=j::J) (H:=Q) R.sz a.cp (N7.2.2.2.2.1 a Vy).1 (by omega) (dx q g (c.bN J j)) (by omega) 0 (by rw[Xo];simp[Bh]) (λh v hv=>by rw[Xo,arF];exact hv) (λh lp Ng=>by rw[Xo,arF];exact Ng) (by rw[Xo];rfl) (by rw[Xo];rfl) (λ_ _=>⟨rfl,rfl⟩) (.ref (X.A .it) 0) Ye
  (λh ρ e τ f k=>by
   injection e with p e3
   subst p;subst e3;exact K.Mm (show Y.fs f=2 from uO D.1.pu (τ:=τ) (by rw[<-k];exact On)))
 have Rf:=Rf;rw[gc,aW.aA]at Rf;have wn: ∀h,Y.fs (h::j::J)=0:= λh=>by
  rcases aqJ (Y.fs (h::j::J))with e|e
  ·exact e
  ·have:=(D.1.pu.fp h (j::J) (by omega)).1;omega
 have Do: ∀h,Y.dn (j::J) h=false:= λh=>by
  cases e:Y.dn (j::J) h with
  |false=>rfl
  |true=>have:=D.1.pu.dz _ _ e;omega
 have Eq: ∀b,Y.cs (j::J) b=0:= λb=>by
  rcases aqJ (Y.cs (j::J) b)with e|e
  ·exact e
  ·rcases D.1.pu.cz (j::J) b (by omega)with p|⟨_,j',f,q',p,k,e3⟩
   ·omega
   ·injection p with e4 e5
    subst e4;subst e5;rw[t]at k;injection k with k;subst k;omega
 obtain⟨Zm,Zr,Fd⟩:=K.filled (ρ:=j::J) (show Y.fs (j::J)=1 from f9) wn Do (λN _=>by
   show(0:Int)=mW (Y.cs (j::J) N)/\(0:Int)=if zB (Y.cs (j::J) N)then c.get (j::J,N)else 0
   rw[Eq N];exact⟨rfl,rfl⟩) (λh f e=>by
   injection e with p k
   subst p;subst k;refine⟨_,(by rw[<-ac];exact ga U4 _),?_⟩;show gv (Y.A (.pl J j)) 0 _=_;rw[Td,oL _ _ _ _ _ i9,aqy ⟨rfl,rfl⟩]) wd Zq
 obtain⟨A0,o0,v0,e0,L⟩:=id Zq.eq;have RS: ∀f,(y.full (j::J)).fs f=if f=j::J then 2 else Y.fs f:= λf=>by unfold aq.full;rw[L]
 have Wx:(y.full (j::J)).cs=Y.cs:=by unfold aq.full;rw[L]
 have Zo:(y.full (j::J)).dn=Y.dn:=by unfold aq.full;rw[L]
 have d7:(y.full (j::J)).lv=Y.lv:=by unfold aq.full;rw[L]
 have eN:(y.full (j::J)).N=Y.N:=by unfold aq.full;rw[L]
 have eF:(y.full (j::J)).F=Y.F:=by unfold aq.full;rw[L]
 have d8:(y.full (j::J)).fi=Y.fi:=by unfold aq.full;rw[L]
 have We:(y.full (j::J)).ph=Y.ph:=by unfold aq.full;rw[L]
 have ex:(y.full (j::J)).x=l:=by unfold aq.full;rw[L]
 have QT:a_ c (λ_=>False) X H (y.full (j::J)) qr:=by
  refine a_.yi Rp Z (by rw[<-co];simp) Z4 t3 (by have:=Zq.len;omega) (λa w m=> ?_) (λr i=> ?_) (λf e=>Zq.v f e) RS Wx Zo d7 eN eF d8 We
  ·obtain⟨b1,b2⟩:=Fd a (by omega) m;refine⟨b1,?_⟩;rw[b2,SG a (by rintro rfl;rw[mt]at m;cases m)];exact X_ a w (by rw[m];simp) (by rw[m];simp) (by rw[m];simp)
  ·exact Zr r (by cases r<;>exact i)
 have LE:=JD (c:=c) (W:=y.full (j::J)) (Y:=Y) RS Wx Zo d7 eN eF d8;have R2:=D.2.2.1;refine dO [2,81] rfl<|Mu (aw rfl rfl i8 rfl)<|dR [999] rfl<|Mu (pI rfl rfl rfl rfl rfl U4 i9)<|dL [] rfl<|MG [nN 10 (dx q g (c.bN J j)),nN 9 (c.bN J j),nR 8 (H.length+2),nR 0 (X.A .it),nR 2 (X.A (.pl J j))] Q rfl ac<|dO [2,90] rfl<|Mu (aw rfl rfl ((SG _ (by intro e;rw[e,mt]at pm;cases pm)).trans UX) rfl)<|dR [92] rfl<|Mu (aK rfl rfl rfl (aqe _) U5 rfl)<|dR [96] rfl<|Mu (ap Rf rfl rfl)<|dL [2] rfl<|DC.ret ⟨_,rfl,y.full (j::J),by rw[(Zr (.fr (j::J)) (by show 1<=Y.fs (j::J);omega)).2.trans gc];rfl,⟨⟨Zm,(Pu.yi R D.1.pu f9 t hk G s.ha (λrg hw=> .inl (D.2.2.2 rg hw)) (by rw[ex];exact t7) (by rw[ex];exact Wn) (by rw[ex];exact Wg) RS Wx Zo d7 eN eF d8 We)⟩,QT,by omega,by intro g G;cases G⟩,by rw[RS,aqy rfl]⟩
end
section
variable{P:Pg}{n:Nat}{c:aH}{d:Nd}{u:US}{X Y Z:aq}{H K L:Hp}
theorem Ih{ins outs:List Int}{u':US}(e:mX P n c d u)(h:pb P)(f:gX P (fT P n) c d u ins outs u')(q:qh P n): ∀r,et P n c d u r/\CE P n c d u r:=by
 intro r
 induction r using Nat.strongRecOn with
 |ind r i=>
  have s:=GF e f (λa b=>(i a b).1) (λa b=>(i a b).2);have g: ∀a≤r,et P n c d u a:= λa b=>by
   grind
  refine⟨s,λj k t l w L M m N O o v x p y z A B C D E F G H I J K=> ?_⟩;exact D9 e f B g (λa b=>ss e h f q (g a b)) (λa b=>Ae e h f (g a b)) j k t l w m o v x p y z A C D E F G H I J K
theorem k7.down{r r':Nat}(h:k7 c X r)(b:r'<=r):k7 c X r':=⟨λa d e=>aq1 b (h.c1 a d e),λf a e=>aq1 b (h.f1 f a e),h.c4,by have:=h.tp;omega⟩
structure gM(c:aH)(X:aq)(H:Hp)(Y:aq)(K:Hp):Prop where
 e:a_ c (λ_=>False) {X with lv:=Y.lv} H Y K
 m: ∀J j,X.lv J j=true->Y.lv J j=true
theorem a_.LV{E:Path×Nat->Prop}(h:a_ c E X H Y K)(l:Path->Nat->Bool):a_ c E {X with lv:=l} H {Y with lv:=l} K:=
 {c0:=h.c0,f0:=h.f0,len:=h.len,gU:=h.gU,A:= λa b=>(by
   have:=h.A a (by cases a<;>exact b);exact⟨by have d:=this.1;revert d;cases a<;>exact id,this.2⟩),aG:=h.aG,f2:=h.f2,f1:=h.f1,c1:=h.c1,c2:=h.c2,c3:=h.c3,c4:=h.c4,dn:=h.dn,qT:=h.qT,lv:=rfl,S:=h.S,fi:=h.fi,ph:=h.ph,F:=h.F}
theorem gM.of(h:a_ c (λ_=>False) X H Y K):gM c X H Y K:=by
 refine⟨?_,λa b e=>by rw[h.lv];exact e⟩;have e:({X with lv:=Y.lv} :aq)=X:=by rw[h.lv]
 rw[e];exact h
theorem gM.trans(h:gM c X H Y K)(k:gM c Y K Z L):gM c X H Z L:=
 ⟨(h.e.LV Z.lv).trans k.e,λa b e=>k.m a b (h.m a b e)⟩
theorem gM.KX{J:Path}{j:Nat}(h:a_ c (λ_=>False) (X.jv J j) H Y K):gM c X H Y K:=by
 refine⟨?_,λa b e=> ?_⟩
 ·have e:({X with lv:=Y.lv} :aq)=X.jv J j:=by rw[h.lv];rfl
  rw[e];exact h
 ·rw[h.lv];show(if(a,b)=(J,j)then true else X.lv a b)=true;split
  ·rfl
  ·exact e
structure CJ(c:aH)(Y:aq)(σ:Path)(j:Nat)(q:ay):Prop where
 w:c.nu σ q->(∀w∈c.ew σ j,Y.SS c w.1 w.2)/\(q.kd=2->Y.dn σ j=true)
 l:q.kd=4->Y.lv σ j=true
 v: ∀k v,(c.fr σ).vars[k]?=some v->jB (c.fr σ) k v j->(c.val σ k).isSome=true->Y.cs σ k=2
structure qY(c:aH)(Y:aq)(σ:Path):Prop where
 f:Y.fs σ=2
 q: ∀j q,(c.fr σ).au[j]?=some q->CJ c Y σ j q
theorem CJ.up{σ:Path}{j:Nat}{q:ay}(h:CJ c X σ j q)(e:gM c X H Y K):CJ c Y σ j q:=
 ⟨λd=>⟨λf l=>e.e.SS _ _ ((h.w d).1 f l),λa=>e.e.dn _ _ ((h.w d).2 a)⟩,λa=>e.m _ _ (h.l a),λg v i b k=>e.e.c2 _ _ (h.v g v i b k)⟩
theorem qY.up{σ:Path}(h:qY c X σ)(e:gM c X H Y K):qY c Y σ:=⟨e.e.f2 _ h.f,λa b d=>(h.q a b d).up e⟩
theorem Ii{i j:Nat}{τ a J:Path}(h:τ++(i::J)=a++(j::J)):τ=a/\i=j:=by
 have b:=List.append_inj' h (by simp);exact⟨b.1,by grind⟩
theorem Bw{i:Nat}{τ J:Path} :τ++(i::J)≠J:=by
 intro a;have:=arI List.length a;simp only[aqg,aqw]at this;omega
theorem Ed(m:mX P n c d u)(b:cL P n c d u X H){J:Path}{j:Nat}{q:ay}(hf:X.fs J=2)(f:(c.fr J).au[j]?=some q)(p:q.kd=3\/q.kd=5)(g h:M):
  DT Tryz.prog 64 [.ref (X.A .it) 0,g,.ref (X.A (.pl J j)) 0,h] H λ_ K=>cL P n c d u X K/\a_ c (λ_=>False) X H X K:=by
 have a:=b.lay;obtain⟨o,s,i⟩:=a.fe hf f;have k:(H++ [Ob.box [.ref (X.A .it) 0]]++ [Ob.box [.ref (X.A (.pl J j)) 0]])[(H++ [Ob.box [M.ref (X.A .it) 0]]).length]?=some (Ob.box [.ref (X.A (.pl J j)) 0]):=by simp
 have e:=bp (T:=[Ob.box [.ref (X.A (.pl J j)) 0]]) (bp (T:=[Ob.box [.ref (X.A .it) 0]]) i);refine DT.ob Tryz.func64 W Tryz.ntmps64 W ?_;unfold dr at e;refine dO [2,8] W<|Mu (cA W W W)<|dR [10] W<|Mu (cA W W W)<|dL [] W ?_;have l:(q.kd !=4)=true:=by grind
 refine dO [2,17] W<|Mu (aw W W k W)<|dR [21] W<|Mu (aw W W e W)<|dR [22] W<|Mu (fZ W W W (r:= .bool true) (by show some (D.bool (_ !=_))=_;rw[<-l]))<|dL [1] W<|DC.ret ⟨_,rfl,⟨((a.grow [Ob.box [.ref (X.A .it) 0]]).grow [Ob.box [.ref (X.A (.pl J j)) 0]]),b.pu⟩,((a_.grow c (λ_=>False) X H [Ob.box [.ref (X.A .it) 0]]).trans (a_.grow c (λ_=>False) X _ [Ob.box [.ref (X.A (.pl J j)) 0]]))⟩
end
section
variable{P:Pg}{n:Nat}{c:aH}{d:Nd}{u:US}{X Y Z:aq}{H K L:Hp}
structure LW(P:Pg)(n:Nat)(c:aH)(d:Nd)(u:US)(X:aq)(H:Hp)(J:Path)(Y:aq)(K:Hp):Prop where
 inst:cL P n c d u Y K
 ext:gM c X H Y K
 t:Y.T c<=X.T c
 KY: ∀σ j,Y.lv σ j=true->X.lv σ j=true\/ ∃τ,σ=τ++J
 done: ∀τ,c.ok (τ++J)->qY c Y (τ++J)
theorem Af{J:Path}(j:mX P n c d u){ins outs:List Int}{u':US}(b:gX P (fT P n) c d u ins outs u'){x:Nm}{σ:Path×Nat}(g:cL P n c d u X H)(hf:X.fs J=2)(h:c.find J x=some σ)(r:ins.length=d.ins.length):c.mV σ<c.eV:=by
 obtain⟨k,v,l,eq,a,s,m,_⟩:=k9 g hf h;by_cases e:σ.1= []->d.ins.length<=σ.2
 ·exact(b.cell σ.1 σ.2 v l (Pu.ok j g.pu k) a m e).tp
 ·have i:=aq6 λf=>e λo=>absurd o f
  have p:=asQ λf=>e λ_=>f
  rw[i,b.vx]at a;simp only[tq]at a;rw[aqD,aqf p]at a;have q:ins[σ.2]?=some ins[σ.2]:=aqi (by omega);have:=(b.Cp σ.2 v _ a q).2;unfold aH.mV;rw[i];exact this
theorem vL{ins outs:List Int}{u':US}(p:mX P n c d u)(s:gX P (fT P n) c d u ins outs u'){J:Path}{i k:Nat}{q:ay}{v:Va}(h:cL P n c d u X H)(hf:X.fs J=2)(g:(c.fr J).au[i]?=some q)(b:q.kd=1\/q.kd=2)(j:(c.fr J).vars[k]?=some v)(t:jB (c.fr J) k v i)(l:(c.val J k).isSome=true)(w:J= []->d.ins.length<=k):
  c.nu J q/\c.find J v.name=some (J,k)/\v.name∈q.lhs:=by
 obtain⟨x,eq,y,_⟩:=h.lay.cell hf j;obtain⟨r,z⟩:=asf.1 l;obtain⟨F,G,A,B,C⟩:=(s.cell J k v x (Pu.ok p h.pu hf) j y w).df r z;obtain rfl:=t.tt A;cases B with
 |bN a m=>rw[g]at a;injection a with e;subst e;omega
 |last a m=>rw[g]at a;injection a with e;subst e;omega
 |leaf a m I=>
  obtain⟨o,K,f,D,L⟩:=C;rw[g]at f;injection f with f
  subst f;rcases b with b|b
  ·have E:=(D b).1;refine⟨λ_=> ?_,o,by grind⟩;rw[E];exact⟨(J,k),o,l⟩
  ·grind
theorem JE{ins outs:List Int}{u':US}(F:mX P n c d u)(NG:pb P)(A:gX P (fT P n) c d u ins outs u')(Wp:qh P n): ∀(N:Nat) (J:Path),SizeOf.sizeOf (c.fr J).au<=N-> ∀(X:aq) (H:Hp),cL P n c d u X H->X.T c<=1000000000000->k7 c X c.eV->X.fs J=2->(∀τ j,X.lv (τ++J) j=false)->
  DT Tryz.prog 44 [.ref (X.A .it) 0,.ref (X.A (.fr J)) 0] H λ_ K=> ∃Y,LW P n c d u X H J Y K:=by
 intro N
 induction N with
 |zero=>
  intro J hN;have:1<=SizeOf.sizeOf (c.fr J).au:=by cases (c.fr J).au<;>simp<;>omega
  omega
 |succ N t8=>
 intro J hN X H hI hT hP hf Vx;have hV: ∀r,et P n c d u r:= λr=>(Ih F NG A Wp r).1
 have z:=hI.lay;have MU:=Pu.ok F hI.pu hf;have MA:=F.Jy J;have TO: ∀{Y:aq} {K:Hp} {k:Nm} {σ:Path×Nat},cL P n c d u Y K->Y.fs J=2->c.find J k=some σ->c.mV σ<c.eV:= λOL On C=>Af F A OL On C A.uF
 refine DT.ob Tryz.func44 W Tryz.ntmps44 W<|dO [2,18] W<|Mu (aw W W (z.frame hf) W)<|dR [19] W<|Mu (oT W W)<|dL [] W<|MG [nN 16 0,nN 15 ((c.fr J).au.length),nM 14 (bG (X.A (.er J)) (X.ve J) (c.fr J).au.length),nR 0 (X.A .it),nR 1 (X.A (.fr J))] H W W<|dC [3] W<|DC.lp (λo ac=> ∃(a:Nat) (Y:aq) (K:Hp) (bx:List (Nat×List M)),ac=⟨[nN 16 a,nN 15 ((c.fr J).au.length),nM 14 (bG (X.A (.er J)) (X.ve J) (c.fr J).au.length),nR 0 (X.A .it),nR 1 (X.A (.fr J))],bx,K⟩/\a<=(c.fr J).au.length/\o=(c.fr J).au.length-a/\
   cL P n c d u Y K/\gM c X H Y K/\Y.T c<=X.T c/\(∀σ j,Y.lv σ j=true->X.lv σ j=true\/(σ=J/\j<a)\/ ∃τ T,T<a/\σ=τ++(T::J))/\
   ∀j f,j<a->(c.fr J).au[j]?=some f->CJ c Y J j f/\ ∀τ,c.ok (τ++(j::J))->qY c Y (τ++(j::J))) (c.fr J).au.length _
  ⟨0,X,H,_,rfl,by omega,rfl,hI,gM.of (a_.refl ..),aqd _,λσ j e=> .inl e,λj f x=>by omega⟩ W ?_
 rintro o s1 ⟨a,Y,K,bx,rfl,hi,rfl,OL,NF,R2,YP,d9⟩;refine dC [2] W<|DC.cond W (λU=> ?_) (λU=> ?_);rotate_left
 ·have e:a=(c.fr J).au.length:=by have:=aqA U;omega
  refine DC.exit<|⟨_,rfl,Y,OL,NF,R2,λσ j x=> ?_,λτ y=> ?_⟩
  ·rcases YP σ j x with g|⟨g,_⟩|⟨τ,T,_,g⟩
   ·exact .inl g
   ·exact .inr ⟨[],g⟩
   ·exact .inr ⟨τ++ [T],by rw[g];simp⟩
  ·have MV: ∀j f,(c.fr J).au[j]?=some f->j<a:= λj f l=>by
    rcases aqh j (c.fr J).au.length with z|z
    ·omega
    ·rw[aqj z]at l;cases l
   rcases as0 τ with rfl|⟨R,j,rfl⟩
   ·exact⟨NF.e.f2 J hf,λj f l=>(d9 j f (MV j f l) l).1⟩
   ·have e1:(R++ [j])++J=R++(j::J):=by simp
    simp only[List.concat_eq_append]at y⊢;rw[e1]at y⊢;have t9: ∀R:Path,c.ok (R++(j::J))->c.ok (j::J):=by
     intro R
     induction R with
     |nil=>exact id
     |cons B R ih=>intro g;exact ih (A.iG B (R++(j::J)) g).1
    obtain⟨_,f,l,_⟩:=A.iG j J (t9 R y);exact(d9 j f (MV j f l) l).2 R y
 have Q:a<(c.fr J).au.length:=by have:=aqv U;omega
 have l:=aqi Q;have TZ:=asv (aqz Q);generalize (c.fr J).au[a]=f at l TZ;have On:=NF.e.f2 J hf;have ut: ∀r,X.live c r->({X with lv:=Y.lv} :aq).live c r:= λr hr=>by cases r<;>exact hr
 have d7: ∀r,X.live c r->Y.A r=X.A r:= λr hr=>(NF.e.A r (ut r hr)).2
 have i6:=d7 (.fr J) (by show 1<=X.fs J;omega);have OZ:=d7 (.pl J a) ⟨hf,Q⟩;have i7:=d7 (.er J) ⟨hf,by intro e;rw[e]at Q;simp at Q⟩;have Ud: ∀{X':aq} {H':Hp} {Y':aq} {K':Hp},k7 c X' c.eV->gM c X' H' Y' K'->k7 c Y' c.eV:= λ{X'} {H'} {Y'} {K'} S he=>k7.next (X:= {X' with lv:=Y'.lv}) (H:=H') ⟨S.c1,S.f1,S.c4,S.tp⟩ he.e
 have VB:=Ud hP NF;have v6: ∀{Y':aq} {K':Hp},gM c X H Y' K'-> ∀r,X.live c r->({X with lv:=Y'.lv} :aq).live c r:= λ_ r hr=>by cases r<;>exact hr
 have Ta:=OL.lay.H4 On (by intro e;rw[e]at Q;simp at Q);have wd:=OL.lay.frame On;rw[i6,i7]at wd;rw[i7,(NF.e.aG J hf).2]at Ta;obtain⟨co,S,M4⟩:=OL.lay.fe On l;have TP:=(A.eq J a f co MU l S).1;have wn:f.kd=1\/f.kd=2\/f.kd=3\/f.kd=4\/f.kd=5:=by
  cases TP with
  |df z=>omega
  |call z=>omega
  |sw z=>omega
  |aL z=>omega
  |reset z=>omega
 have R0:=(A.eq J a f co MU l S).2;obtain⟨m2,K2,⟨b,rfl,hb,V,D⟩,OB⟩:=GJ F A (λr _=>hV r) OL (by omega) VB On l wn (F.lh J a f MU l);rw[d7 .it trivial,i6,OZ]at OB;have N3:=gM.of D.2.1;have i8:=NF.trans N3;have Z:=D.2.1.f2 J On;have Zs:=Ud VB N3;have Zg:=D.2.2.1;have Us: ∀r,X.live c r->V.A r=X.A r:= λr hr=>(i8.e.A r (v6 i8 r hr)).2
 have Rj:=Us .it trivial;have Xq:=Us (.fr J) (by show 1<=X.fs J;omega);have Wz:=Us (.pl J a) ⟨hf,Q⟩;have next: ∀(h:aq) (p:Hp),cL P n c d u h p->gM c Y K h p->h.T c<=Y.T c->(∀σ j,h.lv σ j=true->Y.lv σ j=true\/(σ=J/\j=a)\/ ∃τ,σ=τ++(a::J))->CJ c h J a f->(∀τ,c.ok (τ++(a::J))->qY c h (τ++(a::J)))->
   gM c X H h p/\h.T c<=X.T c/\(∀σ j,h.lv σ j=true->X.lv σ j=true\/(σ=J/\j<a+1)\/ ∃τ T,T<a+1/\σ=τ++(T::J))/\ ∀j f,j<a+1->(c.fr J).au[j]?=some f->CJ c h J j f/\ ∀τ,c.ok (τ++(j::J))->qY c h (τ++(j::J)):=by
  intro h p Pn PO U1 Tm Do Eq;refine⟨NF.trans PO,by omega,λσ j x=> ?_,λj q' x G=> ?_⟩
  ·rcases Tm σ j x with g|⟨g,q⟩|⟨τ,g⟩
   ·rcases YP σ j g with h3|⟨h3,h4⟩|⟨τ,T,h3,h4⟩
    ·exact .inl h3
    ·exact .inr (.inl ⟨h3,by omega⟩)
    ·exact .inr (.inr ⟨τ,T,by omega,h4⟩)
   ·exact .inr (.inl ⟨g,by omega⟩)
   ·exact .inr (.inr ⟨τ,a,by omega,g⟩)
  ·rcases aq0.1 x with g|g
   ·obtain⟨q,h3⟩:=d9 j q' g G;exact⟨q.up PO,λτ y=>(h3 τ y).up PO⟩
   ·subst g;rw[l]at G;injection G with G
    subst G;exact⟨Do,Eq⟩
 have zm:f.kd=1\/f.kd=2-> ∀τ:Path,c.ok (τ++(a::J))->False:=by
  intro w τ
  induction τ with
  |nil=>
   intro g;obtain⟨_,q',G,Nw⟩:=A.iG a J g;rw[l]at G;injection G with G;subst G;omega
  |cons B τ ih=>intro g;exact ih (A.iG B (τ++(a::J)) g).1
 have Fd: ∀τ j,Y.lv (τ++(a::J)) j=false:=by
  intro τ j;cases e:Y.lv (τ++(a::J)) j with
  |false=>rfl
  |true=>
   rcases YP _ _ e with g|⟨g,_⟩|⟨R,T,g,q⟩
   ·have:=Vx (τ++ [a]) j;simp only[aqD,List.singleton_append]at this;rw[this]at g;cases g
   ·exact absurd g Bw
   ·have:=(Ii q).2;omega
 have Fn:Y.lv J a=false:=by
  cases e:Y.lv J a with
  |false=>rfl
  |true=>
   rcases YP _ _ e with g|⟨_,g⟩|⟨R,T,g,q⟩
   ·have:=Vx [] a;simp only[aqK]at this;rw[this]at g;cases g
   ·omega
   ·exact absurd q.symm Bw
 refine dO [3,2,22] W<|Mu (k8 W W W Ta (aqe a) (by omega))<|dR [23] W<|Mu (lY W W Ta (by simp[Q,OZ]))<|dR [2,27] W<|Mu (ap OB W W)<|dL [] W ?_;cases f4:b with
 |false=>
  have UF: ¬c.nu J f:= λe=>by rw[hb.2 e]at f4;cases f4
  have Ua:=aq6 λe=>UF λe2=>absurd e2 e
  refine dC [1] W<|DC.exit ?_;obtain⟨n1,n2,n3,n4⟩:=next V K2 D.1 N3 (by omega) (λσ j x=> .inl (by rw[<-D.2.1.lv];exact x)) ⟨λe=>absurd e UF,λe=>by omega,λo v hv hE Rc=>by
   by_cases e:J= []->d.ins.length<=o
   ·exact absurd (vL F A D.1 Z l Ua hv hE Rc e).1 UF
   ·have e1:=aq6 λg=>e λq=>absurd q g
    subst e1;exact D.1.pu.ci o (asQ λg=>e λ_=>g)⟩ (λτ y=>(zm Ua τ y).elim)
  refine dO [2,101] W<|Mu (ax W W W (by omega))<|dL [] W<|bE (k':=(c.fr J).au.length-(a+1)) (by omega) ⟨a+1,V,K2,_,rfl,by omega,rfl,D.1,n1,n2,n3,n4⟩ W W
 |true=>
  have Pv:=hb.1 f4;refine dC [0] W ?_;have PG:K2[X.A (.pl J a)]?=some (.box (dr f co)):=by
   obtain⟨p',M3,Q3⟩:=D.1.lay.fe Z l;rw[S]at M3;injection M3 with M3
   subst M3;rw[Wz]at Q3;exact Q3
  have i9: ∀(h:aq) (p:Hp),cL P n c d u h p-> ∀o,¬(J= []->d.ins.length<=o)->h.cs J o=2:= λh p Pn o e=>by
   have e1:=aq6 λg=>e λq=>absurd q g
   subst e1;exact Pn.pu.ci o (asQ λg=>e λ_=>g)
  have Yh: ∀{h:aq} {σ:Path×Nat},Pu P c d u h->(h.cs σ.1 σ.2=2\/h.cs σ.1 σ.2=3)->(c.val σ.1 σ.2).isSome=true->h.cs σ.1 σ.2=2:= λ{h σ} S g q=>by
   rcases g with g|g
   ·exact g
   ·rw[S.ca _ _ g]at q;cases q
  have f7:=F.Bu J a f MU l;rcases(show f.kd=1\/f.kd=2\/(f.kd=3\/f.kd=4\/f.kd=5) by omega)with w|w|w
  ·obtain⟨k,hl⟩: ∃k,f.lhs= [k]:=by
    cases TP with
    |df _ k hl=>exact⟨k,hl⟩
    |call z=>omega
    |sw z=>omega
    |aL z=>omega
    |reset z=>omega
   obtain⟨σ,ac,j0,E,Sk,Pa,SH,S7,da⟩:=A.Jp J a f k MU l w hl Pv;have O5:(c.val σ.1 σ.2).isSome=true:=by
    have:=Pv (.inl w);rw[hl]at this;obtain⟨MZ,g,q⟩:=this;rw[E]at g;injection g with g;subst g
    exact q
   obtain⟨m3,K3,⟨rfl,I,s,Yy⟩,Rm⟩:=hV c.eV V K2 D.1 (by omega) Zs J k σ Z E (TO D.1 Z E);rw[Rj,Xq]at Rm;have SD:=Yh s.1.pu Yy O5;have Wk:=s.2.1.f2 J Z;have TM:=s.2.2.1;obtain⟨n1,n2,n3,n4⟩:=next I K3 s.1 (N3.trans (gM.of s.2.1)) (by omega) (λσ j x=> .inl (by rw[<-D.2.1.lv,<-s.2.1.lv];exact x))
    ⟨λ_=>⟨(s.1.pu.s2 σ j0 ac J a f ((si s.1.pu Wk E).1) (.inl SD) da SH Sk (by rw[Pa];exact S7) l).2.1 w,λe=>by omega⟩,λe=>by omega,λo v hv hE Rc=>by
     by_cases e:J= []->d.ins.length<=o
     ·obtain⟨_,q,h3⟩:=vL F A s.1 Wk l (.inl w) hv hE Rc e;rw[hl,aqp]at h3;rw[h3,E]at q;injection q with q
      rw[q]at SD;exact SD
     ·exact i9 I K3 s.1 o e⟩ (λτ y=>(zm (.inl w) τ y).elim)
   unfold dr at PG;rw[w,hl]at PG;refine dO [2,33] W<|Mu (aw W W PG W)<|dR [3,2,1,2,69] W<|Mu (aw W W PG W)<|dR [70] W<|Mu (aK W W W (by decide) (r:=[.str k]) W W)<|dR [72] W<|Mu (ap Rm W W)<|dR [2,101] W<|Mu (ax W W W (by omega))<|dL [] W<|bE (k':=(c.fr J).au.length-(a+1)) (by omega) ⟨a+1,I,K3,_,rfl,by omega,rfl,s.1,n1,n2,n3,n4⟩ W W
  ·have Qd:=F.gh J a f l w;unfold dr at PG;rw[w]at PG;refine dO [2,33] W<|Mu (aw W W PG W)<|dR [3,2,0,2,1,2,79] W<|Mu (aw W W PG W)<|dR [80] W<|Mu (bH W W W) ?_;rw[aqE];refine dL [] W<|MG [nN 77 0,nN 76 f.lhs.length,nD 75 (.sl (dq f.lhs)),nR 5 (X.A (.pl J a)),nN 16 a,nN 15 ((c.fr J).au.length),nM 14 (bG (X.A (.er J)) (X.ve J) (c.fr J).au.length),nR 0 (X.A .it),nR 1 (X.A (.fr J))] K2 W W<|dC [] W<|Ny (λMJ=> ∃h p bx,cM P n c d u V K2 0 [] h p/\(∀(m:Nat) (k:Nm) (σ:Path×Nat),f.lhs[m]?=some k->c.find J k=some σ->h.cs σ.1 σ.2=2)/\MJ=⟨[nR 5 (X.A (.pl J a)),nN 16 a,nN 15 ((c.fr J).au.length),nM 14 (bG (X.A (.er J)) (X.ve J) (c.fr J).au.length),nR 0 (X.A .it),nR 1 (X.A (.fr J))],bx,p⟩) ?_ ?_
   ·refine dC [3] W<|DC.lp (λo ac=> ∃(m:Nat) (h:aq) (p:Hp) (bx:List (Nat×List M)),ac=⟨[nN 77 m,nN 76 f.lhs.length,nD 75 (.sl (dq f.lhs)),nR 5 (X.A (.pl J a)),nN 16 a,nN 15 ((c.fr J).au.length),nM 14 (bG (X.A (.er J)) (X.ve J) (c.fr J).au.length),nR 0 (X.A .it),nR 1 (X.A (.fr J))],bx,p⟩/\m<=f.lhs.length/\o=f.lhs.length-m/\cM P n c d u V K2 0 [] h p/\ ∀(t:Nat) (k:Nm) (σ:Path×Nat),t<m->f.lhs[t]?=some k->c.find J k=some σ->h.cs σ.1 σ.2=2) f.lhs.length _
     ⟨0,V,K2,_,rfl,by omega,rfl,cM.same D.1.lay D.1.pu,λt k σ hm=>by omega⟩ W ?_
    rintro o s2 ⟨m,h,p,V8,rfl,hm,rfl,i,Ur⟩;refine dC [2] W<|DC.cond W (λU=> ?_) (λU=> ?_);rotate_left
    ·have e:m=f.lhs.length:=by have:=aqA U;omega
     refine DC.exit<|⟨_,⟨h,p,_,i,λt k σ C E=>Ur t k σ (by
      rcases aqh t f.lhs.length with z|z
      ·omega
      ·rw[aqj z]at C;cases C) C E,rfl⟩,cF W W⟩
    have VA:m<f.lhs.length:=by have:=aqv U;omega
    have C:=aqi VA;have Qz:=jZ VA;generalize f.lhs[m]=k at C Qz;obtain⟨σ,nv,E,QU,_⟩:=A.lhs J a f MU l w Pv m k C;have O:=i.2.1.f2 J Z;have VC:=Ud Zs (gM.of i.2.1);have U1:=i.2.2.1;obtain⟨m3,K3,⟨rfl,I,s,Yy⟩,Rm⟩:=hV c.eV h p i.1 (by omega) VC J k σ O E (TO i.1 O E);rw[(i.2.1.A .it trivial).2,(i.2.1.A (.fr J) (by show 1<=V.fs J;omega)).2,Rj,Xq]at Rm;have SD:=Yh s.1.pu Yy (by rw[QU];rfl);refine dO [3,2,83] W<|Mu (aK W W W (aqe m) Qz W)<|dR [2,88] W<|Mu (ap Rm W W)<|dR [2,89] W<|Mu (ax W W W (by omega))<|dL [] W<|bE (k':=f.lhs.length-(m+1)) (by omega) ⟨m+1,I,K3,_,rfl,by omega,rfl,i.trans s,λt x' MZ OD NK PH=> ?_⟩ W W;rcases aq0.1 OD with g|g
    ·exact s.2.1.c2 _ _ (Ur t x' MZ g NK PH)
    ·subst g;rw[C]at NK;injection NK with NK;subst NK
     rw[E]at PH;injection PH with PH;subst PH
     exact SD
   rintro _ ⟨h,p,V8,i,Ur,rfl⟩;have PO:=N3.trans (gM.of i.2.1);have O:=i.2.1.f2 J Z;have VC:=Ud Zs (gM.of i.2.1);have U1:=i.2.2.1;have Tm:h.lv=Y.lv:=by rw[i.2.1.lv,D.2.1.lv]
   have S_:=((i.2.1.A .it trivial).2).trans Rj;have Uc:=((i.2.1.A (.fr J) (by show 1<=V.fs J;omega)).2).trans Xq;have Xk:=((i.2.1.A (.pl J a) ⟨Z,Q⟩).2).trans Wz;have Yi:=i.1.lay.frame O;rw[Uc]at Yi;obtain⟨ob,R6,es,rfl,TS,P7,_⟩:=i.1.lay.ob (.am J) (by show 1<=h.fs J;omega);have P7:=P7 O a Q;rw[Xk]at P7;have Wy:h.fs (a::J)=0:=by
    rcases aqJ (h.fs (a::J))with e|e
    ·exact e
    ·exact(zm (.inr w) [] (i.1.pu.fp a J (by omega)).2).elim
   have M5: ∀(L:aq) (L':Hp),cL P n c d u L L'->gM c h p L L'->L.fs J=2-> ∀o v,(c.fr J).vars[o]?=some v->jB (c.fr J) o v a->(c.val J o).isSome=true->L.cs J o=2:=by
    intro L L' Xh R5 Fr o v hv hE Rc;by_cases e:J= []->d.ins.length<=o
    ·obtain⟨_,q,h3⟩:=vL F A Xh Fr l (.inr w) hv hE Rc e;obtain⟨t,OD⟩:=aqG.1 h3;exact R5.e.c2 _ _ (Ur t v.name (J,o) OD q)
    ·exact i9 L L' Xh o e
   cases RR:h.dn J a with
   |true=>
    have FS:h.cs (a::J) 0=3:=by
     rcases i.1.pu.g0 J a f l w with⟨_,e⟩|e|⟨e,_⟩
     ·rw[RR]at e;cases e
     ·have:=VC.c1 _ _ e;omega
     ·exact e
    have Th:h.nz J a=some (.ref (X.A (.fr J)) 0):=by unfold aq.nz;rw[aqo (by omega),aqy ⟨RR,FS⟩,Uc]
    rw[Th]at P7;obtain⟨n1,n2,n3,n4⟩:=next h p i.1 PO (by omega) (λσ j x=> .inl (by rw[<-Tm];exact x))
     ⟨λ_=>⟨(i.1.pu.s3 J a O RR).2,λ_=>RR⟩,λe=>by omega,M5 h p i.1 (gM.of (a_.refl ..)) O⟩ (λτ y=>(zm (.inr w) τ y).elim)
    refine dO [2,93] W<|Mu (aw W W Yi W)<|dR [95] W<|Mu (oI W W W W W R6 TS) ?_;rw[P7];refine dR [96] W<|Mu (lG (by kernel_rfl) W W W W W)<|dR [0,2,101] W<|Mu (ax W W W (by omega))<|dL [] W<|bE (k':=(c.fr J).au.length-(a+1)) (by omega) ⟨a+1,h,p,_,rfl,by omega,rfl,i.1,n1,n2,n3,n4⟩ W W
   |false=>
    have GT:h.cs (a::J) 0=0:=by
     rcases i.1.pu.g0 J a f l w with⟨e,_⟩|e|⟨_,e⟩
     ·exact e
     ·have:=VC.c1 _ _ e;omega
     ·rw[RR]at e;cases e
    have Th:h.nz J a=none:=by unfold aq.nz;rw[aqo (by omega),aqo (by rw[RR];simp)]
    rw[Th]at P7;obtain⟨m4,K4,⟨Y4,d8,XY,Ms,mt,_⟩,Um⟩:=ss F NG A Wp (hV (c.ek J a)) h p i.1 (by omega) J a f O l w W Pv RR GT (VC.down (by omega)) (λ_=>False) (λk C τ y e=>by
     obtain⟨t,OD⟩:=aqG.1 C;have:=Ur t k τ OD y;omega)
    rw[S_,Uc,Xk]at Um;have pm:=gM.of XY;have qr:=XY.f2 J O;obtain⟨n1,n2,n3,n4⟩:=next Y4 K4 d8 (PO.trans pm) (by omega) (λσ j x=> .inl (by rw[<-Tm,<-XY.lv];exact x))
     ⟨λ_=>⟨(d8.pu.s3 J a qr mt).2,λ_=>mt⟩,λe=>by omega,M5 Y4 K4 d8 pm qr⟩ (λτ y=>(zm (.inr w) τ y).elim)
    refine dO [2,93] W<|Mu (aw W W Yi W)<|dR [95] W<|Mu (oI W W W W W R6 TS) ?_;rw[P7];refine dR [96] W<|Mu (lG (by kernel_rfl) W W W W W)<|dR [1,2,100] W<|Mu (ap Um W W)<|dR [2,101] W<|Mu (ax W W W (by omega))<|dL [] W<|bE (k':=(c.fr J).au.length-(a+1)) (by omega) ⟨a+1,Y4,K4,_,rfl,by omega,rfl,d8,n1,n2,n3,n4⟩ W W
  ·obtain⟨B,ha⟩: ∃B,uE c J a f co B:=by
    cases TP with
    |df Nw=>omega
    |call Nw=>omega
    |sw Nw he B ha=>exact⟨B,ha⟩
    |aL Nw M3 ac a0 hs h0 Mr hu ht B ha=>exact⟨B,ha⟩
    |reset Nw he B ha=>exact⟨B,ha⟩
   have Id:SizeOf.sizeOf (c.fr (a::J)).au<=N:=by
    have g:=ay.Jn (aqk ha.ha);have q:SizeOf.sizeOf B.cp.au<SizeOf.sizeOf B.cp:=by cases B.cp;simp[aW.au];omega
    rw[ha.fr];show SizeOf.sizeOf B.cp.au<=N;omega
   have SO:(f.kd==1)=false:=by rcases w with e|e|e<;>rw[e]<;>rfl
   have Om:(f.kd==2)=false:=by rcases w with e|e|e<;>rw[e]<;>rfl
   obtain⟨m3,K3,⟨I,rfl,s,Wk⟩,Nz⟩:=Ae F NG A (hV (c.ek J a)) V K2 D.1 (by omega) J a f Z l w W (λe=>by have:=Zs.f1 a J e;omega) (Zs.down (by omega));rw[Rj,Xq,Wz]at Nz;have f8:=gM.of s.2.1;have Xj:=Ud Zs f8;have Yj:=s.2.1.f2 J Z;have TM:=s.2.2.1;have rg:=((s.2.1.A .it trivial).2).trans Rj;have UX:K3[X.A (.pl J a)]?=some (.box (dr f co)):=by
    obtain⟨p',M3,Q3⟩:=s.1.lay.fe Yj l;rw[S]at M3;injection M3 with M3
    subst M3;rw[((s.2.1.A (.pl J a) ⟨Z,Q⟩).2).trans Wz]at Q3;exact Q3
   have Pp:=uM f f7.2.2.2.1 (λB ha=>(f7.2.2.2.2.1 B ha).1) f7.2.2.2.2.2.2;rw[f.aA,f.ex.aA]at Pp;have Oc:=mq f;unfold dr at PG;refine dO [2,33] W<|Mu (aw W W PG W)<|dR [3,2,62] W<|Mu (aN SO W W W W)<|dR [0,2,74] W<|Mu (aN Om W W W W)<|dR [0,2,37] W<|Mu (ap Nz W W)<|dR [2,41] W<|Mu (jV W W UX W W)<|dR [42] W<|Mu (aJ Pp W W)<|dR [43] W<|Mu (bH W W W) ?_;rw[aqE];refine dL [] W<|MG [nN 40 0,nN 39 ((b_ f).length),nD 38 (.sl (dq (b_ f))),nR 8 (I.A (.fr (a::J))),nR 5 (X.A (.pl J a)),nN 16 a,nN 15 ((c.fr J).au.length),nM 14 (bG (X.A (.er J)) (X.ve J) (c.fr J).au.length),nR 0 (X.A .it),nR 1 (X.A (.fr J))] K3 W W<|dC [] W<|Ny (λMJ=> ∃h p bx,cM P n c d u I K3 0 [] h p/\(∀(m:Nat) (k:Nm) (σ:Path×Nat),(b_ f)[m]?=some k->c.find J k=some σ->h.cs σ.1 σ.2=2\/h.cs σ.1 σ.2=3)/\MJ=⟨[nR 8 (I.A (.fr (a::J))),nR 5 (X.A (.pl J a)),nN 16 a,nN 15 ((c.fr J).au.length),nM 14 (bG (X.A (.er J)) (X.ve J) (c.fr J).au.length),nR 0 (X.A .it),nR 1 (X.A (.fr J))],bx,p⟩) ?_ ?_
   ·refine dC [3] W<|DC.lp (λo ac=> ∃(m:Nat) (h:aq) (p:Hp) (bx:List (Nat×List M)),ac=⟨[nN 40 m,nN 39 ((b_ f).length),nD 38 (.sl (dq (b_ f))),nR 8 (I.A (.fr (a::J))),nR 5 (X.A (.pl J a)),nN 16 a,nN 15 ((c.fr J).au.length),nM 14 (bG (X.A (.er J)) (X.ve J) (c.fr J).au.length),nR 0 (X.A .it),nR 1 (X.A (.fr J))],bx,p⟩/\m<=(b_ f).length/\o=(b_ f).length-m/\cM P n c d u I K3 0 [] h p/\ ∀(t:Nat) (k:Nm) (σ:Path×Nat),t<m->(b_ f)[t]?=some k->c.find J k=some σ->h.cs σ.1 σ.2=2\/h.cs σ.1 σ.2=3) (b_ f).length _
     ⟨0,I,K3,_,rfl,by omega,rfl,cM.same s.1.lay s.1.pu,λt k σ hm=>by omega⟩ W ?_
    rintro o s2 ⟨m,h,p,V8,rfl,hm,rfl,i,Ur⟩;refine dC [2] W<|DC.cond W (λU=> ?_) (λU=> ?_);rotate_left
    ·have e:m=(b_ f).length:=by have:=aqA U;omega
     refine DC.exit<|⟨_,⟨h,p,_,i,λt k σ C E=>Ur t k σ (by
      rcases aqh t (b_ f).length with z|z
      ·omega
      ·rw[aqj z]at C;cases C) C E,rfl⟩,cF W W⟩
    have VA:m<(b_ f).length:=by have:=aqv U;omega
    have C:=aqi VA;have Qz:=jZ VA;have Qw:=aqz VA;generalize (b_ f)[m]=k at C Qz Qw;obtain⟨σ,E⟩:=A.KQ J a f MU l k Qw;have O:=i.2.1.f2 J Yj;have VC:=Ud Xj (gM.of i.2.1);have U1:=i.2.2.1;obtain⟨m4,K4,⟨rfl,Y4,f9,In⟩,Rm⟩:=hV c.eV h p i.1 (by omega) VC J k σ O E (TO i.1 O E);rw[(i.2.1.A .it trivial).2,(i.2.1.A (.fr J) (by show 1<=I.fs J;omega)).2,rg,((s.2.1.A (.fr J) (by show 1<=V.fs J;omega)).2).trans Xq]at Rm;refine dO [3,2,46] W<|Mu (aK W W W (aqe m) Qz W)<|dR [2,51] W<|Mu (ap Rm W W)<|dR [2,52] W<|Mu (ax W W W (by omega))<|dL [] W<|bE (k':=(b_ f).length-(m+1)) (by omega) ⟨m+1,Y4,K4,_,rfl,by omega,rfl,i.trans f9,λt x' MZ OD NK PH=> ?_⟩ W W;rcases aq0.1 OD with g|g
    ·rcases Ur t x' MZ g NK PH with q|q
     ·exact .inl (f9.2.1.c2 _ _ q)
     ·exact .inr (f9.2.1.c3 _ _ q)
    ·subst g;rw[C]at NK;injection NK with NK;subst NK
     rw[E]at PH;injection PH with PH;subst PH
     exact In
   rintro _ ⟨h,p,V8,i,Ur,rfl⟩;have gc:=gM.of i.2.1;have O:=i.2.1.f2 J Yj;have rt:=i.2.1.f2 _ Wk;have VC:=Ud Xj gc;have U1:=i.2.2.1;have Tm:h.lv=Y.lv:=by rw[i.2.1.lv,s.2.1.lv,D.2.1.lv]
   have S_:=((i.2.1.A .it trivial).2).trans rg;have rx:=(i.2.1.A (.fr (a::J)) (by show 1<=I.fs (a::J);omega)).2;obtain⟨m5,K5,⟨Y5,QV⟩,Wj⟩:=t8 (a::J) Id h p i.1 (by omega) VC rt (λτ j=>by rw[Tm];exact Fd τ j);rw[S_,rx]at Wj;have Vz:=QV.ext;have t1:=Vz.e.f2 J O;have t2:=Vz.e.f2 _ rt;have Mw:=QV.t;have IO:Y5.lv J a=false:=by
    cases e:Y5.lv J a with
    |false=>rfl
    |true=>
     rcases QV.KY _ _ e with g|⟨τ,g⟩
     ·rw[Tm,Fn]at g;cases g
     ·exact absurd g.symm Bw
   have ge: ∀r,X.live c r->Y5.A r=X.A r:=by
    have q:=NF.trans (((N3.trans f8).trans gc).trans Vz);intro r hr;exact(q.e.A r (by cases r<;>exact hr)).2
   have t3:=ge .it trivial;have t4:=ge (.pl J a) ⟨hf,Q⟩;have t5: ∀(L:aq) (L':Hp),cL P n c d u L L'->gM c Y5 K5 L L'->(f.kd=4->L.lv J a=true)->CJ c L J a f:=by
    intro L L' Xh R5 LE;refine⟨λ_=>⟨λt7 hw=>Xh.pu.s4 J a (R5.e.f2 _ t2) t7 hw,λe=>by omega⟩,LE,λo v hv hE Rc=> ?_⟩;obtain⟨OJ,⟨q',G,Qj⟩,_⟩:=hE;rw[l]at G;injection G with G
    subst G;obtain⟨t,OD⟩:=aqG.1 Qj;have g:=Ur t v.name (J,o) OD (vK OJ);have q:L.cs J o=2\/L.cs J o=3:=by
     rcases g with g|g
     ·exact .inl (R5.e.c2 _ _ (Vz.e.c2 _ _ g))
     ·exact .inr (R5.e.c3 _ _ (Vz.e.c3 _ _ g))
    exact Yh (σ:=(J,o)) Xh.pu q Rc
   have t6:=((N3.trans f8).trans gc).trans Vz;refine dO [2,55] W<|Mu (ap Wj W W)<|dL [] W ?_;rcases(show f.kd=4\/(f.kd=3\/f.kd=5) by omega)with SG|LT
   ·obtain⟨m6,K6,⟨Y6,Yk,d6,Mx⟩,N9⟩:=GK F A (hV c.eV) QV.inst (by omega) (Ud VC Vz) t1 t2 l SG S IO;rw[t3,ge (.fr J) (by show 1<=X.fs J;omega),t4,((Vz.e.A (.fr (a::J)) (by show 1<=h.fs (a::J);omega)).2).trans rx]at N9;have U':=gM.KX d6;obtain⟨n1,n2,n3,n4⟩:=next Y6 K6 Yk (t6.trans U') (by omega) (λσ j x=>by
      rw[d6.lv]at x;by_cases e:(σ,j)=(J,a)
      ·injection e with e1 e2;exact .inr (.inl ⟨e1,e2⟩)
      ·have NB:Y5.lv σ j=true:=by
        have:(Y5.jv J a).lv σ j=Y5.lv σ j:=aqo e;rw[this]at x;exact x
       rcases QV.KY σ j NB with g|g
       ·rw[Tm]at g;exact .inl g
       ·exact .inr (.inr g)) (t5 Y6 K6 Yk U' (λ_=>by rw[d6.lv];exact aqy W)) (λτ y=>(QV.done τ y).up U')
    refine dO [2,60] W<|Mu (ap N9 W W)<|dR [2,101] W<|Mu (ax W W W (by omega))<|dL [] W<|bE (k':=(c.fr J).au.length-(a+1)) (by omega) ⟨a+1,Y6,K6,_,rfl,by omega,rfl,Yk,n1,n2,n3,n4⟩ W W
   ·obtain⟨m6,K6,⟨Yk,d6⟩,N9⟩:=Ed F QV.inst t1 l LT (.ref (X.A (.fr J)) 0) (.ref (I.A (.fr (a::J))) 0);rw[t3,t4]at N9;have U':=gM.of d6;obtain⟨n1,n2,n3,n4⟩:=next Y5 K6 Yk (t6.trans U') (by omega) (λσ j x=>by
      rcases QV.KY σ j x with g|g
      ·rw[Tm]at g;exact .inl g
      ·exact .inr (.inr g)) (t5 Y5 K6 Yk U' (λe=>by omega)) (λτ y=>(QV.done τ y).up U')
    refine dO [2,60] W<|Mu (ap N9 W W)<|dR [2,101] W<|Mu (ax W W W (by omega))<|dL [] W<|bE (k':=(c.fr J).au.length-(a+1)) (by omega) ⟨a+1,Y5,K6,_,rfl,by omega,rfl,Yk,n1,n2,n3,n4⟩ W W
end
end Go.Proofs.Sz
namespace Go.Mt
section
variable{X:bD}{ops:Array Oper}{rest:List Oper}{sl:List (Nat×V)}{bx:List (Nat×List M)}{H:Hp}{M6:List Ef->St->Prop}{d ty:Nat}{pos:String}{af:Array Edge}
theorem Ah{T:Nat}{parts:List (Nat×Operand)}{ps:List (Nat×Nat)}{z:List D}{a:List M}{ms:List (Nat×M)}{cs:List M}[ht:jS X.P T ps z](f:Nat.blt d X.n=true)(h:gH sl parts=some ms)(i:tf z=some a)
  (hf:tE ps a ms=some cs) (j:j9 cs=none) (k:TF X ops rest ⟨(d,.m (.agg cs))::sl,bx,H⟩ λl m=>M6 (⟨some d,.m (.agg cs),[],[],none,false,none⟩::l) m):TF X ops (⟨some d,.build T parts.toArray,ty,pos,af,none⟩::rest) ⟨sl,bx,H⟩ M6:=by
 refine TF.cons (e:=⟨some d,.m (.agg cs),[],[],none,false,none⟩) (M2 W W (bL f) λn o=> ?_) W k;have b:=vk (X:=X) (st:=n) (dst:=some d) (ty:=ty) (pos:=pos) (af:=af) (g:=none) (T:=T) (parts:=parts) (by
  rw[o.dU (λc p=>by simp[Op.operands];exact⟨c.1,p⟩),hJ];exact h) (by rw[<-pX i];exact sW hf)
 have:pack cs= .agg cs:=by simp[pack,j]
 rw[this]at b;exact b
end
end Go.Mt
namespace Go.Proofs.Sz
open Go.Mt Go.Sm Go.Proofs
section
variable{P:Pg}{n:Nat}{c:aH}{d:Nd}{u:US}{X Y Z:aq}{H K L:Hp}
def yj:Bj->Ro
 | .un=> .un| .me=> .me| .pe=> .pe| .su=> .su| .sb k=> .sb k
def Mn(l iu im ip iY:Nat):Ro->Nat
 | .it=>l| .un=>iu| .me=>im| .pe=>ip| .su=>iY| .fr _=>l+3| .am _=>l+1| .tk _=>l+2|_=>0
def sx(own:Nat->Option Bj)(l a:Nat):Option Ro:=if a=l then some .it else if a=l+1 then some (.am [])else if a=l+2 then some (.tk [])else if a=l+3 then some (.fr [])else(own a).map yj
def x0(own:Nat->Option Bj)(iu im ip iY:Nat)(ad:Nat->Nat)(u:US)(l ni:Nat):aq:=
 {
  A:=Mn l iu im ip iY,own:=sx own l,cs:= λJ k=>if J= []/\k<ni then 2 else 0,fs:= λJ=>if J= []then 1 else 0,dn:= λ_ _=>false,lv:= λ_ _=>false,N:=[],F:=[],fi:=0,vN:=0,vF:=0,vc:= λ_=>0,ve:= λ_=>0,x:=⟨u.mem,u.cu,u.aj⟩,ad:=ad,ph:= λ_ _=>False}
abbrev vM(iu:Nat)(eV:M):List M:=[.ref iu 0,eV,.d (.bool false),.d (.sl []),.d (.sl [])]
abbrev iD(H:Hp)(iu:Nat)(eV:M):Hp:=(((H++ [Ob.box (vM iu eV)])++ [Ob.map []])++ [Ob.map []])++ [Ob.box [.d .bQ,.d (.sl []),.d (.sl []),.mp (H.length+1),.mp (H.length+2)]]
theorem qZ(H:Hp)(iu:Nat)(a:M):(iD H iu a).length=H.length+4:=by simp
theorem q9{H:Hp}{iu:Nat}{b:M}{a:Nat}(h:a<H.length):(iD H iu b)[a]?=H[a]?:=by grind
theorem Ai(H:Hp)(iu:Nat)(a:M):(iD H iu a)[H.length]?=some (.box (vM iu a)):=by grind
theorem GW(H:Hp)(iu:Nat)(a:M):(iD H iu a)[H.length+1]?=some (.map []):=by grind
theorem GX(H:Hp)(iu:Nat)(a:M):(iD H iu a)[H.length+2]?=some (.map []):=by grind
theorem Aj(H:Hp)(iu:Nat)(a:M):(iD H iu a)[H.length+3]?=some (.box [.d .bQ,.d (.sl []),.d (.sl []),.mp (H.length+1),.mp (H.length+2)]):=by grind
theorem Ee(H:Hp)(iu:Nat)(t a:M):(iD H iu t).set H.length (.box (vM iu a))=iD H iu a:=by grind
theorem Ij{r r':Bj}(h:yj r=yj r'):r=r':=by cases r<;>cases r'<;>simp[yj]at h⊢ <;>exact h
theorem cx.start{j:Nat->Option Bj}{iu p q r:Nat}{ad:Nat->Nat}(y:Nat)(v: ∀g,j g≠none->g<H.length)(s:j iu=some .un/\j p=some .me/\j q=some .pe/\j r=some .su)
  (z:H[iu]?=some (.box (oP P d p q r))) (A:H[p]?=some (.row false 1 0 (bz (bW d) (io u.mem)))) (B:H[q]?=some (.row false 1 0 (bz (bW d) (ju u.cu)))) (C:H[r]?=some (.row false 1 0 (bz (bW d) (eG u.aj ad))))
  (D: ∀i,i<bW d-> ∀m,u.aj i=some m->iq P n m (ad i) (λg=>j g=some (.sb i)) H):
  cx P n c d (x0 j iu p q r ad u H.length y) (iD H iu (.ref (H.length+3) 0)):=by
 have o: ∀g k,j g=some k->sx j H.length g=some (yj k):= λg k f=>by
  have:=v g (by rw[f];simp);unfold sx;rw[aqo (by omega),aqo (by omega),aqo (by omega),aqo (by omega),f];rfl
 have E: ∀g i,sx j H.length g=some (.sb i)↔j g=some (.sb i):= λg i=>by
  constructor
  ·intro f;unfold sx at f;split at f
   ·cases f
   ·split at f
    ·cases f
    ·split at f
     ·cases f
     ·split at f
      ·cases f
      ·cases e:j g with
       |none=>rw[e]at f;cases f
       |some k=>
             rw[e]at f;injection f with f;have:yj k=yj (.sb i):=f
             rw[Ij this]
  ·intro f;exact o g _ f
 have t: ∀{g ob},H[g]?=some ob->(iD H iu (.ref (H.length+3) 0))[g]?=some ob:= λ{g ob} f=>(q9 (lr f)).trans f
 refine⟨λk h=> ?_,λg k f=> ?_,λk h=> ?_,λi F m G=> ?_,λx w=>(by cases w),λx w=>(by cases w)⟩
 ·cases k with
  |it=>show sx j H.length H.length=_;unfold sx;rw[aqy W]
  |un=>exact o _ _ s.1
  |me=>exact o _ _ s.2.1
  |pe=>exact o _ _ s.2.2.1
  |su=>exact o _ _ s.2.2.2
  |nx=>exact absurd W h
  |af=>exact absurd W h
  |fr b=>
   have e:=aq6 λe=>by have a:1<=(if b= []then 1 else 0):=h;rw[aqo e]at a;omega
   subst e;show sx j H.length (H.length+3)=_;unfold sx;rw[aqo (by omega),aqo (by omega),aqo (by omega),aqy W]
  |am b=>
   have e:=aq6 λe=>by have a:1<=(if b= []then 1 else 0):=h;rw[aqo e]at a;omega
   subst e;show sx j H.length (H.length+1)=_;unfold sx;rw[aqo (by omega),aqy W]
  |tk b=>
   have e:=aq6 λe=>by have a:1<=(if b= []then 1 else 0):=h;rw[aqo e]at a;omega
   subst e;show sx j H.length (H.length+2)=_;unfold sx;rw[aqo (by omega),aqo (by omega),aqy W]
  |cr b=>
       have a:(if b= []then 1 else 0)=2:=h.1;split at a<;>cases a
  |er b=>
       have a:(if b= []then 1 else 0)=2:=h.1;split at a<;>cases a
  |ce b i=>
        have a:(if b= []then 1 else 0)=2:=h.1;split at a<;>cases a
  |pl b i=>
        have a:(if b= []then 1 else 0)=2:=h.1;split at a<;>cases a
  |sb i=>exact h.elim
 ·rw[qZ];have l:sx j H.length g=some k:=f;unfold sx at l;split at l
  ·omega
  ·split at l
   ·omega
   ·split at l
    ·omega
    ·split at l
     ·omega
     ·have:=v g (by intro e;rw[e]at l;cases l);omega
 ·cases k with
  |it=>exact⟨_,Ai _ _ _,rfl⟩
  |un=>exact⟨_,t z,rfl⟩
  |me=>exact⟨_,t A,rfl⟩
  |pe=>exact⟨_,t B,rfl⟩
  |su=>exact⟨_,t C,rfl⟩
  |nx=>exact absurd W h
  |af=>exact absurd W h
  |fr b=>
   have e:b= []:=aq6 λe=>by have a:1<=(if b= []then 1 else 0):=h;rw[aqo e]at a;omega
   subst e;exact⟨_,Aj _ _ _,rfl⟩
  |am b=>
   have e:b= []:=aq6 λe=>by have a:1<=(if b= []then 1 else 0):=h;rw[aqo e]at a;omega
   subst e;exact⟨_,GW _ _ _,[],rfl,rfl,λ(f:(1:Nat)=2)=>absurd f (by decide),λ_=>rfl⟩
  |tk b=>
   have e:b= []:=aq6 λe=>by have a:1<=(if b= []then 1 else 0):=h;rw[aqo e]at a;omega
   subst e;exact⟨_,GX _ _ _,[],rfl,rfl,λ(f:(1:Nat)=2)=>absurd f (by decide)⟩
  |cr b=>
       have a:(if b= []then 1 else 0)=2:=h.1;split at a<;>cases a
  |er b=>
       have a:(if b= []then 1 else 0)=2:=h.1;split at a<;>cases a
  |ce b i=>
        have a:(if b= []then 1 else 0)=2:=h.1;split at a<;>cases a
  |pl b i=>
        have a:(if b= []then 1 else 0)=2:=h.1;split at a<;>cases a
  |sb i=>exact h.elim
 ·have I:u.aj i=some m:=G;exact((D i F m I).frame (λg J=>q9 (v g (by rw[J];simp))) (by rw[qZ];omega)).congr λg=>(E g i).symm
theorem Pu.start{ins outs:List Int}{u':US}(i:gX P (fT P n) c d u ins outs u')(r:X.x=⟨u.mem,u.cu,u.aj⟩)(hf: ∀h,X.fs h=if h= []then 2 else 0)(m: ∀a e,X.cs a e=if a= []/\e<ins.length then 2 else 0)(j: ∀a f,X.dn a f=false)(w: ∀a f,X.lv a f=false)(x:X.N= [])(y:X.F= [])(hi:X.fi=0):Pu P c d u X:=by
 have f0: ∀f a,X.fs (f::a)=0:= λf a=>by rw[hf,aqo (by simp)]
 have s: ∀e,¬X.ER c e:=by rintro e ⟨a,f,p,q,C,b,_⟩;rw[f0]at b;cases b
 have B: ∀e a f,¬X.DC c e a f:=by rintro e a f ⟨_,b,_⟩;rw[j]at b;cases b
 have l: ∀a e,X.cs a e=2/\a= []/\e<ins.length\/X.cs a e=0:= λa e=>by
  rw[m];split
  ·rename_i b;exact .inl ⟨rfl,b⟩
  ·exact .inr W
 have z: ∀a e,zB (X.cs a e)=true->a= []/\e<ins.length:= λa e b=>by
  rcases l a e with g|g
  ·exact g.2
  ·rw[g]at b;cases b
 refine{f0:=by rw[hf,aqy W],fp:= λf a b=>absurd (f0 f a) b,f2:= λa=>by rw[hf];split<;>omega,c6:= λa e=>by rw[m];split<;>omega,ci:= λe o=>by rw[m,aqy ⟨rfl,by rw[i.uF];exact o⟩],cv:= λa e b=> ?_,ca:= λa e b=> ?_,xm:= λe _=>⟨λb=>absurd b (s e),λ_=>(by rw[r])⟩,xp:= λe _=>⟨λb=>absurd b (s e),λ_=>(by rw[r])⟩,xd:= λe _ a f b=>absurd b (B e a f),xs:= λe _ _=>⟨λb=>absurd b (s e),λ_=>(by rw[r])⟩,s1:= λa e q v _ b t=> ?_,s2:= λh D v E F p _ b t=> ?_,s3:= λa f _ b=>(by rw[j]at b;cases b),s4:= λa f b=>(by rw[f0]at b;cases b),s5:= λa f b=>(by rw[w]at b;cases b),dl:= λa f p _ b=>(by rw[j]at b;cases b),nk:= λq k=>(by rw[x]at k;cases k),fk:= λq k=>(by rw[y]at k;cases k),fl:=by rw[hi];omega,fn:=by rw[hi];omega,g0:= λa f p _ _=> .inl ⟨by rw[m,aqo (by simp)],j a f⟩,dz:= λa f b=>(by rw[j]at b;cases b),cz:= λa e b=> ?_}
 ·obtain⟨rfl,o⟩:=z a e b;have A:e<d.ins.length:=by rw[<-i.uF];exact o
  rw[(i.Cp e _ _ (aqi A) (aqi o)).1];rfl
 ·rcases l a e with g|g
  ·omega
  ·omega
 ·rcases l a e with g|g
  ·have:=t g.2.1;have:=i.uF;omega
  ·omega
 ·rcases l h.1 h.2 with g|g
  ·have:=t g.2.1;have:=i.uF;omega
  ·omega
 ·rcases l a e with g|g
  ·obtain⟨_,rfl,_⟩:=g;exact .inl (by rw[hf,aqy W])
  ·exact absurd g b
def Ro.unit:Ro->Option Bj
 | .un=>some .un| .me=>some .me| .pe=>some .pe| .su=>some .su| .sb k=>some (.sb k)|_=>none
theorem unit_eq{r:Ro}{s:Bj}(h:r.unit=some s):r=yj s:=by cases r<;>cases s<;>simp[Ro.unit,yj]at h⊢ <;>exact h
theorem Ik(s:Bj):(yj s).unit=some s:=by cases s<;>rfl
theorem cx.LX(h:cx P n c d X K){u':US}(m:P.nodes[u'.i]?=some d)(o: ∀b,b<bW d->X.x.m b=u'.mem b)(p: ∀b,b<bW d->X.x.p b=u'.cu b)(q: ∀b,b<bW d->X.x.s b=u'.aj b):
  iq P (n+1) u' (X.A .un) (λa=>(X.own a).bind Ro.unit≠none) K:=by
 have i: ∀a j,(X.own a).bind Ro.unit=some j↔X.own a=some (yj j):= λa j=>by
  cases e:X.own a with
  |none=>simp
  |some l=>
   constructor
   ·intro g;have r:=g;rw[unit_eq r]
   ·intro g;injection g with g;subst g;exact Ik j
 refine⟨d,λa=>(X.own a).bind Ro.unit,X.A .me,X.A .pe,X.A .su,X.ad,m,λa=>ari,λa k=> ?_,⟨(i _ _).2 (h.own .un trivial),(i _ _).2 (h.own .me trivial),(i _ _).2 (h.own .pe trivial),(i _ _).2 (h.own .su trivial)⟩,h.unit,?_,?_,?_,λb f s t=> ?_⟩
 ·have k:(X.own a).bind Ro.unit≠none:=k;cases e:X.own a with
  |none=>rw[e]at k;exact absurd W k
  |some l=>exact h.lt a l e
 ·rw[h.mem,pK (λb f=>by show io X.x.m b=io u'.mem b;unfold io;rw[o b f])]
 ·rw[h.cu,pK (λb f=>by show ju X.x.p b=ju u'.cu b;unfold ju;rw[p b f])]
 ·rw[h.aj,pK (λb f=>by show eG X.x.s X.ad b=eG u'.aj X.ad b;unfold eG;rw[q b f])]
 ·exact(h.sub b f s (by grind)).congr λa=>((i a (.sb b)).symm)
theorem lQ.Il{J:Path}(h:lQ J X H Y K){r:Ro}(i: ¬r.qj J)(k:r≠ .fr J){a:Nat}(j:X.own a=some r)(d:a<H.length)(ob:Ob):lQ J X (H.set a ob) Y (K.set a ob):=by
 refine⟨h.eq,by simpa using h.len,h.A,h.v,λb c=>h.own b (by grind),λb f c=>by simpa using h.new b f c,λb c g=> ?_⟩;by_cases e:b=a
 ·subst e;rw[aqZ d,aqZ (ard d h.len)]
 ·rw[aqn (aq7 e),aqn (aq7 e)];exact h.gU b (by grind) g
theorem Fl.Il{g:zj}{st z:Nat->Int}{up:M}{J:Path}{k e:Nat}{p:Nat->Nm->Prop}(h:Fl g st z up X J k e p H){r:Ro}(l: ¬r.qj J)(x:r≠ .fr J){a:Nat}(y:X.own a=some r)(ob:Ob):Fl g st z up X J k e p (H.set a ob):=by
 have f: ∀{c},X.own (X.A c)=some c->c≠r->(H.set a ob)[X.A c]?=H[X.A c]?:= λ{c} A B=>aqn (by grind)
 refine{h with lt:= λb c t=>by simpa using h.lt b c t,fr:=(f h.kE (aq7 x)).trans h.fr,cr:= λi=>(f (h.mr i) (by rintro rfl;exact l W)).trans (h.cr i),er:= λi=>(f (h.mZ i) (by rintro rfl;exact l W)).trans (h.er i),ce:= λd j=> ?_,pl:= λd j=> ?_}
 ·obtain⟨v,u,eq,m,n,o,w⟩:=h.ce d j;exact⟨v,u,eq,m,n,(f (h.nA d j) (by rintro rfl;exact l W)).trans o,w⟩
 ·obtain⟨q,s,m,n,o⟩:=h.pl d j;exact⟨q,s,m,n,(f (h.nB d j) (by rintro rfl;exact l W)).trans o⟩
end
section
variable{P:Pg}{n:Nat}{c:aH}{d:Nd}{u:US}{X Y Z:aq}{H K L:Hp}
def NI.kn(c:aH):NI->Prop
 | .cell _ σ=>(c.val σ.1 σ.2).isSome=true
 |_=>True
def NI.wp(c:aH):NI->Nat->Bool->Prop
 | .aL J j,k,b=>(c.fr J).pos[j]?=some k/\b=c.nan J j
 |_,_,_=>False
theorem Fm(X:aq)(a:NI): ∃m p,X.qX c a= {X with x:=⟨m,p,X.x.s⟩} :=by
 cases a with
 |cell b d=>simp only[aq.qX];split<;>exact⟨_,_,rfl⟩
 |aL e f=>simp only[aq.qX];split<;>exact⟨_,_,rfl⟩
 |_=>exact⟨_,_,rfl⟩
theorem KZ(X:aq){a:NI}(l:NI.kn c a)(k:Nat):(∃v,NI.wr c a k v/\(X.qX c a).x.m k=v)\/((∀v,¬NI.wr c a k v)/\(X.qX c a).x.m k=X.x.m k):=by
 cases a with
 |cell p i=>
  obtain⟨v,h⟩:=asf.1 l;have m:c.get i=v:=by unfold aH.get;rw[h];rfl
  simp only[aq.qX,NI.wr];split
  ·rename_i d n;by_cases e:k=d
   ·subst e;exact .inl ⟨v,⟨n,h⟩,by simp[aq.jC,bY,m]⟩
   ·exact .inr ⟨λf b=>e (by grind),by simp[aq.jC,bY,e]⟩
  ·grind
 |aL q r=>
  simp only[aq.qX,NI.wr];split
  ·rename_i d o;by_cases e:k=d
   ·subst e;exact .inl ⟨_,⟨o,rfl⟩,by simp[aq.jC,aq.qW,bY]⟩
   ·exact .inr ⟨λf b=>e (by grind),by simp[aq.jC,aq.qW,bY,e]⟩
  ·grind
 |arrow g=>
  simp only[aq.qX,NI.wr];by_cases e:k=g
  ·subst e;exact .inl ⟨0,⟨rfl,rfl⟩,by simp[aq.jC,bY]⟩
  ·exact .inr ⟨λf b=>e b.1,by simp[aq.jC,bY,e]⟩
 |put g j=>
  simp only[aq.qX,NI.wr];by_cases e:k=g
  ·subst e;exact .inl ⟨j,⟨rfl,rfl⟩,by simp[aq.jC,bY]⟩
  ·exact .inr ⟨λf b=>e b.1,by simp[aq.jC,bY,e]⟩
theorem K_(X:aq)(a:NI)(k:Nat):(∃v,NI.wp c a k v/\(X.qX c a).x.p k=v)\/((∀v,¬NI.wp c a k v)/\(X.qX c a).x.p k=X.x.p k):=by
 cases a with
 |cell g h=>exact .inr ⟨λv b=>b,by simp only[aq.qX];split<;>rfl⟩
 |aL i j=>
  simp only[aq.qX,NI.wp];split
  ·rename_i d f;by_cases e:k=d
   ·subst e;exact .inl ⟨_,⟨f,rfl⟩,by simp[aq.qW,bY]⟩
   ·exact .inr ⟨λl b=>e (by grind),by simp[aq.jC,aq.qW,bY,e]⟩
  ·grind
 |_=>exact .inr ⟨λv b=>b,rfl⟩
structure uT(c:aH)(X:aq)(l:List (NI×M))(Y:aq):Prop where
 eq: ∃m p,Y= {X with x:=⟨m,p,X.x.s⟩}
 m: ∀k,(∃p∈l,∃v,NI.wr c p.1 k v/\Y.x.m k=v)\/((∀p∈l,∀v,¬NI.wr c p.1 k v)/\Y.x.m k=X.x.m k)
 p: ∀k,(∃p∈l,∃v,NI.wp c p.1 k v/\Y.x.p k=v)\/((∀p∈l,∀v,¬NI.wp c p.1 k v)/\Y.x.p k=X.x.p k)
theorem uT.nil(c:aH)(X:aq):uT c X [] X:=⟨⟨X.x.m,X.x.p,rfl⟩,λb=> .inr ⟨λd a=>(by cases a),rfl⟩,λb=> .inr ⟨λd a=>(by cases a),rfl⟩⟩
theorem uT.snoc{l:List (NI×M)}{p:NI×M}(h:uT c X l Y)(n:NI.kn c p.1):uT c X (l++ [p]) (Y.qX c p.1):=by
 refine⟨?_,λa=> ?_,λa=> ?_⟩
 ·obtain⟨m,b,rfl⟩:=h.eq;obtain⟨o,q,e⟩:=Fm (c:=c) {X with x:=⟨m,b,X.x.s⟩} p.1;exact⟨o,q,by rw[e]⟩
 ·rcases KZ Y n a with⟨v,i,d⟩|⟨i,d⟩
  ·grind
  ·rcases h.m a with⟨b,j,v,f,g⟩|⟨j,f⟩
   ·grind
   ·refine .inr ⟨λb k v r=> ?_,d.trans f⟩;rcases aql.1 k with g|g
    ·grind
    ·grind
 ·rcases K_ (c:=c) Y p.1 a with⟨v,i,d⟩|⟨i,d⟩
  ·grind
  ·rcases h.p a with⟨b,j,v,f,g⟩|⟨j,f⟩
   ·grind
   ·refine .inr ⟨λb k v r=> ?_,d.trans f⟩;rcases aql.1 k with g|g
    ·grind
    ·grind
structure yk(c:aH)(d:Nd)(X:aq):Prop where
 f: ∀J,c.ok J->X.fs J=2
 n: ∀J j q,c.ok J->(c.fr J).au[j]?=some q->q.kd=2->c.nu J q->X.dn J j=true
 l: ∀J j q,c.ok J->(c.fr J).au[j]?=some q->q.kd=4->X.lv J j=true
 v: ∀J k v,c.ok J->(c.fr J).vars[k]?=some v->(J= []->d.ins.length<=k)->(c.val J k).isSome=true->X.cs J k=2
theorem yk.up(h:yk c d X)(l: ∀a,X.fs a=2->Y.fs a=2)(m: ∀a f,X.dn a f=true->Y.dn a f=true)(lv:Y.lv=X.lv)(n: ∀a i,X.cs a i=2->Y.cs a i=2):yk c d Y:=
 ⟨λa g=>l a (h.f a g),λa f j g b e k=>m a f (h.n a f j g b e k),λa f j g b e=>by rw[lv];exact h.l a f j g b e,λa i v g b e k=>n a i (h.v a i v g b e k)⟩
theorem Im{ins outs:List Int}{u':US}(r:gX P (fT P n) c d u ins outs u')(A:mX P n c d u)(h: ∀l,c.ok (l++ [])->qY c Y (l++ []))(s:cL P n c d u Y K):yk c d Y:=by
 have g: ∀a,c.ok a->qY c Y a:= λa b=>by simp_all
 refine⟨λa b=>(g a b).f,λa e f b i j t=>(((g a b).q e f i).w t).2 j,λa e f b i j=>((g a b).q e f i).l j,λa m v b k w o=> ?_⟩;obtain⟨x,eq,y,_⟩:=s.lay.cell (g a b).f k;obtain⟨q,z⟩:=asf.1 o;obtain⟨e,B,p,_⟩:=(r.cell a m v x b k y w).df q z;obtain⟨_,⟨f,i,_⟩,_⟩:=id p;exact((g a b).q e f i).v m v k p o
theorem Fo{ins outs:List Int}{u':US}(f:gX P (fT P n) c d u ins outs u'){J:Path}{j:Nat}{q:ay}{p:Nat}(g:c.ok J)(h:(c.fr J).au[j]?=some q)(i:(c.fr J).pos[j]?=some p)(o:q.kd=3\/q.kd=4\/q.kd=5): ∃a,uE c J j q p a:=by
 cases (f.eq J j q p g h i).1 with
 |df e=>omega
 |call e=>omega
 |sw e k a b=>exact⟨a,b⟩
 |aL e r l s t v m w x a b=>exact⟨a,b⟩
 |reset e k a b=>exact⟨a,b⟩
theorem GY{ins outs:List Int}{u':US}(f:mX P n c d u)(h:Pu P c d u X){e:NI}(b:NI.ok c d X e){k:Nat}{v:Int}(a:NI.wr c e k v):nU c k v:=by
 cases e with
 |cell r g=>exact .inr (.inl ⟨g.1,g.2,Pu.ok f h b.1,a.1,a.2⟩)
 |aL i j=>
  obtain⟨m,l,s,o,p,w,_⟩:=b;exact .inr (.inr ⟨i,j,l,Pu.ok f h (h.Jv m),o,p,a.1,a.2⟩)
 |arrow q=>obtain⟨rfl,rfl⟩:=a;exact b.2
 |put q t=>obtain⟨rfl,rfl⟩:=a;exact b.2
theorem finish{ins outs:List Int}{u':US}(y:mX P n c d u)(q:gX P (fT P n) c d u ins outs u')(hI:cL P n c d u X H)(s:yk c d X)(Pe:X.F.length<=X.fi)(d6: ∀k v,¬X.ph k v)(Q:uT c X X.N Y){k:Nat}(x:k<bW d):
  Y.x.m k=u'.mem k/\Y.x.p k=u'.cu k/\Y.x.s k=u'.aj k:=by
 have h:=hI.pu;have t:k<c.sz:=by rw[y.zq];exact x
 have co: ∀k v,X.SS c k v-> ∃p∈X.N,NI.wr c p.1 k v:=by
  rintro k v ((i|⟨z,p,g,j,_⟩)|i)
  ·exact i
  ·rcases aqh z X.F.length with r|r
   ·omega
   ·rw[aqj r]at j;cases j
  ·exact absurd i (d6 k v)
 have SZ: ∀{a b f},c.ok a->(c.fr a).au[b]?=some f-> ∃p,(c.fr a).pos[b]?=some p:= λ{a b f} l o=>by obtain⟨p,g,_⟩:=hI.lay.fe (s.f a l) o;exact⟨p,g⟩
 have f7: ∀k v,nU c k v-> ∃p∈X.N,NI.wr c p.1 k v:=by
  rintro k v (⟨a,b,f,l,o,G,w⟩|⟨a,z,l,R,A⟩|⟨a,b,f,l,o,S,K,A⟩)
  ·obtain⟨p,T⟩:=SZ l o;have M:=s.f a l;refine co k v ?_;rcases(show f.kd=1\/f.kd=2\/(f.kd=3\/f.kd=4\/f.kd=5) by
    cases (q.eq a b f p l o T).1 with
    |df i=>omega
    |call i=>omega
    |sw i=>omega
    |aL i=>omega
    |reset i=>omega)with g|g|g
   ·obtain⟨E,N⟩: ∃E,f.lhs= [E]:=by
     cases (q.eq a b f p l o T).1 with
     |df _ E N=>exact⟨E,N⟩
     |call i=>omega
     |sw i=>omega
     |aL i=>omega
     |reset i=>omega
    obtain⟨F,ac,j0,Og,Sk,Pa,SH,S7,I⟩:=q.Jp a b f E l o g N G;have O5:(c.val F.1 F.2).isSome=true:=by
     have:=G (.inl g);rw[N]at this;obtain⟨MZ,j,r⟩:=this;rw[Og]at j;injection j with j;subst j
     exact r
    have Nt:=(si h M Og).1;exact(h.s2 F j0 ac a b f Nt (.inl (s.v F.1 F.2 ac (Pu.ok y h Nt) SH I O5)) I SH Sk (by rw[Pa];exact S7) o).2.1 g (k,v) w
   ·exact(h.s3 a b M (s.n a b f l o g G)).2 (k,v) w
   ·obtain⟨L,U⟩:=Fo q l o T g;exact h.s4 a b (s.f _ U.ok) (k,v) w
  ·obtain⟨v',OP⟩:=y.LP a z _ l R;have I:a= []->d.ins.length<=z:=by rintro rfl;exact y.LQ z k R
   exact co k v (h.s1 a z k v (s.f a l) (s.v a z v' l OP I (by rw[A];rfl)) I R A)
  ·obtain⟨p,d7,d8⟩:=h.s5 a b (s.l a b f l o S);exact⟨p,d7,by rw[d8];exact⟨K,A⟩⟩
 have B:X.ER c k↔fE c k:=by
  constructor
  ·rintro⟨a,b,f,p,L,g,j,r,C,J⟩;exact⟨a,b,f,p,L,(q.iG b a (h.fp b a (by rw[g];decide)).2).1,j,r,C,J⟩
  ·rintro⟨a,b,f,p,L,g,j,r,C,J⟩;obtain⟨a',U⟩:=Fo q g j r C;exact⟨a,b,f,p,L,s.f _ U.ok,j,r,C,J⟩
 have Q8:X.x.m k=c.rd k:=by
  by_cases e:X.ER c k
  ·rw[(h.xm k x).1 e,(q.rd k t).1 (B.1 e)]
  ·rw[(h.xm k x).2 e,(q.rd k t).2 (λi=>e (B.2 i))]
 have Zt:X.x.p k=c.rp k:=by
  by_cases e:X.ER c k/\(iM P.aI d)[k]?=some none
  ·rw[(h.xp k x).1 e.1 e.2,(q.rp k t).1 (B.1 e.1) e.2]
  ·rw[(h.xp k x).2 e,(q.rp k t).2 (λi=>e ⟨B.2 i.1,i.2⟩)]
 obtain⟨m,p,hY⟩:=Q.eq;refine⟨?_,?_,?_⟩
 ·rcases Q.m k with⟨f,o,v,g,j⟩|⟨g,j⟩
  ·rw[j];exact((q.nm k t).1 v (GY (ins:=ins) (outs:=outs) (u':=u') y h (h.nk f o) g)).symm
  ·rw[j,Q8];exact((q.nm k t).2 λv w=>by obtain⟨f,o,r⟩:=f7 k v w;exact g f o v r).symm
 ·rcases Q.p k with⟨f,o,v,g,j⟩|⟨g,j⟩
  ·rw[j];refine((q.np k t).1 v ?_).symm;have V:=h.nk f o
   revert g V
   generalize f.1=ni;intro g V;cases ni with
   |aL a b=>
    obtain⟨M,q',p',MO,Nw,M3,_⟩:=V;exact⟨a,b,q',Pu.ok y h (h.Jv M),MO,Nw,g.1,g.2⟩
   |_=>exact g.elim
  ·rw[j,Zt];refine((q.np k t).2 λv w=> ?_).symm;obtain⟨a,b,f,l,o,S,K,A⟩:=w;obtain⟨e,he,d9⟩:=h.s5 a b (s.l a b f l o S);exact g e he v (by rw[d9];exact⟨K,A⟩)
 ·have f4:Y.x.s k=X.x.s k:=by rw[hY]
  rw[f4];by_cases e: ∃a b,X.DC c k a b
  ·obtain⟨a,b,hd⟩:=e;rw[h.xd k x a b hd];obtain⟨g,j,f,r,C,J⟩:=hd;have l:=Pu.ok y h g;obtain⟨⟨q',O,_,h7⟩,_⟩:=h.s3 a b g j;rw[r]at O;injection O with O
   subst O;exact((q.ns k t).1 _ ⟨a,b,f,l,r,C,h7,J,rfl⟩).symm
  ·have Z: ∀a b,¬X.DC c k a b:= λa b i=>e ⟨a,b,i⟩
   have Zu:X.x.s k=c.rs k:=by
    by_cases D:X.ER c k/\(iM P.aI d)[k]?=some none
    ·rw[(h.xs k x Z).1 D.1 D.2,(q.rs k t).1 (B.1 D.1) D.2]
    ·rw[(h.xs k x Z).2 D,(q.rs k t).2 (λi=>D ⟨B.2 i.1,i.2⟩)]
   rw[Zu];exact((q.ns k t).2 λv w=>by
    obtain⟨a,b,f,l,o,M',G,K,_⟩:=w;exact Z a b ⟨s.f a l,s.n a b f l o M' G,f,o,M',K⟩).symm
end
section
variable{P:Pg}{n:Nat}{c:aH}{d:Nd}{u:US}{X Y Z:aq}{H K L:Hp}
theorem Eg(l:List Nat):l.foldr (·+ ·) 0=aP l:=rfl
structure Bx(F:Nat->Prop)(H:Hp)(X:aq)(K:Hp):Prop where
 len:H.length<=K.length
 o: ∀a,a<H.length-> ¬F a->X.own a=none/\K[a]?=H[a]?
theorem Bx.up{F:Nat->Prop}(h:Bx F H X K)(c:K.length<=L.length)(g: ∀a,a<K.length->X.own a=none->Y.own a=none/\L[a]?=K[a]?):Bx F H Y L:=
 ⟨aq1 h.len c,λa b d=>by
  obtain⟨e,f⟩:=h.o a b d;obtain⟨i,j⟩:=g a (ard b h.len) e;exact⟨i,j.trans f⟩⟩
theorem Io{ins outs:List Int}{u':US}(co:mX P n c d u)(NG:pb P)(p:gX P (fT P n) c d u ins outs u')(Wp:qh P n){iu:Nat}{F:Nat->Prop}{H:Hp}(hR:iq P (n+1) u iu F H):
  DT Tryz.prog 27 [.ref iu 0,.d (.sl (bI ins))] H λm K=>m= .cZ [.d (.sl (bI outs)),.d (.bool true)]/\ ∃F',iq P (n+1) u' iu F' K/\(∀a,F' a->F a\/H.length<=a)/\H.length<=K.length/\ ∀a,a<H.length-> ¬F a->K[a]?=H[a]?:=by
 obtain⟨d',d6,im,ip,iY,ad,N4,rt,f9,U,h8,h9,Pz,Rw,Re⟩:=hR;rw[p.nd]at N4;injection N4 with N4
 subst N4;have Uj:=aqk p.nd;have Xm:=NG.d d Uj;have YY:=NG.i d Uj;have hV: ∀r,et P n c d u r:= λr=>(Ih co NG p Wp r).1
 have YQ:=p.vx;have QU:(c.fr []).vars=d.ins++d.outs++d.b.vars:=by rw[YQ];rfl
 have Od:(c.fr []).db=List.replicate d.ins.length none++cm d.outs (bP d.b)++cm d.b.vars 0:=by rw[YQ];rfl
 obtain⟨st,Nu⟩: ∃st:Nat->Int,st= λj=>if j<ins.length then 2 else 0:=⟨_,rfl⟩
 obtain⟨z,hz⟩: ∃z:Nat->Int,z= λj=>if j<ins.length then(ins[j]?).getD 0 else 0:=⟨_,rfl⟩
 have Zv:cx P n c d (x0 d6 iu im ip iY ad u H.length ins.length) (iD H iu (.ref (H.length+3) 0)):=cx.start ins.length (λa o=>f9 a ((rt a).2 o)) U h8 h9 Pz Rw Re;obtain⟨l,q⟩: ∃l,l=x0 d6 iu im ip iY ad u H.length ins.length:=⟨_,rfl⟩;rw[<-q]at Zv;have rx:l.A .it=H.length:=by rw[q];rfl
 have Xr:l.A (.fr [])=H.length+3:=by rw[q];rfl
 have t1:l.A .un=iu:=by rw[q];rfl
 have Mx:l.A (.am [])=H.length+1:=by rw[q];rfl
 have MA:l.A (.tk [])=H.length+2:=by rw[q];rfl
 have abw:=qZ H iu (.d .bQ);have aki:=qZ H iu (.ref (H.length+3) 0);have Ye:Fl (c.fr []) st z (.d .bQ) l [] 0 0 (λ_ _=>False) (iD H iu (.d .bQ)):=
  {lt:= λa r U=>by have:=Zv.lt a r U;omega,kE:=Zv.own (.fr []) (by show 1<=l.fs [];rw[q];exact aqd _),mr:= λhh=>by omega,mZ:= λhh=>by omega,nA:= λj hh=>by omega,nB:= λj hh=>by omega,fr:=by rw[Xr,Mx,MA];exact Aj _ _ _,cr:= λhh=>by omega,er:= λhh=>by omega,ce:= λj hh=>by omega,pl:= λj hh=>by omega}
 have ME:l.own iu=some .un:=by rw[<-t1];exact Zv.own .un trivial
 have gc:l.own H.length=some .it:=by rw[<-rx];exact Zv.own .it trivial
 have Pi:=lr h8;have t2:(iD H iu (.d .bQ))[iu]?=some (.box (oP P d im ip iY)):=(q9 Pi).trans h8;have t3: ∀{Y:aq} {K:Hp},lQ [] l (iD H iu (.d .bQ)) Y K->K[iu]?=some (.box (oP P d im ip iY)):= λ{Y K} e=>(e.gU iu (by omega) (λr x=>by rw[ME]at x;injection x with x;subst x;exact⟨id,by simp⟩)).trans t2
 have anB:=p.uF;refine DT.ob Tryz.func27 W Tryz.ntmps27 W<|dO [2,2,27] W<|Mu (jT W W W W W)<|dR [28] W<|Mu (cA W W W)<|dR [2,29] W<|Mu (qD W)<|dR [30] W<|Mu (qD W)<|dR [31] W<|Mu (jT W W W W W)<|dR [32] W<|Mu (cA W W W)<|dL [] W<|MG [nR 6 H.length,nR 7 (H.length+3),nR 0 iu,nD 1 (.sl (bI ins))] (iD H iu (.d .bQ)) (kc W (kc (by simp;rfl) W)) (by simp)<|dO [2,37] W<|Mu (aw W W t2 W)<|dR [38] W<|Mu (bH W W W) ?_;rw[show(aC d.ins).length=d.ins.length by simp[aC]];refine dL [] W<|MG [nN 35 0,nN 34 d.ins.length,nD 33 (.sl (aC d.ins)),nR 6 H.length,nR 7 (H.length+3),nR 0 iu,nD 1 (.sl (bI ins))] (iD H iu (.d .bQ)) W W<|dC [] W<|Ny (λE=> ∃Y K h,Fl (c.fr []) st z (.d .bQ) Y [] d.ins.length 0 (λ_ _=>False) K/\lQ [] l (iD H iu (.d .bQ)) Y K/\E=⟨[nR 6 H.length,nR 7 (H.length+3),nR 0 iu],h,K⟩) ?_ ?_
 ·refine dC [3] W<|DC.lp (λk ac=> ∃(b:Nat) (Y:aq) (K:Hp) (h:List (Nat×List M)),ac=⟨[nN 35 b,nN 34 d.ins.length,nD 33 (.sl (aC d.ins)),nR 6 H.length,nR 7 (H.length+3),nR 0 iu,nD 1 (.sl (bI ins))],h,K⟩/\b<=d.ins.length/\k=d.ins.length-b/\
    Fl (c.fr []) st z (.d .bQ) Y [] b 0 (λ_ _=>False) K/\lQ [] l (iD H iu (.d .bQ)) Y K) d.ins.length _
   ⟨0,l,_,_,rfl,by omega,rfl,Ye,lQ.refl Ye.lt⟩ W ?_
  rintro k s1 ⟨b,Y,K,h,rfl,hi,rfl,y,t⟩;refine dC [2] W<|DC.cond W (λg=> ?_) (λg=> ?_);rotate_left
  ·have e:b=d.ins.length:=by have:=aqA g;omega
   subst e;refine DC.exit<|⟨_,⟨Y,K,_,y,t,rfl⟩,cF W W⟩
  have i:b<d.ins.length:=by have:=aqv g;omega
  have RA:=aqi i;have G:=dM i;generalize d.ins[b]=v at RA G;rw[show v.cells= [.str v.name,.int .u8 v.tk,.str v.tn,.sl (rX v.clock),.bool v.last]++v.first.cells++ [.int .i64 v.ps.1,.int .i64 v.ps.2]from rfl,Xp.aA]at G;have Rr:b<ins.length:=by omega
  have T3:(bI ins)[((b:Nat):Int).toNat]?=some [.int .i32 ins[b]]:=by simp[bI,Rr]
  have I:=(t.A _ id).trans Xr;have OE:=y.fr;rw[I]at OE;have Tj:st b=2/\z b=ins[b]:=by
   rw[Nu,hz];simp only[aqy Rr];exact⟨trivial,by rw[aqi Rr];rfl⟩
  have ge:(c.fr []).vars[b]?=some v:=by rw[QU,aqD,aqf i];exact RA
  have Sv:(c.fr []).db[b]?=some none:=by rw[Od,aqD,aqf (by simp;omega)];simp[i]
  obtain⟨QB,N⟩:=y.eE (C:=cV v none (.d .bQ) (H.length+3) 2 ins[b]) (k:=b) ⟨rfl,rfl,rfl,rfl⟩ ⟨v,none,.d .bQ,ge,Sv,by rw[Tj.1,Tj.2,I]⟩;have TW:d.ins.length-(b+1)<d.ins.length-b:=by omega
  have s:=bp (T:=[Ob.box (cV v none (.d .bQ) (H.length+3) 2 ins[b])]) OE;refine dO [3,2,42] W<|Mu (aK W W W (aqe b) G W)<|dL [] W ?_;rcases aqJ b with O|O
  ·have e0:bG (Y.A (.cr [])) (Y.vc []) b= .d (.sl []):=by rw[O];rfl
   rw[e0]at OE s
   let Iv:Hp->Prop:= λL=>L[H.length+3]?=some (Ob.box [.d .bQ,.d (.sl []),bG (Y.A (.er [])) (Y.ve []) 0,.mp (Y.A (.am [])),.mp (Y.A (.tk []))])
   refine dC [] W ?_;apply NT Iv (OE) bT
   ·intro s0 Oo;refine iR 4 W<|MK W W (λL o=>⟨_,o,rfl⟩)<|iR 4 W ?_;apply MF
    ·skip
     refine bK W W W (aqe b) T3 W<|TF.nil ⟨rfl,rfl⟩
    refine iR 1 W ?_;apply MF
    ·skip
     refine Ah W W W W W<|TF.nil ⟨rfl,rfl⟩
    apply MF
    ·skip
     refine AZ W W W<|TF.nil ⟨rfl,rfl⟩
    apply MF
    ·skip
     refine dJ (cs:=[_]) W W W W W W<|TF.nil ⟨rfl,rfl⟩
    apply MF
    ·skip
     refine oJ true W W W (lu _ _) W W (by decide) (by decide)<|TF.nil ⟨rfl,rfl⟩
    refine iR 2 W ?_;apply MF
    ·skip
     refine fh W W (bp (bp s)) W W W<|TF.nil ⟨rfl,rfl⟩
    exact iT.nil ⟨by kernel_rfl,by repeat' first|exact trivial|exact .inl ((by first|exact s|exact bp s|exact bp (bp s)))|exact .inr (by kernel_rfl)|refine⟨?_,?_⟩,rfl⟩
   refine dO [2,61] W<|Mu (ax W W W (by omega))<|dL [] W<|bE (k':=d.ins.length-(b+1)) TW ⟨b+1,_,_,_,rfl,by omega,rfl,QB,t.trans N⟩ ?_ W;simp only[aq.pM,aqy O,I,aqg,aqH];rfl
  ·have e0:bG (Y.A (.cr [])) (Y.vc []) b= .bB (Y.A (.cr [])) (Y.vc []) b:=by unfold bG;rw[aqo (by omega)]
   rw[e0]at OE s;have RN:=y.cr O;have MW:Y.A (.cr [])≠H.length+3:=by intro e;have:=y.mr O;rw[e,<-I,y.kE]at this;cases this
   let Iv:Hp->Prop:= λL=>L[H.length+3]?=some (Ob.box [.d .bQ,.bB (Y.A (.cr [])) (Y.vc []) b,bG (Y.A (.er [])) (Y.ve []) 0,.mp (Y.A (.am [])),.mp (Y.A (.tk []))])
   refine dC [] W ?_;apply NT Iv (OE) bT
   ·intro s0 Oo;refine iR 4 W<|MK W W (λL o=>⟨_,o,rfl⟩)<|iR 4 W ?_;apply MF
    ·skip
     refine bK W W W (aqe b) T3 W<|TF.nil ⟨rfl,rfl⟩
    refine iR 1 W ?_;apply MF
    ·skip
     refine Ah W W W W W<|TF.nil ⟨rfl,rfl⟩
    apply MF
    ·skip
     refine AZ W W W<|TF.nil ⟨rfl,rfl⟩
    apply MF
    ·skip
     refine dJ (cs:=[_]) W W W W W W<|TF.nil ⟨rfl,rfl⟩
    apply MF
    ·skip
     refine oK W W W (lu _ _) (bp (bp RN)) W (by omega) (by omega)<|TF.nil ⟨rfl,rfl⟩
    refine iR 2 W ?_;apply MF
    ·skip
     refine fh W W (fB (bp s) MW) W W W<|TF.nil ⟨rfl,rfl⟩
    exact iT.nil ⟨by kernel_rfl,by repeat' first|exact trivial|exact .inl ((by first|exact s|exact bp s|exact fB (bp s) MW))|exact .inr (by kernel_rfl)|refine⟨?_,?_⟩,rfl⟩
   refine dO [2,61] W<|Mu (ax W W W (by omega))<|dL [] W<|bE (k':=d.ins.length-(b+1)) TW ⟨b+1,_,_,_,rfl,by omega,rfl,QB,t.trans N⟩ ?_ W;simp only[aq.pM,aqo (show ¬b=0 by omega),I];rfl
 rintro _ ⟨Y1,K1,bx1,Ww,OM,rfl⟩;have Tf:=t3 OM;have Xn:=kY d.b Xm.1 (by have:=Xm.2.2;omega);rw[aW.aA]at Xn;have anC:aR d.outs<=d.outs.length:=by unfold aR;exact arM _ _
 refine dO [2,66] W<|Mu (jV W W Tf W W)<|dR [67] W<|Mu (aJ Xn W W)<|dR [2,72] W<|Mu (aw W W Tf W)<|dR [73] W<|Mu (bH W W W) ?_;rw[show(aC d.outs).length=d.outs.length by simp[aC]];refine dL [] W<|MG [nN 70 0,nN 69 d.outs.length,nD 68 (.sl (aC d.outs)),nN 10 (bP d.b),nR 6 H.length,nR 7 (H.length+3),nR 0 iu] K1 W W<|dC [] W<|Ny (λE=> ∃Y K h,Fl (c.fr []) st z (.d .bQ) Y [] (d.ins.length+d.outs.length) 0 (λ_ _=>False) K/\lQ [] l (iD H iu (.d .bQ)) Y K/\E=⟨[nR 6 H.length,nR 7 (H.length+3),nR 0 iu],h,K⟩) ?_ ?_
 ·refine dC [3] W<|DC.lp (λk ac=> ∃(b:Nat) (Y:aq) (K:Hp) (h:List (Nat×List M)),ac=⟨[nN 70 b,nN 69 d.outs.length,nD 68 (.sl (aC d.outs)),nN 10 (bP d.b+aR (d.outs.take b)),nR 6 H.length,nR 7 (H.length+3),nR 0 iu],h,K⟩/\b<=d.outs.length/\k=d.outs.length-b/\
    Fl (c.fr []) st z (.d .bQ) Y [] (d.ins.length+b) 0 (λ_ _=>False) K/\lQ [] l (iD H iu (.d .bQ)) Y K) d.outs.length _
   ⟨0,Y1,K1,_,rfl,by omega,rfl,Ww,OM⟩ (kc W (kc W (kc W (kc (by simp[aR];rfl) W)))) ?_
  rintro k s1 ⟨b,Y,K,h,rfl,hi,rfl,y,t⟩;refine dC [2] W<|DC.cond W (λg=> ?_) (λg=> ?_);rotate_left
  ·have e:b=d.outs.length:=by have:=aqA g;omega
   subst e;refine DC.exit<|⟨_,⟨Y,K,_,y,t,rfl⟩,cF W W⟩
  have i:b<d.outs.length:=by have:=aqv g;omega
  have RA:=aqi i;have G:=dM i;have QA:aR (d.outs.take (b+1))=aR (d.outs.take b)+(if d.outs[b].last then 1 else 0):=by rw[aqu i,pw]
  have anD:=(lm d.outs) b;generalize d.outs[b]=v at RA G QA;have Xl:=yh (a:=bP d.b) RA;rw[show v.cells= [.str v.name,.int .u8 v.tk,.str v.tn,.sl (rX v.clock),.bool v.last]++v.first.cells++ [.int .i64 v.ps.1,.int .i64 v.ps.2]from rfl,Xp.aA]at G;have I:=(t.A _ id).trans Xr;have OE:=y.fr;rw[I]at OE;refine dO [3,2,76] W<|Mu (aK W W W (aqe b) G W)<|dR [2,80] W<|Mu (jT W W W W W)<|dR [81] W<|Mu (cA W W W)<|dL [2] W<|Ny (λE=> ∃Ns,E=⟨[nR 13 K.length,nN 70 b,nN 69 d.outs.length,nD 68 (.sl (aC d.outs)),nN 10 (bP d.b+aR (d.outs.take (b+1))),nR 6 H.length,nR 7 (H.length+3),nR 0 iu],Ns,K++ [Ob.box (cV v (if v.last then some (bP d.b+aR (d.outs.take b))else none) (.d .bQ) (H.length+3) 0 0)]⟩) ?_ ?_
  ·have Sx:(K++ [Ob.box (cV v none (.d .bQ) (H.length+3) 0 0)])[K.length]?=some (Ob.box (cV v none (.d .bQ) (H.length+3) 0 0)):=tY K _;refine DC.cond W (λg=> ?_) (λg=> ?_)
   ·rw[aqy g]at QA;refine dO [2,999] W<|Mu (bX W W Sx W W W)<|dR [2,89] W<|Mu (ax W W W (by omega))<|dL [] W<|⟨_,⟨_,rfl⟩,cF (by rw[aqy g];exact Ad) (kc W (kc W (kc W (kc W (kc (by rw[QA];rfl) W)))))⟩
   ·rw[aqo (by rw[g];simp)]at QA;refine dC [] W<|⟨_,⟨_,rfl⟩,cF (by rw[aqo (by rw[g];simp)];rfl) (kc W (kc W (kc W (kc W (kc (by rw[QA];rfl) W)))))⟩
  rintro _ ⟨Ns,rfl⟩;generalize aik:(if v.last then some (bP d.b+aR (d.outs.take b))else none)=lp at Xl;have Tj:st (d.ins.length+b)=0/\z (d.ins.length+b)=0:=by
   rw[Nu,hz];simp only[aqo (show ¬d.ins.length+b<ins.length by omega)];exact⟨trivial,trivial⟩
  have ge:(c.fr []).vars[d.ins.length+b]?=some v:=by
   rw[QU,aqD,aqm (by omega),aro,aqf i];exact RA
  have Sv:(c.fr []).db[d.ins.length+b]?=some lp:=by
   rw[Od,aqD,aqm (by simp),arL,aro,aqf (by rw[ey];exact i)];exact Xl
  obtain⟨QB,N⟩:=y.eE (C:=cV v lp (.d .bQ) (H.length+3) 0 0) (k:=d.ins.length+b) ⟨rfl,rfl,rfl,rfl⟩ ⟨v,lp,.d .bQ,ge,Sv,by rw[Tj.1,Tj.2,I]⟩;have TW:d.outs.length-(b+1)<d.outs.length-b:=by omega
  have s:=bp (T:=[Ob.box (cV v lp (.d .bQ) (H.length+3) 0 0)]) OE;rcases aqJ (d.ins.length+b)with O|O
  ·have e0:bG (Y.A (.cr [])) (Y.vc []) (d.ins.length+b)= .d (.sl []):=by rw[O];rfl
   rw[e0]at s;refine dO [2,94] W<|Mu (aw W W s W)<|dR [96] W<|Mu (ig (cs:=[_]) W W W W W W)<|dR [97] W<|Mu (xQ true W W W (lu _ _) W W (by decide) (by decide))<|dR [999] W<|Mu (bX W W (bp (bp s)) W W W)<|dR [2,100] W<|Mu (ax W W W (by omega))<|dL [] W<|bE (k':=d.outs.length-(b+1)) TW ⟨b+1,_,_,_,rfl,by omega,rfl,QB,t.trans N⟩ ?_ W;simp only[aq.pM,aqy O,I,aqg,aqH];rfl
  ·have e0:bG (Y.A (.cr [])) (Y.vc []) (d.ins.length+b)= .bB (Y.A (.cr [])) (Y.vc []) (d.ins.length+b):=by unfold bG;rw[aqo (by omega)]
   rw[e0]at s;have RN:=y.cr O;have MW:Y.A (.cr [])≠H.length+3:=by intro e;have:=y.mr O;rw[e,<-I,y.kE]at this;cases this
   refine dO [2,94] W<|Mu (aw W W s W)<|dR [96] W<|Mu (ig (cs:=[_]) W W W W W W)<|dR [97] W<|Mu (xR W W W (lu _ _) (bp (bp RN)) W (by omega) (by omega))<|dR [999] W<|Mu (bX W W (fB (bp s) MW) W W W)<|dR [2,100] W<|Mu (ax W W W (by omega))<|dL [] W<|bE (k':=d.outs.length-(b+1)) TW ⟨b+1,_,_,_,rfl,by omega,rfl,QB,t.trans N⟩ ?_ W;simp only[aq.pM,aqo (show ¬d.ins.length+b=0 by omega),I];rfl
 rintro _ ⟨Y2,K2,V8,QB,N,rfl⟩;have i6:=N.Il (r:= .it) id (by simp) gc (by omega) (.box (vM iu (.ref (H.length+3) 0)));rw[Ee]at i6;have t4:=QB.Il (r:= .it) id (by simp) ((N.own _ (by omega)).trans gc) (.box (vM iu (.ref (H.length+3) 0)));obtain⟨K3,i7⟩: ∃K3,K2.set H.length (.box (vM iu (.ref (H.length+3) 0)))=K3:=⟨_,rfl⟩;rw[i7]at i6 t4;have ST:K3[iu]?=some (.box (oP P d im ip iY)):=by
  rw[<-i7,aqn (by omega)];exact(t3 N)
 obtain⟨m4,K4,⟨Z,f9,Zq⟩,Rf⟩:=CI (c:=c) (st:=st) (z:=z) (X:=Y2) (J:=[]) (H:=K3) co.sz d.b Xm.1 YY.2 0 (by omega) (d.ins.length+d.outs.length) (by rw[QU];simp;omega) (λb v hv=>by
   rw[QU,aqm (by simp)];simp only[aqg,aro];exact hv) (λb lp Ng=>by
   rw[Od,aqm (by simp[ey])];simp only[aqg,arL,ey,aro];exact Ng) (by rw[YQ];rfl) (by rw[YQ];simp[tq]) (λj hx=>by
   rw[Nu,hz];simp only[aqo (show ¬j<ins.length by omega)];exact⟨trivial,trivial⟩) (.ref H.length 0) t4 (λw ρ e=>by cases e)
 rw[(N.A _ id).trans Xr,aW.aA]at Rf;have i8:=i6.trans Zq;have WA: ∀R,l.fs R=if R= []then 1 else 0:= λR=>by rw[q];rfl
 have t5: ∀J k,l.cs J k=if J= []/\k<ins.length then 2 else 0:= λJ k=>by rw[q];rfl
 have t6: ∀J w,l.dn J w=false:= λJ w=>by rw[q];rfl
 obtain⟨Zm,Zr,UP⟩:=Zv.filled (ρ:=[]) (st:=st) (z:=z) (by rw[WA];rfl) (λb=>by rw[WA];rfl) (λb=>t6 _ _) (λj _=>by
   rw[t5];have e1:st j=if j<ins.length then 2 else 0:=by rw[Nu]
   have e2:z j=if j<ins.length then(ins[j]?).getD 0 else 0:=by rw[hz]
   rw[e1,e2];by_cases hx:j<ins.length
   ·rw[aqy hx,aqy hx,aqy (show([]:Path)= []/\j<ins.length from⟨rfl,hx⟩)];refine⟨rfl,?_⟩;have A:=aqi hx;have h2:=(p.Cp j d.ins[j] ins[j] (aqi (by omega)) A).1;show _=c.get ([],j);unfold aH.get;rw[h2,A]
   ·rw[aqo hx,aqo hx,aqo (show ¬(([]:Path)= []/\j<ins.length)fromλhh=>hx hh.2)];exact⟨rfl,rfl⟩) (λw J e=>by cases e) f9 i8
 obtain⟨A0,o0,v0,e0,hZ⟩:=id i8.eq;have d7: ∀R,(Z.full []).fs R=if R= []then 2 else 0:= λR=>by
  unfold aq.full;rw[hZ];show(if R= []then 2 else l.fs R)=_;rw[WA];split<;>rfl
 have i9: ∀J k,(Z.full []).cs J k=if J= []/\k<ins.length then 2 else 0:= λJ k=>by unfold aq.full;rw[hZ];exact t5 J k
 have UV: ∀J w,(Z.full []).dn J w=false:= λJ w=>by unfold aq.full;rw[hZ];exact t6 J w
 have t7: ∀J w,(Z.full []).lv J w=false:= λJ w=>by unfold aq.full;rw[hZ,q];rfl
 have zN:(Z.full []).N= []:=by unfold aq.full;rw[hZ,q];rfl
 have zF:(Z.full []).F= []:=by unfold aq.full;rw[hZ,q];rfl
 have t8:(Z.full []).fi=0:=by unfold aq.full;rw[hZ,q];rfl
 have Vj: ∀k v,¬(Z.full []).ph k v:= λk v=>by unfold aq.full;rw[hZ,q];exact id
 have Y8:=Pu.start p (by unfold aq.full;rw[hZ,q];rfl) d7 i9 UV t7 zN zF t8;have t9:=(Zr .it trivial).2.trans rx;have ut:=(Zr (.fr []) (by show 1<=l.fs [];rw[WA];exact aqd _)).2.trans Xr;have U1:(Z.full []).T c<=1000000000000:=by
  have A:(Z.full []).T c<=0+0+aP (c.an.map c.wt):=by
   unfold aq.T;rw[zN,zF];simp only[aqS,List.drop_nil,arf];have:=Br c.an (λb=>if(Z.full []).cu b then c.wt b else 0) c.wt (λb _=>by split<;>omega);have e0:aP ([]:List Nat)=0:=rfl;omega
  have:=p.ws;rw[Eg]at this;omega
 have Xs:k7 c (Z.full []) c.eV:=⟨λJ k e=>(by rw[i9]at e;split at e<;>cases e),λw J e=>(by rw[d7,aqo (by simp)]at e;cases e),λJ k=>(by rw[i9];split<;>omega),aqd _⟩;obtain⟨m5,K5,⟨Q,D⟩,Wj⟩:=JE co NG p Wp _ [] (aqd _) (Z.full []) K4 ⟨Zm,Y8⟩ U1 Xs (by rw[d7];rfl) (λτ w=>t7 _ _);rw[t9,ut]at Wj;have afS:Bx F H Q K5:=by
  have A:Bx F H l (iD H iu (.ref (H.length+3) 0)):=⟨by omega,λa A h2=>⟨by
   have e:d6 a=none:=by
    cases e:d6 a with
    |none=>rfl
    |some r=>exact absurd ((rt a).2 (by rw[e];simp)) h2
   rw[q];show sx d6 H.length a=none;unfold sx;rw[aqo (by omega),aqo (by omega),aqo (by omega),aqo (by omega),e];rfl,q9 A⟩⟩
  have h2:=A.up i8.len UP;exact h2.up (Y:=Q) D.ext.e.len (λa ha U=>D.ext.e.gU a ha U)
 have mt: ∀r,(Z.full []).live c r->Q.A r=(Z.full []).A r:= λr x=>(D.ext.e.A r (by cases r<;>exact x)).2
 have v6:=(mt .it trivial).trans t9;have wd:=(mt .un trivial).trans ((Zr .un trivial).2.trans t1);have wn:=k7.next (X:= {Z.full []with lv:=Q.lv}) (H:=K4) ⟨Xs.c1,Xs.f1,Xs.c4,Xs.tp⟩ D.ext.e;have hT5:=aq1 D.t U1;have hf5:=D.ext.e.f2 [] (by show(Z.full []).fs []=2;rw[d7];rfl);have aiZ: ∀k v,¬Q.ph k v:= λk v o=>by rw[D.ext.e.ph]at o;exact Vj k v o
 have Do:=D.inst.lay.unit;rw[wd]at Do;refine dO [2,999] W<|Mu (bX W W ((N.gU H.length (by omega) (λr x=>by rw[gc]at x;injection x with x;subst x;exact⟨id,by simp⟩)).trans (Ai _ _ _)) W W W)<|dL [] W<|MG [nR 6 H.length,nR 7 (H.length+3),nR 0 iu] K3 W i7<|dO [2,111] W<|Mu (jV W W ST W W)<|dR [112] W<|Mu (ap Rf W W)<|dR [2,115] W<|Mu (ap Wj W W)<|dR [2,2,120] W<|Mu (aw W W Do W)<|dR [121] W<|Mu (bH W W W) ?_;rw[show(aC d.outs).length=d.outs.length by simp[aC]];refine dL [] W ?_;have Eq:=p.outs;have anE:outs.length=d.outs.length:=by rw[Eq];simp
 refine MG [nN 118 0,nN 117 d.outs.length,nD 116 (.sl (aC d.outs)),nD 14 (.sl []),nR 6 H.length,nR 7 (H.length+3)] K5 W W<|dC [] W<|Ny (λE=> ∃Y K h,cL P n c d u Y K/\a_ c (λ_=>False) Q K5 Y K/\Y.T c<=Q.T c/\E=⟨[nD 14 (.sl (bI outs)),nR 6 H.length],h,K⟩) ?_ ?_
 ·refine dC [3] W<|DC.lp (λk ac=> ∃(b:Nat) (Y:aq) (K:Hp) (m:M) (h:List (Nat×List M)),ac=⟨[nN 118 b,nN 117 d.outs.length,nD 116 (.sl (aC d.outs)),(14,.m m),nR 6 H.length,nR 7 (H.length+3)],h,K⟩/\b<=d.outs.length/\k=d.outs.length-b/\
    cL P n c d u Y K/\a_ c (λ_=>False) Q K5 Y K/\Y.T c<=Q.T c/\zt Y K5.length (bI (outs.take b)) m K) d.outs.length _
   ⟨0,Q,K5,_,_,rfl,by omega,rfl,D.inst,a_.refl ..,aqd _,.inl ⟨rfl,rfl⟩⟩ W ?_
  rintro k s1 ⟨b,Y,K,m,h,rfl,hi,rfl,OL,t,R2,hL⟩;refine dC [2] W<|DC.cond W (λg=> ?_) (λg=> ?_);rotate_left
  ·have e:b=outs.length:=by have:=aqA g;omega
   rw[e,aqQ]at hL;obtain⟨a',Ps⟩:=hL.acc;refine DC.b9 14 W (Ps.view (λr x=>by unfold bI at x;obtain⟨_,_,rfl⟩:=aqM.1 x;rfl))<|DC.exit<|⟨_,⟨Y,K,_,OL,t,R2,rfl⟩,cF W W⟩
  have i:b<d.outs.length:=by have:=aqv g;omega
  have RA:=aqi i;have G:=dM i;generalize d.outs[b]=v at RA G;rw[show v.cells= [.str v.name,.int .u8 v.tk,.str v.tn,.sl (rX v.clock),.bool v.last]++v.first.cells++ [.int .i64 v.ps.1,.int .i64 v.ps.2]from rfl,Xp.aA]at G;have Og:=p.KP b v RA;have On:=t.f2 [] hf5;have VB:=wn.next t;obtain⟨m6,K6,⟨rfl,Y6,d8,_⟩,Rm⟩:=hV c.eV Y K OL (by omega) VB [] v.name _ On Og (Af co p OL On Og p.uF);rw[(t.A .it trivial).2,(t.A (.fr []) (by show 1<=Q.fs [];omega)).2,v6,((mt (.fr []) (by show 1<=(Z.full []).fs [];rw[d7];decide)).trans ut)]at Rm;have Fd:=hL.up (Z:=Y6) (L:=K6) d8.2.1.gU;obtain⟨hL7,afU,B⟩:=Fd.app d8.1.lay (t.trans d8.2.1) [.int .i32 (c.get ([],d.ins.length+b))];obtain⟨a2,Ps⟩:=Fd.acc;have hio:b<outs.length:=by omega
  have hoi:outs[b]=c.get ([],d.ins.length+b):=by simp[Eq]
  have Nv:bI (outs.take (b+1))=bI (outs.take b)++ [[.int .i32 (c.get ([],d.ins.length+b))]]:=by
   rw[aqu hio,hoi];simp[bI]
  have htl:(bI (outs.take b)).length<=1000000:=by simp[bI];omega
  have hT6:=d8.2.2.1;refine dO [3,2,124] W<|Mu (aK W W W (aqe b) G W)<|dR [2,131] W<|Mu (ap Rm W W)<|dR [2,137] W<|Mu (mg Ps W W W W W (mQ W) (by simp only[aqH];omega) (by simp only[aqH];omega))<|dR [2,138] W<|Mu (ax W W W (by omega))<|dL [] W<|bE (k':=d.outs.length-(b+1)) (by omega) ⟨b+1,Y6,_,_,_,rfl,by omega,rfl,⟨afU,d8.1.pu⟩,B,by omega,by rw[Nv];exact hL7⟩ W W
 rintro _ ⟨Y7,K7,bx7,hI7,B,hT7,rfl⟩;have hD7:=(Im p co D.done D.inst).up B.f2 B.dn B.lv B.c2;have ai1:=B.fi.trans (D.ext.e.fi.trans t8);have ai2: ∀k v,¬Y7.ph k v:= λk v o=>by rw[B.ph]at o;exact aiZ k v o
 refine dC [2] W<|MG [nN 19 Y7.fi,nD 14 (.sl (bI outs)),nR 6 H.length] K7 (kc (by rw[ai1];rfl) W) W<|dC [] W<|Ny (λE=> ∃Y K h,cL P n c d u Y K/\yk c d Y/\Bx F H Y K/\(∀k v,¬Y.ph k v)/\Y.F.length<=Y.fi/\Y.A .it=H.length/\Y.A .un=iu/\Y.T c<=1000000000000/\E=⟨[nD 14 (.sl (bI outs)),nR 6 H.length],h,K⟩) ?_ ?_
 ·refine dC [3] W<|DC.lp (λk ac=> ∃(Y:aq) (K:Hp) (h:List (Nat×List M)),ac=⟨[nN 19 Y.fi,nD 14 (.sl (bI outs)),nR 6 H.length],h,K⟩/\k=1000000000001-Y.fi/\
    cL P n c d u Y K/\yk c d Y/\Bx F H Y K/\k7 c Y c.eV/\(∀k v,¬Y.ph k v)/\Y.fi<=Y.N.length/\Y.A .it=H.length/\Y.A .un=iu/\Y.T c<=1000000000000) (1000000000001-Y7.fi) _
   ⟨Y7,K7,_,rfl,rfl,hI7,hD7,(afS.up B.len B.gU),(wn.next B),ai2,by omega,((B.A .it trivial).2.trans v6),((B.A .un trivial).2.trans wd),by omega⟩ W ?_
  rintro k s1 ⟨Y,K,h,rfl,rfl,OL,Fn,d9,VB,Fr,Wy,pm,FS,R2⟩;have Q2:=OL.lay.inst;rw[pm]at Q2;have hNl:=yd (c:=c) (X:=Y) R2;have anF:=H3 OL.pu;refine dO [2,143] W<|Mu (aw W W Q2 W)<|dR [144] W<|Mu (oT W W)<|dL [] W<|DC.cond W (λg=> ?_) (λg=> ?_);rotate_left
  ·have e:Y.F.length<=Y.fi:=by have:=aqA g;omega
   refine DC.exit<|⟨_,⟨Y,K,_,OL,Fn,d9,Fr,e,pm,FS,R2,rfl⟩,cF W W⟩
  have i:Y.fi<Y.F.length:=by have:=aqv g;omega
  have GT:=aqi i;obtain⟨ob,Id,ai7⟩:=OL.lay.ob .af (by show Y.F≠ [];intro e;rw[e]at i;simp at i);have afX:=ai7;subst afX;have MC:(Y.F.map (·.2))[((Y.fi:Nat):Int).toNat*1]?=some Y.F[Y.fi].2:=by simp[i]
  generalize Y.F[Y.fi]=S at GT MC;obtain⟨Mw,Nj,hm,qr,m8,K8,⟨f8,Xh,V,hTW,ai8,ai9⟩,Rf⟩:=GI co (hV c.eV) OL R2 VB Fr Wy (ai:=S.1) (m:=S.2) GT;rw[hm]at MC;have hPX:k7 c ({Y with fi:=Y.fi+1} :aq) c.eV:=⟨VB.c1,VB.f1,VB.c4,VB.tp⟩;refine dO [3,2,151] W<|Mu (aw W W Q2 W)<|dR [153] W<|Mu (k8 W W W Id (aqe _) (by omega))<|dR [154] W<|Mu (lY W W Id MC)<|dR [155] W<|Mu (ll (hf:=qr) (ms:=[]) Rf W W W)<|dR [2,147] W<|Mu (ax W W W (by omega))<|dL [] W ?_;have aja:f8.fi=Y.fi+1:=V.fi;refine bE (k':=1000000000001-f8.fi) (by omega) ⟨f8,K8,_,rfl,rfl,Xh,Fn.up (λJ o=>V.f2 J o) (λJ w o=>V.dn J w o) V.lv (λJ k o=>V.c2 J k o),d9.up V.len (λa ha U=>V.gU a ha U),hPX.next V,ai8,ai9,(V.A .it trivial).2.trans pm,(V.A .un trivial).2.trans FS,by omega⟩ W (kc (by rw[aja];rfl) W)
 rintro _ ⟨f,K8,bx8,f4,hD8,hO8,ajb,ajc,In,ajd,hT8,rfl⟩;have IO:=f4.lay.inst;rw[In]at IO;have hNl:=yd (c:=c) (X:=f) hT8;refine dO [2,159] W<|Mu (aw W W IO W)<|dR [160] W<|Mu (oT W W)<|dL [] W<|MG [nN 157 0,nN 156 f.N.length,nM 155 (bG (f.A .nx) f.vN f.N.length),nD 14 (.sl (bI outs)),nR 6 H.length] K8 W W<|dC [] W<|Ny (λE=> ∃Y K h,uT c f f.N Y/\cx P n c d Y K/\Bx F H Y K/\E=⟨[nD 14 (.sl (bI outs)),nR 6 H.length],h,K⟩) ?_ ?_
 ·refine dC [3] W<|DC.lp (λk ac=> ∃(b:Nat) (Y:aq) (K:Hp) (h:List (Nat×List M)),ac=⟨[nN 157 b,nN 156 f.N.length,nM 155 (bG (f.A .nx) f.vN f.N.length),nD 14 (.sl (bI outs)),nR 6 H.length],h,K⟩/\b<=f.N.length/\k=f.N.length-b/\
    uT c f (f.N.take b) Y/\cx P n c d Y K/\Bx F H Y K) f.N.length _
   ⟨0,f,K8,_,rfl,by omega,rfl,uT.nil c f,f4.lay,hO8⟩ W ?_
  rintro k s1 ⟨b,Y,K,h,rfl,hi,rfl,QT,Ut,d9⟩;refine dC [2] W<|DC.cond W (λg=> ?_) (λg=> ?_);rotate_left
  ·have e:b=f.N.length:=by have:=aqA g;omega
   rw[e,aqQ]at QT;refine DC.exit<|⟨_,⟨Y,K,_,QT,Ut,d9,rfl⟩,cF W W⟩
  have i:b<f.N.length:=by have:=aqv g;omega
  obtain⟨mm,pp,rfl⟩:=QT.eq;obtain⟨ob,Sy,S4⟩:=Ut.ob .nx (by show f.N≠ [];intro e;rw[e]at i;simp at i);have afY:=S4;subst afY;have Sy:K[f.A .nx]?=some (.row true 1 f.vN (f.N.map (·.2))):=Sy;have N1:f.N[b]∈f.N:=aqz i;have MC:(f.N.map (·.2))[((b:Nat):Int).toNat*1]?=some f.N[b].2:=by simp[i]
  have Nv:f.N.take (b+1)=f.N.take b++ [f.N[b]]:=aqu i;generalize f.N[b]=S at N1 MC Nv;have LE:=f4.pu.nk S N1;have MU:NI.ok c d ({f with x:=⟨mm,pp,f.x.s⟩} :aq) S.1:=by revert LE;generalize S.1=ni;intro o;cases ni<;>exact o
  have hkn:NI.kn c S.1:=by
   revert LE;generalize S.1=ni;intro o
   cases ni with
   |cell t R=>exact f4.pu.cv _ _ o.2.2.1
   |_=>trivial
  obtain⟨Mw,Nj,hm,qr,m9,K9,hRn,Rf⟩:=JA Ut (Ut.nx S N1) MU p.nx;rw[hm]at MC;obtain⟨f7,alF,afZ⟩:=hRn;obtain⟨m',q',he9⟩:=Fm (c:=c) ({f with x:=⟨mm,pp,f.x.s⟩} :aq) S.1;refine dO [3,2,163] W<|Mu (k8 W W W Sy (aqe _) (by omega))<|dR [164] W<|Mu (lY W W Sy MC)<|dR [2,166] W<|Mu (ll (hf:=qr) (ms:=[]) Rf W W W)<|dR [2,167] W<|Mu (ax W W W (by omega))<|dL [] W<|bE (k':=f.N.length-(b+1)) (by omega) ⟨b+1,_,K9,_,rfl,by omega,rfl,by rw[Nv];exact QT.snoc hkn,f7,d9.up (by omega) (λa ha U=>⟨by rw[he9];exact U,afZ a U⟩)⟩ W W
 rintro _ ⟨X9,K9,bx9,QT,f7,rg,rfl⟩;obtain⟨mm,pp,LT⟩:=QT.eq;have ajf:X9.A .it=H.length:=by rw[LT];exact In
 have ajg:X9.A .un=iu:=by rw[LT];exact ajd
 have Mr:=f7.inst;rw[ajf]at Mr;have VO: ∀k,k<bW d->X9.x.m k=u'.mem k/\X9.x.p k=u'.cu k/\X9.x.s k=u'.aj k:= λk hk=>finish co p f4 hD8 ajc ajb QT hk
 have Ms:=f7.LX (u':=u') (by rw[p.ui];exact p.nd) (λk hk=>(VO k hk).1) (λk hk=>(VO k hk).2.1) (λk hk=>(VO k hk).2.2);rw[ajg]at Ms;refine dC [] W ?_;apply Mz bT
 ·intro s0 Oo;refine fR 4 W<|av W W Mr W<|fR 3 W<|TF.nil ⟨by kernel_rfl,rfl⟩
 refine DC.ret ⟨_,rfl,rfl,_,Ms,λa ha=> ?_,rg.len,λa A h2=>(rg.o a A h2).2⟩;rcases aqh a H.length with A|A
 ·refine .inl (aq6 λh2=> ?_);have h3:(X9.own a).bind Ro.unit≠none:=ha;rw[(rg.o a A h2).1]at h3;exact h3 W
 ·exact .inr A
end
end Go.Proofs.Sz
