/- A part of the proof of the last text of this claim, without conditions. -/
import Derived.Test.YtjbigbaipmiihaaGreatF
set_option maxRecDepth 4000
set_option linter.all false
namespace Go.Sm
open Go.Mt
theorem z'{l:List Va} : ∀{a i:Nat} {v:Va},l[i]?=some v->(b_ l a)[i]?=some (if v.last then some (a+aU (l.take i))else none):=by
 induction l with
 |nil=>intro a i v b;cases b
 |cons c l d=>
  intro a i v b;cases i with
  |zero=>
   injection b with b
   subst b;unfold b_;split<;>simp[aU]
  |succ i=>
   unfold b_;rw[awv,tI];split
   ·grind
   ·grind
theorem wI{l:List aB} : ∀{a i:Nat} {q:aB},l[i]?=some q->(dX l a)[i]?=some (a+aS ((l.take i).map qP)):=by
 induction l with
 |nil=>intro a i v b;cases b
 |cons e l c=>
  intro a i v b;cases i with
  |zero=>simp[dX,aS]
  |succ i=>
   have d:l[i]?=some v:=by simpa using b
   rw[dX,List.getElem?_cons_succ,c d,awv,avm,iM,avE]
theorem xw{c:aK}{x:Nm}{σ:Path×Nat} : ∀{ρ:Path},c.find ρ x=some σ->(∃τ,ρ=τ++σ.1)/\f_ (c.fr σ.1).vars x=some σ.2
 | [],a=>by
  change Option.map _ _=_ at a;cases b:f_ (c.fr []).vars x with
  |none=>rw[b]at a;cases a
  |some e=>rw[b]at a;injection a with a;subst a;exact⟨⟨[],W⟩,b⟩
 |d::ρ,a=>by
  rw[show c.find (d::ρ) x=match f_ (c.fr (d::ρ)).vars x with|some e=>some (d::ρ,e)|none=>c.find ρ x from rfl]at a;cases b:f_ (c.fr (d::ρ)).vars x with
  |none=>
   rw[b]at a;obtain⟨⟨τ,g⟩,f⟩:=xw a;exact⟨⟨d::τ,by simp_all⟩,f⟩
  |some e=>rw[b]at a;injection a with a;subst a;exact⟨⟨[],W⟩,b⟩
theorem xx{c:aK}{x:Nm}{π:Path}{k:Nat}(h:f_ (c.fr π).vars x=some k):c.find π x=some (π,k):=by
 cases π with
 |nil=>show Option.map _ _=_;rw[h];rfl
 |cons b a=>rw[show c.find (b::a) x=match f_ (c.fr (b::a)).vars x with|some k=>some (b::a,k)|none=>c.find a x from rfl,h]
theorem Gp{c:aK}{x:Nm}{π:Path}(h:f_ (c.fr π).vars x=none){σ:Path×Nat}(hf:c.find π x=some σ): ∃j ρ,π=j::ρ/\c.find ρ x=some σ:=by
 cases π with
 |nil=>change Option.map _ _=_ at hf;rw[h]at hf;cases hf
 |cons j ρ=>rw[show c.find (j::ρ) x=match f_ (c.fr (j::ρ)).vars x with|some a=>some (j::ρ,a)|none=>c.find ρ x from rfl,h]at hf;exact⟨j,ρ,W,hf⟩
end Go.Sm
namespace Go.Proofs.Sz
open Go.Mt Go.Sm Go.Proofs
open Tryz
section
variable{c:aK}{g:xi}{st z:Nat->Int}{X:aw}{π:Path}{H K:Hp}
theorem BR{H:Hp}{a b:Ob} :(H++ [a]).set H.length b=H++ [b]:=by simp
structure I9(X:aw)(c:aK)(H:Hp)(σ:Path):Prop where
 r:Kl X c H σ
 fr:X.own (X.A (.fr σ))=some (.fr σ)
 cr:(c.fr σ).vars≠ []->X.own (X.A (.cr σ))=some (.cr σ)
 ce: ∀k,k<(c.fr σ).vars.length->X.own (X.A (.ce σ k))=some (.ce σ k)
theorem cF.Pe{P:Pg}{n:Nat}{d:Nd}(h:cF P n c d X H){ρ:Path}(hf:X.fs ρ=2):I9 X c H ρ:=
 ⟨h.Md hf,h.own _ (by show 1<=X.fs ρ;omega),λa=>h.own _ ⟨hf,a⟩,λe b=>h.own _ ⟨hf,b⟩⟩
theorem I9.up{Y:aw}{σ:Path}(h:I9 X c H σ)(e:m_ π X H Y K)(g:σ≠π):I9 Y c K σ:=by
 have f:=e.A;have l: ¬(Ro.fr σ).rB π:=id;have m: ¬(Ro.cr σ).rB π:=g;have n: ∀a,¬(Ro.ce σ a).rB π:= λ_=>g
 have s: ∀{r ob},X.own (X.A r)=some r-> ¬r.rB π->r≠ .fr π->H[X.A r]?=some ob->K[Y.A r]?=some ob:= λ{r ob} d i o w=>by
  rw[f r i,e.iY _ (lr w) (λE j=>by rw[d]at j;injection j with j;subst j;exact⟨i,o⟩)];exact w
 have p: ∀{r},X.own (X.A r)=some r-> ¬r.rB π->X.A r<H.length->Y.own (Y.A r)=some r:= λ{r} d i o=>by rw[f r i,e.own _ o];exact d
 obtain⟨z,A,B,x⟩:=h.r.fr;have C:Y.up σ=X.up σ:=by cases σ with
  |nil=>rfl
  |cons D σ=>simp only[aw.up];rw[f _ (id: ¬(Ro.fr σ).rB π)]
 refine⟨⟨⟨z,A,B,?_⟩,λb=> ?_,λa v b=> ?_⟩,p h.fr l (lr x),λb=>p (h.cr b) m (lr (h.r.cr b)),λa k=> ?_⟩
 ·rw[C,f _ m,(e.v σ g).1];exact s h.fr l (by intro q;injection q with q;exact g q) x
 ·rw[(e.v σ g).1,s (h.cr b) m (by simp) (h.r.cr b)]
  congr 2
  exact avy λa _=>by rw[f _ (n a)]
 ·obtain⟨y,eq,t,u,d⟩:=h.r.ce a v b;have k:a<(c.fr σ).vars.length:=by
   rcases auM a (c.fr σ).vars.length with h|h
   ·exact h
   ·rw[auP h]at b;cases b
  exact⟨y,eq,t,u,by rw[f _ l];exact s (h.ce a k) (n a) (by simp) d⟩
 ·obtain⟨y,eq,t,u,d⟩:=h.r.ce a _ (auO k);exact p (h.ce a k) (n a) (lr d)
theorem Fl.Md{e:Nat}{L:Nat->Nm->Prop}(h:Fl (c.fr π) st z (X.up π) X π (c.fr π).vars.length e L H):Kl X c H π:=by
 refine⟨⟨_,_,_,h.fr⟩,λb=>h.cr (aw6.2 b),λd v b=> ?_⟩;have f:d<(c.fr π).vars.length:=by
  grind
 obtain⟨j,g,eq,a,k,i,_⟩:=h.ce d f;rw[b]at a;injection a with a
 subst a;exact⟨g,eq,_,_,i⟩
theorem ez{l:List Va}{i:Nat}(h:i<l.length):(aI l)[((i:Nat):Int).toNat]?=some l[i].cells:=by simp[aI,h]
theorem Ew(Qt: ∀π,(c.fr π).vars.length<=1000000)(b:bj)(hb:uP b)(t5:gg b<=1000000)(a:Nat)(ha:a+bP b<=1000000000)(s:Nat)(f9:(c.fr π).vars.length=s+b.vars.length)(gc: ∀i v,b.vars[i]?=some v->(c.fr π).vars[s+i]?=some v)(RU: ∀i F,(b_ b.vars a)[i]?=some F->(c.fr π).cO[s+i]?=some F)
  (Rl:(c.fr π).au=b.au) (ge:(c.fr π).pos=dX b.au (a+aU b.vars)) (Qp: ∀n,s<=n->st n=0/\z n=0) (m0:M) (hF:Fl (c.fr π) st z (X.up π) X π s 0 (λ_ _=>False) H) (ZS: ∀g w,π=g::w-> ∀A o,w=A++o->I9 X c H o):
  DT prog 43 [m0,.ref (X.A (.fr π)) 0,.d (.agg b.cells),dN a] H λ_ K=> ∃Y,Fl (c.fr π) st z (X.up π) Y π (c.fr π).vars.length (c.fr π).au.length (λ_ _=>True) K/\m_ π X H Y K:=by
 have rt:=qL b;obtain⟨vars,au⟩:=b;cases hb with
 |mk Qw S4 T8 Q3 R4 Xa VH=>
 rw[bj.aC];simp only[bj.vars,bj.au]at f9 gc RU Rl ge rt⊢;refine DT.ob func43 W ntmps43 W<|dO [2,2,25] W<|Po (bp W W W) ?_;rw[show(aI vars).length=vars.length by simp[aI]];refine dL [] W<|Pz [nN 22 0,nN 21 vars.length,nD 20 (.sl (aI vars)),nD 6 (.bm [.sl (aI vars),.sl (au.map aB.cells)] 0),nR 1 (X.A (.fr π)),nN 3 a] H W W<|dC [] W<|Qy (λPD=> ∃Y K p,Fl (c.fr π) st z (X.up π) Y π (s+vars.length) 0 (λ_ _=>False) K/\m_ π X H Y K/\PD=⟨[nD 6 (.bm [.sl (aI vars),.sl (au.map aB.cells)] 0),nR 1 (X.A (.fr π)),nN 3 (a+aU vars)],p,K⟩) ?_ ?_
 ·refine dC [3] W<|DC.lp (λk J=> ∃(i:Nat) (Y:aw) (K:Hp) (p:List (Nat×List M)),J=⟨[nN 22 i,nN 21 vars.length,nD 20 (.sl (aI vars)),nD 6 (.bm [.sl (aI vars),.sl (au.map aB.cells)] 0),nR 1 (X.A (.fr π)),nN 3 (a+aU (vars.take i))],p,K⟩/\i<=vars.length/\k=vars.length-i/\
    Fl (c.fr π) st z (X.up π) Y π (s+i) 0 (λ_ _=>False) K/\m_ π X H Y K) vars.length _
   ⟨0,X,H,_,rfl,by omega,rfl,hF,m_.refl hF.lt⟩ (kc W (kc W (kc W (kc W (kc W (kc (by simp[aU];rfl) W)))))) ?_
  rintro k s1 ⟨i,Y,K,p,rfl,hi,rfl,t,G⟩;refine dC [2] W<|DC.cond W (λh=> ?_) (λh=> ?_);rotate_left
  ·have e:i=vars.length:=by have:=au9 h;omega
   subst e;rw[avo];refine DC.exit<|⟨_,⟨Y,K,_,t,G,W⟩,cR W W⟩
  have x:i<vars.length:=by have:=auV h;omega
  have T_:=auO x;have R7:=ez x;have Ul:aU (vars.take (i+1))=aU (vars.take i)+(if vars[i].last then 1 else 0):=by rw[au1 x,qp]
  have PP:=mG vars i;generalize vars[i]=v at T_ R7 Ul;have r:Y.A (.fr π)=X.A (.fr π):=G.A _ id;have I:=t.fr;rw[r]at I;have i6:=z' (a:=a) T_;rw[show v.cells= [.str v.name,.int .u8 v.tk,.str v.tn,.sl (tG v.clock),.bool v.last]++v.first.cells++ [.int .i64 v.ps.1,.int .i64 v.ps.2]from rfl,Xp.aC]at R7;refine dO [3,2,28] W<|Po (aG W W W (auJ i) R7 W)<|dR [2,32] W<|Po (k8 W W W W W)<|dR [33] W<|Po (cH W W W)<|dL [2] W<|Qy (λPD=> ∃Qr,PD=⟨[nR 10 K.length,nN 22 i,nN 21 vars.length,nD 20 (.sl (aI vars)),nD 6 (.bm [.sl (aI vars),.sl (au.map aB.cells)] 0),nR 1 (X.A (.fr π)),nN 3 (a+aU (vars.take (i+1)))],Qr,K++ [Ob.box (dh v (if v.last then some (a+aU (vars.take i))else none) (.d .bX) (X.A (.fr π)) 0 0)]⟩) ?_ ?_
  ·have rx:(K++ [Ob.box (dh v none (.d .bX) (X.A (.fr π)) 0 0)])[K.length]?=some (Ob.box (dh v none (.d .bX) (X.A (.fr π)) 0 0)):=vJ K _;refine DC.cond W (λh=> ?_) (λh=> ?_)
   ·rw[au2 h]at Ul;refine dO [2,999] W<|Po (cc W W rx W W W)<|dR [2,41] W<|Po (az W W W (by omega))<|dL [] W<|⟨_,⟨_,rfl⟩,cR (by rw[au2 h];exact BR) (kc W (kc W (kc W (kc W (kc W (kc W (kc (by rw[Ul];rfl) W)))))))⟩
   ·rw[auU (by rw[h];simp)]at Ul;refine dC [] W<|⟨_,⟨_,W⟩,cR (by rw[auU (by rw[h];simp)];rfl) (kc W (kc W (kc W (kc W (kc W (kc W (kc (by rw[Ul];rfl) W)))))))⟩
  rintro _ ⟨Qr,rfl⟩;generalize t6:(if v.last then some (a+aU (vars.take i))else none)=F at i6;have Xh:=Qp (s+i) (by omega);obtain⟨L,N⟩:=t.fw (C:=dh v F (.d .bX) (X.A (.fr π)) 0 0) (k:=s+i) ⟨rfl,rfl,rfl,rfl⟩ ⟨v,F,.d .bX,gc i v T_,RU i F i6,by rw[Xh.1,Xh.2,r]⟩;have t7:=lr I;have u:=bB (T:=[Ob.box (dh v F (.d .bX) (X.A (.fr π)) 0 0)]) I;have t8:=Qt π;have XS:vars.length-(i+1)<vars.length-i:=by omega
  rcases avl (s+i)with y|y
  ·have R:bM (Y.A (.cr π)) (Y.vc π) (s+i)= .d (.sl []):=by rw[y];rfl
   rw[R]at u;refine dO [2,46] W<|Po (aA W W u W)<|dR [48] W<|Po (jf (cs:=[_]) W W W W W W)<|dR [49] W<|Po (zL true W W W (mI _ _) W W (by decide) (by decide))<|dR [999] W<|Po (cc W W (bB (bB u)) W W W)<|dR [2,52] W<|Po (az W W W (by omega))<|dL [] W<|bK (k':=vars.length-(i+1)) XS ⟨i+1,_,_,_,rfl,by omega,rfl,L,G.trans N⟩ ?_ W;simp only[aw.qO,au2 y,r,auN,avd];rfl
  ·have R:bM (Y.A (.cr π)) (Y.vc π) (s+i)= .bH (Y.A (.cr π)) (Y.vc π) (s+i):=by unfold bM;rw[auU (by omega)]
   rw[R]at u;have PS:Y.A (.cr π)≠X.A (.fr π):=by intro e;have:=t.nL y;rw[e,<-r,t.lN]at this;cases this
   refine dO [2,46] W<|Po (aA W W u W)<|dR [48] W<|Po (jf (cs:=[_]) W W W W W W)<|dR [49] W<|Po (zM W W W (mI _ _) (bB (bB (t.cr y))) W (by omega) (by omega))<|dR [999] W<|Po (cc W W (gu (bB u) PS) W W W)<|dR [2,52] W<|Po (az W W W (by omega))<|dL [] W<|bK (k':=vars.length-(i+1)) XS ⟨i+1,_,_,_,rfl,by omega,rfl,L,G.trans N⟩ ?_ W;simp only[aw.qO,auU (show ¬s+i=0 by omega),r];rfl
 rintro _ ⟨Y0,K0,t9,i7,XN,rfl⟩;rw[<-f9]at i7;refine dO [2,55] W<|Po (bp W W W) ?_;rw[au8];refine dL [] W<|Pz [nN 52 0,nN 51 au.length,nD 50 (.sl (au.map aB.cells)),nR 1 (X.A (.fr π)),nN 3 (a+aU vars)] K0 W W<|dC [] W<|Qy (λPD=> ∃Y K p,Fl (c.fr π) st z (X.up π) Y π (c.fr π).vars.length au.length (λ_ _=>False) K/\m_ π X H Y K/\PD=⟨[nR 1 (X.A (.fr π))],p,K⟩) ?_ ?_
 ·refine dC [3] W<|DC.lp (λk J=> ∃(i:Nat) (Y:aw) (K:Hp) (p:List (Nat×List M)),J=⟨[nN 52 i,nN 51 au.length,nD 50 (.sl (au.map aB.cells)),nR 1 (X.A (.fr π)),nN 3 (a+aU vars+aS ((au.take i).map qP))],p,K⟩/\i<=au.length/\k=au.length-i/\
    Fl (c.fr π) st z (X.up π) Y π (c.fr π).vars.length i (λ_ _=>False) K/\m_ π X H Y K) au.length _
   ⟨0,Y0,K0,_,rfl,by omega,rfl,i7,XN⟩ (kc W (kc W (kc W (kc W (kc (by simp[aS];rfl) W))))) ?_
  rintro k s1 ⟨i,Y,K,p,rfl,hi,rfl,t,G⟩;refine dC [2] W<|DC.cond W (λh=> ?_) (λh=> ?_);rotate_left
  ·have e:i=au.length:=by have:=au9 h;omega
   subst e;refine DC.exit<|⟨_,⟨Y,K,_,t,G,W⟩,cR W W⟩
  have x:i<au.length:=by have:=auV h;omega
  have S:=auO x;have D:=avb x;have d7:(au.map aB.cells)[((i:Nat):Int).toNat]?=some (au[i].cells):=by simp[x]
  have Ra:=gx qP (l:=au) x;have d8:=wI (a:=a+aU vars) S;have Ze:=C5 au[i] (R4 _ D).1 (R4 _ D).2.1 (R4 _ D).2.2 (by omega) (Q3 _ D) (λar i8=>mn ar.cy (T8 _ D ar i8) (by
   have d:=kh (avw (f:=gb) i8);rw[oC]at d;have O:=jD au[i];omega))
  generalize au[i]=q at S D d7 Ra d8 Ze;have r:Y.A (.fr π)=X.A (.fr π):=G.A _ id;have I:=t.fr;rw[r]at I;rw[q.aC,q.ex.aC]at d7 Ze;refine dO [3,2,58] W<|Po (aG W W W (auJ i) d7 W)<|dR [2,63] W<|Po (cH W W W)<|dL [] W ?_;have u:=bB (T:=[Ob.box (dK q (a+aU vars+aS ((au.take i).map qP)))]) I;have XS:au.length-(i+1)<au.length-i:=by omega
  obtain⟨L,N⟩:=t.fS (C:=dK q (a+aU vars+aS ((au.take i).map qP))) ⟨rfl,rfl,rfl,rfl⟩ ⟨q,a+aU vars+aS ((au.take i).map qP),by rw[Rl];exact S,by rw[ge];exact d8,W⟩;have i9:a+aU vars+aS ((au.take (i+1)).map qP)=a+aU vars+aS ((au.take i).map qP)+qP q:=by omega
  rcases avl i with y|y
  ·have R:bM (Y.A (.er π)) (Y.ve π) i= .d (.sl []):=by rw[y];rfl
   rw[R]at u;refine dO [2,68] W<|Po (aA W W u W)<|dR [70] W<|Po (jf (cs:=[_]) W W W W W W)<|dR [71] W<|Po (zL true W W W (mI _ _) W W (by decide) (by decide))<|dR [999] W<|Po (cc W W (bB (bB u)) W W W)<|dR [2,76] W<|Po (aE Ze W W)<|dR [77] W<|Po (az W W W (by omega))<|dR [2,78] W<|Po (az W W W (by omega))<|dL [] W<|bK (k':=au.length-(i+1)) XS ⟨i+1,_,_,_,rfl,by omega,rfl,L,G.trans N⟩ ?_ (kc W (kc W (kc W (kc W (kc (by rw[i9];rfl) W)))));simp only[aw.xv,au2 y,r,auN,avd];rfl
  ·have R:bM (Y.A (.er π)) (Y.ve π) i= .bH (Y.A (.er π)) (Y.ve π) i:=by unfold bM;rw[auU (by omega)]
   rw[R]at u;have W9:=t.er y;have PS:Y.A (.er π)≠X.A (.fr π):=by intro e;have:=t.oH y;rw[e,<-r,t.lN]at this;cases this
   refine dO [2,68] W<|Po (aA W W u W)<|dR [70] W<|Po (jf (cs:=[_]) W W W W W W)<|dR [71] W<|Po (zM W W W (mI _ _) (bB (bB W9)) W (by omega) (by omega))<|dR [999] W<|Po (cc W W (gu (bB u) PS) W W W)<|dR [2,76] W<|Po (aE Ze W W)<|dR [77] W<|Po (az W W W (by omega))<|dR [2,78] W<|Po (az W W W (by omega))<|dL [] W<|bK (k':=au.length-(i+1)) XS ⟨i+1,_,_,_,rfl,by omega,rfl,L,G.trans N⟩ ?_ (kc W (kc W (kc W (kc W (kc (by rw[i9];rfl) W)))));simp only[aw.xv,auU (show ¬i=0 by omega),r];rfl
 rintro _ ⟨Y,K1,v6,mt,R0,rfl⟩;have r:Y.A (.fr π)=X.A (.fr π):=R0.A _ id;have I:=mt.fr;rw[r]at I;refine dO [2,82] W<|Po (aA W W I W)<|dR [83] W<|Po (pY W W)<|dL [] W<|Pz [nN 80 0,nN 79 au.length,nM 78 (bM (Y.A (.er π)) (Y.ve π) au.length),nR 1 (X.A (.fr π))] K1 W W<|dC [3] W<|DC.lp (λk J=> ∃(i:Nat) (K:Hp) (p:List (Nat×List M)),J=⟨[nN 80 i,nN 79 au.length,nM 78 (bM (Y.A (.er π)) (Y.ve π) au.length),nR 1 (X.A (.fr π))],p,K⟩/\i<=au.length/\k=au.length-i/\
   Fl (c.fr π) st z (X.up π) Y π (c.fr π).vars.length au.length (λg _=>g<i) K/\m_ π X H Y K) au.length _
  ⟨0,K1,_,rfl,by omega,rfl,mt.mono (λg v _ n _ j=>by omega),R0⟩ W ?_
 rintro k s1 ⟨i,K,p,rfl,hi,rfl,co,pm⟩;refine dC [2] W<|DC.cond W (λh=> ?_) (λh=> ?_);rotate_left
 ·have e:i=au.length:=by have:=au9 h;omega
  subst e;refine DC.exit<|⟨_,W,Y,?_,pm⟩;rw[Rl];exact co.mono (λg v _ n hE _=>by
   obtain⟨_,⟨q,hq,_⟩,_⟩:=hE;rw[Rl]at hq;rcases auM g au.length with Q|Q
   ·exact Q
   ·rw[auP Q]at hq;cases hq)
 have x:i<au.length:=by have:=auV h;omega
 obtain⟨q,t3,S,d8,P4⟩:=co.pl i x;have D:q∈au:=auQ (by rw[<-Rl];exact S);have wd:=wB (b:= .mk vars au) (q:=q) D;have SF:=wC q (Q3 _ D) (T8 _ D) (by omega);rw[q.aC,q.ex.aC]at SF;have QR:=nK q;have W9:=co.er (by omega);have Pv:((List.range au.length).map λk=>M.ref (Y.A (.pl π k)) 0)[((i:Nat):Int).toNat*1]?=some (.ref (Y.A (.pl π i)) 0):=by simp[x]
 refine dO [3,2,86] W<|Po (mr W W W W9 (auJ i) (by omega))<|dR [87] W<|Po (ny W W W9 Pv)<|dR [2,91] W<|Po (k_ W W P4 W W)<|dR [92] W<|Po (aE SF W W)<|dR [93] W<|Po (bp W W W) ?_;rw[au8];refine dL [] W<|Pz [nN 90 0,nN 89 ((cd q).length),nD 88 (.sl (dJ (cd q))),nR 15 (Y.A (.pl π i)),nN 80 i,nN 79 au.length,nM 78 (bM (Y.A (.er π)) (Y.ve π) au.length),nR 1 (X.A (.fr π))] K W W<|dC [3] W<|DC.lp (λk J=> ∃(m:Nat) (B:Hp) (p:List (Nat×List M)),J=⟨[nN 90 m,nN 89 ((cd q).length),nD 88 (.sl (dJ (cd q))),nR 15 (Y.A (.pl π i)),nN 80 i,nN 79 au.length,nM 78 (bM (Y.A (.er π)) (Y.ve π) au.length),nR 1 (X.A (.fr π))],p,B⟩/\m<=(cd q).length/\k=(cd q).length-m/\
   Fl (c.fr π) st z (X.up π) Y π (c.fr π).vars.length au.length (λg nm=>g<i\/(g=i/\nm∈(cd q).take m)) B/\m_ π X H Y B) (cd q).length _
  ⟨0,K,_,rfl,by omega,rfl,co.mono (λg v _ n _ j=>by
   rcases j with j|⟨_,j⟩
   ·exact j
   ·simp at j),pm⟩ W ?_
 rintro k s2 ⟨m,B,p,rfl,hm,rfl,ah,ac⟩;refine dC [2] W<|DC.cond W (λh=> ?_) (λh=> ?_);rotate_left
 ·have e:m=(cd q).length:=by have:=au9 h;omega
  subst e;refine DC.exit<|dO [2,116] W<|Po (az W W W (by omega))<|dL [] W<|bK (k':=au.length-(i+1)) (by omega) ⟨i+1,B,_,rfl,by omega,rfl,ah.mono (λg v _ n hE j=> ?_),ac⟩ W W;rcases avB.1 j with d|d
  ·exact .inl d
  ·subst d;obtain⟨_,⟨q',PJ,RH⟩,_⟩:=hE;rw[S]at PJ;injection PJ with PJ
   subst PJ;exact .inr ⟨W,by rw[avo];exact RH⟩
 have Yn:m<(cd q).length:=by have:=auV h;omega
 have Uh:=avb Yn;have Uk:=li Yn;have Qu:=au1 Yn;generalize (cd q)[m]=n at Uh Uk Qu;have UY:(cd q).length-(m+1)<(cd q).length-m:=by omega
 have hR: ∀A w,π=A++w->Kl Y c B w:=by
  intro A w e;cases A with
  |nil=>
   have e':=e;subst e';have:=ah;have Wp:Y.up π=X.up π:=by cases π with
    |nil=>rfl
    |cons g o=>simp only[aw.up];rw[ac.A _ (id: ¬(Ro.fr o).rB _)]
   rw[<-Wp]at this;exact this.Md
  |cons g A=>
   have hn:w≠π:=by
    intro e2;have:=av3 List.length e;rw[e2]at this;simp only[auN,au4]at this;omega
   exact((ZS g (A++w) e A w W).up ac hn).r
 have U:=BM Qt π hR n;rw[r]at U;refine dO [3,2,96] W<|Po (aG W W W (auJ m) Uk W)<|dL [] W ?_;have qr:f_ (c.fr π).vars n=none->Fl (c.fr π) st z (X.up π) Y π (c.fr π).vars.length au.length (λg nm=>g<i\/(g=i/\nm∈(cd q).take (m+1))) B:=by
  intro PU;refine(ah.skip (i:=i) (nm:=n) (λd6 v _ V P e=>by rw[e,PU]at P;cases P)).mono (λg v _ d6 _ j=> ?_);rcases j with j|⟨d,O⟩
  ·exact .inl (.inl j)
  ·rw[Qu]at O;rcases auS.1 O with Z|Z
   ·exact .inl (.inr ⟨d,Z⟩)
   ·exact .inr ⟨d,auW.1 Z⟩
 cases E:c.find π n with
 |none=>
  have P:f_ (c.fr π).vars n=none:=by
   cases e:f_ (c.fr π).vars n with
   |none=>rfl
   |some k=>rw[xx e]at E;cases E
  have UW:Y.gS c π n= .d .bX:=by unfold aw.gS;rw[E]
  rw[UW]at U;refine dO [2,100] W<|Po (aq U W W)<|dR [2,102] W<|Po (jC (by kernel_rfl) W W W W W)<|dR [0,2,115] W<|Po (az W W W (by omega))<|dL [] W<|bK (k':=(cd q).length-(m+1)) UY ⟨m+1,B,_,rfl,by omega,rfl,qr P,ac⟩ W W
 |some o=>
  have UW:Y.gS c π n= .ref (Y.A (.ce o.1 o.2)) 0:=by unfold aw.gS;rw[E]
  rw[UW]at U;obtain⟨⟨A,Sa⟩,P⟩:=xw E;obtain⟨v,V,VE⟩:=Er P;by_cases RW:o.1=π
  ·rw[RW]at U P V;have hk:o.2<(c.fr π).vars.length:=by
    rcases auM o.2 (c.fr π).vars.length with Q|Q
    ·exact Q
    ·rw[auP Q]at V;cases V
   obtain⟨v',F,eq,d,O,QA,h4⟩:=ah.ce o.2 hk;rw[V]at d;injection d with d
   subst d;obtain⟨L,N⟩:=ah.link (i:=i) (q:=q) hk V (by rw[VE];exact P) O S (by rw[VE];exact Uh) (λg nm j=>by rcases j with j|j<;>omega) QA;rw[r]at QA L N;have d9:(Nat.beq (X.A (.fr π)) (X.A (.fr π))&&Nat.beq 0 0)=true:=by simp
   refine dO [2,100] W<|Po (aq U W W)<|dR [2,102] W<|Po (jC (by kernel_rfl) W W W W W)<|dR [107] W ?_
   first|refine Po (ax W W) ?_|(refine Po (av W) ?_;refine Po (aA W W QA W) ?_)
   refine dR [109] W ?_
   first|refine Po (ax W W) ?_|(refine Po (av W) ?_;refine Po (Hx W (by kernel_rfl) W W) ?_;rw[d9])
   refine dR [1,2,999] W<|Po (cc W W QA W W W)<|dR [2,115] W<|Po (az W W W (by omega))<|dL [] W<|bK (k':=(cd q).length-(m+1)) UY ⟨m+1,_,_,rfl,by omega,rfl,L.mono (λg t4 _ d6 _ j=> ?_),ac.trans N⟩ W W;rcases j with j|⟨d,O⟩
   ·exact .inl (.inl j)
   ·rw[Qu]at O;rcases auS.1 O with Z|Z
    ·exact .inl (.inr ⟨d,Z⟩)
    ·exact .inr ⟨d,by rw[auW.1 Z,VE]⟩
  ·have rg:f_ (c.fr π).vars n=none:=by
    cases e:f_ (c.fr π).vars n with
    |none=>rfl
    |some k=>rw[xx e]at E;injection E with E;exact absurd (by rw[<-E]) RW
   obtain⟨F,eq,J,d6,QA⟩:=(hR A o.1 Sa).ce _ _ V;have hO:I9 Y c B o.1:=by
    obtain⟨g,w,e1,e2⟩:=Gp rg E;obtain⟨⟨Tc,d⟩,_⟩:=xw e2;exact(ZS g w e1 Tc o.1 d).up ac RW
   have PS:Y.A (.fr o.1)≠X.A (.fr π):=by
    intro e;have d:=hO.fr;rw[e,<-r,ah.lN]at d;injection d with d
    injection d with d
    exact RW d.symm
   have d9:(Nat.beq (Y.A (.fr o.1)) (X.A (.fr π))&&Nat.beq 0 0)=false:=by
    cases e:Nat.beq (Y.A (.fr o.1)) (X.A (.fr π))with
    |false=>rfl
    |true=>exact absurd (auZ e) PS
   refine dO [2,100] W<|Po (aq U W W)<|dR [2,102] W<|Po (jC (by kernel_rfl) W W W W W)<|dR [107] W ?_
   first|refine Po (ax W W) ?_|(refine Po (av W) ?_;refine Po (aA W W QA W) ?_)
   refine dR [109] W ?_
   first|refine Po (ax W W) ?_|(refine Po (av W) ?_;refine Po (Hx W (by kernel_rfl) W W) ?_;rw[d9])
   refine dR [0,2,115] W<|Po (az W W W (by omega))<|dL [] W<|bK (k':=(cd q).length-(m+1)) UY ⟨m+1,B,_,rfl,by omega,rfl,qr rg,ac⟩ W W
end
section
variable{P:Pg}{n:Nat}{c:aK}{d:Nd}{u:US}{X Y Z:aw}{H K L:Hp}
theorem Mj(h:cF P n c d X H){a:Nat}(f:H.length<=a):X.own a=none:=by
 cases e:X.own a with
 |none=>rfl
 |some b=>have:=h.lt a b e;omega
def aw.bG(X:aw)(ρ:Path)(H:Hp):aw:= {X with
 A:= λr=>if r= .fr ρ then H.length+2 else if r= .am ρ then H.length else if r= .tk ρ then H.length+1 else X.A r
 own:= λa=>if a=H.length then some (.am ρ)else if a=H.length+1 then some (.tk ρ)else if a=H.length+2 then some (.fr ρ)else X.own a
 fs:= λσ=>if σ=ρ then 1 else X.fs σ}
theorem cF.bG(h:cF P n c d X H){π:Path}{j:Nat}(hf:X.fs π=2)(UG:X.fs (j::π)=0)(XT: ∀l,X.fs (l::j::π)=0){q:aB}(hq:(c.fr π).au[j]?=some q){es:List (D×M)}(d9:H[X.A (.am π)]?=some (.map es)):
  cF P n c d (X.bG (j::π) H) ((((H++ [Ob.map []])++ [Ob.map []])++ [Ob.box [.ref (X.A (.fr π)) 0,.d (.sl []),.d (.sl []),.mp H.length,.mp (H.length+1)]]).set (X.A (.am π)) (.map (jz (X.A (.pl π j)) 0 (.ref (H.length+2) 0) es))):=by
 have hj:j<(c.fr π).au.length:=by
  rcases auM j (c.fr π).au.length with h|h
  ·exact h
  ·rw[auP h]at hq;cases hq
 obtain⟨b,u⟩: ∃b,b=j::π:=⟨_,rfl⟩;have N:π≠b:=by rw[u];intro e;have:=av3 List.length e;simp at this
 have i6:X.fs b=0:=by rw[u];exact UG
 have f9: ∀l,X.fs (l::b)=0:=by rw[u];exact XT
 have O:=h.own (.am π) (by show 1<=X.fs π;omega);have gc:=h.lt _ _ O;rw[<-u];generalize F:(((H++ [Ob.map []])++ [Ob.map []])++ [Ob.box [M.ref (X.A (.fr π)) 0,.d (.sl []),.d (.sl []),.mp H.length,.mp (H.length+1)]]).set (X.A (.am π)) (.map (jz (X.A (.pl π j)) 0 (.ref (H.length+2) 0) es))=E;have hl:E.length=H.length+3:=by rw[<-F];simp
 have R: ∀k,k<H.length->k≠X.A (.am π)->E[k]?=H[k]?:= λk g y=>by
  rw[<-F,auT (avH y),auL (by simp;omega),auL (by simp;omega),auL g]
 have k1:E[H.length]?=some (.map []):=by
  rw[<-F,auT (by omega),auL (by simp),auL (by simp)];simp
 have k2:E[H.length+1]?=some (.map []):=by
  rw[<-F,auT (by omega),auL (by simp),auR (by simp)];simp
 have k3:E[H.length+2]?=some (.box [.ref (X.A (.fr π)) 0,.d (.sl []),.d (.sl []),.mp H.length,.mp (H.length+1)]):=by
  rw[<-F,auT (by omega),auR (by simp)];simp
 have k4:E[X.A (.am π)]?=some (.map (jz (X.A (.pl π j)) 0 (.ref (H.length+2) 0) es)):=by rw[<-F];exact avz (by simp;omega)
 have S:(X.bG b H).A (.fr b)=H.length+2:=by simp[aw.bG]
 have T:(X.bG b H).A (.am b)=H.length:=by simp[aw.bG]
 have U:(X.bG b H).A (.tk b)=H.length+1:=by simp[aw.bG]
 have i: ∀r,r≠ .fr b->r≠ .am b->r≠ .tk b->(X.bG b H).A r=X.A r:= λr g y J=>by simp[aw.bG,g,y,J]
 have Q: ∀k,k<H.length->(X.bG b H).own k=X.own k:= λk K=>by
  simp only[aw.bG];rw[auU (by omega),auU (by omega),auU (by omega)]
 have ac: ∀k,H.length<=k->X.own k=none:= λk K=>Mj h K
 have x:(X.bG b H).fs b=1:=au2 W;have m: ∀a,a≠b->(X.bG b H).fs a=X.fs a:= λa RW=>auU RW
 have z: ∀a,1<=X.fs a->a≠b:=by rintro a g rfl;omega
 have d6: ∀r,X.live c r->(X.bG b H).live c r/\(X.bG b H).A r=X.A r:=by
  intro r f;cases r with
  |fr a=>have e:=z a f;exact⟨by show 1<=(X.bG b H).fs a;rw[m a e];exact f,i _ (by simp[e]) (by simp) (by simp)⟩
  |am a=>have e:=z a f;exact⟨by show 1<=(X.bG b H).fs a;rw[m a e];exact f,i _ (by simp) (by simp[e]) (by simp)⟩
  |tk a=>have e:=z a f;exact⟨by show 1<=(X.bG b H).fs a;rw[m a e];exact f,i _ (by simp) (by simp) (by simp[e])⟩
  |cr a=>have e:=z a (by rw[f.1];decide);exact⟨⟨by rw[m a e];exact f.1,f.2⟩,i _ (by simp) (by simp) (by simp)⟩
  |er a=>have e:=z a (by rw[f.1];decide);exact⟨⟨by rw[m a e];exact f.1,f.2⟩,i _ (by simp) (by simp) (by simp)⟩
  |ce a w=>have e:=z a (by rw[f.1];decide);exact⟨⟨by rw[m a e];exact f.1,f.2⟩,i _ (by simp) (by simp) (by simp)⟩
  |pl a w=>have e:=z a (by rw[f.1];decide);exact⟨⟨by rw[m a e];exact f.1,f.2⟩,i _ (by simp) (by simp) (by simp)⟩
  |_=>exact⟨f,i _ (by simp) (by simp) (by simp)⟩
 have ge: ∀r,(X.bG b H).live c r-> ¬(r= .fr b\/r= .am b\/r= .tk b)->X.live c r:=by
  intro r f s;cases r with
  |fr a=>
       have e:a≠b:=by rintro rfl;exact s (.inl W)
       have g:1<=(X.bG b H).fs a:=f;rw[m a e]at g;exact g
  |am a=>
       have e:a≠b:=by rintro rfl;exact s (.inr (.inl W))
       have g:1<=(X.bG b H).fs a:=f;rw[m a e]at g;exact g
  |tk a=>
       have e:a≠b:=by rintro rfl;exact s (.inr (.inr W))
       have g:1<=(X.bG b H).fs a:=f;rw[m a e]at g;exact g
  |cr a=>
       have e:a≠b:=by rintro rfl;have:=f.1;rw[x]at this;cases this
       exact⟨by rw[<-m a e];exact f.1,f.2⟩
  |er a=>
       have e:a≠b:=by rintro rfl;have:=f.1;rw[x]at this;cases this
       exact⟨by rw[<-m a e];exact f.1,f.2⟩
  |ce a w=>
        have e:a≠b:=by rintro rfl;have:=f.1;rw[x]at this;cases this
        exact⟨by rw[<-m a e];exact f.1,f.2⟩
  |pl a w=>
        have e:a≠b:=by rintro rfl;have:=f.1;rw[x]at this;cases this
        exact⟨by rw[<-m a e];exact f.1,f.2⟩
  |_=>exact f
 have co: ∀a l,l::a≠b->a≠b->(X.bG b H).oS a l=X.oS a l:= λa l G A=>by
  unfold aw.oS;rw[m _ G,i (.fr (l::a)) (by simp[G]) (by simp) (by simp),i (.fr a) (by simp[A]) (by simp) (by simp)];rfl
 refine h.Bb (λr=>(r= .fr b\/r= .am b\/r= .tk b)\/r= .am π) (by omega) (λk K o=>⟨by rw[Q k K];exact o,R k K (by rintro rfl;rw[O]at o;cases o)⟩) (λk w o=>R k (h.lt k _ o) (by rintro rfl;rw[O]at o;cases o)) (λk w=> ?_) W W (λk r o=> ?_) d6 (λr f s=> ?_) (λr f s=> ?_) (λd7 V=> .inl V) (λd7 V=> .inl V)
 ·rcases auM k H.length with g|g
  ·rw[Q k g]
  ·rw[ac k g];simp only[aw.bG];constructor
   ·intro e;split at e
    ·cases e
    ·split at e
     ·cases e
     ·split at e
      ·cases e
      ·rw[ac k g]at e;cases e
   ·intro e;cases e
 ·rcases auM k H.length with g|g
  ·omega
  ·simp only[aw.bG]at o;split at o
   ·omega
   ·split at o
    ·omega
    ·split at o
     ·omega
     ·rw[ac k g]at o;cases o
 ·have L:=ge r f (λe=>s (.inl e));have o:=h.own r L;refine⟨L,by rw[Q _ (h.lt _ _ o)];exact o,R _ (h.lt _ _ o) (h.ne L (by show 1<=X.fs π;omega) (λe=>s (.inr e))),λob p=> ?_⟩;cases r with
  |fr a=>
   have e:a≠b:=by rintro rfl;exact s (.inl (.inl W))
   have Wp:(X.bG b H).up a=X.up a:=by
    cases a with
    |nil=>rfl
    |cons l a=>
     have A:a≠b:=by rintro rfl;have g:1<=X.fs (l::a):=L;rw[f9 l]at g;omega
     simp only[aw.up];rw[i _ (by simp[A]) (by simp) (by simp)]
   simp only[aw.eu]at p⊢;rw[Wp,m a e,i _ (by simp) (by simp) (by simp),i _ (by simp) (by simp) (by simp),i _ (by simp) (by simp[e]) (by simp),i _ (by simp) (by simp) (by simp[e])];exact p
  |am a=>
   have e:a≠b:=by rintro rfl;exact s (.inl (.inr (.inl W)))
   obtain⟨ah,G,A,Y,e4⟩:=p;refine⟨ah,G,A,λB l t=> ?_,λB=>e4 (by rw[<-m a e];exact B)⟩;rw[m a e]at B;have Z:l::a≠b:=by
    intro I;rw[u]at I;injection I with _ I
    subst I;exact s (.inr W)
   rw[i _ (by simp) (by simp) (by simp),co a l Z e];exact Y B l t
  |tk a=>
   have e:a≠b:=by rintro rfl;exact s (.inl (.inr (.inr W)))
   obtain⟨ah,G,A,Y⟩:=p;refine⟨ah,G,A,λB l t=> ?_⟩;rw[m a e]at B;have Z:l::a≠b:=by
    intro I;rw[I,x]at t;cases t
   rw[m _ Z]at t;rw[i _ (by simp) (by simp) (by simp)];exact Y B l t
  |cr a=>
   simp only[aw.eu]at p⊢;rw[p,show(X.bG b H).vc=X.vc from rfl]
   congr 1
   try exact avy λw _=>by rw[i _ (by simp) (by simp) (by simp)]
  |er a=>
   simp only[aw.eu]at p⊢;rw[p,show(X.bG b H).ve=X.ve from rfl]
   congr 1
   try exact avy λw _=>by rw[i _ (by simp) (by simp) (by simp)]
  |ce a w=>
   have e:=z a (by rw[L.1];decide);obtain⟨v,lp,eq,d8,g,y,J,h4,h5⟩:=p;exact⟨v,lp,eq,d8,g,y,by rw[i (.fr a) (by simp[e]) (by simp) (by simp)];exact J,h4,λl t=>by rw[i _ (by simp) (by simp) (by simp)];exact h5 l t⟩
  |pl a w=>exact p
  |it=>simp only[aw.eu]at p⊢;rw[i _ (by simp) (by simp) (by simp),i (.fr []) (by simp[u]) (by simp) (by simp),i _ (by simp) (by simp) (by simp),i _ (by simp) (by simp) (by simp)];exact p
  |un=>simp only[aw.eu]at p⊢;rw[i _ (by simp) (by simp) (by simp),i _ (by simp) (by simp) (by simp),i _ (by simp) (by simp) (by simp)];exact p
  |_=>exact p
 ·rcases s with(rfl|rfl|rfl)|rfl
  ·refine⟨by rw[S];simp[aw.bG],_,by rw[S];exact k3,?_⟩;simp only[aw.eu];rw[x,T,U,auU (by decide),auU (by decide)];have:(X.bG b H).up b= .ref (X.A (.fr π)) 0:=by
    rw[u];show M.ref ((X.bG (j::π) H).A (.fr π)) 0=_;rw[<-u,i _ (by simp[N]) (by simp) (by simp)]
   rw[this]
  ·exact⟨by rw[T];simp[aw.bG],_,by rw[T];exact k1,[],W,W,λ(e:(X.bG b H).fs b=2)=>by(rw[x]at e;cases e),λ_=>rfl⟩
  ·exact⟨by rw[U];simp[aw.bG],_,by rw[U];exact k2,[],W,W,λ(e:(X.bG b H).fs b=2)=>by(rw[x]at e;cases e)⟩
  ·have e0:(X.bG b H).A (.am π)=X.A (.am π):=i _ (by simp) (by simp[N]) (by simp);obtain⟨ob,g,Uu,rfl,y,J,h4⟩:=h.ob (.am π) (by show 1<=X.fs π;omega);rw[d9]at g;injection g with g
   injection g with g
   subst g;refine⟨by rw[e0,Q _ gc];exact O,_,by rw[e0];exact k4,_,W,o_ _ _ _ y,λ_ l t=> ?_,λe=>by rw[m π N]at e;omega⟩;rw[i (.pl π l) (by simp) (by simp) (by simp),pR _ _ _ _ _ y];by_cases e:l=j
   ·subst e;rw[au2 ⟨rfl,rfl⟩];unfold aw.oS;rw[<-u,x,au2 (by decide),S]
   ·rw[auU (λhh=>h.ne (r:= .pl π l) (r':= .pl π j) ⟨hf,t⟩ ⟨hf,hj⟩ (by intro C;injection C with _ C;exact e C) hh.1),co π l (by rw[u];intro C;injection C with C _;exact e C) N];exact J hf l t
theorem Pu.OK(h:Pu P c d u X)(i: ∀m,Y.fs m=2↔X.fs m=2)(L: ∀e a,Y.fs (e::a)≠0->Y.fs a=2/\c.ok (e::a))(M: ∀a,Y.fs a<=2)(ec:Y.cs=X.cs)(r:Y.dn=X.dn)(N:Y.lv=X.lv)(s:Y.x=X.x)(t:Y.N=X.N)(A:Y.F=X.F)(B:Y.fi=X.fi)(V:Y.ph=X.ph):Pu P c d u Y:=by
 have w: ∀b v,Y.SS c b v↔X.SS c b v:= λb v=>by unfold aw.SS aw.S;rw[t,A,B,V]
 have C: ∀b,Y.ER c b↔X.ER c b:= λb=>by unfold aw.ER;simp only[i]
 have J: ∀b a e,Y.DC c b a e↔X.DC c b a e:= λb a e=>by unfold aw.DC;rw[i,r]
 have Z: ∀x,NI.ok c d X x->NI.ok c d Y x:= λx h=>by cases x<;>simp only[NI.ok,i,ec]at h⊢ <;>exact h
 refine⟨(i _).2 h.f0,L,M,by rw[ec];exact h.c6,by rw[ec];exact h.ci,by rw[ec];exact h.cv,by rw[ec];exact h.ca,?_,?_,?_,?_,?_,?_,?_,?_,?_,?_,?_,?_,by rw[B,A];exact h.fl,by rw[B,t];exact h.fn,by rw[ec,r];exact h.g0,λa e j=>(i _).2 (h.dz a e (by grind)),λa b l=> ?_⟩
 ·intro b k;rw[C,s];exact h.xm b k
 ·intro b k;rw[C,s];exact h.xp b k
 ·intro b k a e j;rw[s];exact h.xd b k a e ((J _ _ _).1 j)
 ·intro b k j;rw[C,s];exact h.xs b k λa e O=>j a e ((J _ _ _).2 O)
 ·intro a b n v f l D y E;rw[i]at f;rw[ec]at l;exact(w _ _).2 (h.s1 a b n v f l D y E)
 ·intro m Q v R S z f l D E T F G;rw[i]at f;rw[ec]at l;obtain⟨g,H,h3⟩:=h.s2 m Q v R S z f l D E T F G;exact⟨(i _).2 g,λk o p=>(w _ _).2 (H k o p),λk=>by grind⟩
 ·intro a e f j;rw[i]at f;rw[r]at j;obtain⟨g,H⟩:=h.s3 a e f j;exact⟨g,λo p=>(w _ _).2 (H o p)⟩
 ·intro a e f o p;rw[i]at f;exact(w _ _).2 (h.s4 a e f o p)
 ·intro a e y;rw[N]at y;rw[t];exact h.s5 a e y
 ·intro a e z f j I G K U m F;rw[i]at f;rw[r]at j;rw[ec]at I⊢;exact h.dl a e z f j I G K U m F
 ·intro n q;rw[t]at q;exact Z _ (h.nk n q)
 ·intro n q;rw[A]at q;have g:=h.fk n q;exact⟨g.ev,(i _).2 g.fs,g.lt,g.wr,g.sm,g.own,g.sz⟩
 ·rw[ec]at l;rcases h.cz a b l with g|g
  ·grind
  ·exact .inr g
theorem Pu.bG(h:Pu P c d u X){π:Path}{j:Nat}(hf:X.fs π=2)(m:X.fs (j::π)=0)(n:c.ok (j::π)):Pu P c d u (X.bG (j::π) H):=by
 have o:(X.bG (j::π) H).fs (j::π)=1:=au2 W;have b: ∀a,a≠j::π->(X.bG (j::π) H).fs a=X.fs a:= λa i=>auU i
 refine h.OK (λa=> ?_) (λf a g=> ?_) (λa=> ?_) W W W W W W W W
 ·grind
 ·by_cases e:f::a=j::π
  ·grind
  ·rw[b _ e]at g;obtain⟨k,l⟩:=h.fp f a g;refine⟨?_,l⟩;rw[b a (by grind)];exact k
 ·by_cases e:a=j::π
  ·grind
  ·rw[b a e];exact h.f2 a
theorem cF.NO(h:cF P n c d X H){π:Path}{j:Nat}(hf:X.fs π=2)(s:X.fs (j::π)≠2)(g:j<(c.fr π).au.length)(p: ∀a,X.fs (a::π)=2->a<(c.fr π).au.length){es:List (D×M)}(q:H[X.A (.tk π)]?=some (.map es))(m:M):
  hJ es=true/\cF P n c d X (H.set (X.A (.tk π)) (.map (jz (X.A (.pl π j)) 0 m es))):=by
 obtain⟨i,b,t,rfl,e,k⟩:=h.ob (.tk π) (by show 1<=X.fs π;omega);rw[q]at b;injection b with b
 injection b with b
 subst b;refine⟨e,h.zZ (.tk π) (by show 1<=X.fs π;omega) _ W W W W W W (λ_=>avU) ⟨_,rfl,o_ _ _ _ e,λ_ a f=> ?_⟩ (λr i _ _ l=>l)⟩;rw[pR _ _ _ _ _ e,auU (λo=>h.ne (r:= .pl π a) (r':= .pl π j) ⟨hf,p a f⟩ ⟨hf,g⟩ (by grind) o.1)];exact k hf a f
end
section
variable{P:Pg}{n:Nat}{c:aK}{d:Nd}{u:US}{X Y Z W:aw}{H K L:Hp}
def HF(P:Pg)(d:Nd)(X:aw):Mc:=⟨X.A .it,X.A .un,X.A .me,X.A .pe,X.A .su,P,d,X.ad,.ref (X.A (.fr [])) 0,.d (.bool false),bM (X.A .af) X.vF X.F.length,bM (X.A .nx) X.vN X.N.length⟩
theorem cF.mm(h:cF P n c d X H)(j:bW d<=1000000000):MM (HF P d X) X.x H:=by
 have a: ∀f g:Ro,X.live c f->X.live c g->f≠g->X.A f≠X.A g:= λf g i b e=>h.ne i b e
 exact⟨h.inst,h.unit,h.mem,h.cu,h.an,a .me .pe trivial trivial (by simp),a .me .su trivial trivial (by simp),a .pe .su trivial trivial (by simp),
  ⟨a .it .me trivial trivial (by simp),a .it .pe trivial trivial (by simp),a .it .su trivial trivial (by simp)⟩,⟨a .un .me trivial trivial (by simp),a .un .pe trivial trivial (by simp),a .un .su trivial trivial (by simp)⟩,j⟩
theorem cF.reset(h:cF P n c d X H){g:Kp}(k:MS (HF P d X) H g K)(y: ∀j,j<bW d-> ∀l,g.s j=some l->X.x.s j=some l):cF P n c d {X with x:=g} K/\ ∀a,a<H.length->X.own a≠some .me->X.own a≠some .pe->X.own a≠some .su->K[a]?=H[a]?:=by
 have m: ∀a,a<H.length->X.own a≠some .me->X.own a≠some .pe->X.own a≠some .su->K[a]?=H[a]?:= λa f p q z=>
  k.iY a f (by rintro rfl;exact p (h.own .me trivial)) (by rintro rfl;exact q (h.own .pe trivial)) (by rintro rfl;exact z (h.own .su trivial))
 have s: ∀a,a<H.length->X.own a=none->({X with x:=g} :aw).own a=none/\K[a]?=H[a]?:= λa f e=>⟨e,m a f (by rw[e];simp) (by rw[e];simp) (by rw[e];simp)⟩
 have t: ∀b,X.live c b->({X with x:=g} :aw).live c b/\({X with x:=g} :aw).A b=X.A b:= λb i=>⟨by cases b<;>exact i,W⟩
 have u: ∀b,({X with x:=g} :aw).live c b->X.live c b:= λb i=>by cases b<;>exact i
 refine⟨⟨λb i=>h.own b (u b i),λa b e=>avR (h.lt a b e) k.len,λb i=> ?_,λj v l A=>(h.sub j v l (y j v l A)).frame (λa f=>m a (h.lt a _ f) (by rw[f];simp) (by rw[f];simp) (by rw[f];simp)) k.len,λo r=>(h.nx o r).up s t,λo r=>(h.af o r).up s t⟩,m⟩;have w:=u b i;have e:=h.own b w;obtain⟨B,p,q⟩:=h.ob b w;cases b with
 |me=>exact⟨_,k.mm.mem,W⟩
 |pe=>exact⟨_,k.mm.cu,W⟩
 |su=>exact⟨_,k.mm.an,W⟩
 |_=>exact⟨B,(m _ (h.lt _ _ e) (by rw[e];simp) (by rw[e];simp) (by rw[e];simp)).trans p,q⟩
def aw.full(Z:aw)(ρ:Path):aw:= {Z with fs:= λσ=>if σ=ρ then 2 else Z.fs σ}
theorem cF.filled{st z:Nat->Int}(h:cF P n c d Y K){ρ:Path}(RR:Y.fs ρ=1)(XT: ∀j,Y.fs (j::ρ)=0)(TJ: ∀j,Y.dn ρ j=false)(Qp: ∀D,D<(c.fr ρ).vars.length->st D=oE (Y.cs ρ D)/\z D=if zB (Y.cs ρ D)then c.get (ρ,D)else 0)
  (Qu: ∀U N,ρ=U::N-> ∃y,K[Y.A (.tk N)]?=some (.map y)/\ij (Y.A (.pl N U)) 0 y=some (dN (c.bA N U)))
  (q:Fl (c.fr ρ) st z (Y.up ρ) Z ρ (c.fr ρ).vars.length (c.fr ρ).au.length (λ_ _=>True) L) (p:m_ ρ Y K Z L):
  cF P n c d (Z.full ρ) L/\(∀r,Y.live c r->(Z.full ρ).live c r/\(Z.full ρ).A r=Y.A r)/\ ∀a,a<K.length->Y.own a=none->(Z.full ρ).own a=none/\L[a]?=K[a]?:=by
 have l: ∀r,¬r.rB ρ->(Z.full ρ).A r=Y.A r:=p.A;obtain⟨A0,o0,v0,e0,t⟩:=id p.eq;have E: ∀b,(Z.full ρ).fs b=if b=ρ then 2 else Y.fs b:= λb=>by unfold aw.full;rw[t]
 have Xi:(Z.full ρ).fs ρ=2:=by rw[E,au2 W]
 have o: ∀b,b≠ρ->(Z.full ρ).fs b=Y.fs b:= λb e=>by rw[E,auU e]
 have M:(Z.full ρ).cs=Y.cs:=by unfold aw.full;rw[t]
 have ah:(Z.full ρ).dn=Y.dn:=by unfold aw.full;rw[t]
 have G:(Z.full ρ).N=Y.N:=by unfold aw.full;rw[t]
 have H:(Z.full ρ).F=Y.F:=by unfold aw.full;rw[t]
 have O:(Z.full ρ).x=Y.x:=by unfold aw.full;rw[t]
 have co:(Z.full ρ).ad=Y.ad:=by unfold aw.full;rw[t]
 have d6:(Z.full ρ).vF=Y.vF:=by unfold aw.full;rw[t]
 have d7:(Z.full ρ).vN=Y.vN:=by unfold aw.full;rw[t]
 have Q: ∀b,b≠ρ->(Z.full ρ).vc b=Y.vc b/\(Z.full ρ).ve b=Y.ve b:=p.v;have UB: ∀j:Nat,j::ρ≠ρ:= λj e=>by have:=av3 List.length e;simp at this
 have d8: ∀r,(Z.full ρ).live c r-> ¬r.rB ρ->Y.live c r:=by
  intro r f g;cases r with
  |nx=>show Y.N≠ [];rw[<-G];exact f
  |af=>show Y.F≠ [];rw[<-H];exact f
  |fr b=>
       show 1<=Y.fs b;have m:1<=(Z.full ρ).fs b:=f;rw[E]at m;split at m
       ·rename_i e;subst e;omega
       ·exact m
  |am b=>
       show 1<=Y.fs b;have m:1<=(Z.full ρ).fs b:=f;rw[E]at m;split at m
       ·rename_i e;subst e;omega
       ·exact m
  |tk b=>
       show 1<=Y.fs b;have m:1<=(Z.full ρ).fs b:=f;rw[E]at m;split at m
       ·rename_i e;subst e;omega
       ·exact m
  |cr b=>exact⟨by rw[<-o b g];exact f.1,f.2⟩
  |er b=>exact⟨by rw[<-o b g];exact f.1,f.2⟩
  |ce b k=>exact⟨by rw[<-o b g];exact f.1,f.2⟩
  |pl b k=>exact⟨by rw[<-o b g];exact f.1,f.2⟩
  |_=>exact f
 have d9: ∀r,Y.live c r-> ¬r.rB ρ:=by
  intro r f g;cases r with
  |cr b=>
       have e:=g;subst e;have:=f.1;omega
  |er b=>
       have e:=g;subst e;have:=f.1;omega
  |ce b k=>
        have e:=g;subst e;have:=f.1;omega
  |pl b k=>
        have e:=g;subst e;have:=f.1;omega
  |_=>exact g
 have R: ∀b,Y.fs b=2->(Z.full ρ).fs b=2:= λb i=>by rw[o b (by rintro rfl;omega)];exact i
 have ac: ∀b,1<=Y.fs b->1<=(Z.full ρ).fs b:= λb i=>by rw[E];split<;>omega
 have A: ∀r,Y.live c r->(Z.full ρ).live c r/\(Z.full ρ).A r=Y.A r:=by
  intro r f;refine⟨?_,l r (d9 r f)⟩;cases r with
  |nx=>show(Z.full ρ).N≠ [];rw[G];exact f
  |af=>show(Z.full ρ).F≠ [];rw[H];exact f
  |fr b=>exact ac b f
  |am b=>exact ac b f
  |tk b=>exact ac b f
  |cr b=>exact⟨R b f.1,f.2⟩
  |er b=>exact⟨R b f.1,f.2⟩
  |ce b k=>exact⟨R b f.1,f.2⟩
  |pl b k=>exact⟨R b f.1,f.2⟩
  |_=>exact f
 have V: ∀a,a<K.length->Y.own a=none->(Z.full ρ).own a=none/\L[a]?=K[a]?:= λa I x=>
  ⟨(p.own a I).trans x,p.iY a I (λr f=>by rw[x]at f;cases f)⟩
 have cK: ∀r,Y.live c r->r≠ .fr ρ->L[Y.A r]?=K[Y.A r]?:= λr f hn=>p.iY _ (h.lt _ _ (h.own r f)) (λr' m=>by
  rw[h.own r f]at m;injection m with m;subst m;exact⟨d9 r f,hn⟩)
 have up: ∀b,(Z.full ρ).up b=Y.up b:= λb=>by
  cases b with
  |nil=>rfl
  |cons j b=>simp only[aw.up];rw[l _ (id: ¬(Ro.fr b).rB ρ)]
 have S: ∀{α:Type} {X:List α},X≠ []->0<X.length:= λ{α} {X} PS=>aw6.2 PS
 refine⟨⟨λr f=> ?_,q.lt,λr f=> ?_,λk hk u' hu=> ?_,λF J=> ?_,λF J=> ?_⟩,A,V⟩
 ·by_cases g:r.rB ρ
  ·cases r with
   |cr b=>
        have e:=g;subst e;exact q.nL (S f.2)
   |er b=>
        have e:=g;subst e;exact q.oH (S f.2)
   |ce b k=>
         have e:=g;subst e;exact q.oT k f.2
   |pl b k=>
         have e:=g;subst e;exact q.oU k f.2
   |_=>exact g.elim
  ·rw[l r g];exact(λr f=>(p.own _ (h.lt _ _ (h.own r f))).trans (h.own r f)) r (d8 r f g)
 ·by_cases g:r.rB ρ
  ·cases r with
   |cr b=>
        have e:=g;subst e;exact⟨_,q.cr (S f.2),W⟩
   |er b=>
        have e:=g;subst e;exact⟨_,q.er (S f.2),W⟩
   |ce b k=>
         have e:=g;subst e;obtain⟨v,lp,eq,m,i,u,h4⟩:=q.ce k f.2;obtain⟨w,s⟩:=Qp k f.2;exact⟨_,u,v,lp,eq,z k,m,i,by rw[w,M];rfl,by rw[s,M],λj g=>h4 j g trivial⟩
   |pl b k=>
         have e:=g;subst e;obtain⟨f9,F,m,i,u⟩:=q.pl k f.2;exact⟨_,u,f9,F,m,i,W⟩
   |_=>exact g.elim
  ·have Sb:=d8 r f g;by_cases RO:r= .fr ρ
   ·subst RO;refine⟨_,q.fr,?_⟩;simp only[aw.eu];rw[Xi,au2 W,au2 W,up];rfl
   obtain⟨ob,m,i⟩:=h.ob r Sb;refine⟨ob,by rw[l r g,cK r Sb RO];exact m,?_⟩;cases r with
   |it=>
    simp only[aw.eu]at i⊢;rw[l .un id,l (.fr []) id,l .af id,l .nx id,d6,d7,G,H];exact i
   |un=>simp only[aw.eu]at i⊢;rw[l .me id,l .pe id,l .su id];exact i
   |me=>simp only[aw.eu]at i⊢;rw[O];exact i
   |pe=>simp only[aw.eu]at i⊢;rw[O];exact i
   |su=>simp only[aw.eu]at i⊢;rw[O,co];exact i
   |nx=>simp only[aw.eu]at i⊢;rw[d7,G];exact i
   |af=>simp only[aw.eu]at i⊢;rw[d6,H];exact i
   |fr b=>
    have e:b≠ρ:=by rintro rfl;exact RO W
    simp only[aw.eu]at i⊢;rw[up,o b e,l (.cr b) e,l (.er b) e,l (.am b) id,l (.tk b) id,(Q b e).1,(Q b e).2];exact i
   |am b=>
    obtain⟨y,B,T,e3,e4⟩:=i;by_cases e:b=ρ
    ·subst e;refine⟨y,B,T,λ_ j g=> ?_,λhh=>by rw[Xi]at hh;cases hh⟩;rw[e4 RR];unfold aw.oS;rw[o _ (UB j),XT j,ah,TJ j];simp[ij]
    ·refine⟨y,B,T,λC j g=> ?_,λC=>e4 (by rw[<-o b e];exact C)⟩;rw[o b e]at C;rw[l (.pl b j) e,e3 C j g];unfold aw.oS;rw[l (.fr (j::b)) id,l (.fr b) id,ah,M];by_cases w:j::b=ρ
     ·rw[w,Xi,RR];rfl
     ·rw[o _ w]
   |tk b=>
    obtain⟨y,B,T,e3⟩:=i;refine⟨y,B,T,λC j g=> ?_⟩;by_cases e:b=ρ
    ·subst e;rw[o _ (UB j),XT j]at g;cases g
    ·rw[o b e]at C;rw[l (.pl b j) e];by_cases w:j::b=ρ
     ·obtain⟨Uu,s,h7⟩:=Qu j b w.symm;rw[m,B]at s;injection s with s
      injection s with s
      subst s;exact h7
     ·rw[o _ w]at g;exact e3 C j g
   |cr b=>
    have e:=g;simp only[aw.eu]at i⊢;rw[i,(Q b e).1]
    congr 1
    exact avy λk _=>by rw[l (.ce b k) e]
   |er b=>
    have e:=g;simp only[aw.eu]at i⊢;rw[i,(Q b e).2]
    congr 1
    exact avy λk _=>by rw[l (.pl b k) e]
   |ce b k=>
    have e:=g;obtain⟨v,lp,eq,gc,u,h4,w,s,h7⟩:=i;exact⟨v,lp,eq,gc,u,h4,by rw[l (.fr b) id,M];exact w,by rw[M];exact s,λj g=>by rw[l (.pl b j) e];exact h7 j g⟩
   |pl b k=>exact i
   |sb k=>exact i
 ·rw[O]at hu;rw[co];have B: ∀a,(Z.full ρ).own a=some (.sb k)↔Y.own a=some (.sb k):= λa=>by
   constructor
   ·intro x;rcases p.new a _ x with u|u
    ·rw[<-p.own a u];exact x
    ·exact u.elim
   ·intro x;exact(p.own a (h.lt a _ x)).trans x
  exact((h.sub k hk u' hu).frame (λa I=>p.iY a (h.lt a _ I) (λr f=>by rw[I]at f;injection f with f;subst f;exact⟨id,by simp⟩)) p.len).congr λa=>(B a).symm
 ·rw[G]at J;exact(h.nx F J).up V A
 ·rw[H]at J;exact(h.af F J).up V A
end
section
variable{P:Pg}{n:Nat}{c:aK}{d:Nd}{u:US}{X Y Z W:aw}{H K L:Hp}
def lO(c:aK)(π:Path)(j:Nat)(q:aB)(p:Nat)(a:bh)(k:Nat):Prop:=c.iO π j=true/\cI q p (c.bA π j)<=k/\k<cI q p (c.bA π j)+bP a.cy
theorem Pu.Aa(ah:oF P n c d u)(h:Pu P c d u Y){π:Path}{j:Nat}{q:aB}{p:Nat}{a:bh}(RR:Y.fs (j::π)=1)(N:(c.fr π).au[j]?=some q)(F:q.kd=3\/q.kd=4\/q.kd=5)(B:(c.fr π).pos[j]?=some p)(X:q.aj[c.bA π j]?=some a)(J: ∀A∈c.ew π j,Y.SS c A.1 A.2)
  (Z: ∀b,b<bW d->(lO c π j q p a b->W.x.m b=bZ (gX P.aJ d) b)/\(¬lO c π j q p a b->W.x.m b=Y.x.m b))
  (ac: ∀b,b<bW d->(lO c π j q p a b->(gX P.aJ d)[b]?=some none->W.x.p b=false)/\(¬(lO c π j q p a b/\(gX P.aJ d)[b]?=some none)->W.x.p b=Y.x.p b))
  (O: ∀b,b<bW d->(lO c π j q p a b->(gX P.aJ d)[b]?=some none->W.x.s b=none)/\(¬(lO c π j q p a b/\(gX P.aJ d)[b]?=some none)->W.x.s b=Y.x.s b))
  (VI: ∀g,W.fs g=if g=j::π then 2 else Y.fs g) (ec:W.cs=Y.cs) (G:W.dn=Y.dn) (el:W.lv=Y.lv) (Q:W.N=Y.N) (eF:W.F=Y.F) (ei:W.fi=Y.fi) (f9:W.ph=Y.ph):Pu P c d u W:=by
 have RE: ∀g,g≠j::π->W.fs g=Y.fs g:= λg e=>by rw[VI,auU e]
 have w: ∀g,Y.fs g=2->W.fs g=2:= λg m=>by rw[RE g (by rintro rfl;omega)];exact m
 have R: ∀g,W.fs g=2->g≠j::π->Y.fs g=2:= λg m e=>by rw[RE g e]at m;exact m
 have UB:=h.fp j π (by rw[RR];decide);have K: ∀b v,W.SS c b v↔Y.SS c b v:= λb v=>by unfold aw.SS aw.S;rw[Q,eF,ei,f9]
 have d6: ∀b,Y.cs (j::π) b=0:= λb=>by
  rcases avl (Y.cs (j::π) b)with e|e
  ·exact e
  ·rcases h.cz (j::π) b (by omega)with o|⟨_,i,g,x,o,s,e3⟩
   ·omega
   ·injection o with e4 e5
    subst e4;subst e5;rw[N]at s;injection s with s;subst s;omega
 have C: ∀b,W.ER c b↔Y.ER c b\/lO c π j q p a b:= λb=>by
  constructor
  ·rintro⟨f,i,x,L,a',k,m,t,h4,H,M,S,T⟩;by_cases e:i::f=j::π
   ·injection e with o s
    subst o;subst s;rw[N]at m;injection m with m;subst m
    rw[B]at t;injection t with t;subst t
    rw[X]at M;injection M with M;subst M
    exact .inr ⟨H,S,T⟩
   ·exact .inl ⟨f,i,x,L,a',R _ k e,m,t,h4,H,M,S,T⟩
  ·rintro(⟨f,i,x,L,a',k,m⟩|⟨H,S,T⟩)
   ·exact⟨f,i,x,L,a',w _ k,m⟩
   ·exact⟨π,j,q,p,a,(by rw[VI,au2 rfl]),N,B,F,H,X,S,T⟩
 have d7: ∀b f i,W.DC c b f i↔Y.DC c b f i:= λb f i=>by
  unfold aw.DC;rw[G];constructor
  ·rintro⟨k,m,t⟩;exact⟨h.dz _ _ m,m,t⟩
  ·rintro⟨k,m,t⟩;exact⟨w _ k,m,t⟩
 have gc: ∀b f i,Y.DC c b f i-> ¬lO c π j q p a b:=by
  rintro b f i ⟨k,m,x,t,h4,H⟩ ⟨r1,r2,r3⟩;have hO:=ah.oq f i x b (Pu.ok ah h k) t H b (auK _) (by
                                     have:h_ x.kd=1:=by rw[h4];rfl
                                     omega)
  obtain⟨τ,e⟩:=hO j π q p a UB.2 N B F X r2 r3;have:=wE h (τ:=τ) (ρ:=j::π) (by rw[<-e];exact k);omega
 have ge: ∀U,NI.ok c d Y U->NI.ok c d W U:= λU k=>by
  cases U with
  |cell i6 g=>obtain⟨a1,a2,a3,a4⟩:=k;exact⟨w _ a1,a2,by rw[ec];exact a3,a4⟩
  |aP f i=>obtain⟨a1,a2⟩:=k;exact⟨w _ a1,a2⟩
  |_=>exact k
 refine⟨w _ h.f0,λco g I=> ?_,λg=> ?_,by rw[ec];exact h.c6,by rw[ec];exact h.ci,by rw[ec];exact h.cv,by rw[ec];exact h.ca,λb r=>⟨λe=> ?_,λe=> ?_⟩,λb r=>⟨λe s=> ?_,λe=> ?_⟩,?_,?_,?_,?_,?_,?_,?_,?_,?_,?_,by rw[ei,eF];exact h.fl,by rw[ei,Q];exact h.fn,by rw[ec,G];exact h.g0,λπ j y=>w _ (h.dz π j (by rw[<-G];exact y)),λπ b z=> ?_⟩
 ·by_cases e:co::g=j::π
  ·injection e with o s
   subst o;subst s;exact⟨w _ UB.1,UB.2⟩
  ·rw[RE _ e]at I;obtain⟨k,m⟩:=h.fp co g I;exact⟨w _ k,m⟩
 ·rw[VI];split
  ·omega
  ·exact h.f2 g
 ·by_cases l:lO c π j q p a b
  ·exact(Z b r).1 l
  ·rw[(Z b r).2 l];rcases(C b).1 e with o|o
   ·exact(h.xm b r).1 o
   ·exact absurd o l
 ·have o: ¬lO c π j q p a b:= λl=>e ((C b).2 (.inr l))
  rw[(Z b r).2 o];exact(h.xm b r).2 λl=>e ((C b).2 (.inl l))
 ·by_cases l:lO c π j q p a b
  ·exact(ac b r).1 l s
  ·rw[(ac b r).2 λD=>l D.1];rcases(C b).1 e with o|o
   ·exact(h.xp b r).1 o s
   ·exact absurd o l
 ·rw[(ac b r).2 λl=>e ⟨(C b).2 (.inr l.1),l.2⟩];exact(h.xp b r).2 λl=>e ⟨(C b).2 (.inl l.1),l.2⟩
 ·intro b r f i y;have RH:=(d7 _ _ _).1 y;rw[(O b r).2 λD=>gc _ _ _ RH D.1];exact h.xd b r f i RH
 ·intro b r PU;have d8: ∀f i,¬Y.DC c b f i:= λf i D=>PU f i ((d7 _ _ _).2 D)
  refine⟨λe s=> ?_,λe=> ?_⟩
  ·by_cases l:lO c π j q p a b
   ·exact(O b r).1 l s
   ·rw[(O b r).2 λD=>l D.1];rcases(C b).1 e with o|o
    ·exact(h.xs b r d8).1 o s
    ·exact absurd o l
  ·rw[(O b r).2 λl=>e ⟨(C b).2 (.inr l.1),l.2⟩];exact(h.xs b r d8).2 λl=>e ⟨(C b).2 (.inl l.1),l.2⟩
 ·intro f b L v E z I V hv;rw[ec]at z;have PS:f≠j::π:=by rintro rfl;rw[d6]at z;cases z
  exact(K _ _).2 (h.s1 f b L v (R _ E PS) z I V hv)
 ·intro g j0 v f i x E z I hv he hs PJ;rw[ec]at z;have PS:g.1≠j::π:=by intro e;rw[e,d6]at z;omega
  obtain⟨k,m,t⟩:=h.s2 g j0 v f i x (R _ E PS) z I hv he hs PJ;exact⟨w _ k,λF A J=>(K _ _).2 (m F A J),λF=>by rw[G];exact t F⟩
 ·intro f i E y;rw[G]at y;obtain⟨k,m⟩:=h.s3 f i (h.dz _ _ y) y;exact⟨k,λA J=>(K _ _).2 (m A J)⟩
 ·intro f i E A Uy;by_cases e:i::f=j::π
  ·injection e with o s
   subst o;subst s;exact(K _ _).2 (J A Uy)
  ·exact(K _ _).2 (h.s4 f i (R _ E e) A Uy)
 ·intro f i V;rw[el]at V;rw[Q];exact h.s5 f i V
 ·intro f i x E y hg PJ d9 hx g hs;rw[G]at y;rw[ec]at hg⊢;exact h.dl f i x (h.dz _ _ y) y hg PJ d9 hx g hs
 ·intro p B;rw[Q]at B;exact ge _ (h.nk p B)
 ·intro p B;rw[eF]at B;have k:=h.fk p B;exact⟨k.ev,w _ k.fs,k.lt,k.wr,k.sm,k.own,k.sz⟩
 ·rw[ec]at z;rcases h.cz π b z with k|k
  ·exact .inl (w _ k)
  ·exact .inr k
theorem br.Aa{ρ:Path}{n k:Hp}(U:X.fs ρ=0)(b:br c (λ_=>False) (X.bG ρ H) n Y k)(V:H.length<=n.length)(Q: ∀d,d<H.length->X.own d=none->(X.bG ρ H).own d=none/\n[d]?=H[d]?)(E: ∀f,X.live c f->(X.bG ρ H).live c f/\(X.bG ρ H).A f=X.A f)
  (Z:k.length<=L.length) (R: ∀d,d<k.length->Y.own d=none->W.own d=none/\L[d]?=k[d]?) (G: ∀f,Y.live c f->W.live c f/\W.A f=Y.A f)
  (I: ∀a,a≠ρ->W.vc a=Y.vc a/\W.ve a=Y.ve a) (VI: ∀a,W.fs a=if a=ρ then 2 else Y.fs a) (ec:W.cs=Y.cs) (x:W.dn=Y.dn) (J:W.lv=Y.lv) (K:W.N=Y.N) (y:W.F=Y.F) (z:W.fi=Y.fi) (T:W.ph=Y.ph):br c (λ_=>False) X H W L:=by
 have o: ∀a,a≠ρ->W.fs a=Y.fs a:= λa e=>by grind
 have B: ∀a,a≠ρ->(X.bG ρ H).fs a=X.fs a:= λa M=>auU M
 refine{c0:= λg h e=>b.c0 g h (by grind),f0:= λa e=> ?_,len:=by have:=b.len;omega,iY:= λd N O=> ?_,A:= λf P=> ?_,aL:= λa e=> ?_,f2:= λa e=> ?_,f1:= λa=> ?_,c1:= λg h j=>by rw[ec];exact b.c1 g h j,c2:= λg h e=>by rw[ec];exact b.c2 g h e,c3:= λg h e=>by rw[ec];exact b.c3 g h e,c4:= λg h D j p=>by rw[ec];exact b.c4 g h D j p,dn:= λg m e=>by rw[x];exact b.dn g m e,sj:= λg m j e=>by rw[x];exact b.sj g m j e,lv:=by rw[J];exact b.lv,S:= λh v p=> ?_,fi:=by rw[z];exact b.fi,ph:=by rw[T];exact b.ph,F:=by rw[y];exact b.F}
 ·have i:a≠ρ:=by grind
  rw[o a i]at e;have:=b.f0 a e;rw[B a i]at this;exact this
 ·obtain⟨q,r⟩:=Q d N O;obtain⟨s,t⟩:=b.iY d (by omega) q;obtain⟨u,w⟩:=R d (by have:=b.len;omega) s;exact⟨u,(w.trans t).trans r⟩
 ·obtain⟨q,r⟩:=E f P;obtain⟨s,t⟩:=b.A f q;obtain⟨u,w⟩:=G f s;exact⟨u,(w.trans t).trans r⟩
 ·have i:a≠ρ:=by grind
  have l:=b.aL a (by grind);have C:=I a i;exact⟨C.1.trans l.1,C.2.trans l.2⟩
 ·have i:a≠ρ:=by grind
  rw[o a i];exact b.f2 a (by grind)
 ·by_cases i:a=ρ
  ·grind
  ·rw[o a i,<-b.f1 a,B a i]
 ·have l:=b.S h v p;unfold aw.S;rw[K,y,z];exact l
theorem Kz{π:Path}{j:Nat}(f:X.fs (j::π)=0)(g:It.bA π j∈c.ap):(X.bG (j::π) H).T c+c.wt (.bA π j)<=X.T c:=by
 refine wD (a:=0) (b:=0) (λe d=> ?_) g (by simp[aw.cu,f]) (by simp[aw.cu,aw.bG]) (auK _) (auK _);cases e with
 |bA a b=>
  simp only[aw.cu,aw.bG,awF]at d⊢;split at d
  ·cases d
  ·exact d
 |_=>exact d
theorem Ml{ρ:Path}(h: ∀e,W.fs e=if e=ρ then 2 else Y.fs e)(ec:W.cs=Y.cs)(i:W.dn=Y.dn)(j:W.lv=Y.lv)(m:W.N=Y.N)(n:W.F=Y.F)(o:W.fi=Y.fi):W.T c<=Y.T c:=by
 refine Da (a:=0) (b:=0) (λf d=> ?_) (by grind) (by grind);cases f with
 |cell g k=>simp only[aw.cu]at d⊢;rw[<-ec];exact d
 |call g l=>simp only[aw.cu]at d⊢;rw[<-ec,<-i];exact d
 |bA a b=>
  simp only[aw.cu,awF]at d⊢;rw[h]at d;split at d
  ·cases d
  ·exact d
 |lv a b=>simp only[aw.cu]at d⊢;rw[<-j];exact d
theorem I_(en:List En)(d:Nd)(x:Kp)(fr a:Nat)(p:a<=bW d)(k:Nat)(q:k<bW d):
  let b:=(x.fV (gO en d.outs) (bP d.b) fr a).fV (lE en d.b) 0 fr a
  (fr<=k/\k<a->b.m k=bZ (gX en d) k/\((gX en d)[k]?=some none->b.p k=false/\b.s k=none))/\(¬(fr<=k/\k<a)->b.m k=x.m k/\b.p k=x.p k/\b.s k=x.s k)/\((gX en d)[k]?≠some none->b.p k=x.p k/\b.s k=x.s k):=by
 have m:=ww en d.b;have r:bW d=bP d.b+aU d.outs:=rfl;have o:gX en d=lE en d.b++gO en d.outs:=rfl;simp only[Kp.fV,Go.Sm.mD,Go.Sm.qt,Go.Sm.qu];rw[m,oD en d.outs,o];rcases auM k (bP d.b)with n|n
 ·have f:(lE en d.b++gO en d.outs)[k]?=(lE en d.b)[k]?:=auL (by omega);have h:bZ (lE en d.b++gO en d.outs) k=bZ (lE en d.b) k:=by unfold bZ;rw[f]
  rw[f,h];have g: ¬(bP d.b<=k/\k<bP d.b+aU d.outs/\fr<=k/\k<a):=by omega
  have i: ∀c:Prop,¬((bP d.b<=k/\k<bP d.b+aU d.outs/\fr<=k/\k<a)/\c):= λc j=>g j.1
  simp only[auU g,auU (i _),Nat.sub_zero,awc,avp,true_and];refine⟨λl=>⟨by grind,λe=>by grind⟩,λl=> ?_,λe=> ?_⟩
  ·grind
  ·grind
 ·have f:(lE en d.b++gO en d.outs)[k]?=(gO en d.outs)[k-bP d.b]?:=by grind
  have h:bZ (lE en d.b++gO en d.outs) k=bZ (gO en d.outs) (k-bP d.b):=by unfold bZ;rw[f]
  rw[f,h];have g: ¬(0<=k/\k<0+bP d.b/\fr<=k/\k<a):=by omega
  have i: ∀c:Prop,¬((0<=k/\k<0+bP d.b/\fr<=k/\k<a)/\c):= λc j=>g j.1
  simp only[auU g,auU (i _)];refine⟨λl=>⟨by grind,λe=>by grind⟩,λl=> ?_,λe=> ?_⟩
  ·grind
  ·grind
end
section
variable{P:Pg}{n:Nat}{c:aK}{d:Nd}{u:US}{X Y Z W:aw}{H K L:Hp}
theorem BS{ins outs:List Int}{u':US}(Q:oF P n c d u)(Qo:lL P)(hC:gy P (d_ P n) c d u ins outs u'){r:Nat}(hV:e_ P n c d u r):z8 P n c d u r:=by
 intro X H R hT π j q N t hk i YO Wk;have o:=R.lay;have PG:=Pu.ok Q R.pu N;obtain⟨g,G,P4⟩:=o.fW N t;have RN:j<(c.fr π).au.length:=by
  rcases auM j (c.fr π).au.length with o|o
  ·exact o
  ·rw[auP o]at t;cases t
 have RO:=o.frame N;obtain⟨ob,VY,es,rfl,XP,Tv,_⟩:=o.ob (.am π) (by show 1<=X.fs π;omega);have Tv:=Tv N j RN;have QG:=Q.Dc π j q PG t;have ZV:=Q.pq π j q g PG t G;have ahR:=Q.Ks;have XM:=(hC.eq π j q g PG t G).1;obtain⟨a,s⟩: ∃a,pV c π j q g a:=by
  cases XM with
  |df Qv=>omega
  |call Qv=>omega
  |sw Qv he a s=>exact⟨a,s⟩
  |aP Qv P2 i7 a0 hs h0 Vs S ht a s=>exact⟨a,s⟩
  |reset Qv he a s=>exact⟨a,s⟩
 have S':=(hC.wq π j q PG t).2.1 hk;have d8:=Qo.d d (auQ hC.nd);refine DT.ob func63 rfl ntmps63 rfl ?_;rcases auM (X.fs (j::π)) 2 with PP|Rl
 rotate_left
 ·have Sf:X.fs (j::π)=2:=by have:=R.pu.f2 (j::π);omega
  have Xf:X.oS π j=some (.ref (X.A (.fr (j::π))) 0):=by unfold aw.oS;rw[au2 (by omega)]
  rw[Xf]at Tv;refine dO [2,2,20] rfl<|Po (aA rfl rfl RO rfl)<|dR [22] rfl<|Po (pO rfl rfl rfl rfl rfl VY XP) ?_;rw[Tv];refine dR [2,24] rfl<|Po (jC (by kernel_rfl) rfl rfl rfl rfl rfl)<|dL [1,2] rfl<|DC.ret ⟨_,rfl,X,rfl,⟨R,br.refl ..,by omega,by intro g G;cases G⟩,Sf⟩
 have UG:X.fs (j::π)=0:=by omega
 have Eq:X.dn π j=false:=by
  cases e:X.dn π j with
  |false=>rfl
  |true=>
       obtain⟨⟨q',T,Qv,_⟩,_⟩:=R.pu.s3 π j N e;rw[t]at T;injection T with T;subst T;omega
 have Xf:X.oS π j=none:=by unfold aw.oS;rw[auU (by omega),auU (by rw[Eq];simp)]
 rw[Xf]at Tv;have XT: ∀h,X.fs (h::j::π)=0:= λh=>by
  rcases avl (X.fs (h::j::π))with e|e
  ·exact e
  ·have:=(R.pu.fp h (j::π) (by omega)).1;omega
 have i8:=o.bG N UG XT t VY;have hT1:=Kz (c:=c) (X:=X) (H:=H) UG S'.1;have C: ∀r,r≠ .fr (j::π)->r≠ .am (j::π)->r≠ .tk (j::π)->(X.bG (j::π) H).A r=X.A r:= λr w m h3=>by simp[aw.bG,w,m,h3]
 have i9:π≠j::π:=by intro e;have:=av3 List.length e;simp at this
 have Tl:(X.bG (j::π) H).A .it=X.A .it:=C _ (by simp) (by simp) (by simp);have mt:(X.bG (j::π) H).A (.fr π)=X.A (.fr π):=C _ (by simp[i9]) (by simp) (by simp);have pm:(X.bG (j::π) H).A (.pl π j)=X.A (.pl π j):=C _ (by simp) (by simp) (by simp);have Fd:(X.bG (j::π) H).fs (j::π)=1:=au2 rfl;have I: ∀f,f≠j::π->(X.bG (j::π) H).fs f=X.fs f:= λf RW=>auU RW
 have W_:(X.bG (j::π) H).fs π=2:=by rw[I π i9];exact N
 have FS:mq c (X.bG (j::π) H) (c.ek π j):=by
  rw[i];refine⟨Wk.c1,λh f e=> ?_,Wk.c4,Wk.tp⟩;by_cases p:h::f=j::π
  ·injection p with p k;subst p;subst k;omega
  ·rw[I _ p]at e;exact Wk.f1 h f e
 have GT: ∀a,a<H.length->X.own a=none->(X.bG (j::π) H).own a=none:= λa w m=>by
  simp only[aw.bG];rw[auU (by omega),auU (by omega),auU (by omega)];exact m
 have Id: ∀r,X.live c r->(X.bG (j::π) H).live c r/\(X.bG (j::π) H).A r=X.A r:=by
  have U: ∀f,1<=X.fs f->f≠j::π:=by rintro f w rfl;omega
  intro r i;cases r with
  |fr f=>have e:=U f i;exact⟨by show 1<=(X.bG (j::π) H).fs f;rw[I f e];exact i,C _ (by simp[e]) (by simp) (by simp)⟩
  |am f=>have e:=U f i;exact⟨by show 1<=(X.bG (j::π) H).fs f;rw[I f e];exact i,C _ (by simp) (by simp[e]) (by simp)⟩
  |tk f=>have e:=U f i;exact⟨by show 1<=(X.bG (j::π) H).fs f;rw[I f e];exact i,C _ (by simp) (by simp) (by simp[e])⟩
  |cr f=>have e:=U f (by rw[i.1];decide);exact⟨⟨by rw[I f e];exact i.1,i.2⟩,C _ (by simp) (by simp) (by simp)⟩
  |er f=>have e:=U f (by rw[i.1];decide);exact⟨⟨by rw[I f e];exact i.1,i.2⟩,C _ (by simp) (by simp) (by simp)⟩
  |ce f b=>have e:=U f (by rw[i.1];decide);exact⟨⟨by rw[I f e];exact i.1,i.2⟩,C _ (by simp) (by simp) (by simp)⟩
  |pl f b=>have e:=U f (by rw[i.1];decide);exact⟨⟨by rw[I f e];exact i.1,i.2⟩,C _ (by simp) (by simp) (by simp)⟩
  |_=>exact⟨i,C _ (by simp) (by simp) (by simp)⟩
 refine dO [2,2,20] rfl<|Po (aA rfl rfl RO rfl)<|dR [22] rfl<|Po (pO rfl rfl rfl rfl rfl VY XP) ?_;rw[Tv];refine dR [2,24] rfl<|Po (jC (by kernel_rfl) rfl rfl rfl rfl rfl)<|dR [0,2,27] rfl<|Po (rT rfl)<|dR [28] rfl<|Po (rT rfl)<|dR [29] rfl<|Po (k8 rfl rfl rfl rfl rfl)<|dR [30] rfl<|Po (cH rfl rfl rfl)<|dR [2,34] rfl<|Po (aA rfl rfl (bB (bB (bB RO))) rfl)<|dR [999] rfl<|Po (qJ rfl rfl rfl rfl rfl (bB (bB (bB VY))) XP)<|dL [] rfl ?_;obtain⟨K1,co⟩: ∃K1,(((H++ [Ob.map []])++ [Ob.map []])++ [Ob.box [.ref (X.A (.fr π)) 0,.d (.sl []),.d (.sl []),.mp H.length,.mp (H.length+1)]]).set (X.A (.am π)) (.map (jz (X.A (.pl π j)) 0 (.ref (H.length+2) 0) es))=K1:=⟨_,rfl⟩;have In: ∀a,a<H.length->X.own a=none->(X.bG (j::π) H).own a=none/\K1[a]?=H[a]?:= λa w m=>by
  refine⟨GT a w m,?_⟩;rw[<-co,auT (by rintro rfl;rw[o.own (.am π) (by show 1<=X.fs π;omega)]at m;cases m),auL (by simp;omega),auL (by simp;omega),auL w]
 rw[co]at i8;refine Pz [nR 8 (H.length+2),nR 0 (X.A .it),nR 1 (X.A (.fr π)),nR 2 (X.A (.pl π j))] K1 (kc (by simp;rfl) rfl) (by rw[<-co];simp) ?_;obtain⟨m2,A,⟨rfl,Y,D⟩,Yh⟩:=Gk Q hC (i▸hV) ⟨i8,(R.pu.bG N UG s.ok)⟩ (by omega) FS W_ t hk G;rw[Tl,mt,pm]at Yh;have V:=D.2.1;have RB:=V.f2 π W_;have qr:=(V.f1 _).1 Fd;have Xb:=((V.A (.pl π j) ⟨W_,RN⟩).2).trans pm;have rg:Y.A (.fr (j::π))=H.length+2:=((V.A (.fr (j::π)) (by show 1<=(X.bG (j::π) H).fs (j::π);omega)).2).trans (by simp[aw.bG]);have Sd:A[X.A (.pl π j)]?=some (.box (dK q g)):=by
  obtain⟨p',P2,UQ⟩:=D.1.lay.fW RB t;rw[G]at P2;injection P2 with P2
  subst P2;rw[Xb]at UQ;exact UQ
 have R3:c.bA π j<q.aj.length:=by
  rcases auM (c.bA π j) q.aj.length with o|o
  ·exact o
  ·have:=s.ha;rw[auP o]at this;cases this
 have XO:=auQ s.ha;have Y_:=tU s.ha;have hqe:=jD q;have aee:gQ q g+aS (q.aj.map gb)<=g+qP q:=by
  unfold gQ;rcases hk with e|e|e
  ·rw[auU (by omega)];omega
  ·rw[au2 e];have:h_ q.kd=1:=by rw[e];rfl
   omega
  ·rw[auU (by omega)];omega
 have IO:=gx gb R3;have Un:q.aj[c.bA π j]=a:=by have:=s.ha;rw[auO R3]at this;injection this
 rw[Un,oC]at IO;have RI:cI q g (c.bA π j)=gQ q g+aS ((q.aj.take (c.bA π j)).map gb):=rfl;have rt:=mn a.cy (QG.2.2.2.2.1 a XO).1 (by omega);rw[bj.aC]at rt;refine dO [2,41] rfl<|Po (aq Yh rfl rfl)<|dL [2] rfl<|Pz [nN 42 0,nN 41 (c.bA π j),nN 10 (gQ q g),nN 9 (c.bA π j),nD 11 (.bool (c.iO π j)),nR 8 (H.length+2),nR 0 (X.A .it),nR 1 (X.A (.fr π)),nR 2 (X.A (.pl π j))] A rfl rfl<|dC [] rfl<|Qy (λPD=> ∃bx,PD=⟨[nN 10 (cI q g (c.bA π j)),nN 9 (c.bA π j),nD 11 (.bool (c.iO π j)),nR 8 (H.length+2),nR 0 (X.A .it),nR 1 (X.A (.fr π)),nR 2 (X.A (.pl π j))],bx,A⟩) ?_ ?_
 ·refine dC [3] rfl<|DC.lp (λb i7=> ∃(h:Nat) (bx:List (Nat×List M)),i7=⟨[nN 42 h,nN 41 (c.bA π j),nN 10 (gQ q g+aS ((q.aj.take h).map gb)),nN 9 (c.bA π j),nD 11 (.bool (c.iO π j)),nR 8 (H.length+2),nR 0 (X.A .it),nR 1 (X.A (.fr π)),nR 2 (X.A (.pl π j))],bx,A⟩/\h<=c.bA π j/\b=c.bA π j-h) (c.bA π j) _
   ⟨0,_,rfl,by omega,rfl⟩ (kc rfl (kc rfl (kc (by simp[aS];rfl) rfl))) ?_
  rintro b s1 ⟨h,bx,rfl,hi,rfl⟩;refine dC [2] rfl<|DC.cond rfl (λhc=> ?_) (λhc=> ?_);rotate_left
  ·have e:h=c.bA π j:=by have:=au9 hc;omega
   subst e;refine DC.exit<|⟨_,⟨_,rfl⟩,cR rfl rfl⟩
  have P0:h<c.bA π j:=by have:=auV hc;omega
  have Vd:h<q.aj.length:=by omega
  have U_:=auO Vd;have rx:=gx gb Vd;generalize q.aj[h]=ai at U_ rx;rw[oC]at rx;have t3:=mn ai.cy (QG.2.2.2.2.1 ai (auQ U_)).1 (by omega);rw[bj.aC]at t3;have Qp:gQ q g+aS ((q.aj.take (h+1)).map gb)=gQ q g+aS ((q.aj.take h).map gb)+bP ai.cy:=by omega
  refine dO [3,2,2,54] rfl<|Po (aA rfl rfl Sd rfl)<|dR [56] rfl<|Po (aG rfl rfl rfl (auJ h) (tU U_) rfl)<|dR [59] rfl<|Po (aE t3 rfl rfl)<|dR [60] rfl<|Po (az rfl rfl rfl (by omega))<|dR [2,61] rfl<|Po (az rfl rfl rfl (by omega))<|dL [] rfl<|bK (k':=c.bA π j-(h+1)) (by omega) ⟨h+1,_,rfl,by omega,rfl⟩ rfl (kc rfl (kc rfl (kc (by rw[Qp];rfl) rfl)))
 rintro _ ⟨bx,rfl⟩;have Z:=D.1.lay;have LE:=Z.mm (by omega);refine dC [2] rfl<|Qy (λPD=> ∃l x,cF P n c d {Y with x:=l} x/\A.length<=x.length/\(∀a,a<A.length->Y.own a≠some .me->Y.own a≠some .pe->Y.own a≠some .su->x[a]?=A[a]?)/\
   (∀b,b<bW d->(lO c π j q g a b->l.m b=bZ (gX P.aJ d) b)/\(¬lO c π j q g a b->l.m b=Y.x.m b))/\
   (∀b,b<bW d->(lO c π j q g a b->(gX P.aJ d)[b]?=some none->l.p b=false)/\(¬(lO c π j q g a b/\(gX P.aJ d)[b]?=some none)->l.p b=Y.x.p b))/\
   (∀b,b<bW d->(lO c π j q g a b->(gX P.aJ d)[b]?=some none->l.s b=none)/\(¬(lO c π j q g a b/\(gX P.aJ d)[b]?=some none)->l.s b=Y.x.s b))/\
   PD=⟨[nN 10 (cI q g (c.bA π j)),nN 9 (c.bA π j),nR 8 (H.length+2),nR 0 (X.A .it),nR 1 (X.A (.fr π)),nR 2 (X.A (.pl π j))],bx,x⟩) ?_ ?_
 ·cases t4:c.iO π j with
  |true=>
   refine dC [1] rfl ?_;obtain⟨m3,x,LT,UB⟩:=BL (HF P d Y) Qo.e (cI q g (c.bA π j)) (cI q g (c.bA π j)+bP a.cy) (by show _<=bW d;omega) d8.1 (by show d.outs.length<=_;have:=d8.2.1;omega) (by show bP d.b<=_;have:=d8.2.2;omega) Y.x A LE;have UB:CT prog 42 [.ref (Y.A .it) 0,dN (cI q g (c.bA π j)),dN (cI q g (c.bA π j)+bP a.cy)] A _:=UB;rw[((V.A .it trivial).2).trans Tl]at UB;have E:=I_ P.aJ d Y.x (cI q g (c.bA π j)) (cI q g (c.bA π j)+bP a.cy) (by omega);obtain⟨l,QM⟩: ∃l,l=(Y.x.fV (gO P.aJ d.outs) (bP d.b) (cI q g (c.bA π j)) (cI q g (c.bA π j)+bP a.cy)).fV (lE P.aJ d.b) 0 (cI q g (c.bA π j)) (cI q g (c.bA π j)+bP a.cy):=⟨_,rfl⟩;rw[<-QM]at E;have t5:MS (HF P d Y) A l x:=by rw[QM];exact LT
   simp only at E;have VZ: ∀b,lO c π j q g a b↔(cI q g (c.bA π j)<=b/\b<cI q g (c.bA π j)+bP a.cy):= λb=>by unfold lO;rw[t4];simp
   obtain⟨VW,d6⟩:=Z.reset t5 (λb B u' S=>by
    obtain⟨r1,r2,r3⟩:=E b B;by_cases e:cI q g (c.bA π j)<=b/\b<cI q g (c.bA π j)+bP a.cy
    ·by_cases k:(gX P.aJ d)[b]?=some none
     ·rw[((r1 e).2 k).2]at S;cases S
     ·rw[(r3 k).2]at S;exact S
    ·rw[(r2 e).2.2]at S;exact S)
   refine dO [2,70] rfl<|Po (aA rfl rfl Sd rfl)<|dR [72] rfl<|Po (aG rfl rfl rfl (auJ _) Y_ rfl)<|dR [75] rfl<|Po (aE rt rfl rfl)<|dR [76] rfl<|Po (az rfl rfl rfl (by omega))<|dR [77] rfl<|Po (aq UB rfl rfl)<|dL [] rfl<|⟨_,⟨l,x,VW,t5.len,d6,λb B=>⟨λe=>((E b B).1 ((VZ b).1 e)).1,λe=>((E b B).2.1 (λF=>e ((VZ b).2 F))).1⟩,λb B=>⟨λe k=>(((E b B).1 ((VZ b).1 e)).2 k).1,λe=> ?_⟩,λb B=>⟨λe k=>(((E b B).1 ((VZ b).1 e)).2 k).2,λe=> ?_⟩,rfl⟩,cR rfl rfl⟩
   ·by_cases p:cI q g (c.bA π j)<=b/\b<cI q g (c.bA π j)+bP a.cy
    ·exact((E b B).2.2 (λk=>e ⟨(VZ b).2 p,k⟩)).1
    ·exact((E b B).2.1 p).2.1
   ·by_cases p:cI q g (c.bA π j)<=b/\b<cI q g (c.bA π j)+bP a.cy
    ·exact((E b B).2.2 (λk=>e ⟨(VZ b).2 p,k⟩)).2
    ·exact((E b B).2.1 p).2.2
  |false=>
   refine dC [0] rfl ?_;have d9: ∀b,¬lO c π j q g a b:= λb F=>by have:=F.1;rw[t4]at this;cases this
   exact⟨_,⟨Y.x,A,Z,auK _,λ_ _ _ _ _=>rfl,λb _=>⟨λe=>absurd e (d9 b),λ_=>rfl⟩,λb _=>⟨λe=>absurd e (d9 b),λ_=>rfl⟩,λb _=>⟨λe=>absurd e (d9 b),λ_=>rfl⟩,rfl⟩,cR rfl rfl⟩
 rintro _ ⟨l,x,VW,ajv,d6,Pi,Pm,Pn,rfl⟩;have Pp: ∀r,Y.live c r->r≠ .me->r≠ .pe->r≠ .su->x[Y.A r]?=A[Y.A r]?:= λr h0 w m h3=>by
  have ho:=Z.own r h0;refine d6 _ (Z.lt _ _ ho) ?_ ?_ ?_<;>(rw[ho];intro e;injection e with e)
  ·exact w e
  ·exact m e
  ·exact h3 e
 have YU:x[X.A (.pl π j)]?=some (.box (dK q g)):=by
  have:=Pp (.pl π j) ⟨RB,RN⟩ (by simp) (by simp) (by simp);rw[Xb]at this;exact this.trans Sd
 have t6:=VW.frame (π:=π) RB;rw[show({Y with x:=l} :aw).A=Y.A from rfl,((V.A (.fr π) (by show 1<=(X.bG (j::π) H).fs π;omega)).2).trans mt]at t6;obtain⟨ob3,Y9,Pq,rfl,t7,_⟩:=VW.ob (.tk π) (by show 1<=Y.fs π;omega);have Y9:=Y9;have Pt: ∀h,Y.fs (h::π)=2->h<(c.fr π).au.length:= λh e=>by
  obtain⟨_,q',T,_⟩:=hC.i_ h π (D.1.pu.fp h π (by omega)).2;rcases auM h (c.fr π).au.length with o|o
  ·exact o
  ·rw[auP o]at T;cases T
 obtain⟨_,J⟩:=VW.NO (j:=j) (show({Y with x:=l} :aw).fs π=2 from RB) (show({Y with x:=l} :aw).fs (j::π)≠2 by show Y.fs (j::π)≠2;omega) RN Pt Y9 (dN (c.bA π j));have J:=J;rw[Xb]at J;have t8:=Z.own (.tk π) (by show 1<=Y.fs π;omega);have t9:Y.own (X.A (.pl π j))=some (.pl π j):=by rw[<-Xb];exact Z.own _ ⟨RB,RN⟩
 obtain⟨O,ac⟩: ∃O,x.set (Y.A (.tk π)) (.map (jz (X.A (.pl π j)) 0 (dN (c.bA π j)) Pq))=O:=⟨_,rfl⟩;have ach:O.length=x.length:=by rw[<-ac];simp
 have WA: ∀a,a≠Y.A (.tk π)->O[a]?=x[a]?:= λa s=>by rw[<-ac];exact auT (avH s)
 rw[ac]at J;have ah:=s.fr;have Px:O[Y.A (.fr (j::π))]?=some (.box [Y.up (j::π),.d (.sl []),.d (.sl []),.mp (Y.A (.am (j::π))),.mp (Y.A (.tk (j::π)))]):=by
  obtain⟨ob,w,m⟩:=J.ob (.fr (j::π)) (by show 1<=Y.fs (j::π);omega);have Vg:=m;subst Vg;rw[show({Y with x:=l} :aw).A=Y.A from rfl]at w;rw[w,auU (by show Y.fs (j::π)≠2;omega),auU (by show Y.fs (j::π)≠2;omega)];rfl
 have Q6:Fl (c.fr (j::π)) (λ_=>0) (λ_=>0) (({Y with x:=l} :aw).up (j::π)) {Y with x:=l} (j::π) 0 0 (λ_ _=>False) O:=
  {lt:=J.lt,lN:=J.own (.fr (j::π)) (by show 1<=Y.fs (j::π);omega),nL:= λF=>by omega,oH:= λF=>by omega,oT:= λL F=>by omega,oU:= λL F=>by omega,fr:=Px,cr:= λF=>by omega,er:= λF=>by omega,ce:= λL F=>by omega,pl:= λL F=>by omega}
 have amn:=uL (q:=q) (a:=a) XO;obtain⟨m5,wn,⟨y,ST,d7⟩,TV⟩:=Ew (c:=c) (st:= λ_=>0) (z:= λ_=>0) (X:= {Y with x:=l}) (π:=j::π) (H:=O) Q.sz a.cy (QG.2.2.2.2.1 a XO).1 (by omega) (cI q g (c.bA π j)) (by omega) 0 (by rw[ah];simp[vA]) (λh v hv=>by rw[ah,awc];exact hv) (λh lp Qc=>by rw[ah,awc];exact Qc) (by rw[ah];rfl) (by rw[ah];rfl) (λ_ _=>⟨rfl,rfl⟩) (.ref (X.A .it) 0) Q6
  (λh ρ e τ f k=>by
   injection e with p e3
   subst p;subst e3;exact J.Pe (show Y.fs f=2 from wE D.1.pu (τ:=τ) (by rw[<-k];exact RB)))
 have TV:=TV;rw[rg,bj.aC]at TV;have Us: ∀h,Y.fs (h::j::π)=0:= λh=>by
  rcases avl (Y.fs (h::j::π))with e|e
  ·exact e
  ·have:=(D.1.pu.fp h (j::π) (by omega)).1;omega
 have UT: ∀h,Y.dn (j::π) h=false:= λh=>by
  cases e:Y.dn (j::π) h with
  |false=>rfl
  |true=>have:=D.1.pu.dz _ _ e;omega
 have UV: ∀b,Y.cs (j::π) b=0:= λb=>by
  rcases avl (Y.cs (j::π) b)with e|e
  ·exact e
  ·rcases D.1.pu.cz (j::π) b (by omega)with p|⟨_,j',f,q',p,k,e3⟩
   ·omega
   ·injection p with e4 e5
    subst e4;subst e5;rw[t]at k;injection k with k;subst k;omega
 obtain⟨U0,v6,U8⟩:=J.filled (ρ:=j::π) (show Y.fs (j::π)=1 from qr) Us UT (λL _=>by
   show(0:Int)=oE (Y.cs (j::π) L)/\(0:Int)=if zB (Y.cs (j::π) L)then c.get (j::π,L)else 0
   rw[UV L];exact⟨rfl,rfl⟩) (λh f e=>by
   injection e with p k
   subst p;subst k;refine⟨_,(by rw[<-ac];exact gC Y9 _),?_⟩;show ij (Y.A (.pl π j)) 0 _=_;rw[Xb,pR _ _ _ _ _ t7,au2 ⟨rfl,rfl⟩]) ST d7
 obtain⟨A0,o0,v0,e0,K⟩:=id d7.eq;have VI: ∀f,(y.full (j::π)).fs f=if f=j::π then 2 else Y.fs f:= λf=>by unfold aw.full;rw[K]
 have f9:(y.full (j::π)).cs=Y.cs:=by unfold aw.full;rw[K]
 have gc:(y.full (j::π)).dn=Y.dn:=by unfold aw.full;rw[K]
 have ge:(y.full (j::π)).lv=Y.lv:=by unfold aw.full;rw[K]
 have eN:(y.full (j::π)).N=Y.N:=by unfold aw.full;rw[K]
 have eF:(y.full (j::π)).F=Y.F:=by unfold aw.full;rw[K]
 have i6:(y.full (j::π)).fi=Y.fi:=by unfold aw.full;rw[K]
 have wd:(y.full (j::π)).ph=Y.ph:=by unfold aw.full;rw[K]
 have ex:(y.full (j::π)).x=l:=by unfold aw.full;rw[K]
 have UF:br c (λ_=>False) X H (y.full (j::π)) wn:=by
  refine br.Aa UG V (by rw[<-co];simp) In Id (by have:=d7.len;omega) (λa w m=> ?_) (λr i=> ?_) (λf e=>d7.v f e) VI f9 gc ge eN eF i6 wd
  ·obtain⟨b1,b2⟩:=U8 a (by omega) m;refine⟨b1,?_⟩;rw[b2,WA a (by rintro rfl;rw[t8]at m;cases m)];exact d6 a w (by rw[m];simp) (by rw[m];simp) (by rw[m];simp)
  ·exact v6 r (by cases r<;>exact i)
 have hTf:=Ml (c:=c) (W:=y.full (j::π)) (Y:=Y) VI f9 gc ge eN eF i6;have VU:=D.2.2.1;refine dO [2,81] rfl<|Po (aA rfl rfl t6 rfl)<|dR [999] rfl<|Po (qJ rfl rfl rfl rfl rfl Y9 t7)<|dL [] rfl<|Pz [nN 10 (cI q g (c.bA π j)),nN 9 (c.bA π j),nR 8 (H.length+2),nR 0 (X.A .it),nR 2 (X.A (.pl π j))] O rfl ac<|dO [2,90] rfl<|Po (aA rfl rfl ((WA _ (by intro e;rw[e,t8]at t9;cases t9)).trans YU) rfl)<|dR [92] rfl<|Po (aG rfl rfl rfl (auJ _) Y_ rfl)<|dR [96] rfl<|Po (aq TV rfl rfl)<|dL [2] rfl<|DC.ret ⟨_,rfl,y.full (j::π),by rw[(v6 (.fr (j::π)) (by show 1<=Y.fs (j::π);omega)).2.trans rg];rfl,⟨⟨U0,(Pu.Aa Q D.1.pu qr t hk G s.ha (λDo hw=> .inl (D.2.2.2 Do hw)) (by rw[ex];exact Pi) (by rw[ex];exact Pm) (by rw[ex];exact Pn) VI f9 gc ge eN eF i6 wd)⟩,UF,by omega,by intro g G;cases G⟩,by rw[VI,au2 rfl]⟩
end
section
variable{P:Pg}{n:Nat}{c:aK}{d:Nd}{u:US}{X Y Z:aw}{H K L:Hp}
theorem KA{ins outs:List Int}{u':US}(e:oF P n c d u)(h:lL P)(f:gy P (d_ P n) c d u ins outs u')(K:rA P n): ∀r,e_ P n c d u r/\Es P n c d u r:=by
 intro r
 induction r using Nat.strongRecOn with
 |ind r i=>
  have q:=I2 e f (λa b=>(i a b).1) (λa b=>(i a b).2);have g: ∀a≤r,e_ P n c d u a:= λa b=>by
   grind
  refine⟨q,λj k s l t L M m N O o v w p x y z A B C D E F G H I J=> ?_⟩;exact Gj e f A g (λa b=>tX e h f K (g a b)) (λa b=>BS e h f (g a b)) j k s l t m o v w p x y z B C D E F G H I J
theorem mq.down{r r':Nat}(h:mq c X r)(b:r'<=r):mq c X r':=⟨λa d e=>avD b (h.c1 a d e),λf a e=>avD b (h.f1 f a e),h.c4,by have:=h.tp;omega⟩
structure iQ(c:aK)(X:aw)(H:Hp)(Y:aw)(K:Hp):Prop where
 e:br c (λ_=>False) {X with lv:=Y.lv} H Y K
 m: ∀π j,X.lv π j=true->Y.lv π j=true
theorem br.OL{E:Path×Nat->Prop}(h:br c E X H Y K)(l:Path->Nat->Bool):br c E {X with lv:=l} H {Y with lv:=l} K:=
 {c0:=h.c0,f0:=h.f0,len:=h.len,iY:=h.iY,A:= λa b=>(by
   have:=h.A a (by cases a<;>exact b);exact⟨by have d:=this.1;revert d;cases a<;>exact id,this.2⟩),aL:=h.aL,f2:=h.f2,f1:=h.f1,c1:=h.c1,c2:=h.c2,c3:=h.c3,c4:=h.c4,dn:=h.dn,sj:=h.sj,lv:=rfl,S:=h.S,fi:=h.fi,ph:=h.ph,F:=h.F}
theorem iQ.of(h:br c (λ_=>False) X H Y K):iQ c X H Y K:=by
 refine⟨?_,λa b e=>by rw[h.lv];exact e⟩;have e:({X with lv:=Y.lv} :aw)=X:=by rw[h.lv]
 rw[e];exact h
theorem iQ.trans(h:iQ c X H Y K)(k:iQ c Y K Z L):iQ c X H Z L:=
 ⟨(h.e.OL Z.lv).trans k.e,λa b e=>k.m a b (h.m a b e)⟩
theorem iQ.NP{π:Path}{j:Nat}(h:br c (λ_=>False) (X.kC π j) H Y K):iQ c X H Y K:=by
 refine⟨?_,λa b e=> ?_⟩
 ·have e:({X with lv:=Y.lv} :aw)=X.kC π j:=by rw[h.lv];rfl
  rw[e];exact h
 ·rw[h.lv];show(if(a,b)=(π,j)then true else X.lv a b)=true;split
  ·rfl
  ·exact e
structure Ey(c:aK)(Y:aw)(σ:Path)(j:Nat)(q:aB):Prop where
 w:c.jg σ q->(∀w∈c.ew σ j,Y.SS c w.1 w.2)/\(q.kd=2->Y.dn σ j=true)
 l:q.kd=4->Y.lv σ j=true
 v: ∀k v,(c.fr σ).vars[k]?=some v->gR (c.fr σ) k v j->(c.val σ k).isSome=true->Y.cs σ k=2
structure sC(c:aK)(Y:aw)(σ:Path):Prop where
 f:Y.fs σ=2
 q: ∀j q,(c.fr σ).au[j]?=some q->Ey c Y σ j q
theorem Ey.up{σ:Path}{j:Nat}{q:aB}(h:Ey c X σ j q)(e:iQ c X H Y K):Ey c Y σ j q:=
 ⟨λd=>⟨λf l=>e.e.SS _ _ ((h.w d).1 f l),λa=>e.e.dn _ _ ((h.w d).2 a)⟩,λa=>e.m _ _ (h.l a),λg v i b k=>e.e.c2 _ _ (h.v g v i b k)⟩
theorem sC.up{σ:Path}(h:sC c X σ)(e:iQ c X H Y K):sC c Y σ:=⟨e.e.f2 _ h.f,λa b d=>(h.q a b d).up e⟩
theorem KB{i j:Nat}{τ a π:Path}(h:τ++(i::π)=a++(j::π)):τ=a/\i=j:=by
 have b:=List.append_inj' h (by simp);exact⟨b.1,by grind⟩
theorem De{i:Nat}{τ π:Path} :τ++(i::π)≠π:=by
 intro a;have:=av3 List.length a;simp only[auN,au4]at this;omega
theorem Gq(m:oF P n c d u)(b:cV P n c d u X H){π:Path}{j:Nat}{q:aB}(hf:X.fs π=2)(f:(c.fr π).au[j]?=some q)(p:q.kd=3\/q.kd=5)(g h:M):
  DT prog 64 [.ref (X.A .it) 0,g,.ref (X.A (.pl π j)) 0,h] H λ_ K=>cV P n c d u X K/\br c (λ_=>False) X H X K:=by
 have a:=b.lay;obtain⟨o,s,i⟩:=a.fW hf f;have k:(H++ [Ob.box [.ref (X.A .it) 0]]++ [Ob.box [.ref (X.A (.pl π j)) 0]])[(H++ [Ob.box [M.ref (X.A .it) 0]]).length]?=some (Ob.box [.ref (X.A (.pl π j)) 0]):=by simp
 have e:=bB (T:=[Ob.box [.ref (X.A (.pl π j)) 0]]) (bB (T:=[Ob.box [.ref (X.A .it) 0]]) i);refine DT.ob func64 W ntmps64 W ?_;unfold dK at e;refine dO [2,8] W<|Po (cH W W W)<|dR [10] W<|Po (cH W W W)<|dL [] W ?_;have l:(q.kd !=4)=true:=by grind
 refine dO [2,17] W<|Po (aA W W k W)<|dR [21] W<|Po (aA W W e W)<|dR [22] W<|Po (dY W W W (r:= .bool true) (by show some (D.bool (_ !=_))=_;rw[<-l]))<|dL [1] W<|DC.ret ⟨_,rfl,⟨((a.grow [Ob.box [.ref (X.A .it) 0]]).grow [Ob.box [.ref (X.A (.pl π j)) 0]]),b.pu⟩,((br.grow c (λ_=>False) X H [Ob.box [.ref (X.A .it) 0]]).trans (br.grow c (λ_=>False) X _ [Ob.box [.ref (X.A (.pl π j)) 0]]))⟩
end
section
variable{P:Pg}{n:Nat}{c:aK}{d:Nd}{u:US}{X Y Z:aw}{H K L:Hp}
structure OM(P:Pg)(n:Nat)(c:aK)(d:Nd)(u:US)(X:aw)(H:Hp)(π:Path)(Y:aw)(K:Hp):Prop where
 inst:cV P n c d u Y K
 ext:iQ c X H Y K
 t:Y.T c<=X.T c
 NQ: ∀σ j,Y.lv σ j=true->X.lv σ j=true\/ ∃τ,σ=τ++π
 done: ∀τ,c.ok (τ++π)->sC c Y (τ++π)
theorem BT{π:Path}(j:oF P n c d u){ins outs:List Int}{u':US}(b:gy P (d_ P n) c d u ins outs u'){x:Nm}{σ:Path×Nat}(g:cV P n c d u X H)(hf:X.fs π=2)(h:c.find π x=some σ)(r:ins.length=d.ins.length):c.jX σ<c.eh:=by
 obtain⟨k,v,l,eq,a,s,m,_⟩:=mu g hf h;by_cases e:σ.1= []->d.ins.length<=σ.2
 ·exact(b.cell σ.1 σ.2 v l (Pu.ok j g.pu k) a m e).tp
 ·have i:=avI λf=>e λo=>absurd o f
  have p:=axl λf=>e λ_=>f
  rw[i,b.qe]at a;simp only[rl]at a;rw[avh,auL p]at a;have q:ins[σ.2]?=some ins[σ.2]:=auO (by omega);have:=(b.ya σ.2 v _ a q).2;unfold aK.jX;rw[i];exact this
theorem xy{ins outs:List Int}{u':US}(p:oF P n c d u)(s:gy P (d_ P n) c d u ins outs u'){π:Path}{i k:Nat}{q:aB}{v:Va}(h:cV P n c d u X H)(hf:X.fs π=2)(g:(c.fr π).au[i]?=some q)(b:q.kd=1\/q.kd=2)(j:(c.fr π).vars[k]?=some v)(t:gR (c.fr π) k v i)(l:(c.val π k).isSome=true)(w:π= []->d.ins.length<=k):
  c.jg π q/\c.find π v.name=some (π,k)/\v.name∈q.lhs:=by
 obtain⟨x,eq,y,_⟩:=h.lay.cell hf j;obtain⟨r,z⟩:=awM.1 l;obtain⟨F,G,A,B,C⟩:=(s.cell π k v x (Pu.ok p h.pu hf) j y w).df r z;obtain rfl:=t.u5 A;cases B with
 |bA a m=>rw[g]at a;injection a with e;subst e;omega
 |last a m=>rw[g]at a;injection a with e;subst e;omega
 |leaf a m I=>
  obtain⟨o,J,f,D,K⟩:=C;rw[g]at f;injection f with f
  subst f;rcases b with b|b
  ·have E:=(D b).1;refine⟨λ_=> ?_,o,by grind⟩;rw[E];exact⟨(π,k),o,l⟩
  ·grind
theorem Mm{ins outs:List Int}{u':US}(F:oF P n c d u)(Qo:lL P)(A:gy P (d_ P n) c d u ins outs u')(t8:rA P n): ∀(N:Nat) (π:Path),SizeOf.sizeOf (c.fr π).au<=N-> ∀(X:aw) (H:Hp),cV P n c d u X H->X.T c<=1000000000000->mq c X c.eh->X.fs π=2->(∀τ j,X.lv (τ++π) j=false)->
  DT prog 44 [.ref (X.A .it) 0,.ref (X.A (.fr π)) 0] H λ_ K=> ∃Y,OM P n c d u X H π Y K:=by
 intro N
 induction N with
 |zero=>
  intro π hN;have:1<=SizeOf.sizeOf (c.fr π).au:=by cases (c.fr π).au<;>simp<;>omega
  omega
 |succ N Pt=>
 intro π hN X H hI hT hP hf ZH;have hV: ∀r,e_ P n c d u r:= λr=>(KA F Qo A t8 r).1
 have z:=hI.lay;have PG:=Pu.ok F hI.pu hf;have hlen:=F.Mf π;have XL: ∀{Y:aw} {K:Hp} {k:Nm} {σ:Path×Nat},cV P n c d u Y K->Y.fs π=2->c.find π k=some σ->c.jX σ<c.eh:= λRX RB C=>BT F A RX RB C A.sU
 refine DT.ob func44 W ntmps44 W<|dO [2,18] W<|Po (aA W W (z.frame hf) W)<|dR [19] W<|Po (pY W W)<|dL [] W<|Pz [nN 16 0,nN 15 ((c.fr π).au.length),nM 14 (bM (X.A (.er π)) (X.ve π) (c.fr π).au.length),nR 0 (X.A .it),nR 1 (X.A (.fr π))] H W W<|dC [3] W<|DC.lp (λo ac=> ∃(a:Nat) (Y:aw) (K:Hp) (bx:List (Nat×List M)),ac=⟨[nN 16 a,nN 15 ((c.fr π).au.length),nM 14 (bM (X.A (.er π)) (X.ve π) (c.fr π).au.length),nR 0 (X.A .it),nR 1 (X.A (.fr π))],bx,K⟩/\a<=(c.fr π).au.length/\o=(c.fr π).au.length-a/\
   cV P n c d u Y K/\iQ c X H Y K/\Y.T c<=X.T c/\(∀σ j,Y.lv σ j=true->X.lv σ j=true\/(σ=π/\j<a)\/ ∃τ S,S<a/\σ=τ++(S::π))/\
   ∀j f,j<a->(c.fr π).au[j]?=some f->Ey c Y π j f/\ ∀τ,c.ok (τ++(j::π))->sC c Y (τ++(j::π))) (c.fr π).au.length _
  ⟨0,X,H,_,rfl,by omega,rfl,hI,iQ.of (br.refl ..),auK _,λσ j e=> .inl e,λj f x=>by omega⟩ W ?_
 rintro o s1 ⟨a,Y,K,bx,rfl,hi,rfl,RX,QI,VU,f9,i8⟩;refine dC [2] W<|DC.cond W (λT=> ?_) (λT=> ?_);rotate_left
 ·have e:a=(c.fr π).au.length:=by have:=au9 T;omega
  refine DC.exit<|⟨_,W,Y,RX,QI,VU,λσ j x=> ?_,λτ y=> ?_⟩
  ·rcases f9 σ j x with g|⟨g,_⟩|⟨τ,S,_,g⟩
   ·exact .inl g
   ·exact .inr ⟨[],g⟩
   ·exact .inr ⟨τ++ [S],by rw[g];simp⟩
  ·have PP: ∀j f,(c.fr π).au[j]?=some f->j<a:= λj f l=>by
    rcases auM j (c.fr π).au.length with z|z
    ·omega
    ·rw[auP z]at l;cases l
   rcases axw τ with rfl|⟨Q,j,rfl⟩
   ·exact⟨QI.e.f2 π hf,λj f l=>(i8 j f (PP j f l) l).1⟩
   ·have e1:(Q++ [j])++π=Q++(j::π):=by simp
    simp only[List.concat_eq_append]at y⊢;rw[e1]at y⊢;have Px: ∀Q:Path,c.ok (Q++(j::π))->c.ok (j::π):=by
     intro Q
     induction Q with
     |nil=>exact id
     |cons B Q ih=>intro g;exact ih (A.i_ B (Q++(j::π)) g).1
    obtain⟨_,f,l,_⟩:=A.i_ j π (Px Q y);exact(i8 j f (PP j f l) l).2 Q y
 have O:a<(c.fr π).au.length:=by have:=auV T;omega
 have l:=auO O;have XV:=aw0 (avb O);generalize (c.fr π).au[a]=f at l XV;have RB:=QI.e.f2 π hf;have Q6: ∀r,X.live c r->({X with lv:=Y.lv} :aw).live c r:= λr hr=>by cases r<;>exact hr
 have gc: ∀r,X.live c r->Y.A r=X.A r:= λr hr=>(QI.e.A r (Q6 r hr)).2
 have t9:=gc (.fr π) (by show 1<=X.fs π;omega);have Sd:=gc (.pl π a) ⟨hf,O⟩;have v6:=gc (.er π) ⟨hf,by intro e;rw[e]at O;simp at O⟩;have Ya: ∀{X':aw} {H':Hp} {Y':aw} {K':Hp},mq c X' c.eh->iQ c X' H' Y' K'->mq c Y' c.eh:= λ{X'} {H'} {Y'} {K'} R he=>mq.next (X:= {X' with lv:=Y'.lv}) (H:=H') ⟨R.c1,R.f1,R.c4,R.tp⟩ he.e
 have ZJ:=Ya hP QI;have ST: ∀{Y':aw} {K':Hp},iQ c X H Y' K'-> ∀r,X.live c r->({X with lv:=Y'.lv} :aw).live c r:= λ_ r hr=>by cases r<;>exact hr
 have W9:=RX.lay.Kj RB (by intro e;rw[e]at O;simp at O);have Us:=RX.lay.frame RB;rw[t9,v6]at Us;rw[v6,(QI.e.aL π hf).2]at W9;obtain⟨d6,R,P4⟩:=RX.lay.fW RB l;have XM:=(A.eq π a f d6 PG l R).1;have UT:f.kd=1\/f.kd=2\/f.kd=3\/f.kd=4\/f.kd=5:=by
  cases XM with
  |df z=>omega
  |call z=>omega
  |sw z=>omega
  |aP z=>omega
  |reset z=>omega
 have VR:=(A.eq π a f d6 PG l R).2;obtain⟨m2,K2,⟨b,rfl,hb,U,D⟩,Rq⟩:=I5 F A (λr _=>hV r) RX (by omega) ZJ RB l UT (F.lh π a f PG l);rw[gc .it trivial,t9,Sd]at Rq;have Q_:=iQ.of D.2.1;have wd:=QI.trans Q_;have V:=D.2.1.f2 π RB;have co:=Ya ZJ Q_;have hT2:=D.2.2.1;have Ym: ∀r,X.live c r->U.A r=X.A r:= λr hr=>(wd.e.A r (ST wd r hr)).2
 have U9:=Ym .it trivial;have d7:=Ym (.fr π) (by show 1<=X.fs π;omega);have ge:=Ym (.pl π a) ⟨hf,O⟩;have next: ∀(h:aw) (p:Hp),cV P n c d u h p->iQ c Y K h p->h.T c<=Y.T c->(∀σ j,h.lv σ j=true->Y.lv σ j=true\/(σ=π/\j=a)\/ ∃τ,σ=τ++(a::π))->Ey c h π a f->(∀τ,c.ok (τ++(a::π))->sC c h (τ++(a::π)))->
   iQ c X H h p/\h.T c<=X.T c/\(∀σ j,h.lv σ j=true->X.lv σ j=true\/(σ=π/\j<a+1)\/ ∃τ S,S<a+1/\σ=τ++(S::π))/\ ∀j f,j<a+1->(c.fr π).au[j]?=some f->Ey c h π j f/\ ∀τ,c.ok (τ++(j::π))->sC c h (τ++(j::π)):=by
  intro h p SD Tb YY Xk UV U0;refine⟨QI.trans Tb,by omega,λσ j x=> ?_,λj q' x G=> ?_⟩
  ·rcases Xk σ j x with g|⟨g,q⟩|⟨τ,g⟩
   ·rcases f9 σ j g with Z|⟨Z,h4⟩|⟨τ,S,Z,h4⟩
    ·exact .inl Z
    ·exact .inr (.inl ⟨Z,by omega⟩)
    ·exact .inr (.inr ⟨τ,S,by omega,h4⟩)
   ·exact .inr (.inl ⟨g,by omega⟩)
   ·exact .inr (.inr ⟨τ,a,by omega,g⟩)
  ·rcases avB.1 x with g|g
   ·obtain⟨q,Z⟩:=i8 j q' g G;exact⟨q.up Tb,λτ y=>(Z τ y).up Tb⟩
   ·subst g;rw[l]at G;injection G with G
    subst G;exact⟨UV,U0⟩
 have vD:f.kd=1\/f.kd=2-> ∀τ:Path,c.ok (τ++(a::π))->False:=by
  intro w τ
  induction τ with
  |nil=>
   intro g;obtain⟨_,q',G,Qv⟩:=A.i_ a π g;rw[l]at G;injection G with G;subst G;omega
  |cons B τ ih=>intro g;exact ih (A.i_ B (τ++(a::π)) g).1
 have U8: ∀τ j,Y.lv (τ++(a::π)) j=false:=by
  intro τ j;cases e:Y.lv (τ++(a::π)) j with
  |false=>rfl
  |true=>
   rcases f9 _ _ e with g|⟨g,_⟩|⟨Q,S,g,q⟩
   ·have:=ZH (τ++ [a]) j;simp only[avh,List.singleton_append]at this;rw[this]at g;cases g
   ·exact absurd g De
   ·have:=(KB q).2;omega
 have Vs:Y.lv π a=false:=by
  cases e:Y.lv π a with
  |false=>rfl
  |true=>
   rcases f9 _ _ e with g|⟨_,g⟩|⟨Q,S,g,q⟩
   ·have:=ZH [] a;simp only[avn]at this;rw[this]at g;cases g
   ·omega
   ·exact absurd q.symm De
 refine dO [3,2,22] W<|Po (mr W W W W9 (auJ a) (by omega))<|dR [23] W<|Po (ny W W W9 (by simp[O,Sd]))<|dR [2,27] W<|Po (aq Rq W W)<|dL [] W ?_;cases i9:b with
 |false=>
  have YE: ¬c.jg π f:= λe=>by rw[hb.2 e]at i9;cases i9
  have X7:=avI λe=>YE λe2=>absurd e2 e
  refine dC [1] W<|DC.exit ?_;obtain⟨n1,n2,n3,n4⟩:=next U K2 D.1 Q_ (by omega) (λσ j x=> .inl (by rw[<-D.2.1.lv];exact x)) ⟨λe=>absurd e YE,λe=>by omega,λo v hv hE S4=>by
   by_cases e:π= []->d.ins.length<=o
   ·exact absurd (xy F A D.1 V l X7 hv hE S4 e).1 YE
   ·have e1:=avI λg=>e λq=>absurd q g
    subst e1;exact D.1.pu.ci o (axl λg=>e λ_=>g)⟩ (λτ y=>(vD X7 τ y).elim)
  refine dO [2,101] W<|Po (az W W W (by omega))<|dL [] W<|bK (k':=(c.fr π).au.length-(a+1)) (by omega) ⟨a+1,U,K2,_,rfl,by omega,rfl,D.1,n1,n2,n3,n4⟩ W W
 |true=>
  have SM:=hb.1 i9;refine dC [0] W ?_;have S5:K2[X.A (.pl π a)]?=some (.box (dK f d6)):=by
   obtain⟨p',P2,UQ⟩:=D.1.lay.fW V l;rw[R]at P2;injection P2 with P2
   subst P2;rw[ge]at UQ;exact UQ
  have wn: ∀(h:aw) (p:Hp),cV P n c d u h p-> ∀o,¬(π= []->d.ins.length<=o)->h.cs π o=2:= λh p SD o e=>by
   have e1:=avI λg=>e λq=>absurd q g
   subst e1;exact SD.pu.ci o (axl λg=>e λ_=>g)
  have mt: ∀{h:aw} {σ:Path×Nat},Pu P c d u h->(h.cs σ.1 σ.2=2\/h.cs σ.1 σ.2=3)->(c.val σ.1 σ.2).isSome=true->h.cs σ.1 σ.2=2:= λ{h σ} R g q=>by
   rcases g with g|g
   ·exact g
   ·rw[R.ca _ _ g]at q;cases q
  have pm:=F.Dc π a f PG l;rcases(show f.kd=1\/f.kd=2\/(f.kd=3\/f.kd=4\/f.kd=5) by omega)with w|w|w
  ·obtain⟨k,hl⟩: ∃k,f.lhs= [k]:=by
    cases XM with
    |df _ k hl=>exact⟨k,hl⟩
    |call z=>omega
    |sw z=>omega
    |aP z=>omega
    |reset z=>omega
   obtain⟨σ,ac,j0,E,Wi,Su,WB,W3,du⟩:=A.F_ π a f k PG l w hl SM;have Sj:(c.val σ.1 σ.2).isSome=true:=by
    have:=SM (.inl w);rw[hl]at this;obtain⟨PW,g,q⟩:=this;rw[E]at g;injection g with g;subst g
    exact q
   obtain⟨m3,K3,⟨rfl,I,s,qr⟩,UC⟩:=hV c.eh U K2 D.1 (by omega) co π k σ V E (XL D.1 V E);rw[U9,d7]at UC;have Wx:=mt s.1.pu qr Sj;have i6:=s.2.1.f2 π V;have XK:=s.2.2.1;obtain⟨n1,n2,n3,n4⟩:=next I K3 s.1 (Q_.trans (iQ.of s.2.1)) (by omega) (λσ j x=> .inl (by rw[<-D.2.1.lv,<-s.2.1.lv];exact x))
    ⟨λ_=>⟨(s.1.pu.s2 σ j0 ac π a f ((tS s.1.pu i6 E).1) (.inl Wx) du WB Wi (by rw[Su];exact W3) l).2.1 w,λe=>by omega⟩,λe=>by omega,λo v hv hE S4=>by
     by_cases e:π= []->d.ins.length<=o
     ·obtain⟨_,q,Z⟩:=xy F A s.1 i6 l (.inl w) hv hE S4 e;rw[hl,auW]at Z;rw[Z,E]at q;injection q with q
      rw[q]at Wx;exact Wx
     ·exact wn I K3 s.1 o e⟩ (λτ y=>(vD (.inl w) τ y).elim)
   unfold dK at S5;rw[w,hl]at S5;refine dO [2,33] W<|Po (aA W W S5 W)<|dR [3,2,1,2,69] W<|Po (aA W W S5 W)<|dR [70] W<|Po (aG W W W (by decide) (r:=[.str k]) W W)<|dR [72] W<|Po (aq UC W W)<|dR [2,101] W<|Po (az W W W (by omega))<|dL [] W<|bK (k':=(c.fr π).au.length-(a+1)) (by omega) ⟨a+1,I,K3,_,rfl,by omega,rfl,s.1,n1,n2,n3,n4⟩ W W
  ·have TK:=F.gh π a f l w;unfold dK at S5;rw[w]at S5;refine dO [2,33] W<|Po (aA W W S5 W)<|dR [3,2,0,2,1,2,79] W<|Po (aA W W S5 W)<|dR [80] W<|Po (bp W W W) ?_;rw[au8];refine dL [] W<|Pz [nN 77 0,nN 76 f.lhs.length,nD 75 (.sl (dJ f.lhs)),nR 5 (X.A (.pl π a)),nN 16 a,nN 15 ((c.fr π).au.length),nM 14 (bM (X.A (.er π)) (X.ve π) (c.fr π).au.length),nR 0 (X.A .it),nR 1 (X.A (.fr π))] K2 W W<|dC [] W<|Qy (λPD=> ∃h p bx,cW P n c d u U K2 0 [] h p/\(∀(m:Nat) (k:Nm) (σ:Path×Nat),f.lhs[m]?=some k->c.find π k=some σ->h.cs σ.1 σ.2=2)/\PD=⟨[nR 5 (X.A (.pl π a)),nN 16 a,nN 15 ((c.fr π).au.length),nM 14 (bM (X.A (.er π)) (X.ve π) (c.fr π).au.length),nR 0 (X.A .it),nR 1 (X.A (.fr π))],bx,p⟩) ?_ ?_
   ·refine dC [3] W<|DC.lp (λo ac=> ∃(m:Nat) (h:aw) (p:Hp) (bx:List (Nat×List M)),ac=⟨[nN 77 m,nN 76 f.lhs.length,nD 75 (.sl (dJ f.lhs)),nR 5 (X.A (.pl π a)),nN 16 a,nN 15 ((c.fr π).au.length),nM 14 (bM (X.A (.er π)) (X.ve π) (c.fr π).au.length),nR 0 (X.A .it),nR 1 (X.A (.fr π))],bx,p⟩/\m<=f.lhs.length/\o=f.lhs.length-m/\cW P n c d u U K2 0 [] h p/\ ∀(t:Nat) (k:Nm) (σ:Path×Nat),t<m->f.lhs[t]?=some k->c.find π k=some σ->h.cs σ.1 σ.2=2) f.lhs.length _
     ⟨0,U,K2,_,rfl,by omega,rfl,cW.same D.1.lay D.1.pu,λt k σ hm=>by omega⟩ W ?_
    rintro o s2 ⟨m,h,p,rg,rfl,hm,rfl,i,Yl⟩;refine dC [2] W<|DC.cond W (λT=> ?_) (λT=> ?_);rotate_left
    ·have e:m=f.lhs.length:=by have:=au9 T;omega
     refine DC.exit<|⟨_,⟨h,p,_,i,λt k σ C E=>Yl t k σ (by
      rcases auM t f.lhs.length with z|z
      ·omega
      ·rw[auP z]at C;cases C) C E,rfl⟩,cR W W⟩
    have Yn:m<f.lhs.length:=by have:=auV T;omega
    have C:=auO Yn;have Uk:=li Yn;generalize f.lhs[m]=k at C Uk;obtain⟨σ,nv,E,UH,_⟩:=A.lhs π a f PG l w SM m k C;have L:=i.2.1.f2 π V;have ZK:=Ya co (iQ.of i.2.1);have YY:=i.2.2.1;obtain⟨m3,K3,⟨rfl,I,s,qr⟩,UC⟩:=hV c.eh h p i.1 (by omega) ZK π k σ L E (XL i.1 L E);rw[(i.2.1.A .it trivial).2,(i.2.1.A (.fr π) (by show 1<=U.fs π;omega)).2,U9,d7]at UC;have Wx:=mt s.1.pu qr (by rw[UH];rfl);refine dO [3,2,83] W<|Po (aG W W W (auJ m) Uk W)<|dR [2,88] W<|Po (aq UC W W)<|dR [2,89] W<|Po (az W W W (by omega))<|dL [] W<|bK (k':=f.lhs.length-(m+1)) (by omega) ⟨m+1,I,K3,_,rfl,by omega,rfl,i.trans s,λt x' PW RG QM S6=> ?_⟩ W W;rcases avB.1 RG with g|g
    ·exact s.2.1.c2 _ _ (Yl t x' PW g QM S6)
    ·subst g;rw[C]at QM;injection QM with QM;subst QM
     rw[E]at S6;injection S6 with S6;subst S6
     exact Wx
   rintro _ ⟨h,p,rg,i,Yl,rfl⟩;have Tb:=Q_.trans (iQ.of i.2.1);have L:=i.2.1.f2 π V;have ZK:=Ya co (iQ.of i.2.1);have YY:=i.2.2.1;have Xk:h.lv=Y.lv:=by rw[i.2.1.lv,D.2.1.lv]
   have W6:=((i.2.1.A .it trivial).2).trans U9;have X_:=((i.2.1.A (.fr π) (by show 1<=U.fs π;omega)).2).trans d7;have Do:=((i.2.1.A (.pl π a) ⟨V,O⟩).2).trans ge;have rt:=i.1.lay.frame L;rw[X_]at rt;obtain⟨ob,VY,es,rfl,XP,Tv,_⟩:=i.1.lay.ob (.am π) (by show 1<=h.fs π;omega);have Tv:=Tv L a O;rw[Do]at Tv;have hfn:h.fs (a::π)=0:=by
    rcases avl (h.fs (a::π))with e|e
    ·exact e
    ·exact(vD (.inr w) [] (i.1.pu.fp a π (by omega)).2).elim
   have PL: ∀(J:aw) (L':Hp),cV P n c d u J L'->iQ c h p J L'->J.fs π=2-> ∀o v,(c.fr π).vars[o]?=some v->gR (c.fr π) o v a->(c.val π o).isSome=true->J.cs π o=2:=by
    intro J L' d8 VX YO o v hv hE S4;by_cases e:π= []->d.ins.length<=o
    ·obtain⟨_,q,Z⟩:=xy F A d8 YO l (.inr w) hv hE S4 e;obtain⟨t,RG⟩:=ave.1 Z;exact VX.e.c2 _ _ (Yl t v.name (π,o) RG q)
    ·exact wn J L' d8 o e
   cases TJ:h.dn π a with
   |true=>
    have ZV:h.cs (a::π) 0=3:=by
     rcases i.1.pu.g0 π a f l w with⟨_,e⟩|e|⟨e,_⟩
     ·rw[TJ]at e;cases e
     ·have:=ZK.c1 _ _ e;omega
     ·exact e
    have Xf:h.oS π a=some (.ref (X.A (.fr π)) 0):=by unfold aw.oS;rw[auU (by omega),au2 ⟨TJ,ZV⟩,X_]
    rw[Xf]at Tv;obtain⟨n1,n2,n3,n4⟩:=next h p i.1 Tb (by omega) (λσ j x=> .inl (by rw[<-Xk];exact x))
     ⟨λ_=>⟨(i.1.pu.s3 π a L TJ).2,λ_=>TJ⟩,λe=>by omega,PL h p i.1 (iQ.of (br.refl ..)) L⟩ (λτ y=>(vD (.inr w) τ y).elim)
    refine dO [2,93] W<|Po (aA W W rt W)<|dR [95] W<|Po (pO W W W W W VY XP) ?_;rw[Tv];refine dR [96] W<|Po (kS (by kernel_rfl) W W W W W)<|dR [0,2,101] W<|Po (az W W W (by omega))<|dL [] W<|bK (k':=(c.fr π).au.length-(a+1)) (by omega) ⟨a+1,h,p,_,rfl,by omega,rfl,i.1,n1,n2,n3,n4⟩ W W
   |false=>
    have hg0:h.cs (a::π) 0=0:=by
     rcases i.1.pu.g0 π a f l w with⟨e,_⟩|e|⟨_,e⟩
     ·exact e
     ·have:=ZK.c1 _ _ e;omega
     ·rw[TJ]at e;cases e
    have Xf:h.oS π a=none:=by unfold aw.oS;rw[auU (by omega),auU (by rw[TJ];simp)]
    rw[Xf]at Tv;obtain⟨m4,K4,⟨Y4,i7,rx,hT4,Eq,_⟩,Yh⟩:=tX F Qo A t8 (hV (c.ek π a)) h p i.1 (by omega) π a f L l w W SM TJ hg0 (ZK.down (by omega)) (λ_=>False) (λk C τ y e=>by
     obtain⟨t,RG⟩:=ave.1 C;have:=Yl t k τ RG y;omega)
    rw[W6,X_,Do]at Yh;have Fd:=iQ.of rx;have FS:=rx.f2 π L;obtain⟨n1,n2,n3,n4⟩:=next Y4 K4 i7 (Tb.trans Fd) (by omega) (λσ j x=> .inl (by rw[<-Xk,<-rx.lv];exact x))
     ⟨λ_=>⟨(i7.pu.s3 π a FS Eq).2,λ_=>Eq⟩,λe=>by omega,PL Y4 K4 i7 Fd FS⟩ (λτ y=>(vD (.inr w) τ y).elim)
    refine dO [2,93] W<|Po (aA W W rt W)<|dR [95] W<|Po (pO W W W W W VY XP) ?_;rw[Tv];refine dR [96] W<|Po (kS (by kernel_rfl) W W W W W)<|dR [1,2,100] W<|Po (aq Yh W W)<|dR [2,101] W<|Po (az W W W (by omega))<|dL [] W<|bK (k':=(c.fr π).au.length-(a+1)) (by omega) ⟨a+1,Y4,K4,_,rfl,by omega,rfl,i7,n1,n2,n3,n4⟩ W W
  ·obtain⟨B,ha⟩: ∃B,pV c π a f d6 B:=by
    cases XM with
    |df Qv=>omega
    |call Qv=>omega
    |sw Qv he B ha=>exact⟨B,ha⟩
    |aP Qv P2 ac a0 hs h0 za0 hu ht B ha=>exact⟨B,ha⟩
    |reset Qv he B ha=>exact⟨B,ha⟩
   have amP:SizeOf.sizeOf (c.fr (a::π)).au<=N:=by
    have g:=aB.L6 (auQ ha.ha);have q:SizeOf.sizeOf B.cy.au<SizeOf.sizeOf B.cy:=by cases B.cy;simp[bj.au];omega
    rw[ha.fr];show SizeOf.sizeOf B.cy.au<=N;omega
   have WN:(f.kd==1)=false:=by rcases w with e|e|e<;>rw[e]<;>rfl
   have Rz:(f.kd==2)=false:=by rcases w with e|e|e<;>rw[e]<;>rfl
   obtain⟨m3,K3,⟨I,rfl,s,i6⟩,QA⟩:=BS F Qo A (hV (c.ek π a)) U K2 D.1 (by omega) π a f V l w W (λe=>by have:=co.f1 a π e;omega) (co.down (by omega));rw[U9,d7,ge]at QA;have t3:=iQ.of s.2.1;have GT:=Ya co t3;have t4:=s.2.1.f2 π V;have XK:=s.2.2.1;have Id:=((s.2.1.A .it trivial).2).trans U9;have YU:K3[X.A (.pl π a)]?=some (.box (dK f d6)):=by
    obtain⟨p',P2,UQ⟩:=s.1.lay.fW t4 l;rw[R]at P2;injection P2 with P2
    subst P2;rw[((s.2.1.A (.pl π a) ⟨V,O⟩).2).trans ge]at UQ;exact UQ
   have SF:=wC f pm.2.2.2.1 (λB ha=>(pm.2.2.2.2.1 B ha).1) pm.2.2.2.2.2.2;rw[f.aC,f.ex.aC]at SF;have QR:=nK f;unfold dK at S5;refine dO [2,33] W<|Po (aA W W S5 W)<|dR [3,2,62] W<|Po (aQ WN W W W W)<|dR [0,2,74] W<|Po (aQ Rz W W W W)<|dR [0,2,37] W<|Po (aq QA W W)<|dR [2,41] W<|Po (k_ W W YU W W)<|dR [42] W<|Po (aE SF W W)<|dR [43] W<|Po (bp W W W) ?_;rw[au8];refine dL [] W<|Pz [nN 40 0,nN 39 ((cd f).length),nD 38 (.sl (dJ (cd f))),nR 8 (I.A (.fr (a::π))),nR 5 (X.A (.pl π a)),nN 16 a,nN 15 ((c.fr π).au.length),nM 14 (bM (X.A (.er π)) (X.ve π) (c.fr π).au.length),nR 0 (X.A .it),nR 1 (X.A (.fr π))] K3 W W<|dC [] W<|Qy (λPD=> ∃h p bx,cW P n c d u I K3 0 [] h p/\(∀(m:Nat) (k:Nm) (σ:Path×Nat),(cd f)[m]?=some k->c.find π k=some σ->h.cs σ.1 σ.2=2\/h.cs σ.1 σ.2=3)/\PD=⟨[nR 8 (I.A (.fr (a::π))),nR 5 (X.A (.pl π a)),nN 16 a,nN 15 ((c.fr π).au.length),nM 14 (bM (X.A (.er π)) (X.ve π) (c.fr π).au.length),nR 0 (X.A .it),nR 1 (X.A (.fr π))],bx,p⟩) ?_ ?_
   ·refine dC [3] W<|DC.lp (λo ac=> ∃(m:Nat) (h:aw) (p:Hp) (bx:List (Nat×List M)),ac=⟨[nN 40 m,nN 39 ((cd f).length),nD 38 (.sl (dJ (cd f))),nR 8 (I.A (.fr (a::π))),nR 5 (X.A (.pl π a)),nN 16 a,nN 15 ((c.fr π).au.length),nM 14 (bM (X.A (.er π)) (X.ve π) (c.fr π).au.length),nR 0 (X.A .it),nR 1 (X.A (.fr π))],bx,p⟩/\m<=(cd f).length/\o=(cd f).length-m/\cW P n c d u I K3 0 [] h p/\ ∀(t:Nat) (k:Nm) (σ:Path×Nat),t<m->(cd f)[t]?=some k->c.find π k=some σ->h.cs σ.1 σ.2=2\/h.cs σ.1 σ.2=3) (cd f).length _
     ⟨0,I,K3,_,rfl,by omega,rfl,cW.same s.1.lay s.1.pu,λt k σ hm=>by omega⟩ W ?_
    rintro o s2 ⟨m,h,p,rg,rfl,hm,rfl,i,Yl⟩;refine dC [2] W<|DC.cond W (λT=> ?_) (λT=> ?_);rotate_left
    ·have e:m=(cd f).length:=by have:=au9 T;omega
     refine DC.exit<|⟨_,⟨h,p,_,i,λt k σ C E=>Yl t k σ (by
      rcases auM t (cd f).length with z|z
      ·omega
      ·rw[auP z]at C;cases C) C E,rfl⟩,cR W W⟩
    have Yn:m<(cd f).length:=by have:=auV T;omega
    have C:=auO Yn;have Uk:=li Yn;have Uh:=avb Yn;generalize (cd f)[m]=k at C Uk Uh;obtain⟨σ,E⟩:=A.IK π a f PG l k Uh;have L:=i.2.1.f2 π t4;have ZK:=Ya GT (iQ.of i.2.1);have YY:=i.2.2.1;obtain⟨m4,K4,⟨rfl,Y4,t5,amQ⟩,UC⟩:=hV c.eh h p i.1 (by omega) ZK π k σ L E (XL i.1 L E);rw[(i.2.1.A .it trivial).2,(i.2.1.A (.fr π) (by show 1<=I.fs π;omega)).2,Id,((s.2.1.A (.fr π) (by show 1<=U.fs π;omega)).2).trans d7]at UC;refine dO [3,2,46] W<|Po (aG W W W (auJ m) Uk W)<|dR [2,51] W<|Po (aq UC W W)<|dR [2,52] W<|Po (az W W W (by omega))<|dL [] W<|bK (k':=(cd f).length-(m+1)) (by omega) ⟨m+1,Y4,K4,_,rfl,by omega,rfl,i.trans t5,λt x' PW RG QM S6=> ?_⟩ W W;rcases avB.1 RG with g|g
    ·rcases Yl t x' PW g QM S6 with q|q
     ·exact .inl (t5.2.1.c2 _ _ q)
     ·exact .inr (t5.2.1.c3 _ _ q)
    ·subst g;rw[C]at QM;injection QM with QM;subst QM
     rw[E]at S6;injection S6 with S6;subst S6
     exact amQ
   rintro _ ⟨h,p,rg,i,Yl,rfl⟩;have t6:=iQ.of i.2.1;have L:=i.2.1.f2 π t4;have In:=i.2.1.f2 _ i6;have ZK:=Ya GT t6;have YY:=i.2.2.1;have Xk:h.lv=Y.lv:=by rw[i.2.1.lv,s.2.1.lv,D.2.1.lv]
   have W6:=((i.2.1.A .it trivial).2).trans Id;have IO:=(i.2.1.A (.fr (a::π)) (by show 1<=I.fs (a::π);omega)).2;obtain⟨m5,K5,⟨Y5,UI⟩,Vl⟩:=Pt (a::π) amP h p i.1 (by omega) ZK In (λτ j=>by rw[Xk];exact U8 τ j);rw[W6,IO]at Vl;have ZI:=UI.ext;have LE:=ZI.e.f2 π L;have LT:=ZI.e.f2 _ In;have hT5:=UI.t;have amR:Y5.lv π a=false:=by
    cases e:Y5.lv π a with
    |false=>rfl
    |true=>
     rcases UI.NQ _ _ e with g|⟨τ,g⟩
     ·rw[Xk,Vs]at g;cases g
     ·exact absurd g.symm De
   have t7: ∀r,X.live c r->Y5.A r=X.A r:=by
    have q:=QI.trans (((Q_.trans t3).trans t6).trans ZI);intro r hr;exact(q.e.A r (by cases r<;>exact hr)).2
   have Pi:=t7 .it trivial;have Pm:=t7 (.pl π a) ⟨hf,O⟩;have Pn: ∀(J:aw) (L':Hp),cV P n c d u J L'->iQ c Y5 K5 J L'->(f.kd=4->J.lv π a=true)->Ey c J π a f:=by
    intro J L' d8 VX hlW;refine⟨λ_=>⟨λPq hw=>d8.pu.s4 π a (VX.e.f2 _ LT) Pq hw,λe=>by omega⟩,hlW,λo v hv hE S4=> ?_⟩;obtain⟨QB,⟨q',G,RH⟩,_⟩:=hE;rw[l]at G;injection G with G
    subst G;obtain⟨t,RG⟩:=ave.1 RH;have g:=Yl t v.name (π,o) RG (xx QB);have q:J.cs π o=2\/J.cs π o=3:=by
     rcases g with g|g
     ·exact .inl (VX.e.c2 _ _ (ZI.e.c2 _ _ g))
     ·exact .inr (VX.e.c3 _ _ (ZI.e.c3 _ _ g))
    exact mt (σ:=(π,o)) d8.pu q S4
   have Pp:=((Q_.trans t3).trans t6).trans ZI;refine dO [2,55] W<|Po (aq Vl W W)<|dL [] W ?_;rcases(show f.kd=4\/(f.kd=3\/f.kd=5) by omega)with WA|amS
   ·obtain⟨m6,K6,⟨Y6,ah,d9,hT6⟩,QT⟩:=I6 F A (hV c.eh) UI.inst (by omega) (Ya ZK ZI) LE LT l WA R amR;rw[Pi,t7 (.fr π) (by show 1<=X.fs π;omega),Pm,((ZI.e.A (.fr (a::π)) (by show 1<=h.fs (a::π);omega)).2).trans IO]at QT;have Zg:=iQ.NP d9;obtain⟨n1,n2,n3,n4⟩:=next Y6 K6 ah (Pp.trans Zg) (by omega) (λσ j x=>by
      rw[d9.lv]at x;by_cases e:(σ,j)=(π,a)
      ·injection e with e1 e2;exact .inr (.inl ⟨e1,e2⟩)
      ·have QE:Y5.lv σ j=true:=by
        have:(Y5.kC π a).lv σ j=Y5.lv σ j:=auU e;rw[this]at x;exact x
       rcases UI.NQ σ j QE with g|g
       ·rw[Xk]at g;exact .inl g
       ·exact .inr (.inr g)) (Pn Y6 K6 ah Zg (λ_=>by rw[d9.lv];exact au2 W)) (λτ y=>(UI.done τ y).up Zg)
    refine dO [2,60] W<|Po (aq QT W W)<|dR [2,101] W<|Po (az W W W (by omega))<|dL [] W<|bK (k':=(c.fr π).au.length-(a+1)) (by omega) ⟨a+1,Y6,K6,_,rfl,by omega,rfl,ah,n1,n2,n3,n4⟩ W W
   ·obtain⟨m6,K6,⟨ah,d9⟩,QT⟩:=Gq F UI.inst LE l amS (.ref (X.A (.fr π)) 0) (.ref (I.A (.fr (a::π))) 0);rw[Pi,Pm]at QT;have Zg:=iQ.of d9;obtain⟨n1,n2,n3,n4⟩:=next Y5 K6 ah (Pp.trans Zg) (by omega) (λσ j x=>by
      rcases UI.NQ σ j x with g|g
      ·rw[Xk]at g;exact .inl g
      ·exact .inr (.inr g)) (Pn Y5 K6 ah Zg (λe=>by omega)) (λτ y=>(UI.done τ y).up Zg)
    refine dO [2,60] W<|Po (aq QT W W)<|dR [2,101] W<|Po (az W W W (by omega))<|dL [] W<|bK (k':=(c.fr π).au.length-(a+1)) (by omega) ⟨a+1,Y5,K6,_,rfl,by omega,rfl,ah,n1,n2,n3,n4⟩ W W
end
end Go.Proofs.Sz
namespace Go.Mt
section
variable{X:bJ}{ops:Array Oper}{rest:List Oper}{sl:List (Nat×V)}{bx:List (Nat×List M)}{H:Hp}{P3:List Ef->St->Prop}{d ty:Nat}{pos:String}{af:Array Edge}
theorem BU{T:Nat}{parts:List (Nat×Operand)}{ps:List (Nat×Nat)}{z:List D}{a:List M}{ms:List (Nat×M)}{cs:List M}[ht:k7 X.P T ps z](f:Nat.blt d X.n=true)(h:iE sl parts=some ms)(i:uU z=some a)
  (hf:vk ps a ms=some cs) (j:kK cs=none) (k:TF X ops rest ⟨(d,.m (.agg cs))::sl,bx,H⟩ λl m=>P3 (⟨some d,.m (.agg cs),[],[],none,false,none⟩::l) m):TF X ops (⟨some d,.build T parts.toArray,ty,pos,af,none⟩::rest) ⟨sl,bx,H⟩ P3:=by
 refine TF.cons (e:=⟨some d,.m (.agg cs),[],[],none,false,none⟩) (P1 W W (bO f) λn o=> ?_) W k;have b:=xa (X:=X) (st:=n) (dst:=some d) (ty:=ty) (pos:=pos) (af:=af) (g:=none) (T:=T) (parts:=parts) (by
  rw[o.eG (λc p=>by simp[Op.operands];exact⟨c.1,p⟩),je];exact h) (by rw[<-q9 i];exact uC hf)
 have:pack cs= .agg cs:=by simp[pack,j]
 rw[this]at b;exact b
end
end Go.Mt
namespace Go.Proofs.Sz
open Go.Mt Go.Sm Go.Proofs
open Tryz
section
variable{P:Pg}{n:Nat}{c:aK}{d:Nd}{u:US}{X Y Z:aw}{H K L:Hp}
def Ab:C3->Ro
 | .un=> .un| .me=> .me| .pe=> .pe| .su=> .su| .sb k=> .sb k
def Pf(l iu im ip jR:Nat):Ro->Nat
 | .it=>l| .un=>iu| .me=>im| .pe=>ip| .su=>jR| .fr _=>l+3| .am _=>l+1| .tk _=>l+2|_=>0
def tY(own:Nat->Option C3)(l a:Nat):Option Ro:=if a=l then some .it else if a=l+1 then some (.am [])else if a=l+2 then some (.tk [])else if a=l+3 then some (.fr [])else(own a).map Ab
def x0(own:Nat->Option C3)(iu im ip jR:Nat)(ad:Nat->Nat)(u:US)(l ni:Nat):aw:=
 {
  A:=Pf l iu im ip jR,own:=tY own l,cs:= λπ k=>if π= []/\k<ni then 2 else 0,fs:= λπ=>if π= []then 1 else 0,dn:= λ_ _=>false,lv:= λ_ _=>false,N:=[],F:=[],fi:=0,vN:=0,vF:=0,vc:= λ_=>0,ve:= λ_=>0,x:=⟨u.mem,u.cu,u.an⟩,ad:=ad,ph:= λ_ _=>False}
abbrev xz(iu:Nat)(eh:M):List M:=[.ref iu 0,eh,.d (.bool false),.d (.sl []),.d (.sl [])]
abbrev jr(H:Hp)(iu:Nat)(eh:M):Hp:=(((H++ [Ob.box (xz iu eh)])++ [Ob.map []])++ [Ob.map []])++ [Ob.box [.d .bX,.d (.sl []),.d (.sl []),.mp (H.length+1),.mp (H.length+2)]]
theorem sD(H:Hp)(iu:Nat)(a:M):(jr H iu a).length=H.length+4:=by simp
theorem sF{H:Hp}{iu:Nat}{b:M}{a:Nat}(h:a<H.length):(jr H iu b)[a]?=H[a]?:=by grind
theorem BV(H:Hp)(iu:Nat)(a:M):(jr H iu a)[H.length]?=some (.box (xz iu a)):=by grind
theorem I'(H:Hp)(iu:Nat)(a:M):(jr H iu a)[H.length+1]?=some (.map []):=by grind
theorem Ja(H:Hp)(iu:Nat)(a:M):(jr H iu a)[H.length+2]?=some (.map []):=by grind
theorem BW(H:Hp)(iu:Nat)(a:M):(jr H iu a)[H.length+3]?=some (.box [.d .bX,.d (.sl []),.d (.sl []),.mp (H.length+1),.mp (H.length+2)]):=by grind
theorem Gr(H:Hp)(iu:Nat)(t a:M):(jr H iu t).set H.length (.box (xz iu a))=jr H iu a:=by grind
theorem KC{r r':C3}(h:Ab r=Ab r'):r=r':=by cases r<;>cases r'<;>simp[Ab]at h⊢ <;>exact h
theorem cF.start{j:Nat->Option C3}{iu p q r:Nat}{ad:Nat->Nat}(y:Nat)(v: ∀g,j g≠none->g<H.length)(s:j iu=some .un/\j p=some .me/\j q=some .pe/\j r=some .su)
  (z:H[iu]?=some (.box (pW P d p q r))) (A:H[p]?=some (.row false 1 0 (bE (bW d) (ji u.mem)))) (B:H[q]?=some (.row false 1 0 (bE (bW d) (kA u.cu)))) (C:H[r]?=some (.row false 1 0 (bE (bW d) (fA u.an ad))))
  (D: ∀i,i<bW d-> ∀m,u.an i=some m->iZ P n m (ad i) (λg=>j g=some (.sb i)) H):
  cF P n c d (x0 j iu p q r ad u H.length y) (jr H iu (.ref (H.length+3) 0)):=by
 have o: ∀g k,j g=some k->tY j H.length g=some (Ab k):= λg k f=>by
  have:=v g (by rw[f];simp);unfold tY;rw[auU (by omega),auU (by omega),auU (by omega),auU (by omega),f];rfl
 have E: ∀g i,tY j H.length g=some (.sb i)↔j g=some (.sb i):= λg i=>by
  constructor
  ·intro f;unfold tY at f;split at f
   ·cases f
   ·split at f
    ·cases f
    ·split at f
     ·cases f
     ·split at f
      ·cases f
      ·cases e:j g with
       |none=>rw[e]at f;cases f
       |some k=>
             rw[e]at f;injection f with f;have:Ab k=Ab (.sb i):=f
             rw[KC this]
  ·intro f;exact o g _ f
 have t: ∀{g ob},H[g]?=some ob->(jr H iu (.ref (H.length+3) 0))[g]?=some ob:= λ{g ob} f=>(sF (lr f)).trans f
 refine⟨λk h=> ?_,λg k f=> ?_,λk h=> ?_,λi F m G=> ?_,λx w=>(by cases w),λx w=>(by cases w)⟩
 ·cases k with
  |it=>show tY j H.length H.length=_;unfold tY;rw[au2 W]
  |un=>exact o _ _ s.1
  |me=>exact o _ _ s.2.1
  |pe=>exact o _ _ s.2.2.1
  |su=>exact o _ _ s.2.2.2
  |nx=>exact absurd W h
  |af=>exact absurd W h
  |fr b=>
   have e:=avI λe=>by have a:1<=(if b= []then 1 else 0):=h;rw[auU e]at a;omega
   subst e;show tY j H.length (H.length+3)=_;unfold tY;rw[auU (by omega),auU (by omega),auU (by omega),au2 W]
  |am b=>
   have e:=avI λe=>by have a:1<=(if b= []then 1 else 0):=h;rw[auU e]at a;omega
   subst e;show tY j H.length (H.length+1)=_;unfold tY;rw[auU (by omega),au2 W]
  |tk b=>
   have e:=avI λe=>by have a:1<=(if b= []then 1 else 0):=h;rw[auU e]at a;omega
   subst e;show tY j H.length (H.length+2)=_;unfold tY;rw[auU (by omega),auU (by omega),au2 W]
  |cr b=>
       have a:(if b= []then 1 else 0)=2:=h.1;split at a<;>cases a
  |er b=>
       have a:(if b= []then 1 else 0)=2:=h.1;split at a<;>cases a
  |ce b i=>
        have a:(if b= []then 1 else 0)=2:=h.1;split at a<;>cases a
  |pl b i=>
        have a:(if b= []then 1 else 0)=2:=h.1;split at a<;>cases a
  |sb i=>exact h.elim
 ·rw[sD];have l:tY j H.length g=some k:=f;unfold tY at l;split at l
  ·omega
  ·split at l
   ·omega
   ·split at l
    ·omega
    ·split at l
     ·omega
     ·have:=v g (by intro e;rw[e]at l;cases l);omega
 ·cases k with
  |it=>exact⟨_,BV _ _ _,W⟩
  |un=>exact⟨_,t z,W⟩
  |me=>exact⟨_,t A,W⟩
  |pe=>exact⟨_,t B,W⟩
  |su=>exact⟨_,t C,W⟩
  |nx=>exact absurd W h
  |af=>exact absurd W h
  |fr b=>
   have e:b= []:=avI λe=>by have a:1<=(if b= []then 1 else 0):=h;rw[auU e]at a;omega
   subst e;exact⟨_,BW _ _ _,W⟩
  |am b=>
   have e:b= []:=avI λe=>by have a:1<=(if b= []then 1 else 0):=h;rw[auU e]at a;omega
   subst e;exact⟨_,I' _ _ _,[],W,W,λ(f:(1:Nat)=2)=>absurd f (by decide),λ_=>rfl⟩
  |tk b=>
   have e:b= []:=avI λe=>by have a:1<=(if b= []then 1 else 0):=h;rw[auU e]at a;omega
   subst e;exact⟨_,Ja _ _ _,[],W,W,λ(f:(1:Nat)=2)=>absurd f (by decide)⟩
  |cr b=>
       have a:(if b= []then 1 else 0)=2:=h.1;split at a<;>cases a
  |er b=>
       have a:(if b= []then 1 else 0)=2:=h.1;split at a<;>cases a
  |ce b i=>
        have a:(if b= []then 1 else 0)=2:=h.1;split at a<;>cases a
  |pl b i=>
        have a:(if b= []then 1 else 0)=2:=h.1;split at a<;>cases a
  |sb i=>exact h.elim
 ·have I:u.an i=some m:=G;exact((D i F m I).frame (λg J=>sF (v g (by rw[J];simp))) (by rw[sD];omega)).congr λg=>(E g i).symm
theorem Pu.start{ins outs:List Int}{u':US}(i:gy P (d_ P n) c d u ins outs u')(r:X.x=⟨u.mem,u.cu,u.an⟩)(hf: ∀h,X.fs h=if h= []then 2 else 0)(m: ∀a e,X.cs a e=if a= []/\e<ins.length then 2 else 0)(j: ∀a f,X.dn a f=false)(w: ∀a f,X.lv a f=false)(x:X.N= [])(y:X.F= [])(hi:X.fi=0):Pu P c d u X:=by
 have f0: ∀f a,X.fs (f::a)=0:= λf a=>by rw[hf,auU (by simp)]
 have t: ∀e,¬X.ER c e:=by rintro e ⟨a,f,p,q,C,b,_⟩;rw[f0]at b;cases b
 have B: ∀e a f,¬X.DC c e a f:=by rintro e a f ⟨_,b,_⟩;rw[j]at b;cases b
 have l: ∀a e,X.cs a e=2/\a= []/\e<ins.length\/X.cs a e=0:= λa e=>by
  rw[m];split
  ·rename_i b;exact .inl ⟨W,b⟩
  ·exact .inr W
 have z: ∀a e,zB (X.cs a e)=true->a= []/\e<ins.length:= λa e b=>by
  rcases l a e with g|g
  ·exact g.2
  ·rw[g]at b;cases b
 refine{f0:=by rw[hf,au2 W],fp:= λf a b=>absurd (f0 f a) b,f2:= λa=>by rw[hf];split<;>omega,c6:= λa e=>by rw[m];split<;>omega,ci:= λe o=>by rw[m,au2 ⟨rfl,by rw[i.sU];exact o⟩],cv:= λa e b=> ?_,ca:= λa e b=> ?_,xm:= λe _=>⟨λb=>absurd b (t e),λ_=>(by rw[r])⟩,xp:= λe _=>⟨λb=>absurd b (t e),λ_=>(by rw[r])⟩,xd:= λe _ a f b=>absurd b (B e a f),xs:= λe _ _=>⟨λb=>absurd b (t e),λ_=>(by rw[r])⟩,s1:= λa e q v _ b s=> ?_,s2:= λh D v E F p _ b s=> ?_,s3:= λa f _ b=>(by rw[j]at b;cases b),s4:= λa f b=>(by rw[f0]at b;cases b),s5:= λa f b=>(by rw[w]at b;cases b),dl:= λa f p _ b=>(by rw[j]at b;cases b),nk:= λq k=>(by rw[x]at k;cases k),fk:= λq k=>(by rw[y]at k;cases k),fl:=by rw[hi];omega,fn:=by rw[hi];omega,g0:= λa f p _ _=> .inl ⟨by rw[m,auU (by simp)],j a f⟩,dz:= λa f b=>(by rw[j]at b;cases b),cz:= λa e b=> ?_}
 ·obtain⟨rfl,o⟩:=z a e b;have A:e<d.ins.length:=by rw[<-i.sU];exact o
  rw[(i.ya e _ _ (auO A) (auO o)).1];rfl
 ·rcases l a e with g|g
  ·omega
  ·omega
 ·rcases l a e with g|g
  ·have:=s g.2.1;have:=i.sU;omega
  ·omega
 ·rcases l h.1 h.2 with g|g
  ·have:=s g.2.1;have:=i.sU;omega
  ·omega
 ·rcases l a e with g|g
  ·obtain⟨_,rfl,_⟩:=g;exact .inl (by rw[hf,au2 W])
  ·exact absurd g b
def Ro.unit:Ro->Option C3
 | .un=>some .un| .me=>some .me| .pe=>some .pe| .su=>some .su| .sb k=>some (.sb k)|_=>none
theorem unit_eq{r:Ro}{s:C3}(h:r.unit=some s):r=Ab s:=by cases r<;>cases s<;>simp[Ro.unit,Ab]at h⊢ <;>exact h
theorem KD(s:C3):(Ab s).unit=some s:=by cases s<;>rfl
theorem cF.ON(h:cF P n c d X K){u':US}(m:P.nodes[u'.i]?=some d)(o: ∀b,b<bW d->X.x.m b=u'.mem b)(p: ∀b,b<bW d->X.x.p b=u'.cu b)(q: ∀b,b<bW d->X.x.s b=u'.an b):
  iZ P (n+1) u' (X.A .un) (λa=>(X.own a).bind Ro.unit≠none) K:=by
 have i: ∀a j,(X.own a).bind Ro.unit=some j↔X.own a=some (Ab j):= λa j=>by
  cases e:X.own a with
  |none=>simp
  |some l=>
   constructor
   ·intro g;have r:=g;rw[unit_eq r]
   ·intro g;injection g with g;subst g;exact KD j
 refine⟨d,λa=>(X.own a).bind Ro.unit,X.A .me,X.A .pe,X.A .su,X.ad,m,λa=>avU,λa k=> ?_,⟨(i _ _).2 (h.own .un trivial),(i _ _).2 (h.own .me trivial),(i _ _).2 (h.own .pe trivial),(i _ _).2 (h.own .su trivial)⟩,h.unit,?_,?_,?_,λb f s t=> ?_⟩
 ·have k:(X.own a).bind Ro.unit≠none:=k;cases e:X.own a with
  |none=>rw[e]at k;exact absurd W k
  |some l=>exact h.lt a l e
 ·rw[h.mem,qM (λb f=>by show ji X.x.m b=ji u'.mem b;unfold ji;rw[o b f])]
 ·rw[h.cu,qM (λb f=>by show kA X.x.p b=kA u'.cu b;unfold kA;rw[p b f])]
 ·rw[h.an,qM (λb f=>by show fA X.x.s X.ad b=fA u'.an X.ad b;unfold fA;rw[q b f])]
 ·exact(h.sub b f s (by grind)).congr λa=>((i a (.sb b)).symm)
theorem m_.KE{π:Path}(h:m_ π X H Y K){r:Ro}(i: ¬r.rB π)(k:r≠ .fr π){a:Nat}(j:X.own a=some r)(d:a<H.length)(ob:Ob):m_ π X (H.set a ob) Y (K.set a ob):=by
 refine⟨h.eq,by simpa using h.len,h.A,h.v,λb c=>h.own b (by grind),λb f c=>by simpa using h.new b f c,λb c g=> ?_⟩;by_cases e:b=a
 ·subst e;rw[avz d,avz (avR d h.len)]
 ·rw[auT (avH e),auT (avH e)];exact h.iY b (by grind) g
theorem Fl.KE{g:xi}{st z:Nat->Int}{up:M}{π:Path}{k e:Nat}{p:Nat->Nm->Prop}(h:Fl g st z up X π k e p H){r:Ro}(l: ¬r.rB π)(x:r≠ .fr π){a:Nat}(y:X.own a=some r)(ob:Ob):Fl g st z up X π k e p (H.set a ob):=by
 have f: ∀{c},X.own (X.A c)=some c->c≠r->(H.set a ob)[X.A c]?=H[X.A c]?:= λ{c} A B=>auT (by grind)
 refine{h with lt:= λb c t=>by simpa using h.lt b c t,fr:=(f h.lN (avH x)).trans h.fr,cr:= λi=>(f (h.nL i) (by rintro rfl;exact l W)).trans (h.cr i),er:= λi=>(f (h.oH i) (by rintro rfl;exact l W)).trans (h.er i),ce:= λd j=> ?_,pl:= λd j=> ?_}
 ·obtain⟨v,u,eq,m,n,o,w⟩:=h.ce d j;exact⟨v,u,eq,m,n,(f (h.oT d j) (by rintro rfl;exact l W)).trans o,w⟩
 ·obtain⟨q,s,m,n,o⟩:=h.pl d j;exact⟨q,s,m,n,(f (h.oU d j) (by rintro rfl;exact l W)).trans o⟩
end
section
variable{P:Pg}{n:Nat}{c:aK}{d:Nd}{u:US}{X Y Z:aw}{H K L:Hp}
def NI.kn(c:aK):NI->Prop
 | .cell _ σ=>(c.val σ.1 σ.2).isSome=true
 |_=>True
def NI.wp(c:aK):NI->Nat->Bool->Prop
 | .aP π j,k,b=>(c.fr π).pos[j]?=some k/\b=c.nan π j
 |_,_,_=>False
theorem HG(X:aw)(a:NI): ∃m p,X.sy c a= {X with x:=⟨m,p,X.x.s⟩} :=by
 cases a with
 |cell b d=>simp only[aw.sy];split<;>exact⟨_,_,W⟩
 |aP e f=>simp only[aw.sy];split<;>exact⟨_,_,W⟩
 |_=>exact⟨_,_,W⟩
theorem NR(X:aw){a:NI}(l:NI.kn c a)(k:Nat):(∃v,NI.wr c a k v/\(X.sy c a).x.m k=v)\/((∀v,¬NI.wr c a k v)/\(X.sy c a).x.m k=X.x.m k):=by
 cases a with
 |cell p i=>
  obtain⟨v,h⟩:=awM.1 l;have m:c.get i=v:=by unfold aK.get;rw[h];rfl
  simp only[aw.sy,NI.wr];split
  ·rename_i d n;by_cases e:k=d
   ·subst e;exact .inl ⟨v,⟨n,h⟩,by simp[aw.kG,cg,m]⟩
   ·exact .inr ⟨λf b=>e (by grind),by simp[aw.kG,cg,e]⟩
  ·grind
 |aP q r=>
  simp only[aw.sy,NI.wr];split
  ·rename_i d o;by_cases e:k=d
   ·subst e;exact .inl ⟨_,⟨o,W⟩,by simp[aw.kG,aw.sx,cg]⟩
   ·exact .inr ⟨λf b=>e (by grind),by simp[aw.kG,aw.sx,cg,e]⟩
  ·grind
 |arrow g=>
  simp only[aw.sy,NI.wr];by_cases e:k=g
  ·subst e;exact .inl ⟨0,⟨W,W⟩,by simp[aw.kG,cg]⟩
  ·exact .inr ⟨λf b=>e b.1,by simp[aw.kG,cg,e]⟩
 |put g j=>
  simp only[aw.sy,NI.wr];by_cases e:k=g
  ·subst e;exact .inl ⟨j,⟨W,W⟩,by simp[aw.kG,cg]⟩
  ·exact .inr ⟨λf b=>e b.1,by simp[aw.kG,cg,e]⟩
theorem NS(X:aw)(a:NI)(k:Nat):(∃v,NI.wp c a k v/\(X.sy c a).x.p k=v)\/((∀v,¬NI.wp c a k v)/\(X.sy c a).x.p k=X.x.p k):=by
 cases a with
 |cell g h=>exact .inr ⟨λv b=>b,by simp only[aw.sy];split<;>rfl⟩
 |aP i j=>
  simp only[aw.sy,NI.wp];split
  ·rename_i d f;by_cases e:k=d
   ·subst e;exact .inl ⟨_,⟨f,W⟩,by simp[aw.sx,cg]⟩
   ·exact .inr ⟨λl b=>e (by grind),by simp[aw.kG,aw.sx,cg,e]⟩
  ·grind
 |_=>exact .inr ⟨λv b=>b,rfl⟩
structure wJ(c:aK)(X:aw)(l:List (NI×M))(Y:aw):Prop where
 eq: ∃m p,Y= {X with x:=⟨m,p,X.x.s⟩}
 m: ∀k,(∃p∈l,∃v,NI.wr c p.1 k v/\Y.x.m k=v)\/((∀p∈l,∀v,¬NI.wr c p.1 k v)/\Y.x.m k=X.x.m k)
 p: ∀k,(∃p∈l,∃v,NI.wp c p.1 k v/\Y.x.p k=v)\/((∀p∈l,∀v,¬NI.wp c p.1 k v)/\Y.x.p k=X.x.p k)
theorem wJ.nil(c:aK)(X:aw):wJ c X [] X:=⟨⟨X.x.m,X.x.p,rfl⟩,λb=> .inr ⟨λd a=>(by cases a),rfl⟩,λb=> .inr ⟨λd a=>(by cases a),rfl⟩⟩
theorem wJ.snoc{l:List (NI×M)}{p:NI×M}(h:wJ c X l Y)(n:NI.kn c p.1):wJ c X (l++ [p]) (Y.sy c p.1):=by
 refine⟨?_,λa=> ?_,λa=> ?_⟩
 ·obtain⟨m,b,rfl⟩:=h.eq;obtain⟨o,q,e⟩:=HG (c:=c) {X with x:=⟨m,b,X.x.s⟩} p.1;exact⟨o,q,by rw[e]⟩
 ·rcases NR Y n a with⟨v,i,d⟩|⟨i,d⟩
  ·grind
  ·rcases h.m a with⟨b,j,v,f,g⟩|⟨j,f⟩
   ·grind
   ·refine .inr ⟨λb k v r=> ?_,d.trans f⟩;rcases auS.1 k with g|g
    ·grind
    ·grind
 ·rcases NS (c:=c) Y p.1 a with⟨v,i,d⟩|⟨i,d⟩
  ·grind
  ·rcases h.p a with⟨b,j,v,f,g⟩|⟨j,f⟩
   ·grind
   ·refine .inr ⟨λb k v r=> ?_,d.trans f⟩;rcases auS.1 k with g|g
    ·grind
    ·grind
structure Ac(c:aK)(d:Nd)(X:aw):Prop where
 f: ∀π,c.ok π->X.fs π=2
 n: ∀π j q,c.ok π->(c.fr π).au[j]?=some q->q.kd=2->c.jg π q->X.dn π j=true
 l: ∀π j q,c.ok π->(c.fr π).au[j]?=some q->q.kd=4->X.lv π j=true
 v: ∀π k v,c.ok π->(c.fr π).vars[k]?=some v->(π= []->d.ins.length<=k)->(c.val π k).isSome=true->X.cs π k=2
theorem Ac.up(h:Ac c d X)(l: ∀a,X.fs a=2->Y.fs a=2)(m: ∀a f,X.dn a f=true->Y.dn a f=true)(lv:Y.lv=X.lv)(n: ∀a i,X.cs a i=2->Y.cs a i=2):Ac c d Y:=
 ⟨λa g=>l a (h.f a g),λa f j g b e k=>m a f (h.n a f j g b e k),λa f j g b e=>by rw[lv];exact h.l a f j g b e,λa i v g b e k=>n a i (h.v a i v g b e k)⟩
theorem KF{ins outs:List Int}{u':US}(r:gy P (d_ P n) c d u ins outs u')(A:oF P n c d u)(h: ∀l,c.ok (l++ [])->sC c Y (l++ []))(s:cV P n c d u Y K):Ac c d Y:=by
 have g: ∀a,c.ok a->sC c Y a:= λa b=>by simp_all
 refine⟨λa b=>(g a b).f,λa e f b i j t=>(((g a b).q e f i).w t).2 j,λa e f b i j=>((g a b).q e f i).l j,λa m v b k w o=> ?_⟩;obtain⟨x,eq,y,_⟩:=s.lay.cell (g a b).f k;obtain⟨q,z⟩:=awM.1 o;obtain⟨e,B,p,_⟩:=(r.cell a m v x b k y w).df q z;obtain⟨_,⟨f,i,_⟩,_⟩:=id p;exact((g a b).q e f i).v m v k p o
theorem HH{ins outs:List Int}{u':US}(f:gy P (d_ P n) c d u ins outs u'){π:Path}{j:Nat}{q:aB}{p:Nat}(g:c.ok π)(h:(c.fr π).au[j]?=some q)(i:(c.fr π).pos[j]?=some p)(o:q.kd=3\/q.kd=4\/q.kd=5): ∃a,pV c π j q p a:=by
 cases (f.eq π j q p g h i).1 with
 |df e=>omega
 |call e=>omega
 |sw e k a b=>exact⟨a,b⟩
 |aP e r l s t v m w x a b=>exact⟨a,b⟩
 |reset e k a b=>exact⟨a,b⟩
theorem Jb{ins outs:List Int}{u':US}(f:oF P n c d u)(h:Pu P c d u X){e:NI}(b:NI.ok c d X e){k:Nat}{v:Int}(a:NI.wr c e k v):nJ c k v:=by
 cases e with
 |cell r g=>exact .inr (.inl ⟨g.1,g.2,Pu.ok f h b.1,a.1,a.2⟩)
 |aP i j=>
  obtain⟨m,l,s,o,p,w,_⟩:=b;exact .inr (.inr ⟨i,j,l,Pu.ok f h (h.Mb m),o,p,a.1,a.2⟩)
 |arrow q=>obtain⟨rfl,rfl⟩:=a;exact b.2
 |put q t=>obtain⟨rfl,rfl⟩:=a;exact b.2
theorem finish{ins outs:List Int}{u':US}(y:oF P n c d u)(q:gy P (d_ P n) c d u ins outs u')(hI:cV P n c d u X H)(s:Ac c d X)(SA:X.F.length<=X.fi)(co: ∀k v,¬X.ph k v)(Q:wJ c X X.N Y){k:Nat}(x:k<bW d):
  Y.x.m k=u'.mem k/\Y.x.p k=u'.cu k/\Y.x.s k=u'.an k:=by
 have h:=hI.pu;have t:k<c.sz:=by rw[y.Bh];exact x
 have ah: ∀k v,X.SS c k v-> ∃p∈X.N,NI.wr c p.1 k v:=by
  rintro k v ((i|⟨z,p,g,j,_⟩)|i)
  ·exact i
  ·rcases auM z X.F.length with r|r
   ·omega
   ·rw[auP r]at j;cases j
  ·exact absurd i (co k v)
 have WW: ∀{a b f},c.ok a->(c.fr a).au[b]?=some f-> ∃p,(c.fr a).pos[b]?=some p:= λ{a b f} l o=>by obtain⟨p,g,_⟩:=hI.lay.fW (s.f a l) o;exact⟨p,g⟩
 have gc: ∀k v,nJ c k v-> ∃p∈X.N,NI.wr c p.1 k v:=by
  rintro k v (⟨a,b,f,l,o,G,w⟩|⟨a,z,l,R,A⟩|⟨a,b,f,l,o,S,K,A⟩)
  ·obtain⟨p,T⟩:=WW l o;have M:=s.f a l;refine ah k v ?_;rcases(show f.kd=1\/f.kd=2\/(f.kd=3\/f.kd=4\/f.kd=5) by
    cases (q.eq a b f p l o T).1 with
    |df i=>omega
    |call i=>omega
    |sw i=>omega
    |aP i=>omega
    |reset i=>omega)with g|g|g
   ·obtain⟨E,N⟩: ∃E,f.lhs= [E]:=by
     cases (q.eq a b f p l o T).1 with
     |df _ E N=>exact⟨E,N⟩
     |call i=>omega
     |sw i=>omega
     |aP i=>omega
     |reset i=>omega
    obtain⟨F,ac,j0,Ru,Wi,Su,WB,W3,I⟩:=q.F_ a b f E l o g N G;have Sj:(c.val F.1 F.2).isSome=true:=by
     have:=G (.inl g);rw[N]at this;obtain⟨PW,j,r⟩:=this;rw[Ru]at j;injection j with j;subst j
     exact r
    have Qs:=(tS h M Ru).1;exact(h.s2 F j0 ac a b f Qs (.inl (s.v F.1 F.2 ac (Pu.ok y h Qs) WB I Sj)) I WB Wi (by rw[Su];exact W3) o).2.1 g (k,v) w
   ·exact(h.s3 a b M (s.n a b f l o g G)).2 (k,v) w
   ·obtain⟨L,U⟩:=HH q l o T g;exact h.s4 a b (s.f _ U.ok) (k,v) w
  ·obtain⟨v',RT⟩:=y.OH a z _ l R;have I:a= []->d.ins.length<=z:=by rintro rfl;exact y.OI z k R
   exact ah k v (h.s1 a z k v (s.f a l) (s.v a z v' l RT I (by rw[A];rfl)) I R A)
  ·obtain⟨p,d6,d7⟩:=h.s5 a b (s.l a b f l o S);exact⟨p,d6,by rw[d7];exact⟨K,A⟩⟩
 have B:X.ER c k↔fO c k:=by
  constructor
  ·rintro⟨a,b,f,p,L,g,j,r,C,J⟩;exact⟨a,b,f,p,L,(q.i_ b a (h.fp b a (by rw[g];decide)).2).1,j,r,C,J⟩
  ·rintro⟨a,b,f,p,L,g,j,r,C,J⟩;obtain⟨a',U⟩:=HH q g j r C;exact⟨a,b,f,p,L,s.f _ U.ok,j,r,C,J⟩
 have U1:X.x.m k=c.rd k:=by
  by_cases e:X.ER c k
  ·rw[(h.xm k x).1 e,(q.rd k t).1 (B.1 e)]
  ·rw[(h.xm k x).2 e,(q.rd k t).2 (λi=>e (B.2 i))]
 have VJ:X.x.p k=c.rp k:=by
  by_cases e:X.ER c k/\(gX P.aJ d)[k]?=some none
  ·rw[(h.xp k x).1 e.1 e.2,(q.rp k t).1 (B.1 e.1) e.2]
  ·rw[(h.xp k x).2 e,(q.rp k t).2 (λi=>e ⟨B.2 i.1,i.2⟩)]
 obtain⟨m,p,hY⟩:=Q.eq;refine⟨?_,?_,?_⟩
 ·rcases Q.m k with⟨f,o,v,g,j⟩|⟨g,j⟩
  ·rw[j];exact((q.nm k t).1 v (Jb (ins:=ins) (outs:=outs) (u':=u') y h (h.nk f o) g)).symm
  ·rw[j,U1];exact((q.nm k t).2 λv w=>by obtain⟨f,o,r⟩:=gc k v w;exact g f o v r).symm
 ·rcases Q.p k with⟨f,o,v,g,j⟩|⟨g,j⟩
  ·rw[j];refine((q.np k t).1 v ?_).symm;have V:=h.nk f o
   revert g V
   generalize f.1=ni;intro g V;cases ni with
   |aP a b=>
    obtain⟨M,q',p',PJ,Qv,P2,_⟩:=V;exact⟨a,b,q',Pu.ok y h (h.Mb M),PJ,Qv,g.1,g.2⟩
   |_=>exact g.elim
  ·rw[j,VJ];refine((q.np k t).2 λv w=> ?_).symm;obtain⟨a,b,f,l,o,S,K,A⟩:=w;obtain⟨e,he,d8⟩:=h.s5 a b (s.l a b f l o S);exact g e he v (by rw[d8];exact⟨K,A⟩)
 ·have d9:Y.x.s k=X.x.s k:=by rw[hY]
  rw[d9];by_cases e: ∃a b,X.DC c k a b
  ·obtain⟨a,b,hd⟩:=e;rw[h.xd k x a b hd];obtain⟨g,j,f,r,C,J⟩:=hd;have l:=Pu.ok y h g;obtain⟨⟨q',O,_,h7⟩,_⟩:=h.s3 a b g j;rw[r]at O;injection O with O
   subst O;exact((q.ns k t).1 _ ⟨a,b,f,l,r,C,h7,J,W⟩).symm
  ·have Z: ∀a b,¬X.DC c k a b:= λa b i=>e ⟨a,b,i⟩
   have f9:X.x.s k=c.rs k:=by
    by_cases D:X.ER c k/\(gX P.aJ d)[k]?=some none
    ·rw[(h.xs k x Z).1 D.1 D.2,(q.rs k t).1 (B.1 D.1) D.2]
    ·rw[(h.xs k x Z).2 D,(q.rs k t).2 (λi=>D ⟨B.2 i.1,i.2⟩)]
   rw[f9];exact((q.ns k t).2 λv w=>by
    obtain⟨a,b,f,l,o,P7,G,K,_⟩:=w;exact Z a b ⟨s.f a l,s.n a b f l o P7 G,f,o,P7,K⟩).symm
end
section
variable{P:Pg}{n:Nat}{c:aK}{d:Nd}{u:US}{X Y Z:aw}{H K L:Hp}
theorem Gs(l:List Nat):l.foldr (·+ ·) 0=aS l:=rfl
structure Df(F:Nat->Prop)(H:Hp)(X:aw)(K:Hp):Prop where
 len:H.length<=K.length
 o: ∀a,a<H.length-> ¬F a->X.own a=none/\K[a]?=H[a]?
theorem Df.up{F:Nat->Prop}(h:Df F H X K)(c:K.length<=L.length)(g: ∀a,a<K.length->X.own a=none->Y.own a=none/\L[a]?=K[a]?):Df F H Y L:=
 ⟨avD h.len c,λa b d=>by
  obtain⟨e,f⟩:=h.o a b d;obtain⟨i,j⟩:=g a (avR b h.len) e;exact⟨i,j.trans f⟩⟩
theorem KG{ins outs:List Int}{u':US}(ac:oF P n c d u)(Qo:lL P)(p:gy P (d_ P n) c d u ins outs u')(t9:rA P n){iu:Nat}{F:Nat->Prop}{H:Hp}(hR:iZ P (n+1) u iu F H):
  DT prog 27 [.ref iu 0,.d (.sl (bF ins))] H λm K=>m= .dq [.d (.sl (bF outs)),.d (.bool true)]/\ ∃F',iZ P (n+1) u' iu F' K/\(∀a,F' a->F a\/H.length<=a)/\H.length<=K.length/\ ∀a,a<H.length-> ¬F a->K[a]?=H[a]?:=by
 obtain⟨d',co,im,ip,jR,ad,QJ,v6,i9,S,h8,h9,SK,Vh,U7⟩:=hR;rw[p.nd]at QJ;injection QJ with QJ
 subst QJ;have Yf:=auQ p.nd;have mt:=Qo.d d Yf;have hSi:=Qo.i d Yf;have hV: ∀r,e_ P n c d u r:= λr=>(KA ac Qo p t9 r).1
 have ge:=p.qe;have UH:(c.fr []).vars=d.ins++d.outs++d.b.vars:=by rw[ge];rfl
 have Rm:(c.fr []).cO=List.replicate d.ins.length none++b_ d.outs (bP d.b)++b_ d.b.vars 0:=by rw[ge];rfl
 obtain⟨st,Qp⟩: ∃st:Nat->Int,st= λj=>if j<ins.length then 2 else 0:=⟨_,rfl⟩
 obtain⟨z,hz⟩: ∃z:Nat->Int,z= λj=>if j<ins.length then(ins[j]?).getD 0 else 0:=⟨_,rfl⟩
 have ah:cF P n c d (x0 co iu im ip jR ad u H.length ins.length) (jr H iu (.ref (H.length+3) 0)):=cF.start ins.length (λa o=>i9 a ((v6 a).2 o)) S h8 h9 SK Vh U7;obtain⟨l,q⟩: ∃l,l=x0 co iu im ip jR ad u H.length ins.length:=⟨_,rfl⟩;rw[<-q]at ah;have wd:l.A .it=H.length:=by rw[q];rfl
 have d6:l.A (.fr [])=H.length+3:=by rw[q];rfl
 have wn:l.A .un=iu:=by rw[q];rfl
 have amW:l.A (.am [])=H.length+1:=by rw[q];rfl
 have amX:l.A (.tk [])=H.length+2:=by rw[q];rfl
 have afx:=sD H iu (.d .bX);have aoF:=sD H iu (.ref (H.length+3) 0);have Do:Fl (c.fr []) st z (.d .bX) l [] 0 0 (λ_ _=>False) (jr H iu (.d .bX)):=
  {lt:= λa r S=>by have:=ah.lt a r S;omega,lN:=ah.own (.fr []) (by show 1<=l.fs [];rw[q];exact auK _),nL:= λhh=>by omega,oH:= λhh=>by omega,oT:= λj hh=>by omega,oU:= λj hh=>by omega,fr:=by rw[d6,amW,amX];exact BW _ _ _,cr:= λhh=>by omega,er:= λhh=>by omega,ce:= λj hh=>by omega,pl:= λj hh=>by omega}
 have oun:l.own iu=some .un:=by rw[<-wn];exact ah.own .un trivial
 have pm:l.own H.length=some .it:=by rw[<-wd];exact ah.own .it trivial
 have hiu:=lr h8;have Eq:(jr H iu (.d .bX))[iu]?=some (.box (pW P d im ip jR)):=(sF hiu).trans h8;have Fd: ∀{Y:aw} {K:Hp},m_ [] l (jr H iu (.d .bX)) Y K->K[iu]?=some (.box (pW P d im ip jR)):= λ{Y K} e=>(e.iY iu (by omega) (λr x=>by rw[oun]at x;injection x with x;subst x;exact⟨id,by simp⟩)).trans Eq
 have ar0:=p.sU;refine DT.ob func27 W ntmps27 W<|dO [2,2,27] W<|Po (k8 W W W W W)<|dR [28] W<|Po (cH W W W)<|dR [2,29] W<|Po (rT W)<|dR [30] W<|Po (rT W)<|dR [31] W<|Po (k8 W W W W W)<|dR [32] W<|Po (cH W W W)<|dL [] W<|Pz [nR 6 H.length,nR 7 (H.length+3),nR 0 iu,nD 1 (.sl (bF ins))] (jr H iu (.d .bX)) (kc W (kc (by simp;rfl) W)) (by simp)<|dO [2,37] W<|Po (aA W W Eq W)<|dR [38] W<|Po (bp W W W) ?_;rw[show(aI d.ins).length=d.ins.length by simp[aI]];refine dL [] W<|Pz [nN 35 0,nN 34 d.ins.length,nD 33 (.sl (aI d.ins)),nR 6 H.length,nR 7 (H.length+3),nR 0 iu,nD 1 (.sl (bF ins))] (jr H iu (.d .bX)) W W<|dC [] W<|Qy (λE=> ∃Y K h,Fl (c.fr []) st z (.d .bX) Y [] d.ins.length 0 (λ_ _=>False) K/\m_ [] l (jr H iu (.d .bX)) Y K/\E=⟨[nR 6 H.length,nR 7 (H.length+3),nR 0 iu],h,K⟩) ?_ ?_
 ·refine dC [3] W<|DC.lp (λk V=> ∃(b:Nat) (Y:aw) (K:Hp) (h:List (Nat×List M)),V=⟨[nN 35 b,nN 34 d.ins.length,nD 33 (.sl (aI d.ins)),nR 6 H.length,nR 7 (H.length+3),nR 0 iu,nD 1 (.sl (bF ins))],h,K⟩/\b<=d.ins.length/\k=d.ins.length-b/\
    Fl (c.fr []) st z (.d .bX) Y [] b 0 (λ_ _=>False) K/\m_ [] l (jr H iu (.d .bX)) Y K) d.ins.length _
   ⟨0,l,_,_,rfl,by omega,rfl,Do,m_.refl Do.lt⟩ W ?_
  rintro k s1 ⟨b,Y,K,h,rfl,hi,rfl,y,t⟩;refine dC [2] W<|DC.cond W (λg=> ?_) (λg=> ?_);rotate_left
  ·have e:b=d.ins.length:=by have:=au9 g;omega
   subst e;refine DC.exit<|⟨_,⟨Y,K,_,y,t,W⟩,cR W W⟩
  have i:b<d.ins.length:=by have:=auV g;omega
  have T_:=auO i;have G:=ez i;generalize d.ins[b]=v at T_ G;rw[show v.cells= [.str v.name,.int .u8 v.tk,.str v.tn,.sl (tG v.clock),.bool v.last]++v.first.cells++ [.int .i64 v.ps.1,.int .i64 v.ps.2]from rfl,Xp.aC]at G;have Vd:b<ins.length:=by omega
  have XW:(bF ins)[((b:Nat):Int).toNat]?=some [.int .i32 ins[b]]:=by simp[bF,Vd]
  have I:=(t.A _ id).trans d6;have RO:=y.fr;rw[I]at RO;have Xh:st b=2/\z b=ins[b]:=by
   rw[Qp,hz];simp only[au2 Vd];exact⟨trivial,by rw[auO Vd];rfl⟩
  have qr:(c.fr []).vars[b]?=some v:=by rw[UH,avh,auL i];exact T_
  have Wq:(c.fr []).cO[b]?=some none:=by rw[Rm,avh,auL (by simp;omega)];simp[i]
  obtain⟨Um,J⟩:=y.fw (C:=dh v none (.d .bX) (H.length+3) 2 ins[b]) (k:=b) ⟨rfl,rfl,rfl,rfl⟩ ⟨v,none,.d .bX,qr,Wq,by rw[Xh.1,Xh.2,I]⟩;have XS:d.ins.length-(b+1)<d.ins.length-b:=by omega
  have s:=bB (T:=[Ob.box (dh v none (.d .bX) (H.length+3) 2 ins[b])]) RO;refine dO [3,2,42] W<|Po (aG W W W (auJ b) G W)<|dL [] W ?_;rcases avl b with N|N
  ·have e0:bM (Y.A (.cr [])) (Y.vc []) b= .d (.sl []):=by rw[N];rfl
   rw[e0]at RO s
   let Iv:Hp->Prop:= λL=>L[H.length+3]?=some (Ob.box [.d .bX,.d (.sl []),bM (Y.A (.er [])) (Y.ve []) 0,.mp (Y.A (.am [])),.mp (Y.A (.tk []))])
   refine dC [] W ?_;apply QZ Iv (RO) bN
   ·intro s0 Oo;refine iR 4 W<|PF W W (λL o=>⟨_,o,rfl⟩)<|iR 4 W ?_;apply Py
    ·skip
     refine a_ W W W (auJ b) XW W<|TF.nil ⟨W,W⟩
    refine iR 1 W ?_;apply Py
    ·skip
     refine BU W W W W W<|TF.nil ⟨W,W⟩
    apply Py
    ·skip
     refine CK W W W<|TF.nil ⟨W,W⟩
    apply Py
    ·skip
     refine et (cs:=[_]) W W W W W W<|TF.nil ⟨W,W⟩
    apply Py
    ·skip
     refine pP true W W W (mI _ _) W W (by decide) (by decide)<|TF.nil ⟨rfl,rfl⟩
    refine iR 2 W ?_;apply Py
    ·skip
     refine fE W W (bB (bB s)) W W W<|TF.nil ⟨W,W⟩
    exact jJ.nil ⟨by kernel_rfl,by repeat' first|exact trivial|exact .inl ((by first|exact s|exact bB s|exact bB (bB s)))|exact .inr (by kernel_rfl)|refine⟨?_,?_⟩,rfl⟩
   refine dO [2,61] W<|Po (az W W W (by omega))<|dL [] W<|bK (k':=d.ins.length-(b+1)) XS ⟨b+1,_,_,_,rfl,by omega,rfl,Um,t.trans J⟩ ?_ W;simp only[aw.qO,au2 N,I,auN,avd];rfl
  ·have e0:bM (Y.A (.cr [])) (Y.vc []) b= .bH (Y.A (.cr [])) (Y.vc []) b:=by unfold bM;rw[auU (by omega)]
   rw[e0]at RO s;have UB:=y.cr N;have PS:Y.A (.cr [])≠H.length+3:=by intro e;have:=y.nL N;rw[e,<-I,y.lN]at this;cases this
   let Iv:Hp->Prop:= λL=>L[H.length+3]?=some (Ob.box [.d .bX,.bH (Y.A (.cr [])) (Y.vc []) b,bM (Y.A (.er [])) (Y.ve []) 0,.mp (Y.A (.am [])),.mp (Y.A (.tk []))])
   refine dC [] W ?_;apply QZ Iv (RO) bN
   ·intro s0 Oo;refine iR 4 W<|PF W W (λL o=>⟨_,o,rfl⟩)<|iR 4 W ?_;apply Py
    ·skip
     refine a_ W W W (auJ b) XW W<|TF.nil ⟨W,W⟩
    refine iR 1 W ?_;apply Py
    ·skip
     refine BU W W W W W<|TF.nil ⟨W,W⟩
    apply Py
    ·skip
     refine CK W W W<|TF.nil ⟨W,W⟩
    apply Py
    ·skip
     refine et (cs:=[_]) W W W W W W<|TF.nil ⟨W,W⟩
    apply Py
    ·skip
     refine pQ W W W (mI _ _) (bB (bB UB)) W (by omega) (by omega)<|TF.nil ⟨rfl,rfl⟩
    refine iR 2 W ?_;apply Py
    ·skip
     refine fE W W (gu (bB s) PS) W W W<|TF.nil ⟨W,W⟩
    exact jJ.nil ⟨by kernel_rfl,by repeat' first|exact trivial|exact .inl ((by first|exact s|exact bB s|exact gu (bB s) PS))|exact .inr (by kernel_rfl)|refine⟨?_,?_⟩,rfl⟩
   refine dO [2,61] W<|Po (az W W W (by omega))<|dL [] W<|bK (k':=d.ins.length-(b+1)) XS ⟨b+1,_,_,_,rfl,by omega,rfl,Um,t.trans J⟩ ?_ W;simp only[aw.qO,auU (show ¬b=0 by omega),I];rfl
 rintro _ ⟨Y1,K1,bx1,hF1,R0,rfl⟩;have Xd:=Fd R0;have FS:=mn d.b mt.1 (by have:=mt.2.2;omega);rw[bj.aC]at FS;have ar1:aU d.outs<=d.outs.length:=by unfold aU;exact awk _ _
 refine dO [2,66] W<|Po (k_ W W Xd W W)<|dR [67] W<|Po (aE FS W W)<|dR [2,72] W<|Po (aA W W Xd W)<|dR [73] W<|Po (bp W W W) ?_;rw[show(aI d.outs).length=d.outs.length by simp[aI]];refine dL [] W<|Pz [nN 70 0,nN 69 d.outs.length,nD 68 (.sl (aI d.outs)),nN 10 (bP d.b),nR 6 H.length,nR 7 (H.length+3),nR 0 iu] K1 W W<|dC [] W<|Qy (λE=> ∃Y K h,Fl (c.fr []) st z (.d .bX) Y [] (d.ins.length+d.outs.length) 0 (λ_ _=>False) K/\m_ [] l (jr H iu (.d .bX)) Y K/\E=⟨[nR 6 H.length,nR 7 (H.length+3),nR 0 iu],h,K⟩) ?_ ?_
 ·refine dC [3] W<|DC.lp (λk V=> ∃(b:Nat) (Y:aw) (K:Hp) (h:List (Nat×List M)),V=⟨[nN 70 b,nN 69 d.outs.length,nD 68 (.sl (aI d.outs)),nN 10 (bP d.b+aU (d.outs.take b)),nR 6 H.length,nR 7 (H.length+3),nR 0 iu],h,K⟩/\b<=d.outs.length/\k=d.outs.length-b/\
    Fl (c.fr []) st z (.d .bX) Y [] (d.ins.length+b) 0 (λ_ _=>False) K/\m_ [] l (jr H iu (.d .bX)) Y K) d.outs.length _
   ⟨0,Y1,K1,_,rfl,by omega,rfl,hF1,R0⟩ (kc W (kc W (kc W (kc (by simp[aU];rfl) W)))) ?_
  rintro k s1 ⟨b,Y,K,h,rfl,hi,rfl,y,t⟩;refine dC [2] W<|DC.cond W (λg=> ?_) (λg=> ?_);rotate_left
  ·have e:b=d.outs.length:=by have:=au9 g;omega
   subst e;refine DC.exit<|⟨_,⟨Y,K,_,y,t,W⟩,cR W W⟩
  have i:b<d.outs.length:=by have:=auV g;omega
  have T_:=auO i;have G:=ez i;have Ul:aU (d.outs.take (b+1))=aU (d.outs.take b)+(if d.outs[b].last then 1 else 0):=by rw[au1 i,qp]
  have ar2:=(mG d.outs) b;generalize d.outs[b]=v at T_ G Ul;have GT:=z' (a:=bP d.b) T_;rw[show v.cells= [.str v.name,.int .u8 v.tk,.str v.tn,.sl (tG v.clock),.bool v.last]++v.first.cells++ [.int .i64 v.ps.1,.int .i64 v.ps.2]from rfl,Xp.aC]at G;have I:=(t.A _ id).trans d6;have RO:=y.fr;rw[I]at RO;refine dO [3,2,76] W<|Po (aG W W W (auJ b) G W)<|dR [2,80] W<|Po (k8 W W W W W)<|dR [81] W<|Po (cH W W W)<|dL [2] W<|Qy (λE=> ∃Qr,E=⟨[nR 13 K.length,nN 70 b,nN 69 d.outs.length,nD 68 (.sl (aI d.outs)),nN 10 (bP d.b+aU (d.outs.take (b+1))),nR 6 H.length,nR 7 (H.length+3),nR 0 iu],Qr,K++ [Ob.box (dh v (if v.last then some (bP d.b+aU (d.outs.take b))else none) (.d .bX) (H.length+3) 0 0)]⟩) ?_ ?_
  ·have hK0:(K++ [Ob.box (dh v none (.d .bX) (H.length+3) 0 0)])[K.length]?=some (Ob.box (dh v none (.d .bX) (H.length+3) 0 0)):=vJ K _;refine DC.cond W (λg=> ?_) (λg=> ?_)
   ·rw[au2 g]at Ul;refine dO [2,999] W<|Po (cc W W hK0 W W W)<|dR [2,89] W<|Po (az W W W (by omega))<|dL [] W<|⟨_,⟨_,rfl⟩,cR (by rw[au2 g];exact BR) (kc W (kc W (kc W (kc W (kc (by rw[Ul];rfl) W)))))⟩
   ·rw[auU (by rw[g];simp)]at Ul;refine dC [] W<|⟨_,⟨_,W⟩,cR (by rw[auU (by rw[g];simp)];rfl) (kc W (kc W (kc W (kc W (kc (by rw[Ul];rfl) W)))))⟩
  rintro _ ⟨Qr,rfl⟩;generalize aml:(if v.last then some (bP d.b+aU (d.outs.take b))else none)=lp at GT;have Xh:st (d.ins.length+b)=0/\z (d.ins.length+b)=0:=by
   rw[Qp,hz];simp only[auU (show ¬d.ins.length+b<ins.length by omega)];exact⟨trivial,trivial⟩
  have qr:(c.fr []).vars[d.ins.length+b]?=some v:=by
   rw[UH,avh,auR (by omega),avP,auL i];exact T_
  have Wq:(c.fr []).cO[d.ins.length+b]?=some lp:=by
   rw[Rm,avh,auR (by simp),awj,avP,auL (by rw[ff];exact i)];exact GT
  obtain⟨Um,J⟩:=y.fw (C:=dh v lp (.d .bX) (H.length+3) 0 0) (k:=d.ins.length+b) ⟨rfl,rfl,rfl,rfl⟩ ⟨v,lp,.d .bX,qr,Wq,by rw[Xh.1,Xh.2,I]⟩;have XS:d.outs.length-(b+1)<d.outs.length-b:=by omega
  have s:=bB (T:=[Ob.box (dh v lp (.d .bX) (H.length+3) 0 0)]) RO;rcases avl (d.ins.length+b)with N|N
  ·have e0:bM (Y.A (.cr [])) (Y.vc []) (d.ins.length+b)= .d (.sl []):=by rw[N];rfl
   rw[e0]at s;refine dO [2,94] W<|Po (aA W W s W)<|dR [96] W<|Po (jf (cs:=[_]) W W W W W W)<|dR [97] W<|Po (zL true W W W (mI _ _) W W (by decide) (by decide))<|dR [999] W<|Po (cc W W (bB (bB s)) W W W)<|dR [2,100] W<|Po (az W W W (by omega))<|dL [] W<|bK (k':=d.outs.length-(b+1)) XS ⟨b+1,_,_,_,rfl,by omega,rfl,Um,t.trans J⟩ ?_ W;simp only[aw.qO,au2 N,I,auN,avd];rfl
  ·have e0:bM (Y.A (.cr [])) (Y.vc []) (d.ins.length+b)= .bH (Y.A (.cr [])) (Y.vc []) (d.ins.length+b):=by unfold bM;rw[auU (by omega)]
   rw[e0]at s;have UB:=y.cr N;have PS:Y.A (.cr [])≠H.length+3:=by intro e;have:=y.nL N;rw[e,<-I,y.lN]at this;cases this
   refine dO [2,94] W<|Po (aA W W s W)<|dR [96] W<|Po (jf (cs:=[_]) W W W W W W)<|dR [97] W<|Po (zM W W W (mI _ _) (bB (bB UB)) W (by omega) (by omega))<|dR [999] W<|Po (cc W W (gu (bB s) PS) W W W)<|dR [2,100] W<|Po (az W W W (by omega))<|dL [] W<|bK (k':=d.outs.length-(b+1)) XS ⟨b+1,_,_,_,rfl,by omega,rfl,Um,t.trans J⟩ ?_ W;simp only[aw.qO,auU (show ¬d.ins.length+b=0 by omega),I];rfl
 rintro _ ⟨Y2,K2,bx2,Um,J,rfl⟩;have rg:=J.KE (r:= .it) id (by simp) pm (by omega) (.box (xz iu (.ref (H.length+3) 0)));rw[Gr]at rg;have Id:=Um.KE (r:= .it) id (by simp) ((J.own _ (by omega)).trans pm) (.box (xz iu (.ref (H.length+3) 0)));obtain⟨K3,rt⟩: ∃K3,K2.set H.length (.box (xz iu (.ref (H.length+3) 0)))=K3:=⟨_,rfl⟩;rw[rt]at rg Id;have afa:K3[iu]?=some (.box (pW P d im ip jR)):=by
  rw[<-rt,auT (by omega)];exact(Fd J)
 obtain⟨m4,K4,⟨Z,i9,hFE⟩,TV⟩:=Ew (c:=c) (st:=st) (z:=z) (X:=Y2) (π:=[]) (H:=K3) ac.sz d.b mt.1 hSi.2 0 (by omega) (d.ins.length+d.outs.length) (by rw[UH];simp;omega) (λb v hv=>by
   rw[UH,auR (by simp)];simp only[auN,avP];exact hv) (λb lp Qc=>by
   rw[Rm,auR (by simp[ff])];simp only[auN,awj,ff,avP];exact Qc) (by rw[ge];rfl) (by rw[ge];simp[rl]) (λj hx=>by
   rw[Qp,hz];simp only[auU (show ¬j<ins.length by omega)];exact⟨trivial,trivial⟩) (.ref H.length 0) Id (λw ρ e=>by cases e)
 rw[(J.A _ id).trans d6,bj.aC]at TV;have rx:=rg.trans hFE;have i6: ∀Q,l.fs Q=if Q= []then 1 else 0:= λQ=>by rw[q];rfl
 have In: ∀π k,l.cs π k=if π= []/\k<ins.length then 2 else 0:= λπ k=>by rw[q];rfl
 have IO: ∀π w,l.dn π w=false:= λπ w=>by rw[q];rfl
 obtain⟨hLf,t3,hof⟩:=ah.filled (ρ:=[]) (st:=st) (z:=z) (by rw[i6];rfl) (λb=>by rw[i6];rfl) (λb=>IO _ _) (λj _=>by
   rw[In];have e1:st j=if j<ins.length then 2 else 0:=by rw[Qp]
   have e2:z j=if j<ins.length then(ins[j]?).getD 0 else 0:=by rw[hz]
   rw[e1,e2];by_cases hx:j<ins.length
   ·rw[au2 hx,au2 hx,au2 (show([]:Path)= []/\j<ins.length from⟨rfl,hx⟩)];refine⟨W,?_⟩;have A:=auO hx;have h2:=(p.ya j d.ins[j] ins[j] (auO (by omega)) A).1;show _=c.get ([],j);unfold aK.get;rw[h2,A]
   ·rw[auU hx,auU hx,auU (show ¬(([]:Path)= []/\j<ins.length)fromλhh=>hx hh.2)];exact⟨W,W⟩) (λw π e=>by cases e) i9 rx
 obtain⟨A0,o0,v0,e0,hZ⟩:=id rx.eq;have d7: ∀Q,(Z.full []).fs Q=if Q= []then 2 else 0:= λQ=>by
  unfold aw.full;rw[hZ];show(if Q= []then 2 else l.fs Q)=_;rw[i6];split<;>rfl
 have t4: ∀π k,(Z.full []).cs π k=if π= []/\k<ins.length then 2 else 0:= λπ k=>by unfold aw.full;rw[hZ];exact In π k
 have zdn: ∀π w,(Z.full []).dn π w=false:= λπ w=>by unfold aw.full;rw[hZ];exact IO π w
 have LE: ∀π w,(Z.full []).lv π w=false:= λπ w=>by unfold aw.full;rw[hZ,q];rfl
 have zN:(Z.full []).N= []:=by unfold aw.full;rw[hZ,q];rfl
 have zF:(Z.full []).F= []:=by unfold aw.full;rw[hZ,q];rfl
 have LT:(Z.full []).fi=0:=by unfold aw.full;rw[hZ,q];rfl
 have zph: ∀k v,¬(Z.full []).ph k v:= λk v=>by unfold aw.full;rw[hZ,q];exact id
 have hPf:=Pu.start p (by unfold aw.full;rw[hZ,q];rfl) d7 t4 zdn LE zN zF LT;have Pi:=(t3 .it trivial).2.trans wd;have Pm:=(t3 (.fr []) (by show 1<=l.fs [];rw[i6];exact auK _)).2.trans d6;have YY:(Z.full []).T c<=1000000000000:=by
  have A:(Z.full []).T c<=0+0+aS (c.ap.map c.wt):=by
   unfold aw.T;rw[zN,zF];simp only[avt,List.drop_nil,avT];have:=C' c.ap (λb=>if(Z.full []).cu b then c.wt b else 0) c.wt (λb _=>by split<;>omega);have e0:aS ([]:List Nat)=0:=rfl;omega
  have:=p.ws;rw[Gs]at this;omega
 have d8:mq c (Z.full []) c.eh:=⟨λπ k e=>(by rw[t4]at e;split at e<;>cases e),λw π e=>(by rw[d7,auU (by simp)]at e;cases e),λπ k=>(by rw[t4];split<;>omega),auK _⟩;obtain⟨m5,K5,⟨O,D⟩,Vl⟩:=Mm ac Qo p t9 _ [] (auK _) (Z.full []) K4 ⟨hLf,hPf⟩ YY d8 (by rw[d7];rfl) (λτ w=>LE _ _);rw[Pi,Pm]at Vl;have ajY:Df F H O K5:=by
  have A:Df F H l (jr H iu (.ref (H.length+3) 0)):=⟨by omega,λa A h2=>⟨by
   have e:co a=none:=by
    cases e:co a with
    |none=>rfl
    |some r=>exact absurd ((v6 a).2 (by rw[e];simp)) h2
   rw[q];show tY co H.length a=none;unfold tY;rw[auU (by omega),auU (by omega),auU (by omega),auU (by omega),e];rfl,sF A⟩⟩
  have h2:=A.up rx.len hof;exact h2.up (Y:=O) D.ext.e.len (λa ha S=>D.ext.e.iY a ha S)
 have t5: ∀r,(Z.full []).live c r->O.A r=(Z.full []).A r:= λr x=>(D.ext.e.A r (by cases r<;>exact x)).2
 have Pn:=(t5 .it trivial).trans Pi;have Pp:=(t5 .un trivial).trans ((t3 .un trivial).2.trans wn);have Pq:=mq.next (X:= {Z.full []with lv:=O.lv}) (H:=K4) ⟨d8.c1,d8.f1,d8.c4,d8.tp⟩ D.ext.e;have hT5:=avD D.t YY;have hf5:=D.ext.e.f2 [] (by show(Z.full []).fs []=2;rw[d7];rfl);have am2: ∀k v,¬O.ph k v:= λk v o=>by rw[D.ext.e.ph]at o;exact zph k v o
 have Pt:=D.inst.lay.unit;rw[Pp]at Pt;refine dO [2,999] W<|Po (cc W W ((J.iY H.length (by omega) (λr x=>by rw[pm]at x;injection x with x;subst x;exact⟨id,by simp⟩)).trans (BV _ _ _)) W W W)<|dL [] W<|Pz [nR 6 H.length,nR 7 (H.length+3),nR 0 iu] K3 W rt<|dO [2,111] W<|Po (k_ W W afa W W)<|dR [112] W<|Po (aq TV W W)<|dR [2,115] W<|Po (aq Vl W W)<|dR [2,2,120] W<|Po (aA W W Pt W)<|dR [121] W<|Po (bp W W W) ?_;rw[show(aI d.outs).length=d.outs.length by simp[aI]];refine dL [] W ?_;have Px:=p.outs;have ar3:outs.length=d.outs.length:=by rw[Px];simp
 refine Pz [nN 118 0,nN 117 d.outs.length,nD 116 (.sl (aI d.outs)),nD 14 (.sl []),nR 6 H.length,nR 7 (H.length+3)] K5 W W<|dC [] W<|Qy (λE=> ∃Y K h,cV P n c d u Y K/\br c (λ_=>False) O K5 Y K/\Y.T c<=O.T c/\E=⟨[nD 14 (.sl (bF outs)),nR 6 H.length],h,K⟩) ?_ ?_
 ·refine dC [3] W<|DC.lp (λk V=> ∃(b:Nat) (Y:aw) (K:Hp) (m:M) (h:List (Nat×List M)),V=⟨[nN 118 b,nN 117 d.outs.length,nD 116 (.sl (aI d.outs)),(14,.m m),nR 6 H.length,nR 7 (H.length+3)],h,K⟩/\b<=d.outs.length/\k=d.outs.length-b/\
    cV P n c d u Y K/\br c (λ_=>False) O K5 Y K/\Y.T c<=O.T c/\Bi Y K5.length (bF (outs.take b)) m K) d.outs.length _
   ⟨0,O,K5,_,_,rfl,by omega,rfl,D.inst,br.refl ..,auK _,.inl ⟨rfl,rfl⟩⟩ W ?_
  rintro k s1 ⟨b,Y,K,m,h,rfl,hi,rfl,RX,t,VU,hL⟩;refine dC [2] W<|DC.cond W (λg=> ?_) (λg=> ?_);rotate_left
  ·have e:b=outs.length:=by have:=au9 g;omega
   rw[e,avo]at hL;obtain⟨a',Rk⟩:=hL.acc;refine DC.cw 14 W (Rk.view (λr x=>by unfold bF at x;obtain⟨_,_,rfl⟩:=ava.1 x;rfl))<|DC.exit<|⟨_,⟨Y,K,_,RX,t,VU,rfl⟩,cR W W⟩
  have i:b<d.outs.length:=by have:=auV g;omega
  have T_:=auO i;have G:=ez i;generalize d.outs[b]=v at T_ G;rw[show v.cells= [.str v.name,.int .u8 v.tk,.str v.tn,.sl (tG v.clock),.bool v.last]++v.first.cells++ [.int .i64 v.ps.1,.int .i64 v.ps.2]from rfl,Xp.aC]at G;have Ru:=p.II b v T_;have RB:=t.f2 [] hf5;have ZJ:=Pq.next t;obtain⟨m6,K6,⟨rfl,Y6,d9,_⟩,UC⟩:=hV c.eh Y K RX (by omega) ZJ [] v.name _ RB Ru (BT ac p RX RB Ru p.sU);rw[(t.A .it trivial).2,(t.A (.fr []) (by show 1<=O.fs [];omega)).2,Pn,((t5 (.fr []) (by show 1<=(Z.full []).fs [];rw[d7];decide)).trans Pm)]at UC;have Q6:=hL.up (Z:=Y6) (L:=K6) d9.2.1.iY;obtain⟨hL7,aj0,B⟩:=Q6.app d9.1.lay (t.trans d9.2.1) [.int .i32 (c.get ([],d.ins.length+b))];obtain⟨a2,Rk⟩:=Q6.acc;have hio:b<outs.length:=by omega
  have hoi:outs[b]=c.get ([],d.ins.length+b):=by simp[Px]
  have Qu:bF (outs.take (b+1))=bF (outs.take b)++ [[.int .i32 (c.get ([],d.ins.length+b))]]:=by
   rw[au1 hio,hoi];simp[bF]
  have htl:(bF (outs.take b)).length<=1000000:=by simp[bF];omega
  have hT6:=d9.2.2.1;refine dO [3,2,124] W<|Po (aG W W W (auJ b) G W)<|dR [2,131] W<|Po (aq UC W W)<|dR [2,137] W<|Po (mS Rk W W W W W (mR W) (by simp only[avd];omega) (by simp only[avd];omega))<|dR [2,138] W<|Po (az W W W (by omega))<|dL [] W<|bK (k':=d.outs.length-(b+1)) (by omega) ⟨b+1,Y6,_,_,_,rfl,by omega,rfl,⟨aj0,d9.1.pu⟩,B,by omega,by rw[Qu];exact hL7⟩ W W
 rintro _ ⟨Y7,K7,bx7,hI7,B,hT7,rfl⟩;have hD7:=(KF p ac D.done D.inst).up B.f2 B.dn B.lv B.c2;have am4:=B.fi.trans (D.ext.e.fi.trans LT);have am5: ∀k v,¬Y7.ph k v:= λk v o=>by rw[B.ph]at o;exact am2 k v o
 refine dC [2] W<|Pz [nN 19 Y7.fi,nD 14 (.sl (bF outs)),nR 6 H.length] K7 (kc (by rw[am4];rfl) W) W<|dC [] W<|Qy (λE=> ∃Y K h,cV P n c d u Y K/\Ac c d Y/\Df F H Y K/\(∀k v,¬Y.ph k v)/\Y.F.length<=Y.fi/\Y.A .it=H.length/\Y.A .un=iu/\Y.T c<=1000000000000/\E=⟨[nD 14 (.sl (bF outs)),nR 6 H.length],h,K⟩) ?_ ?_
 ·refine dC [3] W<|DC.lp (λk V=> ∃(Y:aw) (K:Hp) (h:List (Nat×List M)),V=⟨[nN 19 Y.fi,nD 14 (.sl (bF outs)),nR 6 H.length],h,K⟩/\k=1000000000001-Y.fi/\
    cV P n c d u Y K/\Ac c d Y/\Df F H Y K/\mq c Y c.eh/\(∀k v,¬Y.ph k v)/\Y.fi<=Y.N.length/\Y.A .it=H.length/\Y.A .un=iu/\Y.T c<=1000000000000) (1000000000001-Y7.fi) _
   ⟨Y7,K7,_,rfl,rfl,hI7,hD7,(ajY.up B.len B.iY),(Pq.next B),am5,by omega,((B.A .it trivial).2.trans Pn),((B.A .un trivial).2.trans Pp),by omega⟩ W ?_
  rintro k s1 ⟨Y,K,h,rfl,rfl,RX,ST,f9,ZJ,Us,hfn,t6,UT,VU⟩;have UP:=RX.lay.inst;rw[t6]at UP;have hNl:=z7 (c:=c) (X:=Y) VU;have ar4:=Ki RX.pu;refine dO [2,143] W<|Po (aA W W UP W)<|dR [144] W<|Po (pY W W)<|dL [] W<|DC.cond W (λg=> ?_) (λg=> ?_);rotate_left
  ·have e:Y.F.length<=Y.fi:=by have:=au9 g;omega
   refine DC.exit<|⟨_,⟨Y,K,_,RX,ST,f9,Us,e,t6,UT,VU,W⟩,cR W W⟩
  have i:Y.fi<Y.F.length:=by have:=auV g;omega
  have UV:=auO i;obtain⟨ob,U0,ana⟩:=RX.lay.ob .af (by show Y.F≠ [];intro e;rw[e]at i;simp at i);have aj3:=ana;subst aj3;have Pv:(Y.F.map (·.2))[((Y.fi:Nat):Int).toNat*1]?=some Y.F[Y.fi].2:=by simp[i]
  generalize Y.F[Y.fi]=R at UV Pv;obtain⟨za0,Qh,hm,t7,m8,K8,⟨i8,hIW,U,hTW,anb,anc⟩,TV⟩:=I4 ac (hV c.eh) RX VU ZJ Us hfn (ai:=R.1) (m:=R.2) UV;rw[hm]at Pv;have hPX:mq c ({Y with fi:=Y.fi+1} :aw) c.eh:=⟨ZJ.c1,ZJ.f1,ZJ.c4,ZJ.tp⟩;refine dO [3,2,151] W<|Po (aA W W UP W)<|dR [153] W<|Po (mr W W W U0 (auJ _) (by omega))<|dR [154] W<|Po (ny W W U0 Pv)<|dR [155] W<|Po (mF (hf:=t7) (ms:=[]) TV W W W)<|dR [2,147] W<|Po (az W W W (by omega))<|dL [] W ?_;have ane:i8.fi=Y.fi+1:=U.fi;refine bK (k':=1000000000001-i8.fi) (by omega) ⟨i8,K8,_,rfl,rfl,hIW,ST.up (λπ o=>U.f2 π o) (λπ w o=>U.dn π w o) U.lv (λπ k o=>U.c2 π k o),f9.up U.len (λa ha S=>U.iY a ha S),hPX.next U,anb,anc,(U.A .it trivial).2.trans t6,(U.A .un trivial).2.trans UT,by omega⟩ W (kc (by rw[ane];rfl) W)
 rintro _ ⟨f,K8,bx8,gc,hD8,hO8,anf,ang,U8,anh,hT8,rfl⟩;have Vs:=gc.lay.inst;rw[U8]at Vs;have hNl:=z7 (c:=c) (X:=f) hT8;refine dO [2,159] W<|Po (aA W W Vs W)<|dR [160] W<|Po (pY W W)<|dL [] W<|Pz [nN 157 0,nN 156 f.N.length,nM 155 (bM (f.A .nx) f.vN f.N.length),nD 14 (.sl (bF outs)),nR 6 H.length] K8 W W<|dC [] W<|Qy (λE=> ∃Y K h,wJ c f f.N Y/\cF P n c d Y K/\Df F H Y K/\E=⟨[nD 14 (.sl (bF outs)),nR 6 H.length],h,K⟩) ?_ ?_
 ·refine dC [3] W<|DC.lp (λk V=> ∃(b:Nat) (Y:aw) (K:Hp) (h:List (Nat×List M)),V=⟨[nN 157 b,nN 156 f.N.length,nM 155 (bM (f.A .nx) f.vN f.N.length),nD 14 (.sl (bF outs)),nR 6 H.length],h,K⟩/\b<=f.N.length/\k=f.N.length-b/\
    wJ c f (f.N.take b) Y/\cF P n c d Y K/\Df F H Y K) f.N.length _
   ⟨0,f,K8,_,rfl,by omega,rfl,wJ.nil c f,gc.lay,hO8⟩ W ?_
  rintro k s1 ⟨b,Y,K,h,rfl,hi,rfl,UF,Yo,f9⟩;refine dC [2] W<|DC.cond W (λg=> ?_) (λg=> ?_);rotate_left
  ·have e:b=f.N.length:=by have:=au9 g;omega
   rw[e,avo]at UF;refine DC.exit<|⟨_,⟨Y,K,_,UF,Yo,f9,W⟩,cR W W⟩
  have i:b<f.N.length:=by have:=auV g;omega
  obtain⟨mm,pp,rfl⟩:=UF.eq;obtain⟨ob,Wu,W0⟩:=Yo.ob .nx (by show f.N≠ [];intro e;rw[e]at i;simp at i);have aj4:=W0;subst aj4;have Wu:K[f.A .nx]?=some (.row true 1 f.vN (f.N.map (·.2))):=Wu;have Q8:f.N[b]∈f.N:=avb i;have Pv:(f.N.map (·.2))[((b:Nat):Int).toNat*1]?=some f.N[b].2:=by simp[i]
  have Qu:f.N.take (b+1)=f.N.take b++ [f.N[b]]:=au1 i;generalize f.N[b]=R at Q8 Pv Qu;have YO:=gc.pu.nk R Q8;have PG:NI.ok c d ({f with x:=⟨mm,pp,f.x.s⟩} :aw) R.1:=by revert YO;generalize R.1=ni;intro o;cases ni<;>exact o
  have hkn:NI.kn c R.1:=by
   revert YO;generalize R.1=ni;intro o
   cases ni with
   |cell za1 Q=>exact gc.pu.cv _ _ o.2.2.1
   |_=>trivial
  obtain⟨za0,Qh,hm,t7,m9,K9,hRn,TV⟩:=Mh Yo (Yo.nx R Q8) PG p.nx;rw[hm]at Pv;obtain⟨i7,apY,aj5⟩:=hRn;obtain⟨m',q',he9⟩:=HG (c:=c) ({f with x:=⟨mm,pp,f.x.s⟩} :aw) R.1;refine dO [3,2,163] W<|Po (mr W W W Wu (auJ _) (by omega))<|dR [164] W<|Po (ny W W Wu Pv)<|dR [2,166] W<|Po (mF (hf:=t7) (ms:=[]) TV W W W)<|dR [2,167] W<|Po (az W W W (by omega))<|dL [] W<|bK (k':=f.N.length-(b+1)) (by omega) ⟨b+1,_,K9,_,rfl,by omega,rfl,by rw[Qu];exact UF.snoc hkn,i7,f9.up (by omega) (λa ha S=>⟨by rw[he9];exact S,aj5 a S⟩)⟩ W W
 rintro _ ⟨X9,K9,bx9,UF,i7,t8,rfl⟩;obtain⟨mm,pp,ZV⟩:=UF.eq;have anj:X9.A .it=H.length:=by rw[ZV];exact U8
 have ank:X9.A .un=iu:=by rw[ZV];exact anh
 have aio:=i7.inst;rw[anj]at aio;have ZX: ∀k,k<bW d->X9.x.m k=u'.mem k/\X9.x.p k=u'.cu k/\X9.x.s k=u'.an k:= λk hk=>finish ac p gc hD8 ang anf UF hk
 have hRu:=i7.ON (u':=u') (by rw[p.ui];exact p.nd) (λk hk=>(ZX k hk).1) (λk hk=>(ZX k hk).2.1) (λk hk=>(ZX k hk).2.2);rw[ank]at hRu;refine dC [] W ?_;apply Ps bN
 ·intro s0 Oo;refine fR 4 W<|ay W W aio W<|fR 3 W<|TF.nil ⟨by kernel_rfl,rfl⟩
 refine DC.ret ⟨_,W,W,_,hRu,λa ha=> ?_,t8.len,λa A h2=>(t8.o a A h2).2⟩;rcases auM a H.length with A|A
 ·refine .inl (avI λh2=> ?_);have h3:(X9.own a).bind Ro.unit≠none:=ha;rw[(t8.o a A h2).1]at h3;exact h3 W
 ·exact .inr A
end
end Go.Proofs.Sz
