/- A part of the proof of the last text of this claim, without conditions. -/
import Derived.Test.YtjbigbaipmiihaaGreatI
set_option maxRecDepth 4000
set_option linter.all false
namespace Go.Ex
open Go.Mt Go.Mk
theorem Jn(x:Int)(h:VT .fJ x): ∃c∈([c8,cj,bC]:List Nm),Sm.io cU c=x:=by
 rcases h with rfl|rfl|rfl
 ·exact⟨cj,by simp,by decide⟩
 ·exact⟨bC,by simp,by decide⟩
 ·exact⟨c8,by simp,by decide⟩
theorem GM(x:Int)(h:VT .bool x): ∃c∈([pS,mU]:List Nm),Sm.io cU c=x:=by
 rcases h with rfl|rfl
 ·exact⟨mU,by simp,by decide⟩
 ·exact⟨pS,by simp,by decide⟩
section
variable{T:eD}{F:List (Option Int)}{G:Nat->Sm.US->Prop}{Pr:Nat->Sm.US->List Int->List Int->Sm.US->Prop}{aD:Nat->Sm.US}{an:Nat}{Sub:Sc->List Va->Nat->Nat->bj->Prop}
theorem QX.pre{A f:Env}{V:Nm->Prop}{rs:Rs}{s r:Sc}{outs:List Va}{n m n':Nat}{q0 l:List aB}{c:Nat}{v0 t:List Va}(h:QX T G A V rs s outs n n' (q0++l) c (v0++t))(j:n<=m)(x:m<=n')(y: ∀a,get f a≠none->get A a≠none\/gT n m a)(z:mx T f V r f.length)(B: ∀v∈v0,gT n m v.name):
  QX T G f V rs r outs m n' l (c+Bk q0) t:=by
 have u: ∀a,get A a=none-> ¬gT n m a->get f a=none:= λa k o=>by
  cases C:get f a with
  |none=>rfl
  |some e=>
   rcases y a (by rw[C];simp)with d|d
   ·exact(d k).elim
   ·exact(o d).elim
 exact⟨h.m,z,λv w=>by
   obtain⟨k,o,D,E⟩:=h.o v w;exact⟨k,o,D,u _ E (λb=>h.ob _ ⟨v,w,rfl⟩ (b.mono (auK _) x))⟩,h.nd,λv F=>h.vv v (au0 _ F),λa p b=>by
   obtain⟨v,H,e⟩:=h.vb a p (b.mono j (auK _));rcases auS.1 H with d|d
   ·exact((B v d).not (e▸b.gt)).elim
   ·exact⟨v,d,e⟩,λa b=>u a (h.f a (b.mono j (auK _))) (λI=>I.not b.gt),λa p b=>h.ob a p (b.mono j (auK _)),
  λg i q=>h.sq g i (At.app.2 (.inr q)),λg i q=>h.sb g i (At.app.2 (.inr q))⟩
theorem QD.pre{A g E:Env}{V:Nm->Prop}{rs:Rs}{s p:Sc}{outs:List Va}{n m n':Nat}{q0 l:List aB}{c:Nat}{v0 q:List Va}(w:n<=m)(x:m<=n')(r:br A g)(y: ∀f,get g f≠none->get A f≠none\/gT n m f)(j: ∀v∈v0,Cd T g V v)
  (z: ∀d,br g d->rF d V s (d.length+1)-> ∀b e,At q0 c b e->Cb T F d Pr aD V rs e b) (B: ∀b∈q0,cD b= []) (C:p.all=s.all) (h:QD T F Pr aD g E V rs p outs m n' l (c+Bk q0) q):QD T F Pr aD A E V rs s outs n n' (q0++l) c (v0++q):=by
 refine⟨r.trans h.x,⟨λv D=>(h.o.o v D).mono (br.refl E) r.len,λf G=> ?_⟩,λv H=> ?_,λd i t b e k=> ?_,λd i b e u k o=> ?_⟩
 ·rcases h.o.GJ f G with a|a|a
  ·rcases y f a with a|a
   ·exact .inl a
   ·exact .inr (.inr (a.mono (auK _) x))
  ·grind
  ·exact .inr (.inr (a.mono w (auK _)))
 ·rcases auS.1 H with a|a
  ·exact(j v a).ext h.x
  ·exact h.v v a
 ·rcases At.app.1 k with a|a
  ·exact z d (h.x.trans i) t b e a
  ·exact h.q d i (λv j I=>t v (C▸j) I) b e a
 ·rcases At.app.1 k with a|a
  ·obtain⟨K,J,L⟩:=a;rw[B b (auQ J)]at o;simp at o
  ·exact h.b d i b e u a o
theorem Jo(M:Wd T F G Pr aD an){A:Env}{V:Nm->Prop}{rs:Rs}{s:Sc}{outs:List Va}{n n' c:Nat}{l:List aB}{C:List Va}{j:Nat}(N:j<an){a b e:E}(D:GE s .int true 2 a)(H:GE s .bool true 2 b){f:Bool}(O:f=false/\e= .nil\/f=true/\GE s .bool true 2 e)(I:n+2<=n')
  (ih: ∀(A:Env) (c:Nat),QX T G A V rs (s.more [c9 117 (n+1) .int,c9 117 (n+2) .fJ]) outs (n+2) n' l c C-> ∃E,QD T F Pr aD A E V rs (s.more [c9 117 (n+1) .int,c9 117 (n+2) .fJ]) outs (n+2) n' l c C)
  (d:QX T G A V rs s outs n n' (.call (nm 117 (n+1)) (nm 117 (n+2)) (nm 102 j) a b f e::l) c (c9 117 (n+1) .int::c9 117 (n+2) .fJ::C)):
  ∃E,QD T F Pr aD A E V rs s outs n n' (.call (nm 117 (n+1)) (nm 117 (n+2)) (nm 102 j) a b f e::l) c (c9 117 (n+1) .int::c9 117 (n+2) .fJ::C):=by
 obtain⟨hp,sE,sA,sB⟩:Aq T (.call (nm 117 (n+1)) (nm 117 (n+2)) (nm 102 j) a b f e) c:=d.sq _ _ (At.cons.2 (.inl ⟨rfl,rfl⟩));have P:=d.m c;rw[hp j W]at P;have ac:=d.x.s d.m;have hG:G j ((if f=true/\cG T A rs.rd e (c+1)≠0 then none else rs.rs c).getD (aD j)):=by
  split
  ·exact(M.aD j N).1
  ·cases Q:rs.rs c with
   |none=>exact(M.aD j N).1
   |some K=>exact(P K Q).2
 obtain⟨g,u,u',st,tx,ty⟩:=M.Pj j N _ hG _ _ (ot D ac (kH d.m sA)) (ot H ac (kH d.m sB));have R:gT n (n+2) (nm 117 (n+1)):=⟨117,n+1,by omega,by omega,rfl⟩;have S:gT n (n+2) (nm 117 (n+2)):=⟨117,n+2,by omega,by omega,rfl⟩;have PS:nm 117 (n+1)≠nm 117 (n+2):= λe=>by have:=(iX e).2;omega
 have U:br (A++ [(nm 117 (n+1),some g,A.length)]) (A++ [(nm 117 (n+1),some g,A.length)]++ [(nm 117 (n+2),some u,A.length)]):=br.app _ _;have w:=U.get (iB (o:=some g) (sb:=A.length) (d.f _ (R.mono (auK _) I)));have q:=iB (E:=A++ [(nm 117 (n+1),some g,A.length)]) (o:=some u) (sb:=A.length) (kW (d.f _ (S.mono (auK _) I)) PS.symm);have d9:(A++ [(nm 117 (n+1),some g,A.length)]).length=A.length+1:=by simp
 rw[d9]at q;generalize R0:A++ [(nm 117 (n+1),some g,A.length)]++ [(nm 117 (n+2),some u,A.length)]=k at U w q;have f9:k.length=A.length+2:=by rw[<-R0];simp
 have J:=(br.app _ _).trans U;have U2: ∀B,get k B≠none->get A B≠none\/gT n (n+2) B:= λB hx=>by
  rw[<-R0]at hx;rcases iC hx with L|rfl
  ·rcases iC L with L|rfl
   ·exact .inl L
   ·exact .inr R
  ·exact .inr S
 have X:=d.vv _ (avj ..);have Y:=d.vv _ (au7 _ (avj ..));have co:mx T k V (s.more [c9 117 (n+1) .int,c9 117 (n+2) .fJ]) k.length:=(d.x.ext J J.len).more λv h=>by
  simp only[auX,au3,avF]at h;rcases h with rfl|rfl
  ·exact⟨X.2.1,λ_=>⟨X.1,⟨g,_,_,w,by omega⟩,by show VT .int (val k (nm 117 (n+1)));unfold val;rw[w];exact tx⟩⟩
  ·exact⟨Y.2.1,λ_=>⟨Y.1,⟨u,_,_,q,by omega⟩,by show VT .fJ (val k (nm 117 (n+2)));unfold val;rw[q];exact ty⟩⟩
 have d6:=QX.pre (q0:=[_]) (v0:=[_,_]) (m:=n+2) d (by omega) I U2 co (λv h=>by
  simp only[auX,au3,avF]at h;rcases h with rfl|rfl
  ·exact R
  ·exact S)
 obtain⟨E,hE⟩:=ih k _ d6;refine⟨E,QD.pre (q0:=[_]) (v0:=[_,_]) (m:=n+2) (by omega) I J U2 (λv h=> ?_) (λE' Z t ah p RI=> ?_) (λah hq=> ?_) (by rfl) hE⟩
 ·simp only[auX,au3,avF]at h;rcases h with rfl|rfl
  ·exact⟨_,_,_,w,auK _,W⟩
  ·exact⟨_,_,_,q,by omega,rfl⟩
 ·obtain⟨rfl,rfl⟩:=At.one.1 RI;have x:=J.trans Z;have r:=(d.x.ext x (auK A.length)).s d.m;have gc:=x.len;refine⟨⟨X.1,Y.1,PS,j,A.length,g,u,u',W,Z.get w,Z.get q,λi=> ?_,oV D (by omega) r t,oV H (by omega) r t,?_,λK Q=>(P K Q).1⟩,λi=> ?_,vQ D d.m r t sA,vQ H d.m r t sB⟩
  ·rcases O with⟨y,_⟩|⟨_,z⟩
   ·rw[y]at i;cases i
   ·exact oV z (by omega) r t
  ·have d7:f=true->cG T E' rs.rd e (p+1)=cG T A rs.rd e (p+1):= λi=>by
    rcases O with⟨y,_⟩|⟨_,z⟩
    ·rw[y]at i;cases i
    ·exact po z x _ d.x
   rw[po D x _ d.x,po H x _ d.x];have d8:(if f=true/\cG T E' rs.rd e (p+1)≠0 then none else rs.rs p)=(if f=true/\cG T A rs.rd e (p+1)≠0 then none else rs.rs p):=by
    cases f with
    |false=>simp
    |true=>rw[d7 W]
   rw[d8];exact st
  ·rcases O with⟨y,_⟩|⟨_,z⟩
   ·rw[y]at i;cases i
   ·exact vQ z d.m r t sE
 ·rw[auW]at hq;subst hq;rfl
theorem Jp{A:Env}{V:Nm->Prop}{rs:Rs}{s:Sc}{outs:List Va}{n n' c:Nat}{l:List aB}{Y:List Va}{a b k k2 e cK:E}(N:GE s .int false 2 a)(hb:GE s .int false 2 b)(hk:GC .int k)(P7:GC .int k2)(Z:GE s .fJ true 3 e)
  (RS:cK= .fI (nm 99 (n+1)) cj a\/cK= .ga k2 (.bin 3 (.var (nm 119 (n+2))) (.fI (nm 99 (n+1)) cj a))) (O:n+3<=n')
  (ih: ∀(A:Env) (c:Nat),QX T G A V rs (s.more [c9 99 (n+1) .fJ,c9 122 (n+3) .int]) outs (n+3) n' l c Y-> ∃E,QD T F Pr aD A E V rs (s.more [c9 99 (n+1) .fJ,c9 122 (n+3) .int]) outs (n+3) n' l c Y)
  (d:QX T G A V rs s outs n n' (.df (nm 99 (n+1)) e:: .df (nm 119 (n+2)) cK:: .df (nm 122 (n+3)) (.merge (nm 99 (n+1)) bC cj c8 (.fI (nm 99 (n+1)) bC b) (.var (nm 119 (n+2))) k)::l) c (c9 99 (n+1) .fJ::⟨nm 119 (n+2),.int,some (cj,nm 99 (n+1)),false,.nil⟩::c9 122 (n+3) .int::Y)):
  ∃E,QD T F Pr aD A E V rs s outs n n' (.df (nm 99 (n+1)) e:: .df (nm 119 (n+2)) cK:: .df (nm 122 (n+3)) (.merge (nm 99 (n+1)) bC cj c8 (.fI (nm 99 (n+1)) bC b) (.var (nm 119 (n+2))) k)::l) c (c9 99 (n+1) .fJ::⟨nm 119 (n+2),.int,some (cj,nm 99 (n+1)),false,.nil⟩::c9 122 (n+3) .int::Y):=by
 simp only[c9]at ih d⊢;generalize hc:nm 99 (n+1)=h at*;generalize hw:nm 119 (n+2)=p at*;generalize hz:nm 122 (n+3)=x at*;have WN:gT n (n+3) h:=⟨99,n+1,by omega,by omega,hc.symm⟩;have Rz:gT n (n+3) p:=⟨119,n+2,by omega,by omega,hw.symm⟩;have T8:gT n (n+3) x:=⟨122,n+3,by omega,by omega,hz.symm⟩;have pm:h≠p:= λe=>by rw[<-hc,<-hw]at e;have:=(iX e).2;omega
 have qr:h≠x:= λe=>by rw[<-hc,<-hz]at e;have:=(iX e).2;omega
 have rg:p≠x:= λe=>by rw[<-hw,<-hz]at e;have:=(iX e).2;omega
 have L:=d.vv _ (avj ..);have d7:=d.vv _ (au7 _ (avj ..));have d8:=d.vv _ (au7 _ (au7 _ (avj ..)));obtain⟨w,Wz⟩: ∃w,w=c+Sm.qP (dE (.df h e)):=⟨_,rfl⟩;obtain⟨p3,f9⟩: ∃p3,p3=w+Sm.qP (dE (.df p cK)):=⟨_,rfl⟩;have sE:=d.sq (.df h e) c (At.cons.2 (.inl ⟨rfl,rfl⟩));have sK:=d.sq (.df p cK) w (At.cons.2 (.inr (At.cons.2 (.inl ⟨rfl,Wz⟩))));have vC:=ot Z (d.x.s d.m) (kH d.m sE);have x1:br A (A++ [(h,some (cG T A rs.rd e c),A.length)]):=br.app _ _;have P:=iB (E:=A) (o:=some (cG T A rs.rd e c)) (sb:=A.length) (d.f _ (WN.mono (auK _) O));have l1:(A++ [(h,some (cG T A rs.rd e c),A.length)]).length=A.length+1:=by simp
 have w1:get (A++ [(h,some (cG T A rs.rd e c),A.length)]) p=none:=kW (d.f _ (Rz.mono (auK _) O)) pm.symm;have z1:get (A++ [(h,some (cG T A rs.rd e c),A.length)]) x=none:=kW (d.f _ (T8.mono (auK _) O)) qr.symm;have d1: ∀q,get (A++ [(h,some (cG T A rs.rd e c),A.length)]) q≠none->get A q≠none\/gT n (n+3) q:= λq Q=>by
  rcases iC Q with g|rfl
  ·exact .inl g
  ·exact .inr WN
 generalize A++ [(h,some (cG T A rs.rd e c),A.length)]=i at x1 P l1 w1 z1 d1;have ac: ∀f,br i f->val f h=cG T A rs.rd e c:= λf g=>by unfold val;rw[g.get P]
 have d9: ∀f t,br i f->A.length+1<=t->Kn f h t:= λf t g C=>⟨_,_,_,g.get P,by omega⟩
 obtain⟨I,U⟩: ∃I:Option Int,I=if iT cj=cG T A rs.rd e c then some (cG T i rs.rd cK w)else none:=⟨_,rfl⟩
 have u:br i (i++ [(p,I,i.length)]):=br.app _ _;have X:=iB (E:=i) (o:=I) (sb:=i.length) w1;have z2:get (i++ [(p,I,i.length)]) x=none:=kW z1 rg.symm;have l2:(i++ [(p,I,i.length)]).length=A.length+2:=by simp[l1]
 have d2: ∀q,get (i++ [(p,I,i.length)]) q≠none->get A q≠none\/gT n (n+3) q:= λq Q=>by
  rcases iC Q with g|rfl
  ·exact d1 q g
  ·exact .inr Rz
 generalize i++ [(p,I,i.length)]=j at u X z2 l2 d2;rw[l1]at X;have aa:=HO N W;have YK:=d.x.ext x1 (auK A.length);have gc:=YK.ext u (auK A.length);have ah: ∀f t,br j f->A.length+2<=t->iT cj=cG T A rs.rd e c->Kn f p t/\val f p=cG T i rs.rd cK w:= λf t g C y=>by
  have:=g.get X;rw[U,au2 y]at this;exact⟨⟨_,_,_,this,by omega⟩,by unfold val;rw[this]⟩
 have tW:VT .int (cG T i rs.rd cK w):=by
  rcases RS with rfl|rfl
  ·exact ot N (YK.s d.m) (kH d.m sK)
  ·have:=sK.1;rw[uh P7]at this;have hm:=d.m w;rw[this]at hm;exact hm
 have ge: ∀f co t,br j f->A.length+2<=t->t<=co->fb T f V co t (.merge h bC cj c8 (.fI h bC b) (.var p) k):= λf co t g C hR=>by
  refine⟨L.1,d9 f t (u.trans g) (by omega),L.2.1,?_⟩;rw[ac f (u.trans g)];split
  ·exact oV (HO hb W) hR ((gc.ext g (by omega)).bA.s d.m) rF.bA
  ·rename_i h1;split
   ·rename_i K;exact⟨d7.1,(ah f t g C K).1⟩
   ·rename_i K;refine⟨?_,GI hk _ _⟩;have i1:iT bC=1:=rfl;have i2:iT cj=0:=rfl;have i3:iT c8=2:=rfl;rw[i1]at h1;rw[i2]at K;rw[i3];rcases vC with C|C|C
    ·exact(K C.symm).elim
    ·exact(h1 C.symm).elim
    ·exact C.symm
 obtain⟨D,i6⟩: ∃D,D=cG T j rs.rd (.merge h bC cj c8 (.fI h bC b) (.var p) k) p3:=⟨_,rfl⟩;have tZ:VT .int D:=by
  rw[i6];simp only[cG];split
  ·exact ot hb (gc.s d.m) (kH d.m (d.sq _ _ (At.cons.2 (.inr (At.cons.2 (.inr (At.cons.2 (.inl ⟨W,by rw[f9,Wz]⟩))))))).1)
  ·split
   ·rename_i K;rw[ac j u]at K;rw[(ah j (A.length+2) (br.refl _) (auK _) K).2];exact tW
   ·exact Dl hk _
 have r:br j (j++ [(x,some D,j.length)]):=br.app _ _;have M:=iB (E:=j) (o:=some D) (sb:=j.length) z2;have l3:(j++ [(x,some D,j.length)]).length=A.length+3:=by simp[l2]
 have d3: ∀q,get (j++ [(x,some D,j.length)]) q≠none->get A q≠none\/gT n (n+3) q:= λq Q=>by
  rcases iC Q with g|rfl
  ·exact d2 q g
  ·exact .inr T8
 generalize j++ [(x,some D,j.length)]=H at r M l3 d3;rw[l2]at M;have Sx:=(x1.trans u).trans r;have rt:mx T H V (s.more [⟨h,.fJ,none,false,.nil⟩,⟨x,.int,none,false,.nil⟩]) H.length:=(d.x.ext Sx Sx.len).more λv J=>by
  simp only[auX,au3,avF]at J;rcases J with rfl|rfl
  ·exact⟨L.2.1,λ_=>⟨L.1,d9 H _ (u.trans r) (by omega),by show VT .fJ (val H h);rw[ac H (u.trans r)];exact vC⟩⟩
  ·exact⟨d8.2.1,λ_=>⟨d8.1,⟨D,_,_,M,by omega⟩,by show VT .int (val H x);unfold val;rw[M];exact tZ⟩⟩
 have rx:=QX.pre (q0:=[_,_,_]) (v0:=[_,_,_]) (m:=n+3) d (by omega) O d3 rt (λv J=>by
  simp only[auX,au3,avF]at J;rcases J with rfl|rfl|rfl
  ·exact WN
  ·exact Rz
  ·exact T8)
 obtain⟨E,hE⟩:=ih H _ rx;refine⟨E,QD.pre (q0:=[_,_,_]) (v0:=[_,_,_]) (m:=n+3) (by omega) O Sx d3 (λv J=> ?_) (λf z i7 i9 d6 R=> ?_) (λi9 hq=> ?_) (by rfl) hE⟩
 ·simp only[auX,au3,avF]at J;rcases J with rfl|rfl|rfl
  ·exact⟨_,_,_,(u.trans r).get P,auK _,W⟩
  ·refine⟨_,_,_,r.get X,by omega,L.1,L.2.1,d9 H _ (u.trans r) (by omega),?_⟩;rw[ac H (u.trans r),U];split<;>simp[*]
  ·exact⟨_,_,_,M,by omega,rfl⟩
 ·have Yb:=Sx.trans z;have t5:=z.len;have S:=d.x.ext Yb (auK A.length);rcases At.cons.1 R with⟨rfl,rfl⟩|R
  ·refine⟨⟨L.1,.inl ⟨A.length,?_,oV Z (by omega) (S.s d.m) i7⟩⟩,λ_=>vQ Z d.m (S.s d.m) i7 sE⟩;rw[po Z Yb _ d.x];exact((u.trans r).trans z).get P
  rcases At.cons.1 R with⟨rfl,rfl⟩|R
  ·rw[<-Wz];have kw:=(r.trans z).get X;refine⟨⟨d7.1,?_⟩,λZB=> ?_⟩;rotate_left
   ·have y:iT cj=cG T A rs.rd e c:=by
     obtain⟨v,sb,t4,g⟩:=ZB;rw[kw,U]at g;by_cases y:iT cj=cG T A rs.rd e c
     ·exact y
     ·rw[auU y]at g;simp at g
    obtain⟨_,z0⟩:=ou (T:=T) N W;rcases RS with rfl|rfl
    ·intro kv B;have i8:kv∈ej T f rs.rd a w:=B;rw[z0]at i8;cases i8
    ·intro kv B;simp only[ej,z0,avn,avg,auX,au3,avF]at B;subst B;have Q0:=sK.1;rw[uh P7]at Q0;unfold MT;rw[Q0];refine EK (op:=3) (by simp) ?_ (ot N (S.s d.m) (kH d.m sK.2.2));show Sm.lG (val f p);rw[(ah f (A.length+2) (r.trans z) (auK _) y).2];exact tW
   by_cases y:iT cj=cG T A rs.rd e c
   ·refine .inl ⟨A.length+1,?_,?_⟩
    ·rw[kw,U,au2 y];have:cG T f rs.rd cK w=cG T i rs.rd cK w:=by
      rcases RS with rfl|rfl
      ·exact po N ((u.trans r).trans z) w YK
      ·rfl
     rw[this]
    ·have t3:=(ah f (f.length+1) (r.trans z) (by omega) y).1;rcases RS with rfl|rfl
     ·exact oV aa (by omega) ((S.ext (br.refl _) (Nat.le_succ _)).bA.s d.m) rF.bA
     ·exact⟨⟨d7.1,t3⟩,oV aa (auK _) ((S.ext (br.refl _) (show A.length<=f.length+1 by omega)).bA.s d.m) rF.bA⟩
   ·exact .inr ⟨A.length+1,by rw[kw,U,auU y]⟩
  obtain⟨rfl,rfl⟩:=At.one.1 R;rw[<-Wz,<-f9];refine⟨⟨d8.1,.inl ⟨A.length+2,?_,ge f _ _ (r.trans z) (by omega) (by omega)⟩⟩,λ_ kv B=> ?_⟩;rotate_left
  ·obtain⟨_,z0⟩:=ou (T:=T) hb W;have zk: ∀d6,ej T f rs.rd k d6= []:= λd6=>by cases hk<;>rfl
   simp only[ej,z0,zk]at B;split at B
   ·cases B
   ·split at B<;>cases B
  rw[z.get M,i6];obtain⟨mt,hD⟩:=r.trans z;rw[hD,jG mt (ge j (A.length+2) (A.length+2) (br.refl _) (auK _) (auK _))]
 ·simp only[auX,au3,avF]at hq;rcases hq with rfl|rfl|rfl<;>rfl
end
section
variable{T:eD}{F:List (Option Int)}{G:Nat->Sm.US->Prop}{Pr:Nat->Sm.US->List Int->List Int->Sm.US->Prop}{aD:Nat->Sm.US}{an:Nat}{Sub:Sc->List Va->Nat->Nat->bj->Prop}
theorem Mx(g:Wd T F G Pr aD an)(i:mZ Sub)(p:wP T F G Pr aD Sub){s:Sc}{outs:List Va}{n n':Nat}{r:List aB}{t:List Va}(h:GQ Sub an s outs n n' r t):
  ∀{V:Nm->Prop} {rs:Rs} (A:Env) (c:Nat),QX T G A V rs s outs n n' r c t-> ∃E,QD T F Pr aD A E V rs s outs n n' r c t:=by
 induction h with
 | @sZ s outs n m h=>
  intro V rs A c a;obtain⟨E,B,C,X,D⟩:=Jl g a.m a.x h c n n (λv q=>⟨(a.o v q).1,(a.o v q).2.2.2⟩) a.nd a.sq;refine⟨E,B,⟨C,λu x=> ?_⟩,λv q=>(by cases q),D,λY Z H Q w I y=> ?_⟩
  ·grind
  ·have P: ∀{outs:List Va} {m:List aB},p7 s outs m-> ∀e∈m,cD e= []:=by
    intro outs m h
    induction h with
    |nil=>intro e d;cases d
    |snoc h R e d j=>
     intro u x;rcases auS.1 x with o|o
     ·exact j u o
     ·rw[auW]at o;subst o;rfl
   obtain⟨z,J,g2⟩:=I;rw[P h H (auQ J)]at y;simp at y
 |ua d f k=>intro V rs A c a;exact HP g i p d f k (by omega) Jn a
 |qy d f k=>intro V rs A c a;exact HP g i p d f k (by omega) GM a
 |aP S K f k=>intro V rs A c a;exact Jm g i p K.1 f k a
 |reset d l=>intro V rs A c a;exact GK g i p d l a
 |call z L w b f l ac e d h j=>intro V rs A c a;exact Jo g L f l d (uk i h) (λA c a=>j A c a) a
 |mY w b U k2 e cK f l M N d O h j=>intro V rs A c a;exact Jp f l M N d O (uk i h) (λA c a=>j A c a) a
theorem My(hW:Wd T F G Pr aD an)(N:mZ Sub)(hD:wP T F G Pr aD Sub){H:Sc}{x:List Va}{I:Nat}{s:Sc}{w:List Va}{n:Nat}{q:List aB}{p:List Va}(h:GL (GQ Sub an) H x I s w n q p):
  ∀{V:Nm->Prop} {rs:Rs} (A:Env) (c:Nat),QX T G A V rs H x I n q c p-> ∃E t,x=t++w/\QD T F Pr aD A E V rs H t I n q c p/\mx T E V s E.length/\s.all=H.all:=by
 have U: ∀s S n J O p,GQ Sub an s S n J O p->n<=J/\Au S n J O p:= λs S n J O p h=>⟨uk N h,Dp N h⟩
 induction h with
 |start=>
  intro V rs A c f;exact⟨A,[],W,⟨br.refl A,⟨λv b=>(by cases b),λd h=> .inl h⟩,λv b=>(by cases b),λu _ _ q i h=>(At.nil h).elim,λu _ q i M h=>(At.nil h).elim⟩,f.x,rfl⟩
 | @step s w n n1 q p q1 VK h D h1 h3 hk X ih=>
  intro V rs A c f;obtain⟨y,sj,i2,i3⟩:=Dq U h;obtain⟨z,j3⟩:=U _ _ _ _ _ _ X;obtain⟨E,t,g1,r,Y,Z⟩:=ih (V:=V) (rs:=rs) A c ⟨f.m,f.x,f.o,f.nd,λv b=>f.vv v (auY _ b),λd m g=>by
    obtain⟨v,b,e⟩:=f.vb d m (g.mono (auK _) z);rcases auS.1 b with a|a
    ·exact⟨v,a,e⟩
    ·exact(g.not (e▸(j3.v v a).gt)).elim,λd g=>f.f d (g.mono (auK _) z),λd m g=>f.ob d m (g.mono (auK _) z),λq i k=>f.sq q i (At.app.2 (.inl k)),λq i k=>f.sb q i (At.app.2 (.inl k))⟩
  have K:x=t++(w.take D++w.drop D):=by rw[avC];exact g1
  have L: ∀v∈w.take D,v∈x:= λv b=>by rw[K];exact au0 _ (auY _ b)
  have ac: ∀v∈t,v∈x:= λv b=>by rw[K];exact auY _ b
  have R:=f.nd;rw[K,avi,avi,avL]at R;have PU: ∀d,get A d=none-> ¬fu t d-> ¬gT I n d->get E d=none:= λd a1 a2 a3=>by
   cases hg:get E d with
   |none=>rfl
   |some e=>
    rcases r.o.GJ d (by rw[hg];simp)with a|a|a
    ·exact(a a1).elim
    ·exact(a2 a).elim
    ·exact(a3 a).elim
  obtain⟨E2,j⟩:=Mx hW N hD X (V:=V) (rs:=rs) E (c+Bk q) ⟨f.m,Y,λv b=>by
    obtain⟨P,Q,o3,o4⟩:=f.o v (L v b);refine⟨P,Q,o3,PU _ o4 ?_ (λg=>f.ob _ ⟨v,L v b,rfl⟩ (g.mono (auK _) z))⟩;rintro⟨l,o,e⟩;exact R.2.2 _ (avw o) _ (auY _ (avw b)) e,
   (avL.1 R.2.1).1,λv b=>f.vv v (au0 _ b),λd m g=>by
    obtain⟨v,b,e⟩:=f.vb d m (g.mono y (auK _));rcases auS.1 b with a|a
    ·exact((e▸i3.v v a).not g.gt).elim
    ·exact⟨v,a,e⟩,λd g=>PU d (f.f d (g.mono y (auK _))) (λ⟨l,o,e⟩=>f.ob d ⟨l,ac l o,e⟩ (g.mono y (auK _))) (λRz=>Rz.not g.gt),λd m g=>by
    obtain⟨l,o,e⟩:=m;exact f.ob d ⟨l,L l o,e⟩ (g.mono y (auK _)),λq i k=>f.sq q i (At.app.2 (.inr k)),λq i k=>f.sb q i (At.app.2 (.inr k))⟩
  refine⟨E2,t++w.take D,by rw[avh];exact K,⟨r.x.trans j.x,⟨λv b=> ?_,λd m=> ?_⟩,λv b=> ?_,λu B hA C i k=> ?_,λu B C i M k WH=> ?_⟩,?_,Z⟩
  ·rcases auS.1 b with a|a
   ·exact(r.o.o v a).mono j.x (auK _)
   ·exact(j.o.o v a).mono (br.refl _) r.x.len
  ·rcases j.o.GJ d m with a|⟨l,o,e⟩|a
   ·rcases r.o.GJ d a with a|⟨l,o,e⟩|a
    ·exact .inl a
    ·exact .inr (.inl ⟨l,auY _ o,e⟩)
    ·exact .inr (.inr (a.mono (auK _) z))
   ·exact .inr (.inl ⟨l,au0 _ o,e⟩)
   ·exact .inr (.inr (a.mono y (auK _)))
  ·rcases auS.1 b with a|a
   ·exact(r.v v a).ext j.x
   ·exact j.v v a
  ·rcases At.app.1 k with a|a
   ·exact r.q u (j.x.trans B) hA C i a
   ·exact j.q u B (λv b hc=>hA v (Z▸b) hc) C i a
  ·rcases At.app.1 k with a|a
   ·exact r.b u (j.x.trans B) C i M a WH
   ·exact j.b u B C i M a WH
  ·exact(Y.ext j.x j.x.len).more λv b=>by
    obtain⟨P,Q,o3,o4⟩:=f.o v (L v b);obtain⟨k1,k2⟩:=(j.o.o v b).kn (auK _);exact⟨Q.1,λ_=>⟨P,k1,k2⟩⟩
theorem qU: ∀{l r:List Va} {v:Va},v∈fK l r->v∈l\/v∈r/\v.last=true
 |l,[],v,a=> .inl a
 |l,c::r,v,a=>by
  unfold fK at a;rcases qU a with b|b
  ·grind
  ·grind
theorem N3{n m:Nat}{c:List Va}(h:NV n c m): ∀v∈c,v.clock=none:=by
 induction h with
 |nil=>intro v a;cases a
 |snoc h e f g i d=>
  intro v a;rcases auS.1 a with b|b
  ·exact d v b
  ·grind
theorem Ax{s:Sc}{outs:List Va}{n n':Nat}{l:List aB}{g:List Va}(h:GQ Sub an s outs n n' l g): ∀v∈g,v.last=false:=by
 induction h with
 |sZ h=>intro v a;cases a
 |ua c d i=>intro v a;cases a
 |qy c d i=>intro v a;cases a
 |aP m q d i=>intro v a;cases a
 |reset c j=>intro v a;cases a
 |call o r k b d j y e c h f=>
  intro v a;rcases auX.1 a with rfl|a
  ·rfl
  rcases auX.1 a with rfl|a
  ·rfl
  ·exact f v a
 |mY k b p t e cK d j u w c x h f=>
  intro v a;rcases auX.1 a with rfl|a
  ·rfl
  rcases auX.1 a with rfl|a
  ·rfl
  rcases auX.1 a with rfl|a
  ·rfl
  ·exact f v a
theorem ET{Q:Sc->List Va->Nat->Nat->List aB->List Va->Prop}(o: ∀s k n d e a,Q s k n d e a-> ∀v∈a,v.last=false){f:Sc}{g:List Va}{i:Nat}{s:Sc}{l:List Va}{n:Nat}{q:List aB}{a:List Va}(h:GL Q f g i s l n q a): ∀v∈a,v.last=false:=by
 induction h with
 |start=>intro v b;cases b
 |step h m p r t u j=>
  intro v b;rcases auS.1 b with c|c
  ·exact j v c
  ·grind
theorem EU(hW:Wd T F G Pr aD an)(O:mZ Sub)(hD:wP T F G Pr aD Sub):wP T F G Pr aD (ED (GQ Sub an)):=by
 rintro u i M A b ⟨f,Z,s',ah,k,h1,h2,P,rfl⟩ y rs z co hm h H QJ Q hf Qp;obtain⟨B,C,a3⟩:=Dr h1;obtain⟨R,dn,b2,b3⟩:=Dq (λu i M A qs f l=>⟨uk O l,Dp O l⟩) P;rw[avg]at b2;subst b2;have Ui:=N3 h1;have Sj: ∀v∈f++k,gT M A v.name:= λv c=>by
  rcases auS.1 c with a|a
  ·exact(C v a).mono (auK _) R
  ·exact(b3.v v a).mono B (auK _)
 have d9: ∀d,fu i d-> ∀v∈f++k,v.name≠d:=by
  rintro d ⟨g,hw,rfl⟩ v c e;exact Q _ (H g hw).1 (e▸Sj v c)
 have f9:((f++i).map (·.name)).Nodup:=by
  rw[avi,avL];refine⟨a3,QJ,λd h ge hy e=> ?_⟩;subst e;obtain⟨v,D,e1⟩:=ava.1 h;obtain⟨g,I,e2⟩:=ava.1 hy;exact d9 d ⟨g,I,e2⟩ v (auY _ D) e1
 have Qx: ∀d,fu (f++i) d-> ¬gT Z A d:=by
  rintro d ⟨v,c,rfl⟩ n;rcases auS.1 c with a|a
  ·exact(C v a).not n.gt
  ·exact Q _ (H v a).1 (n.mono B (auK _))
 cases Qp with
 |mk S sq sb=>
 have L: ∀v∈f++k,Jk T v:= λv c=>by
  obtain⟨w,E⟩:=ave.1 c;obtain⟨D,I,U⟩:=S w v E;exact⟨D,I,λl=>(U l).2⟩
 have J: ∀v∈f++i,(z v.name\/ ∃g∈f++k,g.name=v.name)/\Jk T v/\v.clock=none/\get y v.name=none:= λv c=>by
  rcases auS.1 c with a|a
  ·exact⟨.inr ⟨v,auY _ a,W⟩,L v (auY _ a),Ui v a,hf _ ((C v a).mono (auK _) R)⟩
  ·obtain⟨V,o2⟩:=H v a;exact⟨.inl V,o2⟩
 have ac:mx T y (λd=>z d\/ ∃g∈f++k,g.name=d) (KK u f i) y.length:=by
  have QM:=h.tc (V':= λd=>z d\/ ∃g∈f++k,g.name=d) (λd l=> .inl l);refine⟨⟨h.t.1,λv c=> ?_,λv c=> ?_⟩,QM.yo,λv c=> ?_⟩
  ·rcases auS.1 c with a|a
   ·rcases auS.1 a with a|a
    ·exact h.t.1 v a
    ·exact(L v (auY _ a)).1
   ·exact(H v a).2.1.1
  ·rcases qU c with a|⟨a,_⟩
   ·exact h.t.2.2 v a
   ·exact(J v a).2.1.1
  ·rcases qU c with a|⟨a,gl⟩
   ·exact QM.wM v a
   ·obtain⟨V,⟨o2,o3,o4⟩,_⟩:=J v a;exact⟨V,by rw[o3];exact gl,o4 gl⟩
 have hX:QX T G y (λd=>z d\/ ∃g∈f++k,g.name=d) rs (KK u f i) (f++i) Z A ah (co+Sm.aU ((f++k).map ey)) k:=by
  refine⟨hm,ac,J,f9,λv c=>⟨.inr ⟨v,au0 _ c,rfl⟩,L v (au0 _ c)⟩,λd h n=> ?_,λd n=>hf d (n.mono B (auK _)),Qx,λo p X=> ?_,λo p X d6 N Y=> ?_⟩
  ·rcases h with h|⟨v,c,e⟩
   ·exact(Q d h (n.mono B (auK _))).elim
   ·rcases auS.1 c with a|a
    ·exact((C v a).not (e▸n.gt)).elim
    ·exact⟨v,a,e⟩
  ·obtain⟨m,q,s⟩:=X;exact sq m o p q s
  ·obtain⟨m,q,s⟩:=X;exact sb m o p d6 N q s Y
 obtain⟨d7,dn,c1,j,c3,c4⟩:=My hW O hD P y _ hX;rw[avg]at c1;subst c1;refine⟨d7,j.x,⟨λv c=>j.o.o v (au0 _ c),λd h=> ?_⟩,λx t=> ?_⟩
 ·rcases j.o.GJ d h with a|⟨v,c,e⟩|a
  ·exact .inl a
  ·rcases auS.1 c with a|a
   ·exact .inr (.inr (e▸(C v a).mono (auK _) R))
   ·exact .inr (.inl ⟨v,a,e⟩)
  ·exact .inr (.inr (a.mono B (auK _)))
 have gc:rF x (λd=>z d\/ ∃g∈f++k,g.name=d) (KK u f i) (x.length+1):= λv c hc=>by
  have Sx:=j.x.trans t;have du:v∈u.ready\/v∈f++i:=by
   rcases auS.1 c with a|a
   ·rcases auS.1 a with a|a
    ·exact .inl a
    ·exact .inr (auY _ a)
   ·exact .inr (au0 _ a)
  rcases du with a|a
  ·exact(ac.ext Sx (r':=x.length+1) (by have:=Sx.len;omega)).yo v a hc
  ·obtain⟨k1,k2⟩:=((j.o.o v a).mono t (auK _)).kn (r:=x.length+1) (by omega);exact⟨(J v a).1,k1,k2⟩
 refine .mk (λv c=> ?_) (λw v E K=> ?_) (λm o p q s=> ?_) (λm o p N q s Y=> ?_)
 ·obtain⟨s1,s2,_⟩:=L v c;refine⟨s1,s2,?_⟩;rcases auS.1 c with a|a
  ·obtain⟨d8,sb,w,D,I,U,g4⟩:=(j.o.o v (auY _ a)).mono t (auK _);exact⟨some d8,sb,w,D,U,by rw[Ui v a];rfl⟩
  ·exact(j.v v a).ext t
 ·refine⟨((S w v E).2.2 K).1,((S w v E).2.2 K).2,?_⟩;rcases auS.1 (auQ E)with a|a
  ·exact(((j.o.o v (auY _ a)).mono t (auK _)).kn (auK _)).2
  ·rw[ET (λu i M A qs f l=>Ax l) P v a]at K;cases K
 ·exact j.q x t gc o p ⟨m,q,s⟩
 ·exact j.b x t o p N ⟨m,q,s⟩ Y
theorem HQ(b:Wd T F G Pr aD an): ∀d,wP T F G Pr aD (GB an d)
 |0=>EU b ⟨λ_ _ _ _ _ a=>a.elim,λ_ _ _ _ _ a=>a.elim⟩ (λ_ _ _ _ _ a=>a.elim)
 |d+1=>EU b (Av an d) (HQ b d)
end
end Go.Ex
namespace Go.Ex
open Go.Mt Go.Mk
open Go.Sm (Path US)
theorem nS(q:aB):(dE q).aj=(cD q).map pj:=by
 cases q with
 |df a e=>rfl
 |call a c d f b g e=>rfl
 |sw e aj=>show eZ aj=_;rw[pE];rfl
 |aP aj=>show eZ aj=_;rw[pE];rfl
 |reset e b=>rfl
theorem um(a:bh):(pj a).cy=eV (eb a):=by cases a;rfl
theorem uo(b:bj):(eV b).au=fM (cT b):=by cases b;rfl
theorem nT(b:bj):(eV b).vars=(dw b).map ey:=by cases b;rfl
def dB:aB->Int
 | .df .. =>1
 | .call .. =>2
 | .sw .. =>3
 | .aP .. =>4
 | .reset .. =>5
theorem fh(q:aB):(dE q).kd=dB q:=by cases q<;>rfl
theorem Ay{q:aB}{k:Nat}{a:bh}(h:(cD q)[k]?=some a):dB q=3\/dB q=4\/dB q=5:=by cases q<;>simp[cD,dB]at*
section
variable(T:eD)(F:List (Option Int))(A:Env)(d:Nd)(u:US)(Pr:Nat->US->List Int->List Int->US->Prop)(aD:Nat->US)
def rf:Rs:=⟨u.mem,u.cu,u.an⟩
abbrev kI(b:bj)(s:Nat):List Nat:=Sm.dX (fM (cT b)) (s+Sm.aU ((dw b).map ey))
def dD:Path->Option (bj×Nat×Rs)
 | []=>some (d.b,0,rf u)
 |j::π=>match dD π with
  |none=>none
  |some (b,s,rs)=>match(cT b)[j]?,(kI b s)[j]? with
   |some q,some p=>match(cD q)[fQ T A rs p q]? with
    |some a=>some (eb a,oI q p (fQ T A rs p q),pk T F A rs p q a)
    |none=>none
   |_,_=>none
def kX(π:Path)(j:Nat):Option (aB×Nat×Rs):=match dD T F A d u π with
 |none=>none
 |some (b,s,rs)=>match(cT b)[j]?,(kI b s)[j]? with
  |some q,some p=>some (q,p,rs)
  |_,_=>none
def fj(π:Path):Sm.xi:=match dD T F A d u π with
 |none=>⟨[],[],[],[]⟩
 |some (b,s,_)=>if π= []then Sm.rl (cC d)else Sm.vA (eV b) s
def s7(x:Nm):Option Int:=match get A x with
 |some (o,_,_)=>o
 |none=>none
def Bl(x:Nm):Nat:=match get A x with
 |some (_,_,i)=>i
 |none=>0
def xG:aB->Nat
 | .df x _=>jm A x
 | .call x _ _ _ _ _ _=>jm A x
 |q=>(dQ q).foldl (λm x=>min m (jm A x)) A.length
def Mz(rs:Rs)(p:Nat):aB->Int
 | .df _ e=>cG T A rs.rd e p
 | .call _ _ _ _ _ has e=>if has then cG T A rs.rd e (p+1)else 0
 | .sw e _=>cG T A rs.rd e p
 | .aP _=>0
 | .reset e _=>cG T A rs.rd e p
def uQ(rs:Rs)(p:Nat):aB->List (Nat×Int)
 | .df _ e=>ej T A rs.rd e p
 | .call _ _ _ a b has e=>(if has then ej T A rs.rd e (p+1)else [])++(ej T A rs.rd a (p+1+xE e)++(ej T A rs.rd b (p+1+xE e+xE a)++ []))
 | .sw e _=>ej T A rs.rd e p
 | .aP _=>[]
 | .reset e _=>ej T A rs.rd e p
def HR:aB->List Int
 | .call x y _ _ _ _ _=>[val A x,val A y]
 |_=>[]
def HS(rs:Rs)(p:Nat)(q:aB)(u':US):Prop:=match q with
 | .call x y f a b has e=> ∃j,f=nm 102 j/\Pr j ((if has=true/\cG T A rs.rd e (p+1)≠0 then none else rs.rs p).getD (aD j)) [cG T A rs.rd a (p+1+xE e),cG T A rs.rd b (p+1+xE e+xE a)] [val A x,val A y] u'
 |_=>False
open Classical in
noncomputable def yj(rs:Rs)(p:Nat)(q:aB):US:=if h: ∃u',HS T A Pr aD rs p q u' then Classical.choose h else aD 0
def wR(rs:Rs)(p:Nat):aB->Option Tr
 | .aP aj=>match aj[fQ T A rs p (.aP aj)]? with
  |some a=>jv T A (pk T F A rs p (.aP aj) a).rd (lu a)
  |none=>none
 |_=>none
def EV(rs:Rs)(p:Nat)(q:aB):Nat:=match q with
 | .aP aj=>match wR T F A rs p q with
  |none=>if fQ T A rs p q<aj.length then fQ T A rs p q else 0
  |some t=>sH aj t.to
 |_=>0
def MA(rs:Rs)(p:Nat)(q:aB):Bool:=match wR T F A rs p q with
 |none=>false
 |some t=> !t.fV
noncomputable def oW(ap:List Sm.It):Sm.aK where
 ok π:=(dD T F A d u π).isSome=true
 fr:=fj T F A d u
 val π k:=match(fj T F A d u π).vars[k]? with
  |some v=>s7 A v.name
  |none=>none
 rk π k:=match(fj T F A d u π).vars[k]? with
  |some v=>Bl A v.name
  |none=>0
 sb π k:=match(fj T F A d u π).vars[k]? with
  |some v=>jm A v.name
  |none=>match π with
   | []=>0
   |j::π=>match kX T F A d u π j with
    |some (q,_,_)=>xG A q
    |none=>0
 ek π j:=match kX T F A d u π j with
  |some (q,_,_)=>xG A q
  |none=>0
 bA π j:=match kX T F A d u π j with
  |some (q,p,rs)=>fQ T A rs p q
  |none=>0
 iO π j:=match kX T F A d u π j with
  |some (q,p,rs)=>Bj T A rs p q
  |none=>false
 ev π j:=match kX T F A d u π j with
  |some (q,p,rs)=>Mz T A rs p q
  |none=>0
 ew π j:=match kX T F A d u π j with
  |some (q,p,rs)=>uQ T A rs p q
  |none=>[]
 outs π j:=match kX T F A d u π j with
  |some (q,p,rs)=>HR A q
  |none=>[]
 iP π j:=match kX T F A d u π j with
  |some (q,p,rs)=>yj T A Pr aD rs p q
  |none=>aD 0
 lg π j:=match kX T F A d u π j with
  |some (q,p,rs)=>EV T F A rs p q
  |none=>0
 nan π j:=match kX T F A d u π j with
  |some (q,p,rs)=>MA T F A rs p q
  |none=>false
 rd _:=0
 rp _:=false
 rs _:=none
 eh:=A.length+1
 sz:=Sm.bW (cC d)
 ap:=ap
 wt _:=100
open Classical in
noncomputable def aN(ap:List Sm.It):Sm.aK:= {oW T F A d u Pr aD ap with
 rd:= λk=>if Sm.fO (oW T F A d u Pr aD ap) k then Sm.bZ F k else u.mem k
 rp:= λk=>if Sm.fO (oW T F A d u Pr aD ap) k/\F[k]?=some none then false else u.cu k
 rs:= λk=>if Sm.fO (oW T F A d u Pr aD ap) k/\F[k]?=some none then none else u.an k}
end
section
variable{T:eD}{F:List (Option Int)}{A:Env}{d:Nd}{u:US}{Pr:Nat->US->List Int->List Int->US->Prop}{aD:Nat->US}{ap:List Sm.It}
theorem lm{j:Nat}{π:Path}{x:bj×Nat×Rs}(h:dD T F A d u (j::π)=some x): ∃b s rs q p a,dD T F A d u π=some (b,s,rs)/\(cT b)[j]?=some q/\(kI b s)[j]?=some p/\(cD q)[fQ T A rs p q]?=some a/\x=(eb a,oI q p (fQ T A rs p q),pk T F A rs p q a)/\kX T F A d u π j=some (q,p,rs):=by
 rw[dD]at h;cases f:dD T F A d u π with
 |none=>rw[f]at h;cases h
 |some i=>
  obtain⟨b,s,rs⟩:=i;rw[f]at h;simp only at h;cases c:(cT b)[j]? with
  |none=>rw[c]at h;cases h
  |some q=>
   cases e:(kI b s)[j]? with
   |none=>rw[c,e]at h;cases h
   |some p=>
    rw[c,e]at h;simp only at h;cases g:(cD q)[fQ T A rs p q]? with
    |none=>rw[g]at h;cases h
    |some a=>
     rw[g]at h;injection h with h
     exact⟨b,s,rs,q,p,a,W,c,e,g,h.symm,by unfold kX;rw[f];simp only;rw[c,e]⟩
theorem yG{j:Nat}{π:Path}{b:bj}{s:Nat}{rs:Rs}{q:aB}{p:Nat}{a:bh}(c:dD T F A d u π=some (b,s,rs))(e:(cT b)[j]?=some q)(f:(kI b s)[j]?=some p)(g:(cD q)[fQ T A rs p q]?=some a):dD T F A d u (j::π)=some (eb a,oI q p (fQ T A rs p q),pk T F A rs p q a):=by
 rw[dD,c];simp only;rw[e,f];simp only;rw[g]
theorem wS{j:Nat}{π:Path}{b:bj}{s:Nat}{rs:Rs}{q:aB}{p:Nat}(a:dD T F A d u π=some (b,s,rs))(c:(cT b)[j]?=some q)(e:(kI b s)[j]?=some p):kX T F A d u π j=some (q,p,rs):=by
 unfold kX;rw[a];simp only;rw[c,e]
theorem nU{b:bj}{s j:Nat}{q:aB}(h:(cT b)[j]?=some q): ∃p,(kI b s)[j]?=some p:=by
 have:(fM (cT b))[j]?=some (dE q):=by rw[iG,au6,h];rfl
 exact Sm.uN this
theorem qz{π:Path}{b:bj}{s:Nat}{rs:Rs}(h:dD T F A d u π=some (b,s,rs)):(fj T F A d u π).au=fM (cT b)/\(fj T F A d u π).pos=kI b s:=by
 unfold fj;rw[h];simp only;by_cases e:π= []
 ·subst e;rw[dD]at h;injection h with h
  injection h with h a
  injection a with a c
  subst h;subst a;rw[au2 W];refine⟨uo _,?_⟩;show Sm.dX (eV d.b).au (Sm.aU (eV d.b).vars)=_;rw[uo,nT];unfold kI;rw[awc]
 ·rw[auU e];refine⟨uo _,?_⟩;show Sm.dX (eV b).au (s+Sm.aU (eV b).vars)=_;rw[uo,nT]
theorem kY{π:Path}{j:Nat}{q':Sm.aB}(h:(fj T F A d u π).au[j]?=some q'): ∃b s rs q p,dD T F A d u π=some (b,s,rs)/\(cT b)[j]?=some q/\(kI b s)[j]?=some p/\q'=dE q/\(fj T F A d u π).pos[j]?=some p/\kX T F A d u π j=some (q,p,rs):=by
 cases c:dD T F A d u π with
 |none=>unfold fj at h;rw[c]at h;simp at h
 |some f=>
  obtain⟨b,s,rs⟩:=f;obtain⟨g,i⟩:=qz c;rw[g,iG,au6]at h;cases a:(cT b)[j]? with
  |none=>rw[a]at h;cases h
  |some q=>
   rw[a]at h;injection h with h
   obtain⟨p,e⟩:=nU (s:=s) a;exact⟨b,s,rs,q,p,W,a,e,h.symm,by grind,wS c a e⟩
theorem wT{π:Path}(h:Sm.aK.ok (aN T F A d u Pr aD ap) π): ∃b s rs,dD T F A d u π=some (b,s,rs):=by
 have c:(dD T F A d u π).isSome=true:=h;cases e:dD T F A d u π with
 |none=>rw[e]at c;cases c
 |some a=>exact⟨a.1,a.2.1,a.2.2,W⟩
theorem iy{π:Path}{x:bj×Nat×Rs}(h:dD T F A d u π=some x):Sm.aK.ok (aN T F A d u Pr aD ap) π:=by
 show(dD T F A d u π).isSome=true;rw[h];rfl
theorem vR{π:Path}{j:Nat}{q:aB}{p:Nat}{rs:Rs}(h:kX T F A d u π j=some (q,p,rs)):Sm.aK.bA (aN T F A d u Pr aD ap) π j=fQ T A rs p q:=by
 show(match kX T F A d u π j with|some (q,p,rs)=>fQ T A rs p q|none=>0)=_;rw[h]
theorem HT{π:Path}{j:Nat}{q:aB}{p:Nat}{rs:Rs}(h:kX T F A d u π j=some (q,p,rs)):Sm.aK.iO (aN T F A d u Pr aD ap) π j=Bj T A rs p q:=by
 show(match kX T F A d u π j with|some (q,p,rs)=>Bj T A rs p q|none=>false)=_;rw[h]
def jH(T:eD)(F:List (Option Int))(A:Env)(d:Nd)(u:US):Path->Nm->Prop
 | [],x=>fu (d.ins++d.outs++dw d.b) x
 |j::π,x=>jH T F A d u π x\/ ∃b s rs,dD T F A d u (j::π)=some (b,s,rs)/\fu (dw b) x
theorem pv{V:Nm->Prop}{rs:Rs}{s:Nat}{b:bj}(h:s6 T F A Pr aD V rs s b):(∀v∈dw b,Nf T A (EN V b) v)/\(∀(i:Nat) (v:Va),(dw b)[i]?=some v->v.last=true->(Sm.b_ ((dw b).map ey) s)[i]?=some (some (T.lp v.name))/\T.pt (T.lp v.name)= .val v.ty/\VT v.ty (val A v.name))/\(∀(j:Nat) (q:aB) (p:Nat),(cT b)[j]?=some q->(kI b s)[j]?=some p->Cb T F A Pr aD (EN V b) rs p q)/\(∀(j:Nat) (q:aB) (p:Nat) (a:bh),(cT b)[j]?=some q->(kI b s)[j]?=some p->(cD q)[fQ T A rs p q]?=some a->s6 T F A Pr aD (EN V b) (pk T F A rs p q a) (oI q p (fQ T A rs p q)) (eb a)):=by
 cases h with
 |mk c d e f=>exact⟨c,d,e,f⟩
theorem fZ(n:s6 T F A Pr aD (fu (d.ins++d.outs)) (rf u) 0 d.b)(o:wN (fu (d.ins++d.outs)) d.b)(p:qT T 0 d.b): ∀{π:Path} {b:bj} {s:Nat} {rs:Rs},dD T F A d u π=some (b,s,rs)-> ∃V,s6 T F A Pr aD V rs s b/\wN V b/\qT T s b/\(∀x,EN V b x↔jH T F A d u π x)/\(match π with| []=>V=fu (d.ins++d.outs)|_::PC=>V=jH T F A d u PC):=by
 intro π
 induction π with
 |nil=>
  intro b s rs a;rw[dD]at a;injection a with a
  injection a with a c
  injection c with c e
  subst a;subst c;subst e;refine⟨_,n,o,p,λx=> ?_,rfl⟩;unfold jH EN fu;constructor
  ·grind
  ·grind
 |cons k π q=>
  intro b s rs a;obtain⟨r,C,M,f,l,g,t,c,e,h,i,D⟩:=lm a;obtain⟨V,v,w,y,z,E⟩:=q t;have j:=(avV i).1;have m:=(avV (avV i).2).1;refine⟨EN V r,?_,?_,?_,λx=> ?_,(funext λx=>propext (z x))⟩
  ·rw[j,m,(avV (avV i).2).2];exact(pv v).2.2.2 k f l g c e h
  ·rw[j];cases w with
   |mk G H I J B=>exact B f (auQ c) g (auQ h)
  ·rw[j,m];cases y with
   |mk K L sb=>exact sb k f l _ g c e h
  ·unfold jH;constructor
   ·grind
   ·grind
theorem lP(P:Sm.Pg)(y:cC d∈P.nodes)(z:s6 T F A Pr aD (fu (d.ins++d.outs)) (rf u) 0 d.b)(B:wN (fu (d.ins++d.outs)) d.b)(C:qT T 0 d.b):Sm.pc P (aN T F A d u Pr aD ap) (cC d):=by
 refine⟨y,λg k h=> ?_,?_,λk g N l O D E o=> ?_⟩
 ·obtain⟨b,v,r,c⟩:=wT h;obtain⟨Q,R,Z,f,q,a,c,i,m,G,s,p⟩:=lm c;refine⟨iy c,dE f,?_,?_⟩
  ·show(fj T F A d u k).au[g]?=_;rw[(qz c).1,iG,au6,i];rfl
  ·rw[fh];exact Ay G
 ·show fj T F A d u []=_;unfold fj;rw[dD];rfl
 ·obtain⟨b,v,r,f,q,c,i,m,rfl,s,p⟩:=kY D;have H:l=q:=by
   have n:(fj T F A d u k).pos[g]?=some l:=E;rw[s]at n;injection n with n;exact n.symm
  subst H;obtain⟨K,I,S,U,V,X⟩:=fZ z B C c;obtain⟨t,_⟩:=(pv I).2.2.1 g f l i m;rw[fh]at o;have j: ∃a,(cD f)[fQ T A r l f]?=some a:=by
   cases f with
   |df w e=>simp[dB]at o
   |call w L M a b ac e=>simp[dB]at o
   |sw e J=>obtain⟨x,a,_,_,_,h,_⟩:=t;exact⟨a,h⟩
   |aP J=>obtain⟨x,a,Y,_,_,_,_,_,h,_⟩:=t;exact⟨a,h⟩
   |reset e b=>exact⟨_,W⟩
  obtain⟨a,j⟩:=j;refine⟨pj a,?_,iy (yG c i m j),?_⟩
  ·rw[vR p,nS,au6,j];rfl
  ·rw[vR p];show fj T F A d u (g::k)=_;unfold fj;rw[yG c i m j];simp only;rw[auU (by simp),um]
end
def qf(T:eD)(F:List (Option Int))(A:Env)(d:Nd)(u:US)(π:Path):List Va:=match dD T F A d u π with
 |none=>[]
 |some (b,_,_)=>if π= []then d.ins++d.outs++dw d.b else dw b
structure bJ(P:Sm.Pg)(T:eD)(F:List (Option Int))(A:Env)(d:Nd)(u:US)(Pr:Nat->US->List Int->List Int->US->Prop)(aD:Nat->US):Prop where
 sp:Sm.lL P
 wf:Sm.p6 P
 dm:cC d∈P.nodes
 en:P.aJ=cU
 hF:F=Sm.gX P.aJ (cC d)
 hL:s6 T F A Pr aD (fu (d.ins++d.outs)) (rf u) 0 d.b
 hU:wN (fu (d.ins++d.outs)) d.b
 hS:qT T 0 d.b
 nd:((d.ins++d.outs).map (·.name)).Nodup
 i: ∀v∈d.ins,T.ty v.name=v.ty/\T.ls v.name=false/\v.last=false/\v.clock=none
 o: ∀(i:Nat) (v:Va),d.outs[i]?=some v->T.ty v.name=v.ty/\T.ls v.name=v.last/\v.clock=none/\(v.last=true->(Sm.b_ (d.outs.map ey) (Sm.bP (eV d.b)))[i]?=some (some (T.lp v.name))/\T.pt (T.lp v.name)= .val v.ty)
 od: ∀v∈d.outs,∃q∈cT d.b,v.name∈dQ q
 ni: ∀v∈d.ins,∀q∈cT d.b,v.name∉dQ q
 ok: ∀v∈d.outs,∃o sb i,get A v.name=some (some o,sb,i)/\sb<=i/\VT v.ty o
section
variable{P:Sm.Pg}{T:eD}{F:List (Option Int)}{A:Env}{d:Nd}{u:US}{Pr:Nat->US->List Int->List Int->US->Prop}{aD:Nat->US}{ap:List Sm.It}
theorem bJ.lP(X:bJ P T F A d u Pr aD):Sm.pc P (aN T F A d u Pr aD ap) (cC d):=Ex.lP P X.dm X.hL X.hU X.hS
def Rg(c:Sm.aK)(d:Sm.Nd)(π:Path)(k:Nat):Prop:= ∃τ j σ,π=τ++(j::σ)/\c.iO σ j=true/\Sm.kJ c d (j::σ) k
theorem EW{c:Sm.aK}{d:Sm.Nd}{j:Nat}{σ:Path}{k:Nat} :Rg c d (j::σ) k↔(c.iO σ j=true/\Sm.kJ c d (j::σ) k)\/Rg c d σ k:=by
 constructor
 ·rintro⟨f,g,h,e,a,b⟩;cases f with
  |nil=>simp only[avn,List.cons.injEq]at e;obtain⟨rfl,rfl⟩:=e;exact .inl ⟨a,b⟩
  |cons i f=>simp only[avM,List.cons.injEq]at e;exact .inr ⟨f,g,h,e.2,a,b⟩
 ·rintro(⟨a,b⟩|⟨f,g,h,e,a,b⟩)
  ·exact⟨[],j,σ,W,a,b⟩
  ·exact⟨j::f,g,h,by rw[e];rfl,a,b⟩
open Classical in
theorem KX: ∀{π:Path} {b:bj} {s:Nat} {rs:Rs},dD T F A d u π=some (b,s,rs)-> ∀k,rs.rd k=(if Rg (aN T F A d u Pr aD ap) (cC d) π k then Sm.bZ F k else u.mem k)/\rs.rp k=(if Rg (aN T F A d u Pr aD ap) (cC d) π k/\F[k]?=some none then false else u.cu k)/\rs.rs k=(if Rg (aN T F A d u Pr aD ap) (cC d) π k/\F[k]?=some none then none else u.an k):=by
 intro π
 induction π with
 |nil=>
  intro b s rs a k;rw[dD]at a;injection a with a
  have v:=(avV (avV a).2).2;have o: ¬Rg (aN T F A d u Pr aD ap) (cC d) [] k:=by
   rintro⟨N,j,g,e,_⟩;cases N<;>simp at e
  rw[<-v];refine⟨?_,?_,?_⟩
  ·rw[auU o];rfl
  ·rw[auU (λa=>o a.1)];rfl
  ·rw[auU (λa=>o a.1)];rfl
 |cons j g O=>
  intro b s rs a k;obtain⟨Y,Z,h,c,f,n,w,P,Q,R,S,p⟩:=lm a;obtain⟨D,x,y⟩:=O w k;have v:=(avV (avV S).2).2;have L:(fj T F A d u g).au[j]?=some (dE c):=by rw[(qz w).1,iG,au6,P];rfl
  have E:(fj T F A d u g).pos[j]?=some f:=by rw[(qz w).2];exact Q
  have G:(dE c).aj[Sm.aK.bA (aN T F A d u Pr aD ap) g j]?=some (pj n):=by rw[vR p,nS,au6,R];rfl
  have U:Sm.kJ (aN T F A d u Pr aD ap) (cC d) (j::g) k↔oI c f (fQ T A h f c)<=k/\k<oI c f (fQ T A h f c)+Sm.bP (eV (eb n)):=by
   constructor
   ·rintro⟨H,I,a1,z,B,q,J,C⟩;have V:H=dE c:=by have M:(fj T F A d u g).au[j]?=some H:=z;rw[L]at M;injection M with t;exact t.symm
    have X:I=f:=by have K:(fj T F A d u g).pos[j]?=some I:=B;rw[E]at K;injection K with t;exact t.symm
    subst V;subst X;rw[G]at q;injection q with q
    subst q;rw[vR p]at J C;rw[um]at C;exact⟨J,C⟩
   ·rintro⟨z,B⟩;exact⟨dE c,f,pj n,L,E,G,by rw[vR p];exact z,by rw[vR p,um];exact B⟩
  have r:=HT (Pr:=Pr) (aD:=aD) (ap:=ap) p;rw[v];unfold pk;cases o:Bj T A h f c with
  |false=>
   rw[o]at r;have m:Rg (aN T F A d u Pr aD ap) (cC d) (j::g) k↔Rg (aN T F A d u Pr aD ap) (cC d) g k:=by rw[EW,r];simp
   simp only[m];exact⟨D,x,y⟩
  |true=>
   rw[o]at r;have m:Rg (aN T F A d u Pr aD ap) (cC d) (j::g) k↔(oI c f (fQ T A h f c)<=k/\k<oI c f (fQ T A h f c)+Sm.bP (eV (eb n)))\/Rg (aN T F A d u Pr aD ap) (cC d) g k:=by rw[EW,r,U];simp
   simp only[awr];refine⟨?_,?_,?_⟩
   ·show(if _ then _ else h.rd k)=_;by_cases i:oI c f (fQ T A h f c)<=k/\k<oI c f (fQ T A h f c)+Sm.bP (eV (eb n))
    ·rw[au2 i,au2 (m.2 (.inl i))]
    ·rw[auU i,D];have:Rg (aN T F A d u Pr aD ap) (cC d) (j::g) k↔Rg (aN T F A d u Pr aD ap) (cC d) g k:=by rw[m];simp[i]
     simp only[this]
   ·show(if _ then _ else h.rp k)=_;by_cases i:oI c f (fQ T A h f c)<=k/\k<oI c f (fQ T A h f c)+Sm.bP (eV (eb n))
    ·by_cases l:F[k]?=some none
     ·rw[au2 ⟨i,l⟩,au2 ⟨m.2 (.inl i),l⟩]
     ·rw[auU (λa=>l a.2),auU (λa=>l a.2),x,auU (λa=>l a.2)]
    ·rw[auU (λa=>i a.1),x];have:Rg (aN T F A d u Pr aD ap) (cC d) (j::g) k↔Rg (aN T F A d u Pr aD ap) (cC d) g k:=by rw[m];simp[i]
     simp only[this]
   ·show(if _ then _ else h.rs k)=_;by_cases i:oI c f (fQ T A h f c)<=k/\k<oI c f (fQ T A h f c)+Sm.bP (eV (eb n))
    ·by_cases l:F[k]?=some none
     ·rw[au2 ⟨i,l⟩,au2 ⟨m.2 (.inl i),l⟩]
     ·rw[auU (λa=>l a.2),auU (λa=>l a.2),y,auU (λa=>l a.2)]
    ·rw[auU (λa=>i a.1),y];have:Rg (aN T F A d u Pr aD ap) (cC d) (j::g) k↔Rg (aN T F A d u Pr aD ap) (cC d) g k:=by rw[m];simp[i]
     simp only[this]
theorem wU(X:bJ P T F A d u Pr aD){π ρ τ:Path}{b:bj}{s:Nat}{rs:Rs}(h:dD T F A d u π=some (b,s,rs))(e:π=τ++ρ){k:Nat}(y:Sm.mJ (aN T F A d u Pr aD ap) (cC d) ρ k):rs.rd k=Sm.aK.rd (aN T F A d u Pr aD ap) k/\rs.rp k=Sm.aK.rp (aN T F A d u Pr aD ap) k/\rs.rs k=Sm.aK.rs (aN T F A d u Pr aD ap) k:=by
 classical
 have i:Sm.pc P (aN T F A d u Pr aD ap) (cC d):=X.lP;have L:Sm.aK.ok (aN T F A d u Pr aD ap) π:=iy h;have N:Rg (aN T F A d u Pr aD ap) (cC d) π k↔Sm.fO (aN T F A d u Pr aD ap) k:=by
  constructor
  ·rintro⟨p,a,c,z,B,C⟩;obtain⟨D,E,r,G⟩:=i.i_ a c (Sm.pd i (τ:=p) (by grind));obtain⟨m,g,n,f,j,l,o,q⟩:=C;rw[r]at f;injection f with f;subst f
   exact⟨c,a,E,g,n,D,r,j,G,B,l,o,q⟩
  ·rintro⟨c,a,m,g,n,f,j,l,o,q,t,v,w⟩;obtain⟨M,H⟩:=i.bA c a m g f j l o;obtain⟨p,z⟩:=(y.own X.sp X.wf i (Sm.pd i (τ:=τ) (by simp_all))) a c m g n H.ok j l o t v w;exact⟨τ++p,a,c,by grind,q,m,g,n,j,l,t,v,w⟩
 obtain⟨I,J,K⟩:=KX (Pr:=Pr) (aD:=aD) (ap:=ap) h k;refine⟨?_,?_,?_⟩
 ·rw[I];show _=(if Sm.fO (aN T F A d u Pr aD ap) k then _ else _);by_cases x:Sm.fO (aN T F A d u Pr aD ap) k
  ·simp_all
  ·simp_all
 ·rw[J];show _=(if Sm.fO (aN T F A d u Pr aD ap) k/\F[k]?=some none then _ else _);by_cases x:Sm.fO (aN T F A d u Pr aD ap) k/\F[k]?=some none
  ·grind
  ·grind
 ·rw[K];show _=(if Sm.fO (aN T F A d u Pr aD ap) k/\F[k]?=some none then _ else _);by_cases x:Sm.fO (aN T F A d u Pr aD ap) k/\F[k]?=some none
  ·grind
  ·grind
theorem Ds(X:bJ P T F A d u Pr aD): ∀{π:Path} {k:Nat},Sm.aK.ok (aN T F A d u Pr aD ap) π->Sm.kJ (aN T F A d u Pr aD ap) (cC d) π k->k<Sm.bW (cC d)
 | [],k,_,a=>a
 |c::π,k,b,a=>Ds X (π:=π) ((X.lP (ap:=ap)).i_ c π b).1 (Sm.child X.sp X.wf X.lP b a).1
theorem MC{l:List Va}(c:(l.map (·.name)).Nodup){k:Nat}{v:Va}(h:l[k]?=some v):Sm.f_ (l.map ey) v.name=some k:=by
 unfold Sm.f_;rw[awY];obtain⟨j,a,d,g,e,i⟩:=yF l ((λb:Sm.Va=>decide (b.name=v.name))∘ey) ⟨v,auQ h,by simp[ey]⟩;rw[d];have m:a.name=v.name:=auV e;have f:k<(l.map (·.name)).length:=by
  grind
 have:=(awW f c (j:=j)).1 (by grind);rw[this]
theorem HU{l:List Va}{x:Nm}(h: ¬fu l x):Sm.f_ (l.map ey) x=none:=by
 unfold Sm.f_;rw[av4];intro c a;obtain⟨v,b,rfl⟩:=ava.1 a;simp only[awS];exactλe=>h ⟨v,b,e⟩
theorem lZ{π:Path}{b:bj}{s:Nat}{rs:Rs}(h:dD T F A d u π=some (b,s,rs)):qf T F A d u π=if π= []then d.ins++d.outs++dw d.b else dw b:=by unfold qf;rw[h]
theorem oJ{π:Path} :(fj T F A d u π).vars=(qf T F A d u π).map ey:=by
 unfold fj qf;cases dD T F A d u π with
 |none=>rfl
 |some a=>
  obtain⟨b,c,e⟩:=a;simp only;split
  ·show(d.ins.map ey)++(d.outs.map ey)++(eV d.b).vars=_;rw[nT];simp
  ·exact nT b
theorem MD(X:bJ P T F A d u Pr aD){π:Path}{b:bj}{s:Nat}{rs:Rs}(h:dD T F A d u π=some (b,s,rs)):((qf T F A d u π).map (·.name)).Nodup:=by
 obtain⟨p,t,i,w,x,c⟩:=fZ X.hL X.hU X.hS h;rw[lZ h];cases i with
 |mk f j y z B=>
 split
 ·rename_i e;subst e;rw[dD]at h;injection h with h
  have a:=(avV h).1;subst a;simp only at c;rw[avi,avL];refine⟨X.nd,f,λq k r l e=> ?_⟩;subst e;obtain⟨v,m,a⟩:=ava.1 k;obtain⟨g,n,o⟩:=ava.1 l;refine j g n ?_;rw[c];exact⟨v,m,by rw[a,o]⟩
 ·exact f
structure EX(T:eD)(F:List (Option Int))(A:Env)(d:Nd)(u:US)(c:Sm.aK)(π:Path)(x:Nm)(ρ:Path)(k:Nat)(v:Va):Prop where
 f:c.find π x=some (ρ,k)
 f2:c.find ρ x=some (ρ,k)
 s: ∃τ,π=τ++ρ
 vv:(qf T F A d u ρ)[k]?=some v
 n:v.name=x
 ix:Sm.f_ (c.fr ρ).vars x=some k
theorem Dt(X:bJ P T F A d u Pr aD){x:Nm}{ρ:Path}(h:jH T F A d u ρ x): ∀τ,jH T F A d u (τ++ρ) x
 | []=>h
 |a::τ=>by rw[avM];unfold jH;exact .inl (Dt X h τ)
theorem pF(X:bJ P T F A d u Pr aD){π:Path}{b:bj}{s:Nat}{rs:Rs}(h:dD T F A d u π=some (b,s,rs)){k:Nat}{v:Va}(c:(qf T F A d u π)[k]?=some v):EX T F A d u (aN T F A d u Pr aD ap) π v.name π k v:=by
 have a:Sm.f_ (Sm.aK.fr (aN T F A d u Pr aD ap) π).vars v.name=some k:=by
  show Sm.f_ (fj T F A d u π).vars v.name=some k;rw[oJ];exact MC (MD X h) c
 have e:Sm.aK.find (aN T F A d u Pr aD ap) π v.name=some (π,k):=by
  cases π with
  |nil=>unfold Sm.aK.find;rw[a];rfl
  |cons f π=>unfold Sm.aK.find;rw[a]
 exact⟨e,e,⟨[],W⟩,c,W,a⟩
theorem rH(X:bJ P T F A d u Pr aD): ∀{π:Path} {b:bj} {s:Nat} {rs:Rs},dD T F A d u π=some (b,s,rs)-> ∀{x:Nm},jH T F A d u π x-> ∃ρ k v,EX T F A d u (aN T F A d u Pr aD ap) π x ρ k v:=by
 intro π
 induction π with
 |nil=>
  intro b s rs c x g;unfold jH at g;obtain⟨v,h,rfl⟩:=g;obtain⟨k,i⟩:=ave.1 h;exact⟨[],k,v,pF X c (by rw[lZ c,au2 W];exact i)⟩
 |cons f π n=>
  intro b s rs c x g;by_cases j:fu (qf T F A d u (f::π)) x
  ·obtain⟨v,h,rfl⟩:=j;obtain⟨k,i⟩:=ave.1 h;exact⟨f::π,k,v,pF X c i⟩
  ·obtain⟨z,B,C,t,w,y,o,_⟩:=lm c;have p:jH T F A d u π x:=by
    unfold jH at g;rcases g with l|⟨D,E,G,q,r⟩
    ·exact l
    ·exact(j (by rw[lZ q,auU (by simp)];exact r)).elim
   obtain⟨ρ,k,v,a⟩:=n o p;refine⟨ρ,k,v,?_,a.f2,?_,a.vv,a.n,a.ix⟩
   ·unfold Sm.aK.find;have:Sm.f_ (Sm.aK.fr (aN T F A d u Pr aD ap) (f::π)).vars x=none:=by
     show Sm.f_ (fj T F A d u (f::π)).vars x=none;rw[oJ];exact HU j
    rw[this];exact a.f
   ·obtain⟨m,e⟩:=a.s;exact⟨f::m,by rw[e];rfl⟩
theorem KY(X:bJ P T F A d u Pr aD){ρ:Path}{x:Nm}(f:jH T F A d u ρ x): ∀{τ:Path} {b:bj} {s:Nat} {rs:Rs},dD T F A d u (τ++ρ)=some (b,s,rs)->Sm.aK.find (aN T F A d u Pr aD ap) (τ++ρ) x=Sm.aK.find (aN T F A d u Pr aD ap) ρ x:=by
 intro τ
 induction τ with
 |nil=>intro b s rs a;rfl
 |cons c τ g=>
  intro b s rs a;obtain⟨r,t,w,n,o,p,h,_⟩:=lm a;obtain⟨q,y,i,z,B,j⟩:=fZ X.hL X.hU X.hS a;have k: ¬fu (qf T F A d u (c::(τ++ρ))) x:=by
   rintro⟨v,e,rfl⟩;rw[lZ (show dD T F A d u (c::(τ++ρ))=_ from a),auU (by simp)]at e;cases i with
   |mk C l D E G=>exact l v e (by rw[j];exact Dt X f τ)
  have:Sm.f_ (Sm.aK.fr (aN T F A d u Pr aD ap) (c::(τ++ρ))).vars x=none:=by
   show Sm.f_ (fj T F A d u _).vars x=none;rw[oJ];exact HU k
  have m:Sm.aK.find (aN T F A d u Pr aD ap) (c::(τ++ρ)) x=Sm.aK.find (aN T F A d u Pr aD ap) (τ++ρ) x:=by rw[Sm.aK.find,this]
  exact m.trans (g h)
theorem GO(π:Path){k:Nat}{v:Va}(h:(qf T F A d u π)[k]?=some v):Sm.aK.val (aN T F A d u Pr aD ap) π k=s7 A v.name/\Sm.aK.rk (aN T F A d u Pr aD ap) π k=Bl A v.name/\Sm.aK.sb (aN T F A d u Pr aD ap) π k=jm A v.name:=by
 have:(fj T F A d u π).vars[k]?=some (ey v):=by rw[oJ,au6,h];rfl
 refine⟨?_,?_,?_⟩
 ·show(match(fj T F A d u π).vars[k]? with|some v=>s7 A v.name|none=>none)=_;rw[this];rfl
 ·show(match(fj T F A d u π).vars[k]? with|some v=>Bl A v.name|none=>0)=_;rw[this];rfl
 ·show(match(fj T F A d u π).vars[k]? with|some v=>jm A v.name|none=>_)=_;rw[this];rfl
end
section
variable{P:Sm.Pg}{T:eD}{F:List (Option Int)}{A:Env}{d:Nd}{u:US}{Pr:Nat->US->List Int->List Int->US->Prop}{aD:Nat->US}{ap:List Sm.It}
theorem rI{b:bj}{s:Nat}{rs:Rs}(h:dD T F A d u []=some (b,s,rs)):b=d.b/\s=0/\rs=rf u:=by
 rw[dD]at h;injection h with h
 exact⟨(avV h).1.symm,(avV (avV h).2).1.symm,(avV (avV h).2).2.symm⟩
theorem Az{π:Path}{b:bj}{s:Nat}{rs:Rs}(h:dD T F A d u π=some (b,s,rs)):(fj T F A d u π).cO=if π= []then List.replicate d.ins.length none++Sm.b_ (d.outs.map ey) (Sm.bP (eV d.b))++Sm.b_ ((dw d.b).map ey) 0 else Sm.b_ ((dw b).map ey) s:=by
 unfold fj;rw[h];simp only;split
 ·show List.replicate (d.ins.map ey).length none++Sm.b_ (d.outs.map ey) (Sm.bP (eV d.b))++Sm.b_ (eV d.b).vars 0=_;rw[nT,au8]
 ·show Sm.b_ (eV b).vars s=_;rw[nT]
structure Nh(T:eD)(A:Env)(c:Sm.aK)(V:Nm->Prop)(n0:Nat)(ρ:Path)(k:Nat)(v:Va):Prop where
 ty:T.ty v.name=v.ty
 ls:T.ls v.name=v.last
 lp:v.last=true->(c.fr ρ).cO[k]?=some (some (T.lp v.name))/\T.pt (T.lp v.name)= .val v.ty/\VT v.ty (val A v.name)
 d:(ρ= []->n0<=k)->Cd T A V v
theorem KZ(X:bJ P T F A d u Pr aD){ρ:Path}{b:bj}{s:Nat}{rs:Rs}(h:dD T F A d u ρ=some (b,s,rs)){k:Nat}{v:Va}(c:(qf T F A d u ρ)[k]?=some v):Nh T A (aN T F A d u Pr aD ap) (jH T F A d u ρ) d.ins.length ρ k v:=by
 obtain⟨Q,z,R,S,B,U⟩:=fZ X.hL X.hU X.hS h;obtain⟨g,p,V,Y⟩:=pv z;rw[funext λw=>propext (B w)]at g;have i:(Sm.aK.fr (aN T F A d u Pr aD ap) ρ).cO=_:=Az h;rw[lZ h]at c;by_cases e:ρ= []
 ·rw[au2 e]at c i;subst e;obtain⟨rfl,rfl,rfl⟩:=rI h;have C:(List.replicate d.ins.length (none:Option Nat)).length=d.ins.length:=by simp
  have D:(Sm.b_ (d.outs.map ey) (Sm.bP (eV d.b))).length=d.outs.length:=by rw[Sm.ff];simp
  rcases auM k d.ins.length with q|q
  ·rw[avh,auL q]at c;obtain⟨E,G,H,Z⟩:=X.i v (auQ c);exact⟨E,by rw[G,H],λa=>(by grind),λa=>absurd (a W) (by omega)⟩
  rcases auM k (d.ins.length+d.outs.length)with I|I
  ·have f:d.outs[k-d.ins.length]?=some v:=by
    grind
   obtain⟨J,K,L,M⟩:=X.o _ v f;obtain⟨x,sb,y,r,N,O⟩:=X.ok v (auQ f);refine⟨J,K,λa=>⟨?_,(M a).2,?_⟩,λ_=>⟨some x,sb,y,r,N,by rw[L];rfl⟩⟩
   ·grind
   ·unfold val;rw[r];exact O
  ·have f:(dw d.b)[k-(d.ins.length+d.outs.length)]?=some v:=by
    grind
   obtain⟨j,l,m⟩:=g v (auQ f);refine⟨j,l,λa=> ?_,λ_=>m⟩;obtain⟨t,n,o⟩:=p _ v f a;refine⟨?_,n,o⟩;rw[i,auR (by grind)];simp only[auN,C,D];exact t
 ·rw[auU e]at c i;obtain⟨j,l,m⟩:=g v (auQ c);refine⟨j,l,λa=> ?_,λ_=>m⟩;obtain⟨t,n,o⟩:=p _ v c a;exact⟨by grind,n,o⟩
theorem Cg{x:Nm} :(s7 A x).getD 0=val A x:=by
 unfold s7 val;cases get A x with
 |none=>rfl
 |some e=>
  obtain⟨a,sb,b⟩:=e;cases a<;>rfl
theorem EX.get{π:Path}{x:Nm}{ρ:Path}{k:Nat}{v:Va}(h:EX T F A d u (aN T F A d u Pr aD ap) π x ρ k v):Sm.aK.get (aN T F A d u Pr aD ap) (ρ,k)=val A x/\Sm.aK.jX (aN T F A d u Pr aD ap) (ρ,k)=Bl A x/\Sm.aK.val (aN T F A d u Pr aD ap) ρ k=s7 A x/\Sm.aK.sb (aN T F A d u Pr aD ap) ρ k=jm A x:=by
 obtain⟨a,b,c⟩:=GO (Pr:=Pr) (aD:=aD) (ap:=ap) ρ h.vv;rw[h.n]at a b c;refine⟨?_,b,a,c⟩;show(Sm.aK.val (aN T F A d u Pr aD ap) ρ k).getD 0=_;rw[a];exact Cg
theorem Kn.ix{x:Nm}{r:Nat}(h:Kn A x r):Bl A x<r:=by obtain⟨v,c,d,a,b⟩:=h;unfold Bl;rw[a];exact b
theorem Kn.vv{x:Nm}{r:Nat}(h:Kn A x r):s7 A x=some (Ex.val A x):=by obtain⟨v,b,c,a,d⟩:=h;unfold s7 Ex.val;rw[a]
theorem AA(X:bJ P T F A d u Pr aD){π ρ:Path}{b:bj}{s:Nat}{rs:Rs}(h:dD T F A d u π=some (b,s,rs))(a: ∃τ,π=τ++ρ): ∃b' c e,dD T F A d u ρ=some (b',c,e):=by
 obtain⟨τ,rfl⟩:=a;exact wT (Pr:=Pr) (aD:=aD) (ap:=[]) (Sm.pd (X.lP (ap:=[])) (τ:=τ) (iy h))
theorem EX.fx(X:bJ P T F A d u Pr aD){π:Path}{b:bj}{s:Nat}{rs:Rs}(a:dD T F A d u π=some (b,s,rs)){x:Nm}{ρ:Path}{k:Nat}{v:Va}(h:EX T F A d u (aN T F A d u Pr aD ap) π x ρ k v):Nh T A (aN T F A d u Pr aD ap) (jH T F A d u ρ) d.ins.length ρ k v:=by
 obtain⟨e,f,g,c⟩:=AA X a h.s;exact KZ X c h.vv
theorem AB{ρ:Path}{k:Nat}{v:Va}(a:(qf T F A d u ρ)[k]?=some v)(ht:v.ty= .fJ):Sm.aK.de cU (aN T F A d u Pr aD ap) (ρ,k)= [cj,bC,c8]:=by
 unfold Sm.aK.de;show(match(fj T F A d u ρ).vars[k]? with|some v=>Sm.fq cU v.tk v.tn|none=>[])=_;rw[oJ,au6,a];show Sm.fq cU v.ty.kind v.ty.nm=_;rw[ht]
 decide
theorem AC{s:Nm}(h:s∈([cj,bC,c8]:List Nm)):Sm.rj cU s=iT s:=by
 simp only[auX,au3,avF]at h;rcases h with rfl|rfl|rfl<;>decide
theorem vS(X:bJ P T F A d u Pr aD){π:Path}{b:bj}{s:Nat}{rs:Rs}(w:dD T F A d u π=some (b,s,rs)): ∀{e:E} {r p:Nat},fb T A (jH T F A d u π) (A.length+1) r e->(∀k,p<=k->k<p+xE e->Sm.mJ (aN T F A d u Pr aD ap) (cC d) π k)->Sm.gP cU (aN T F A d u Pr aD ap) π r (cA e) p (cG T A rs.rd e p) (ej T A rs.rd e p):=by
 have ah:Sm.aK.ok (aN T F A d u Pr aD ap) π:=iy w;have R: ∀k,Sm.mJ (aN T F A d u Pr aD ap) (cC d) π k->rs.rd k=Sm.aK.rd (aN T F A d u Pr aD ap) k/\k<Sm.aK.sz (aN T F A d u Pr aD ap):= λk ho=>⟨(wU X w (τ:=[]) W ho).1,Ds X ah ho.1⟩
 intro e
 induction e with
 |nil=>intro r p f _;exact f.elim
 |int n=>intro r p f _;exact .vB (.inl W)
 |bool n=>intro r p f _;exact .vB (.inr (.inl W))
 |ctor n=>
  intro r p f _;have:=Sm.gP.vB (en:=cU) (c:=(aN T F A d u Pr aD ap)) (π:=π) (r:=r) (k:=3) (op:=0) (n:=0) (s:=n) (names:=[]) (kids:=[]) (p:=z2) (a:=p) (.inr (.inr W));rw[show Sm.pT cU (.mk 3 0 0 n [] [] z2)=iT n from AC f]at this;exact this
 |var x=>
  intro r p f _;obtain⟨O,k,v,l⟩:=rH X (ap:=ap) w f.1;obtain⟨y,S,_⟩:=l.get;have:=Sm.gP.var (en:=cU) (c:=(aN T F A d u Pr aD ap)) (π:=π) (r:=r) (op:=0) (n:=0) (s:=x) (names:=[]) (kids:=[]) (p:=z2) (a:=p) l.f (by rw[S];exact f.2.ix);rw[y]at this;exact this
 |last x=>
  intro r p f _;obtain⟨O,k,v,l⟩:=rH X (ap:=ap) w f.1;have hF:=l.fx X w;have U:=(hF.lp (by rw[<-hF.ls,l.n];exact f.2)).1;rw[l.n]at U;obtain⟨τ,e⟩:=l.s;obtain⟨o1,o2⟩:=Sm.lj X.sp X.wf X.lP (Sm.pd X.lP (τ:=τ) (by rw[<-e];exact ah)) U;have:=Sm.gP.last (en:=cU) (c:=(aN T F A d u Pr aD ap)) (π:=π) (r:=r) (op:=0) (n:=0) (s:=x) (names:=[]) (kids:=[]) (p:=z2) (a:=p) l.f U o2;rw[<-(wU X w e o1).1]at this;exact this
 |un op a V=>intro r p f g;exact .un (V f (λk j h=>g k j (by simp only[xE,cA,Sm.xP,Sm.eg]at h⊢;omega)))
 |bin op a b D G=>
  intro r p f g;exact .bin (D f.1 (λk j h=>g k j (by simp only[xE,cA,Sm.xP,Sm.eg]at h⊢;omega))) (G f.2 (λk j h=>g k (by omega) (by simp only[xE,cA,Sm.xP,Sm.eg]at h⊢;omega)))
 |ite c a b Q D G=>
  intro r p f g;exact .ite (Q f.1 (λk j h=>g k j (by simp only[xE,cA,Sm.xP,Sm.eg]at h⊢;omega))) (D f.2.1 (λk j h=>g k (by omega) (by simp only[xE,cA,Sm.xP,Sm.eg]at h⊢;omega)))
   (G f.2.2 (λk j h=>g k (by omega) (by simp only[xE,cA,Sm.xP,Sm.eg]at h⊢;omega)))
 |ga c t Q ac=>
  intro r p f g;have Y:xE (.ga c t)=1+xE c+xE t:=by simp only[xE,cA,Sm.xP,Sm.eg,Sm.dt];simp;omega
  obtain⟨J,K⟩:=R p (g p (auK _) (by omega));have:=Sm.gP.ga (en:=cU) (c:=(aN T F A d u Pr aD ap)) (π:=π) (r:=r) (op:=0) (n:=0) (s:=e0) (names:=[]) (x:=cA c) (p:=z2) K (ac (r:=A.length+1) (p:=p+1+xE c) f (λk j h=>g k (by omega) (by omega)));rw[<-J]at this;exact this
 |pre t ac=>
  intro r p f g;have Y:xE (.pre t)=1+xE t:=by simp only[xE,cA,Sm.xP,Sm.eg,Sm.dt];simp
  obtain⟨J,K⟩:=R p (g p (auK _) (by omega));have:=Sm.gP.pre (en:=cU) (c:=(aN T F A d u Pr aD ap)) (π:=π) (r:=r) (op:=0) (n:=0) (s:=e0) (names:=[]) (p:=z2) K (ac (r:=A.length+1) (p:=p+1) f (λk j h=>g k (by omega) (by omega)));rw[<-J]at this;exact this
 |arrow a b D G=>
  intro r p f g;have Y:xE (.arrow a b)=1+xE a+xE b:=by simp only[xE,cA,Sm.xP,Sm.eg,Sm.dt];simp;omega
  obtain⟨J,K⟩:=R p (g p (auK _) (by omega));have:=Sm.gP.arrow (en:=cU) (c:=(aN T F A d u Pr aD ap)) (π:=π) (r:=r) (op:=0) (n:=0) (s:=e0) (names:=[]) (p:=z2) K (D (p:=p+1) f.1 (λk j h=>g k (by omega) (by omega))) (G (p:=p+1+xE a) f.2 (λk j h=>g k (by omega) (by omega)));rw[<-J]at this;exact this
 |fI x c a V=>intro r p f g;exact .fI (V f (λk j h=>g k j (by simp only[xE,cA,Sm.xP,Sm.eg]at h⊢;omega)))
 |merge x o q z a b c D G Q=>
  intro r p f g;obtain⟨j,h,h3,B⟩:=f;have Y:xE (.merge x o q z a b c)=xE a+xE b+xE c:=by simp only[xE,cA,Sm.xP,Sm.eg,Sm.dt];simp;omega
  obtain⟨O,k,v,l⟩:=rH X (ap:=ap) w j;obtain⟨y,S,_⟩:=l.get;have I:Sm.aK.de cU (aN T F A d u Pr aD ap) (O,k)= [cj,bC,c8]:=AB l.vv (by rw[<-(l.fx X w).ty,l.n];exact h3);have Z:Sm.aK.jX (aN T F A d u Pr aD ap) (O,k)<r:=by rw[S];exact h.ix
  by_cases m:iT o=val A x
  ·rw[au2 m]at B;have L:cG T A rs.rd (.merge x o q z a b c) p=cG T A rs.rd a p:=by simp only[cG];rw[au2 m]
   have M:ej T A rs.rd (.merge x o q z a b c) p=ej T A rs.rd a p:=by simp only[ej];rw[au2 m]
   rw[L,M];exact .merge (i:=0) (cn:=o) (e:=cA a) l.f Z W (by rw[I,y];exact m) (λN t hi=>by omega) W (by
    exact D (p:=p) B (λk j h=>g k j (by omega)))
  ·rw[auU m]at B;by_cases C:iT q=val A x
   ·rw[au2 C]at B;have L:cG T A rs.rd (.merge x o q z a b c) p=cG T A rs.rd b (p+xE a):=by simp only[cG];rw[auU m,au2 C]
    have M:ej T A rs.rd (.merge x o q z a b c) p=ej T A rs.rd b (p+xE a):=by simp only[ej];rw[auU m,au2 C]
    rw[L,M];exact .merge (i:=1) (cn:=q) (e:=cA b) l.f Z W (by rw[I,y];exact C) (λN t hi H=>by
     have:N=0:=by omega
     subst this;simp at H;subst H;rw[I,y];exact m) W (by
     exact G (p:=p+xE a) B (λk j h=>g k (by omega) (by omega)))
   ·rw[auU C]at B;have L:cG T A rs.rd (.merge x o q z a b c) p=cG T A rs.rd c (p+xE a+xE b):=by simp only[cG];rw[auU m,auU C]
    have M:ej T A rs.rd (.merge x o q z a b c) p=ej T A rs.rd c (p+xE a+xE b):=by simp only[ej];rw[auU m,auU C]
    rw[L,M];exact .merge (i:=2) (cn:=z) (e:=cA c) l.f Z W (by rw[I,y];exact B.1) (λN t hi H=>by
     have:N=0\/N=1:=by omega
     rcases this with rfl|rfl
     ·simp at H;subst H;rw[I,y];exact m
     ·simp at H;subst H;rw[I,y];exact C) W (by
     show Sm.gP cU (aN T F A d u Pr aD ap) π r (cA c) (p+(xE a+(xE b+0))) _ _;rw[av9,<-avE];exact Q (p:=p+xE a+xE b) B.2 (λk j h=>g k (by omega) (by omega)))
end
theorem oK{f:Nm->Nat} : ∀(l:List Nm) (m:Nat),(l.foldl (λm x=>min m (f x)) m<=m)/\(∀x∈l,l.foldl (λm x=>min m (f x)) m<=f x)/\ ∀t,t<=m->(∀x∈l,t<=f x)->t<=l.foldl (λm x=>min m (f x)) m
 | [],m=>⟨auK _,λx a=>(by cases a),λt b _=>b⟩
 |c::l,m=>by
  obtain⟨h,d,e⟩:=oK (f:=f) l (min m (f c));simp only[avZ];refine⟨by omega,λx a=> ?_,λt i a=>e t (by grind) (λx g=>a x (au7 _ g))⟩;rcases auX.1 a with rfl|a
  ·omega
  ·exact d x a
section
variable{P:Sm.Pg}{T:eD}{F:List (Option Int)}{A:Env}{d:Nd}{u:US}{Pr:Nat->US->List Int->List Int->US->Prop}{aD:Nat->US}{ap:List Sm.It}
theorem Ch{π:Path}{j:Nat}{q:aB}{p:Nat}{rs:Rs}(h:kX T F A d u π j=some (q,p,rs)):Sm.aK.ek (aN T F A d u Pr aD ap) π j=xG A q:=by
 show(match kX T F A d u π j with|some (q,_,_)=>xG A q|none=>0)=_;rw[h]
theorem Ni{π:Path}{j:Nat}{q:aB}{p:Nat}{rs:Rs}(h:kX T F A d u π j=some (q,p,rs)):Sm.aK.ev (aN T F A d u Pr aD ap) π j=Mz T A rs p q:=by
 show(match kX T F A d u π j with|some (q,p,rs)=>Mz T A rs p q|none=>0)=_;rw[h]
theorem HV{π:Path}{j:Nat}{q:aB}{p:Nat}{rs:Rs}(h:kX T F A d u π j=some (q,p,rs)):Sm.aK.ew (aN T F A d u Pr aD ap) π j=uQ T A rs p q:=by
 show(match kX T F A d u π j with|some (q,p,rs)=>uQ T A rs p q|none=>[])=_;rw[h]
theorem sJ{q:aB}(a:dB q=3\/dB q=4\/dB q=5):xG A q=(dQ q).foldl (λm x=>min m (jm A x)) A.length:=by cases q<;>simp[dB]at a<;>rfl
theorem GR(X:bJ P T F A d u Pr aD){π:Path}{b:bj}{s:Nat}{rs:Rs}(f:dD T F A d u π=some (b,s,rs)){j:Nat}{q:aB}{p:Nat}(g:(cT b)[j]?=some q)(h:(kI b s)[j]?=some p){x:Nm}(a:x∈dQ q):xG A q<=jm A x:=by
 obtain⟨o,i,y,z,B,C⟩:=fZ X.hL X.hU X.hS f;obtain⟨k,_⟩:=(pv i).2.2.1 j q p g h;cases q with
 |df c e=>have:x=c:=eE.1 a;subst this;exact auK _
 |call c r t v b I e=>
  obtain⟨_,_,_,D,w,E,G,H,_,l,m,_⟩:=k;rcases(eE.1 a)with rfl|rfl
  ·exact auK _
  ·show jm A c<=_;unfold jm;rw[l,m];exact auK _
 |sw e n=>rw[sJ (by simp[dB])];exact(oK _ _).2.1 x a
 |aP n=>rw[sJ (by simp[dB])];exact(oK _ _).2.1 x a
 |reset e b=>rw[sJ (by simp[dB])];exact(oK _ _).2.1 x a
theorem yH(X:bJ P T F A d u Pr aD){π:Path}{b:bj}{s:Nat}{rs:Rs}(a:dD T F A d u π=some (b,s,rs)){j:Nat}{q:aB}(c:(cT b)[j]?=some q){x:Nm}(e:x∈dQ q):jH T F A d u π x:=by
 obtain⟨i,k,f,l,g,m⟩:=fZ X.hL X.hU X.hS a;cases f with
 |mk n o p h r=>exact(g x).1 (h q (auQ c) x e)
theorem u5(X:bJ P T F A d u Pr aD){π:Path}{b:bj}{s:Nat}{rs:Rs}(a:dD T F A d u π=some (b,s,rs)){i j:Nat}{q q':aB}(c:(cT b)[i]?=some q)(e:(cT b)[j]?=some q'){x:Nm}(f:x∈dQ q)(g:x∈dQ q'):i=j:=by
 obtain⟨l,m,h,n,o,p⟩:=fZ X.hL X.hU X.hS a;cases h with
 |mk r t k v w=>exact k i j q q' x c e f g
theorem AD(X:bJ P T F A d u Pr aD){j:Nat}{π:Path}{b:bj}{s:Nat}{rs:Rs}(a:dD T F A d u (j::π)=some (b,s,rs)): ∀v∈dw b,¬jH T F A d u π v.name:=by
 obtain⟨h,i,c,k,l,e⟩:=fZ X.hL X.hU X.hS a;cases c with
 |mk m f n o p=>intro v g;rw[<-e];exact f v g
theorem l9{π:Path}{b:bj}{s:Nat}{rs:Rs}(a:dD T F A d u π=some (b,s,rs)){j:Nat}{q:aB}(c:(cT b)[j]?=some q):(Sm.aK.fr (aN T F A d u Pr aD ap) π).au[j]?=some (dE q):=by
 show(fj T F A d u π).au[j]?=_;rw[(qz a).1,iG,au6,c];rfl
theorem K_(X:bJ P T F A d u Pr aD){π:Path}{b:bj}{s:Nat}{rs:Rs}(a:dD T F A d u π=some (b,s,rs)){x:Nm}(h:jH T F A d u π x)(i:T.ls x=true):rs.rd (T.lp x)=Sm.aK.rd (aN T F A d u Pr aD ap) (T.lp x):=by
 obtain⟨j,k,v,c⟩:=rH X (ap:=ap) a h;have f:=c.fx X a;have g:=(f.lp (by rw[<-f.ls,c.n];exact i)).1;rw[c.n]at g;obtain⟨τ,e⟩:=c.s;exact(wU X a e (Sm.lj X.sp X.wf X.lP (Sm.pd X.lP (τ:=τ) (by rw[<-e];exact iy a)) g).1).1
theorem Jq{V:Nm->Prop}{rs:Rs}{p:Nat}{q:aB}(h:Ap T F A Pr aD V rs p q)(g:dB q=3\/dB q=4\/dB q=5): ∃a,(cD q)[fQ T A rs p q]?=some a/\Ao T A rs q a:=by
 cases q with
 |df i e=>simp[dB]at g
 |call i k l a b n e=>simp[dB]at g
 |sw e j=>obtain⟨f,a,_,_,_,d,_,_,c⟩:=h;exact⟨a,d,c⟩
 |aP j=>obtain⟨f,a,m,_,_,_,_,_,d,_,c⟩:=h;exact⟨a,d,c⟩
 |reset e b=>obtain⟨f,_,_,_,c⟩:=h;exact⟨_,W,c⟩
def Nj(T:eD)(F:List (Option Int))(A:Env)(d:Nd)(u:US)(c:Sm.aK)(π:Path)(x:Nm):Option (Path×Nat)->Prop
 |none=>T.ls x=true/\ ∃i,get A x=some (some (c.rd (T.lp x)),i,i)
 |some (PC,j')=>(∃τ,PC=τ++π)/\ ∃b s rs q' p',dD T F A d u PC=some (b,s,rs)/\(cT b)[j']?=some q'/\(kI b s)[j']?=some p'/\(dB q'=1\/dB q'=2)/\x∈dQ q'
theorem CR(X:bJ P T F A d u Pr aD){V:Nm->Prop}{rs:Rs}{s:Nat}{b:bj}(h:s6 T F A Pr aD V rs s b): ∀{π:Path},dD T F A d u π=some (b,s,rs)-> ∀{j:Nat} {q:aB} {p:Nat} {x:Nm},(cT b)[j]?=some q->(kI b s)[j]?=some p->x∈dQ q->
  ∃l,Sm.Src (aN T F A d u Pr aD ap) (jm A x) π j x l/\Nj T F A d u (aN T F A d u Pr aD ap) π x l:=by
 induction h with
 | @mk V rs s b G hl Q hb R=>
  intro π f j q p x c g n;have S:=wS f c g;have r:Sm.aK.ek (aN T F A d u Pr aD ap) π j<=jm A x:=by rw[Ch S];exact GR X f c g n
  have D:=l9 (Pr:=Pr) (aD:=aD) (ap:=ap) f c;by_cases t:dB q=1\/dB q=2
  ·exact⟨some (π,j),.leaf D (by rw[fh];exact t) r,⟨[],W⟩,b,s,rs,q,p,f,c,g,t,n⟩
  ·have w:dB q=3\/dB q=4\/dB q=5:=by cases q<;>simp[dB]at t⊢
   obtain⟨U,_⟩:=Q j q p c g;obtain⟨E,H,Y⟩:=Jq U w;have i:=yG f c g H;have N:=yH X f c n;by_cases y:x∈dA E
   ·obtain⟨⟨I,z,m⟩,PU⟩:=nQ.1 y;obtain⟨j',o⟩:=ave.1 z;obtain⟨p',Z⟩:=nU (s:=oI q p (fQ T A rs p q)) o;obtain⟨l,h1,J⟩:=R j q p E c g H i o Z m;refine⟨l,.bA D (by rw[fh];exact w) r (l9 i o) m (λk qi K R5 Yp=> ?_) h1,?_⟩
    ·obtain⟨b1,s1,UJ,L,p1,a,B,f3,rfl,f5,f6⟩:=kY (show(fj T F A d u (j::π)).au[k]?=some qi from R5);rw[i]at a;injection a with a
     have C:=(avV a).1;subst C;have:=u5 X i B o Yp m;omega
    ·cases l with
     |none=>exact J
     |some ac=>
      obtain⟨⟨O,e⟩,h3⟩:=J;exact⟨⟨O++ [j],by rw[e];simp⟩,h3⟩
   ·refine⟨none,.last D (by rw[fh];exact w) r (λI z m=> ?_),?_⟩
    ·obtain⟨k,K⟩:=ave.1 z;obtain⟨b1,s1,UJ,L,p1,a,B,f3,rfl,f5,f6⟩:=kY (show(fj T F A d u (j::π)).au[k]?=some I from K);rw[i]at a;injection a with a
     have C:=(avV a).1;subst C;refine y (nQ.2 ⟨⟨L,auQ B,m⟩,λv G e=> ?_⟩);exact AD X i v G (by rw[e];exact N)
    ·obtain⟨M,k,l2⟩:=Y x n y;exact⟨M,k,by rw[l2,K_ X f N M]⟩
theorem HW(X:bJ P T F A d u Pr aD){π:Path}{b:bj}{s:Nat}{rs:Rs}(a:dD T F A d u π=some (b,s,rs)){j:Nat}{q:aB}{x:Nm}(c:(cT b)[j]?=some q)(f:x∈dQ q): ∃e,Sm.Src (aN T F A d u Pr aD ap) (jm A x) π j x e/\Nj T F A d u (aN T F A d u Pr aD ap) π x e:=by
 obtain⟨i,g,_⟩:=fZ X.hL X.hU X.hS a;obtain⟨k,h⟩:=nU (s:=s) c;exact CR X g a c h f
theorem AE(X:bJ P T F A d u Pr aD){π:Path}{b:bj}{s:Nat}{rs:Rs}(a:dD T F A d u π=some (b,s,rs)){k:Nat}{v:Va}(h:(qf T F A d u π)[k]?=some v){j:Nat}{q:aB}(e:(cT b)[j]?=some q)(f:v.name∈dQ q):Sm.gR (Sm.aK.fr (aN T F A d u Pr aD ap) π) k (ey v) j:=by
 refine⟨(pF X a h).ix,⟨dE q,l9 a e,f⟩,λg i p l m=> ?_⟩;obtain⟨r,t,w,x,y,c,n,z,rfl,B,C⟩:=kY (show(fj T F A d u π).au[g]?=some i from l);rw[a]at c;injection c with c
 have o:=(avV c).1;subst o;have:=u5 X a e n f m;omega
theorem OO(X:bJ P T F A d u Pr aD){π:Path}{b:bj}{s:Nat}{rs:Rs}(f:dD T F A d u π=some (b,s,rs)){k:Nat}{v:Va}(a:(qf T F A d u π)[k]?=some v)(hi:π= []->d.ins.length<=k): ∃(j:Nat) (q:aB),(cT b)[j]?=some q/\v.name∈dQ q:=by
 obtain⟨n,o,h,p,r,t⟩:=fZ X.hL X.hU X.hS f;have i: ∃q∈cT b,v.name∈dQ q:=by
  rw[lZ f]at a;cases h with
  |mk w x y z B g=>
  by_cases e:π= []
  ·rw[au2 e]at a;have:=hi e;subst e;obtain⟨rfl,_⟩:=rI f;rw[avh,auR this]at a;rcases auS.1 (auQ a)with c|c
   ·exact X.od v c
   ·exact g v c
  ·grind
 obtain⟨q,l,g⟩:=i;obtain⟨j,m⟩:=ave.1 l;exact⟨j,q,m,g⟩
end
structure N4(P:Sm.Pg)(step:US->List Int->List Int->US->Prop)(Pr:Nat->US->List Int->List Int->US->Prop)(aD:Nat->US):Prop where
 st: ∀j u i o u',Pr j u i o u'->step u i o u'/\Sm.cZ P.nodes (nm 102 j)=some j
 aD: ∀j,aD j=US.init P j
section
variable{P:Sm.Pg}{T:eD}{F:List (Option Int)}{A:Env}{d:Nd}{u:US}{Pr:Nat->US->List Int->List Int->US->Prop}{aD:Nat->US}{ap:List Sm.It}{step:US->List Int->List Int->US->Prop}
theorem AF(X:bJ P T F A d u Pr aD){π:Path}{b:bj}{s:Nat}{rs:Rs}(h:dD T F A d u π=some (b,s,rs)){x:Nm}(i:jH T F A d u π x){q:Sm.aB}{l:List Nm}(j:q.lhs=x::l)(k:q.kd=1\/q.kd=2):Sm.aK.jg (aN T F A d u Pr aD ap) π q↔(s7 A x).isSome=true:=by
 obtain⟨f,g,v,c⟩:=rH X (ap:=ap) h i;have m:=c.get.2.2.1;unfold Sm.aK.jg;rw[j];constructor
 ·intro e;obtain⟨o,a,n⟩:=e k;rw[c.f]at a;injection a with a
  subst a;rw[<-m];exact n
 ·intro e _;exact⟨(f,g),c.f,by grind⟩
theorem Du(X:bJ P T F A d u Pr aD){π:Path}{b:bj}{s:Nat}{rs:Rs}(f:dD T F A d u π=some (b,s,rs)){r:Nat} : ∀(l:List Tr),(∀w∈l,fb T A (jH T F A d u π) (A.length+1) r w.e/\xE w.e=0/\ej T A rs.rd w.e 0= [])->Sm.pU cU (aN T F A d u Pr aD ap) π r (l.map vM) ((jv T A rs.rd l).map vM)
 | [],_=> .nil
 |w::l,e=>by
  obtain⟨g,k,h⟩:=e w (avj ..);have a:=vS X (ap:=ap) f (p:=0) g (λj _ m=>by omega);rw[h]at a;simp only[avm,jv];by_cases c:cG T A rs.rd w.e 0=0
  ·rw[auU (by grind)];rw[c]at a;exact .no a (Du X f l (λw i=>e w (au7 _ i)))
  ·rw[au2 c];exact .ym a c
theorem La(X:bJ P T F A d u Pr aD){π:Path}{b:bj}{s:Nat}{rs:Rs}(a:dD T F A d u π=some (b,s,rs)){j:Nat}{q:aB}{p:Nat}(c:(cT b)[j]?=some q)(e:(kI b s)[j]?=some p){k:Nat}(f:p<=k)(g:k<p+(Sm.h_ (dB q)+Sm.xP (dE q).ex+Sm.aS ((dE q).args.map Sm.xP))):Sm.mJ (aN T F A d u Pr aD ap) (cC d) π k:=
 Sm.qx X.sp X.wf X.lP (iy a) (l9 a c) (show(fj T F A d u π).pos[j]?=some p by rw[(qz a).2];exact e) f (by rw[fh];exact g)
theorem HX(X:bJ P T F A d u Pr aD){π:Path}{k:Nat}(h:Sm.mJ (aN T F A d u Pr aD ap) (cC d) π k)(a:Sm.aK.ok (aN T F A d u Pr aD ap) π):k<Sm.aK.sz (aN T F A d u Pr aD ap):=Ds X a h.1
theorem mz{x:Nm}{o:Option Int}{sb i:Nat}(h:get A x=some (o,sb,i)):jm A x=sb/\Bl A x=i/\s7 A x=o:=by unfold jm Bl s7;rw[h];exact⟨W,W,W⟩
theorem sL{x:Nm}{o:Int}{sb i:Nat}(h:get A x=some (some o,sb,i)):val A x=o:=by unfold val;rw[h]
theorem ME{V:Nm->Prop}{rs:Rs}{p:Nat}{q:aB}(h:Ap T F A Pr aD V rs p q):xG A q<=A.length:=by
 cases q with
 |df c e=>
  obtain⟨_,⟨d,a,_⟩|⟨d,a⟩⟩:=h
  ·have:=uO a;show jm A c<=_;rw[(mz a).1];omega
  ·have:=uO a;show jm A c<=_;rw[(mz a).1];omega
 |call c i j k b r e=>
  obtain⟨_,_,_,l,d,m,n,o,_,f,_⟩:=h;have:=uO f;show jm A c<=_;rw[(mz f).1];omega
 |sw e g=>rw[sJ (by simp[dB])];exact(oK _ _).1
 |aP g=>rw[sJ (by simp[dB])];exact(oK _ _).1
 |reset e b=>rw[sJ (by simp[dB])];exact(oK _ _).1
theorem GU{V:Nm->Prop}{t:Nat}{q:aB}{e:E}(h:fb T A V (A.length+1) t e)(b:dB q=3\/dB q=4\/dB q=5)(ht:t<=A.length)(c: ∀a∈dQ q,V a/\t<=jm A a):fb T A V (A.length+1) (xG A q) e:=by
 have d:t<=xG A q:=by rw[sJ b];exact(oK _ _).2.2 t ht (λa f=>(c a f).2)
 have:=fb.app [] h (auK _) d;rw[avg]at this;exact this
theorem Lb(L:N4 P step Pr aD){V:Nm->Prop}{rs:Rs}{p:Nat}{x y f:Nm}{a b e:E}{c:Bool}(h:Ap T F A Pr aD V rs p (.call x y f a b c e)): ∃j,f=nm 102 j/\Sm.cZ P.nodes f=some j/\Pr j ((if c=true/\cG T A rs.rd e (p+1)≠0 then none else rs.rs p).getD (aD j)) [cG T A rs.rd a (p+1+xE e),cG T A rs.rd b (p+1+xE e+xE a)] [val A x,val A y] (yj T A Pr aD rs p (.call x y f a b c e))/\ ∀u,rs.rs p=some u->u.i=j:=by
 obtain⟨_,_,_,j,t,v,w,d,g,m,n,_,_,_,k,o⟩:=h;have q:HS T A Pr aD rs p (.call x y f a b c e) d:=by
  refine⟨j,g,?_⟩;rw[sL m,sL n];exact k
 have i: ∃d,HS T A Pr aD rs p (.call x y f a b c e) d:=⟨d,q⟩;have z:yj T A Pr aD rs p (.call x y f a b c e)=Classical.choose i:=by unfold yj;rw[axq i]
 obtain⟨r,l,B⟩:=awl i;have s:j=r:=by rw[g]at l;exact(iX l).2
 subst s;exact⟨j,g,by rw[g];exact(L.st _ _ _ _ _ k).2,by grind,o⟩
theorem AG{π:Path}{j:Nat}{q:aB}{p:Nat}{rs:Rs}(h:kX T F A d u π j=some (q,p,rs)):Sm.aK.outs (aN T F A d u Pr aD ap) π j=HR A q/\Sm.aK.iP (aN T F A d u Pr aD ap) π j=yj T A Pr aD rs p q/\Sm.aK.lg (aN T F A d u Pr aD ap) π j=EV T F A rs p q/\Sm.aK.nan (aN T F A d u Pr aD ap) π j=MA T F A rs p q:=by
 refine⟨?_,?_,?_,?_⟩
 ·show(match kX T F A d u π j with|some (q,p,rs)=>HR A q|none=>[])=_;rw[h]
 ·show(match kX T F A d u π j with|some (q,p,rs)=>yj T A Pr aD rs p q|none=>aD 0)=_;rw[h]
 ·show(match kX T F A d u π j with|some (q,p,rs)=>EV T F A rs p q|none=>0)=_;rw[h]
 ·show(match kX T F A d u π j with|some (q,p,rs)=>MA T F A rs p q|none=>false)=_;rw[h]
def wQ:aB->Nat
 | .df _ e=>xE e
 | .call _ _ _ a b _ e=>1+xE e+(xE a+xE b)
 | .sw e _=>xE e
 | .aP _=>1
 | .reset e _=>xE e
theorem GW(q:aB):Sm.h_ (dB q)+Sm.xP (dE q).ex+Sm.aS ((dE q).args.map Sm.xP)=wQ q:=by
 cases q with
 |df a e=>show 0+xE e+0=xE e;omega
 |call a f g c b h e=>show 1+xE e+(xE c+(xE b+0))=_;rfl
 |sw e d=>show 0+xE e+0=xE e;omega
 |aP d=>rfl
 |reset e b=>show 0+xE e+0=xE e;omega
theorem Pk(X:bJ P T F A d u Pr aD)(L:N4 P step Pr aD){π:Path}{b:bj}{s:Nat}{rs:Rs}(l:dD T F A d u π=some (b,s,rs)){j:Nat}{q:aB}{p:Nat}(H:(cT b)[j]?=some q)(I:(kI b s)[j]?=some p):Sm.F9 P step (aN T F A d u Pr aD ap) π j (dE q) p/\Sm.aK.ek (aN T F A d u Pr aD ap) π j<Sm.aK.eh (aN T F A d u Pr aD ap):=by
 obtain⟨qr,g1,g2,g3,g4,g5⟩:=fZ X.hL X.hU X.hS l;obtain⟨o,_⟩:=(pv g1).2.2.1 j q p H I;rw[funext λv=>propext (g4 v)]at o;have x:=wS l H I;have y:=Ch (Pr:=Pr) (aD:=aD) (ap:=ap) x;have w:=Ni (Pr:=Pr) (aD:=aD) (ap:=ap) x;have J:=HV (Pr:=Pr) (aD:=aD) (ap:=ap) x;have Q:=vR (Pr:=Pr) (aD:=aD) (ap:=ap) x;have ah:=HT (Pr:=Pr) (aD:=aD) (ap:=ap) x;have PG:Sm.aK.ok (aN T F A d u Pr aD ap) π:=iy l;have K: ∀f,p<=f->f<p+wQ q->Sm.mJ (aN T F A d u Pr aD ap) (cC d) π f:= λf g i=>La X l H I g (by rw[GW];exact i)
 have co:dB q=3\/dB q=4\/dB q=5-> ∀c,(cD q)[fQ T A rs p q]?=some c->Sm.pV (aN T F A d u Pr aD ap) π j (dE q) p (pj c):= λhk c ha=>by
  obtain⟨a',Uo⟩:=(X.lP (ap:=ap)).bA π j (dE q) p PG (l9 (Pr:=Pr) (aD:=aD) (ap:=ap) l H) (by show(fj T F A d u π).pos[j]?=some p;rw[(qz l).2];exact I) (by rw[fh];exact hk);have g:=Uo.ha;rw[Q,nS,au6,ha]at g;injection g with g
  rw[g];exact Uo
 refine⟨?_,by rw[y];have:=ME o;show _<A.length+1;omega⟩;rw[show P=P from rfl];have r:=X.en;cases q with
 |df v e=>
  refine .df W v W λz=> ?_
  rw[y,w,J,r];have hs:=(AF X l o.1 W (.inl W)).1 z;obtain⟨_,⟨n,g,i⟩|⟨n,g⟩⟩:=o
  ·have:xG A (.df v e)=n:=(mz g).1;rw[this];exact vS X l i (λf g i=>K f g i)
  ·rw[(mz g).2.2]at hs;cases hs
 |call v d9 f9 c b E e=>
  obtain⟨jj,hf,hn,Qp,UK⟩:=Lb L o;obtain⟨hx,hy,rg,j',n,ox,oy,u',QO,k1,k2,s1,s2,s3,_,_⟩:=o;have U: ∀f,p<=f->f<p+(1+xE e+(xE c+xE b))->Sm.mJ (aN T F A d u Pr aD ap) (cC d) π f:= λf g i=>K f g i
  have M:=U p (auK _) (by omega);have gc:=(wU X l (τ:=[]) W M).2.2;have ge:xG A (.call v d9 f9 c b E e)=n:=(mz k1).1;obtain⟨i6,mt,_⟩:=AG (Pr:=Pr) (aD:=aD) (ap:=ap) x;refine .call W (HX X M PG) jj hn (if E then ej T A rs.rd e (p+1)else []) (ej T A rs.rd c (p+1+xE e)++(ej T A rs.rd b (p+1+xE e+xE c)++ [])) [cG T A rs.rd c (p+1+xE e),cG T A rs.rd b (p+1+xE e+xE c)] (λ_=> ?_) (λ_=> ?_) (by rw[J];rfl) (λ_=> ?_) (λ_ u hu=>UK u (by rw[gc];exact hu)) (λ_=>by rw[i6];exact auK 2)
  ·rw[y,w,r,ge];cases E with
   |false=>exact⟨W,W⟩
   |true=>exact vS X l (s1 W) (λf g i=>U f (by omega) (by omega))
  ·rw[y,r,ge];show Sm.uY cU (aN T F A d u Pr aD ap) π n [cA c,cA b] (p+1+xE e) _ _;refine .cons (vS X l s2 (λf g i=>U f (by omega) (by omega))) (.cons ?_ .nil);show Sm.gP cU (aN T F A d u Pr aD ap) π n (cA b) (p+1+xE e+xE c) _ _;exact vS X l s3 (λf g i=>U f (by omega) (by omega))
  ·rw[w,i6,mt,<-gc,<-L.aD jj];have B:(if Mz T A rs p (.call v d9 f9 c b E e)=0 then rs.rs p else none)=(if E=true/\cG T A rs.rd e (p+1)≠0 then none else rs.rs p):=by
    show(if(if E then cG T A rs.rd e (p+1)else 0)=0 then _ else _)=_;cases E with
    |false=>simp
    |true=>
     simp only[awr];by_cases N:cG T A rs.rd e (p+1)=0
     ·rw[au2 N,auU (by simpa using N)]
     ·rw[auU N,au2 ⟨trivial,N⟩]
   rw[B];exact(L.st _ _ _ _ _ Qp).1
 |sw e a=>
  obtain⟨k,c,z,g,i,R,C,S,h6⟩:=o;refine .sw W ?_ (pj c) (co (.inl W) c R) ?_ (λn b hi D=> ?_) ah
  ·rw[y,w,J,r];exact vS X l (GU g (.inl W) z i) (λf g i=>K f g i)
  ·rw[w,r];have:(pj c).name=kD c:=by cases c;rfl
   rw[this];exact C
  ·rw[Q]at hi;rw[nS,au6]at D;cases R2:(cD (.sw e a))[n]? with
   |none=>rw[R2]at D;cases D
   |some G=>
    rw[R2]at D;injection D with D
    subst D;rw[w,r];have:(pj G).name=kD G:=by cases G;rfl
    rw[this];exact S n G hi R2
 |aP a=>
  obtain⟨k,c,m,z,N,g,i,R,C,S,h6⟩:=o;have M:=K p (auK _) (by show p<p+1;omega);obtain⟨r1,r2,r3⟩:=wU X l (τ:=[]) W M;have i7:((a[(rs.rd p).toNat]?).map jY).getD []=jY m:=by rw[g];rfl
  have hK:fQ T A rs p (.aP a)=match jv T A rs.rd (jY m)with|none=>(rs.rd p).toNat|some k=>sH a k.to:=by
   show(match jv T A rs.rd (((a[(rs.rd p).toNat]?).map jY).getD [])with|none=>(rs.rd p).toNat|some k=>sH a k.to)=_;rw[i7]
  have hN:Bj T A rs p (.aP a)=match jv T A rs.rd (jY m)with|none=>rs.rp p|some k=> !k.fV:=by
   show(match jv T A rs.rd (((a[(rs.rd p).toNat]?).map jY).getD [])with|none=>rs.rp p|some k=> !k.fV)=_;rw[i7]
  have Vm:=yG l H I (show(cD (.aP a))[fQ T A rs p (.aP a)]?=some c from C);have RY:(pj m).fG=(jY m).map vM:=by cases m;rfl
  have pm:(pj c).fH=(lu c).map vM:=by cases c;rfl
  have d6:(dE (.aP a)).aj=eZ a:=rfl;obtain⟨_,_,V,Y⟩:=AG (Pr:=Pr) (aD:=aD) (ap:=ap) x;have S':wR T F A rs p (.aP a)=jv T A (pk T F A rs p (.aP a) c).rd (lu c):=by
   show(match a[fQ T A rs p (.aP a)]? with|some c=>jv T A (pk T F A rs p (.aP a) c).rd (lu c)|none=>none)=_;rw[C]
  have i8:Sm.pU P.aJ (aN T F A d u Pr aD ap) π (Sm.aK.ek (aN T F A d u Pr aD ap) π j) (pj m).fG ((jv T A rs.rd (jY m)).map vM):=by
   rw[RY,y,r];exact Du X l _ (λh t=>⟨GU (i h t).1 (.inr (.inl W)) z R,(i h t).2.1,(i h t).2.2.1⟩)
  have Qg: ∀h,jv T A rs.rd (jY m)=some h-> ∃f,Sm.nH (eZ a) h.to=some f/\f=sH a h.to:= λh t=>(i h (ul t)).2.2.2
  have P': ∀h,jv T A (pk T F A rs p (.aP a) c).rd (lu c)=some h-> ∃f,Sm.nH (eZ a) h.to=some f/\f=sH a h.to:= λh t=>(S h (ul t)).2.2.2
  have i9:Sm.pU P.aJ (aN T F A d u Pr aD ap) (j::π) (Sm.aK.eh (aN T F A d u Pr aD ap)) (pj c).fH ((jv T A (pk T F A rs p (.aP a) c).rd (lu c)).map vM):=by
   rw[pm,r];refine Du X Vm _ (λh t=> ?_);obtain⟨w1,w2,w3,_⟩:=S h t;refine⟨fb.tc (λv hx=> ?_) w1,w2,w3⟩;unfold jH;rcases hx with Z|Z
   ·exact .inl Z
   ·exact .inr ⟨_,_,_,Vm,Z⟩
  have hl:fQ T A rs p (.aP a)<a.length:=by
   rcases auM (fQ T A rs p (.aP a)) a.length with ac|ac
   ·exact ac
   ·rw[auP ac]at C;cases C
  have B:EV T F A rs p (.aP a)=match jv T A (pk T F A rs p (.aP a) c).rd (lu c)with|none=>fQ T A rs p (.aP a)|some k=>sH a k.to:=by
   show(match wR T F A rs p (.aP a)with|none=>(if fQ T A rs p (.aP a)<a.length then fQ T A rs p (.aP a)else 0)|some k=>sH a k.to)=_;rw[S',au2 hl]
  have O:MA T F A rs p (.aP a)=match jv T A (pk T F A rs p (.aP a) c).rd (lu c)with|none=>false|some k=> !k.fV:=by
   show(match wR T F A rs p (.aP a)with|none=>_|some k=>_)=_;rw[S']
  rw[B]at V;rw[O]at Y;have d7:=Q.trans hK;have d8:=ah.trans hN;generalize jv T A (pk T F A rs p (.aP a) c).rd (lu c)=o1 at i9 P' V Y;generalize jv T A rs.rd (jY m)=o0 at i8 Qg d7 d8;refine .aP W (HX X M PG) (rs.rd p).toNat (pj m) (by rw[<-r1];omega) ?_ (o0.map vM) i8 ?_ (pj c) (co (.inr (.inl W)) c C) (o1.map vM) i9 ?_ J
  ·rw[d6,pE,au6,g];rfl
  ·cases o0 with
   |none=>exact⟨d7,by rw[d8,<-r2]⟩
   |some h=>
    obtain⟨f,B,O⟩:=Qg h W;refine⟨?_,d8⟩;rw[d6,d7];show Sm.nH (eZ a) h.to=_;rw[B,O]
  ·cases o1 with
   |none=>exact⟨by rw[V,Q],Y⟩
   |some h=>
    obtain⟨f,B,O⟩:=P' h W;refine⟨?_,Y⟩;rw[d6,V];show Sm.nH (eZ a) h.to=_;rw[B,O]
 |reset e G=>
  obtain⟨k,z,g,i,R⟩:=o;refine .reset W ?_ (pj (.mk e0 G [] [])) (co (.inr (.inr W)) _ W) Q ?_
  ·rw[y,w,J,r];exact vS X l (GU g (.inr (.inr W)) z i) (λf g i=>K f g i)
  ·rw[ah,w];rfl
end
section
variable{P:Sm.Pg}{T:eD}{F:List (Option Int)}{A:Env}{d:Nd}{u:US}{Pr:Nat->US->List Int->List Int->US->Prop}{aD:Nat->US}{ap:List Sm.It}{step:US->List Int->List Int->US->Prop}
theorem AH{π:Path}{b:bj}{s:Nat}{rs:Rs}(c:dD T F A d u π=some (b,s,rs)){k:Nat}{v:Va}(a:(qf T F A d u π)[k]?=some v):jH T F A d u π v.name:=by
 rw[lZ c]at a;cases π with
 |nil=>
  obtain⟨rfl,_⟩:=rI c;unfold jH;exact⟨v,auQ a,W⟩
 |cons e π=>
  rw[auU (by simp)]at a;unfold jH;exact .inr ⟨b,s,rs,c,v,auQ a,W⟩
theorem Lc(X:bJ P T F A d u Pr aD){ρ:Path}{x:Nm}(G:jH T F A d u ρ x){y:Option (Path×Nat)} : ∀{τ:Path} {b:bj} {s:Nat} {rs:Rs},dD T F A d u (τ++ρ)=some (b,s,rs)-> ∀{j:Nat} {q:aB},(cT b)[j]?=some q->x∈dQ q->Sm.Src (aN T F A d u Pr aD ap) (jm A x) (τ++ρ) j x y->
  ∃l z B C q0,dD T F A d u ρ=some (l,z,B)/\(cT l)[C]?=some q0/\x∈dQ q0/\Sm.Src (aN T F A d u Pr aD ap) (jm A x) ρ C x y:=by
 intro τ
 induction τ with
 |nil=>intro b s rs m j q a c n;exact⟨b,s,rs,j,q,m,a,c,n⟩
 |cons w τ H=>
  intro b s rs m j q a c n;have f:dD T F A d u (w::(τ++ρ))=some (b,s,rs):=m;obtain⟨l,z,B,q0,Y,g,o,p,I,h,J,K⟩:=lm f;have i:=(avV J).1;have r:=Ay h;have t:=nQ.2 ⟨⟨q,i▸auQ a,c⟩,λv L e=>AD X f v (i▸L) (by rw[e];exact Dt X G τ)⟩;have D:x∈dQ q0:=by
   rw[eE];cases q0 with
   |df E e=>simp[dB]at r
   |call E U V g b ac e=>simp[dB]at r
   |sw e M=>exact⟨g,auQ h,t⟩
   |aP M=>exact⟨g,auQ h,t⟩
   |reset e b=>exact⟨g,auQ h,t⟩
  refine H o p D (.bA (l9 o p) (by rw[fh];exact r) ?_ (l9 f a) c (λN O Z Q R=> ?_) n)
  ·rw[Ch K];exact GR X o p I D
  ·obtain⟨b1,s1,UJ,q1,p1,k,S,f3,rfl,f5,f6⟩:=kY (show(fj T F A d u (w::(τ++ρ))).au[N]?=some O from Q);rw[f]at k;injection k with k
   have i:=(avV k).1;subst i;have:=u5 X f S a R c;omega
theorem MF(X:bJ P T F A d u Pr aD){π:Path}{b:bj}{s:Nat}{rs:Rs}(c:dD T F A d u π=some (b,s,rs)){j:Nat}{q:aB}{x:Nm}(f:(cT b)[j]?=some q)(g:x∈dQ q){k:Nat}{v:Va}{ρ:Path}(hf:EX T F A d u (aN T F A d u Pr aD ap) π x ρ k v):ρ= []->d.ins.length<=k:=by
 intro e;subst e;rcases auM k d.ins.length with a|a
 ·exfalso;obtain⟨τ,e⟩:=hf.s;obtain⟨t,w,G,m⟩:=AA X c ⟨τ,e⟩;have h:=AH m hf.vv;rw[hf.n]at h;obtain⟨y,n,_⟩:=HW X (ap:=ap) c f g;obtain⟨z,B,C,D,o,i,p,r,E⟩:=Lc X (τ:=τ) h (by rw[<-e];exact c) f g (by rw[<-e];exact n);obtain⟨rfl,_⟩:=rI i;have l:=hf.vv;rw[lZ i,au2 W,avh,auL a]at l;exact X.ni v (auQ l) o (auQ p) (by rw[hf.n];exact r)
 ·exact a
theorem yI(X:bJ P T F A d u Pr aD){π:Path}{b:bj}{s:Nat}{rs:Rs}(c:dD T F A d u π=some (b,s,rs)){j:Nat}{q:aB}{x:Nm}(f:(cT b)[j]?=some q)(m:dB q=1\/dB q=2)(g:x∈dQ q):
  ∃ρ k v,EX T F A d u (aN T F A d u Pr aD ap) π x ρ k v/\ ∃h,Sm.gR (Sm.aK.fr (aN T F A d u Pr aD ap) ρ) k (ey v) h/\(Sm.aK.fr (aN T F A d u Pr aD ap) ρ).vars[k]?=some (ey v)/\Sm.Src (aN T F A d u Pr aD ap) (Sm.aK.sb (aN T F A d u Pr aD ap) ρ k) ρ h x (some (π,j))/\(ρ= []->d.ins.length<=k):=by
 obtain⟨y,i⟩:=nU (s:=s) f;obtain⟨ρ,k,v,a⟩:=rH X (ap:=ap) c (yH X c f g);refine⟨ρ,k,v,a,?_⟩;obtain⟨τ,e⟩:=a.s;obtain⟨z,B,H,n⟩:=AA X c ⟨τ,e⟩;have l:=AH n a.vv;rw[a.n]at l;have o:Sm.Src (aN T F A d u Pr aD ap) (jm A x) π j x (some (π,j)):= .leaf (l9 c f) (by rw[fh];exact m) (by rw[Ch (wS c f i)];exact GR X c f i g);obtain⟨C,D,E,h,G,p,r,t,w⟩:=Lc X (τ:=τ) l (by rw[<-e];exact c) f g (by rw[<-e];exact o);refine⟨h,AE X p a.vv r (by rw[a.n];exact t),?_,?_,MF X c f g a⟩
 ·show(fj T F A d u ρ).vars[k]?=_;rw[oJ,au6,a.vv];rfl
 ·rw[a.get.2.2.2];exact w
theorem N5(X:bJ P T F A d u Pr aD){π:Path}{b:bj}{s:Nat}{rs:Rs}(c:dD T F A d u π=some (b,s,rs)){k:Nat}{v:Va}(m:(qf T F A d u π)[k]?=some v){L:Option Nat}(Qc:(Sm.aK.fr (aN T F A d u Pr aD ap) π).cO[k]?=some L)(hi:π= []->d.ins.length<=k):Sm.C2 P (aN T F A d u Pr aD ap) π k (ey v) L:=by
 have q:=KZ (ap:=ap) X c m;have ac:=pF X (ap:=ap) c m;obtain⟨g1,M,N,B⟩:=ac.get;obtain⟨J,sb,gc,r,h2,t⟩:=q.d hi;obtain⟨O,Q,R⟩:=mz r;refine⟨?_,?_,?_,λn w=> ?_⟩
 ·rw[B,O,N,R,X.en];show Sm.zQ cU (aN T F A d u Pr aD ap) π sb (Gy v.clock) J.isSome;cases S:v.clock with
  |none=>
   rw[S]at t;rw[t];exact .nil
  |some o=>
   obtain⟨kk,g⟩:=o;rw[S]at t;obtain⟨c1,c2,C,U⟩:=t;obtain⟨z,o,ge,l⟩:=rH X (ap:=ap) c c1;obtain⟨y1,y2,V,y4⟩:=l.get;have Y:Sm.aK.de cU (aN T F A d u Pr aD ap) (z,o)= [cj,bC,c8]:=AB l.vv (by rw[<-(l.fx X c).ty,l.n];exact c2);have Z:Sm.aK.jX (aN T F A d u Pr aD ap) (z,o)<sb:=by rw[y2];exact C.ix
   cases ho:J.isSome with
   |false=>
    refine .no l.f Z (λn w=> ?_);have x:=w;rw[V,C.vv]at x;injection x with x
    rw[Y,<-x];intro e;have:=U.2 e;rw[ho]at this;cases this
   |true=>
    refine .ym l.f Z (n:=val A g) (by show Sm.aK.val (aN T F A d u Pr aD ap) z o=_;rw[V,C.vv]) (by rw[Y];exact U.1 ho) .nil
 ·rw[B,O];have:Sm.aK.rk (aN T F A d u Pr aD ap) π k=Bl A v.name:=M;rw[this,Q];exact h2
 ·have:Sm.aK.rk (aN T F A d u Pr aD ap) π k=Bl A v.name:=M;rw[this,Q];have:=uO r;show _<A.length+1;omega
 ·obtain⟨co,i6,D,Xo⟩:=OO X c m hi;obtain⟨i7,Q0⟩:=nU (s:=s) D;obtain⟨s',hs,ah⟩:=HW X (ap:=ap) c D Xo;refine⟨co,s',AE X c m D Xo,by rw[B];exact hs,?_⟩;rw[N,R]at w;subst w;cases s' with
  |none=>
   obtain⟨l1,i',j⟩:=ah;have hl:v.last=true:=by rw[<-q.ls];exact l1
   have y:=(q.lp hl).1;rw[Qc]at y;injection y with y
   refine⟨T.lp v.name,y,(Sm.lj X.sp X.wf X.lP (iy c) (q.lp hl).1).2,?_⟩;rw[r]at j;injection j with j
   injection j with j _
   injection j
  |some g=>
   obtain⟨PC,j'⟩:=g;obtain⟨⟨τ,e⟩,b',i8,Sv,E,p',h,p,G,k4,k5⟩:=ah;refine⟨?_,dE E,l9 h p,λa=> ?_,λa=> ?_⟩
   ·subst e;exact(KY X (ap:=ap) (AH c m) h).trans ac.f
   ·have Ri:=Ni (Pr:=Pr) (aD:=aD) (ap:=ap) (wS h p G);cases E with
    |df g i=>
     have hy:=eE.1 k5;subst hy;refine⟨W,?_⟩;rw[Ri];obtain⟨d6,H,_⟩:=fZ X.hL X.hU X.hS h;obtain⟨⟨_,⟨i',f,_⟩|⟨i',f⟩⟩,_⟩:=(pv H).2.2.1 j' _ p' p G
     ·rw[r]at f;injection f with f
      injection f with f _
      injection f
     ·grind
    |call g K d7 d8 b d9 i=>rw[fh]at a;simp[dB]at a
    |sw i I=>rw[fh]at a;simp[dB]at a
    |aP I=>rw[fh]at a;simp[dB]at a
    |reset i b'=>rw[fh]at a;simp[dB]at a
   ·cases E with
    |df g i=>rw[fh]at a;simp[dB]at a
    |call g K d7 d8 b d9 i=>
     have f9:=eE.1 k5;refine⟨by show v.name∈ [g,K];simpa using f9,?_⟩;obtain⟨d6,H,_⟩:=fZ X.hL X.hU X.hS h;obtain⟨⟨m0,_,_,jj,ii,ox,oy,u',_,f,m2,_⟩,_⟩:=(pv H).2.2.1 j' _ p' p G;refine(AF X h (yH X h p (eE.2 (.inl W))) W (.inr W)).2 ?_;rw[(mz f).2.2];rfl
    |sw i I=>rw[fh]at a;simp[dB]at a
    |aP I=>rw[fh]at a;simp[dB]at a
    |reset i b'=>rw[fh]at a;simp[dB]at a
end
theorem oL: ∀{l:List Sm.Va} {a i d k:Nat},(Sm.b_ l a)[i]?=some (some k)->(Sm.b_ l a)[d]?=some (some k)->i=d
 | [],a,i,d,k,b,_=>by simp[Sm.b_]at b
 |v::l,a,i,d,k,b,c=>by
  unfold Sm.b_ at b c;split at b
  ·rename_i e;rw[au2 e]at c;cases i with
   |zero=>
    simp at b;cases d with
    |zero=>rfl
    |succ d=>simp at c;have:=Sm.gd c;omega
   |succ i=>
    simp at b;cases d with
    |zero=>simp at c;have:=Sm.gd b;omega
    |succ d=>simp at c;rw[oL b c]
  ·rename_i e;rw[auU e]at c;cases i with
   |zero=>simp at b
   |succ i=>
    simp at b;cases d with
    |zero=>simp at c
    |succ d=>simp at c;rw[oL b c]
section
variable{T:eD}{A:Env}{rd:Nat->Int}
theorem gj: ∀{e:E} {p k:Nat} {v:Int},(k,v)∈ej T A rd e p->p<=k/\k<p+xE e:=by
 have t: ∀i a,xE (.un i a)=xE a:= λi a=>by simp[xE,cA,Sm.xP,Sm.eg,Sm.dt]
 have u: ∀i a b,xE (.bin i a b)=xE a+xE b:= λi a b=>by simp[xE,cA,Sm.xP,Sm.eg,Sm.dt]
 have w: ∀c a b,xE (.ite c a b)=xE c+xE a+xE b:= λc a b=>by simp[xE,cA,Sm.xP,Sm.eg,Sm.dt];omega
 have x: ∀c f,xE (.ga c f)=1+xE c+xE f:= λc f=>by simp[xE,cA,Sm.xP,Sm.eg,Sm.dt];omega
 have y: ∀f,xE (.pre f)=1+xE f:= λf=>by simp[xE,cA,Sm.xP,Sm.eg,Sm.dt]
 have z: ∀a b,xE (.arrow a b)=1+xE a+xE b:= λa b=>by simp[xE,cA,Sm.xP,Sm.eg,Sm.dt];omega
 have B: ∀h c a,xE (.fI h c a)=xE a:= λh c a=>by simp[xE,cA,Sm.xP,Sm.eg,Sm.dt]
 have C: ∀h l m n a b c,xE (.merge h l m n a b c)=xE a+xE b+xE c:= λh l m n a b c=>by simp[xE,cA,Sm.xP,Sm.eg,Sm.dt];omega
 intro e
 induction e with
 |nil=>intro p k v d;cases d
 |int j=>intro p k v d;cases d
 |bool j=>intro p k v d;cases d
 |ctor j=>intro p k v d;cases d
 |var j=>intro p k v d;cases d
 |last j=>intro p k v d;cases d
 |un i a o=>intro p k v d;have:=o d;rw[t];exact this
 |bin i a b q r=>
  intro p k v d;rw[u];rcases auS.1 d with g|g
  ·grind
  ·grind
 |ite c a b s q r=>
  intro p k v d;rw[w];rcases auS.1 d with g|g
  ·grind
  ·grind
 |ga c f s D=>
  intro p k v d;rw[x];rcases auX.1 d with g|g
  ·grind
  ·grind
 |pre f D=>
  intro p k v d;rw[y];rcases auX.1 d with g|g
  ·grind
  ·grind
 |arrow a b q r=>
  intro p k v d;rw[z];rcases auX.1 d with g|g
  ·grind
  ·grind
 |fI h c a o=>intro p k v d;have:=o d;rw[B];exact this
 |merge h l m n a b c q r s=>
  intro p k v d;rw[C];simp only[ej]at d;split at d
  ·grind
  ·grind
theorem wV: ∀{e:E} {p k:Nat} {v h:Int},(k,v)∈ej T A rd e p->(k,h)∈ej T A rd e p->v=h:=by
 intro e
 induction e with
 |nil=>intro p k v h a;cases a
 |int m=>intro p k v h a;cases a
 |bool m=>intro p k v h a;cases a
 |ctor m=>intro p k v h a;cases a
 |var m=>intro p k v h a;cases a
 |last m=>intro p k v h a;cases a
 |un u l q=>intro p k v h a g;exact q a g
 |bin u l b n o=>
  intro p k v h a g;rcases auS.1 a with d|d<;>rcases auS.1 g with f|f
  ·grind
  ·have:=gj d;have:=gj f;omega
  ·have:=gj d;have:=gj f;omega
  ·grind
 |ite c l b r n o=>
  intro p k v h a g;simp only[ej,auS]at a g;rcases a with(d|d)|d<;>rcases g with(f|f)|f<;>first
   |exact r d f
   |exact n d f
   |exact o d f
   |(have:=gj d;have:=gj f;omega)
 |ga c s r w=>
  intro p k v h a g;rcases auX.1 a with d|d<;>rcases auX.1 g with f|f
  ·grind
  ·injection d with i j;have:=gj f;omega
  ·injection f with i j;have:=gj d;omega
  ·grind
 |pre s w=>
  intro p k v h a g;rcases auX.1 a with d|d<;>rcases auX.1 g with f|f
  ·grind
  ·injection d with i j;have:=gj f;omega
  ·injection f with i j;have:=gj d;omega
  ·grind
 |arrow l b n o=>
  intro p k v h a g;simp only[ej,auX,auS]at a g;rcases a with d|d|d<;>rcases g with f|f|f
  ·grind
  ·injection d with i j;have:=gj f;omega
  ·injection d with i j;have:=gj f;omega
  ·injection f with i j;have:=gj d;omega
  ·grind
  ·have:=gj d;have:=gj f;omega
  ·injection f with i j;have:=gj d;omega
  ·have:=gj d;have:=gj f;omega
  ·grind
 |fI t c l q=>intro p k v h a g;exact q a g
 |merge t x y z l b c n o r=>
  intro p k v h a g;simp only[ej]at a g;split at a
  ·grind
  ·grind
theorem yJ{rs:Rs}{p:Nat}{q:aB}{k:Nat}{v:Int}(h:(k,v)∈uQ T A rs p q):p<=k/\k<p+wQ q:=by
 cases q with
 |df c e=>exact gj h
 |call c g i j b f e=>
  simp only[uQ,avg]at h;simp only[wQ];rcases auS.1 h with a|a
  ·cases f with
   |false=>cases a
   |true=>have:=gj a;omega
  ·rcases auS.1 a with a|a
   ·have:=gj a;omega
   ·have:=gj a;omega
 |sw e d=>exact gj h
 |aP d=>cases h
 |reset e b=>exact gj h
theorem Ld{rs:Rs}{p:Nat}{q:aB}{k:Nat}{v f:Int}(h:(k,v)∈uQ T A rs p q)(c:(k,f)∈uQ T A rs p q):v=f:=by
 cases q with
 |df g e=>exact wV h c
 |call g l m n b j e=>
  simp only[uQ,avg,auS]at h c;cases j with
  |false=>
   simp only[avS,awi,au3,false_or]at h c;rcases h with a|a<;>rcases c with d|d<;>first
    |exact wV a d
    |(have:=gj a;have:=gj d;omega)
  |true=>
   simp only[awr]at h c;rcases h with a|a|a<;>rcases c with d|d|d<;>first
    |exact wV a d
    |(have:=gj a;have:=gj d;omega)
 |sw e i=>exact wV h c
 |aP i=>cases h
 |reset e b=>exact wV h c
end
section
variable{P:Sm.Pg}{T:eD}{F:List (Option Int)}{A:Env}{d:Nd}{u:US}{Pr:Nat->US->List Int->List Int->US->Prop}{aD:Nat->US}{ap:List Sm.It}{step:US->List Int->List Int->US->Prop}
theorem last_pos(X:bJ P T F A d u Pr aD){π:Path}{b:Sm.bj}{s:Nat}(c:Sm.Gu (aN T F A d u Pr aD ap) (cC d) π b s){i k:Nat}(a:(Sm.aK.fr (aN T F A d u Pr aD ap) π).cO[i]?=some (some k)):(s<=k/\k<s+Sm.aU b.vars)\/s+Sm.bP b<=k:=by
 by_cases e:π= []
 ·obtain⟨f,g⟩:=c.t e;subst e;rw[(X.lP (ap:=ap)).qe]at a;simp only[Sm.rl]at a;have h:(List.replicate (cC d).ins.length (none:Option Nat)).length=(cC d).ins.length:=by simp
  rcases auM i (cC d).ins.length with j|j
  ·grind
  ·rcases auM i ((cC d).ins.length+(cC d).outs.length)with l|l
   ·rw[avh,auR (by grind),h,auL (by rw[Sm.ff];omega)]at a;have:=Sm.gd a;rw[f,g];exact .inr (by omega)
   ·rw[auR (by simp[Sm.ff];omega)]at a;have:=Sm.gd a;rw[f,g];exact .inl (by omega)
 ·rw[c.f e]at a;have:=Sm.gd a;exact .inl (by omega)
theorem Jr(X:bJ P T F A d u Pr aD){π:Path}{b:Sm.bj}{s:Nat}(g:Sm.Gu (aN T F A d u Pr aD ap) (cC d) π b s){i j k:Nat}(h:(Sm.aK.fr (aN T F A d u Pr aD ap) π).cO[i]?=some (some k))(a:(Sm.aK.fr (aN T F A d u Pr aD ap) π).cO[j]?=some (some k)):i=j:=by
 by_cases e:π= []
 ·obtain⟨q,r⟩:=g.t e;subst e;rw[(X.lP (ap:=ap)).qe]at h a;simp only[Sm.rl]at h a;have t:(Sm.b_ (cC d).outs (Sm.bP (cC d).b)).length=(cC d).outs.length:=Sm.ff _ _;have v:=Sm.qL (cC d).b;have n: ∀{i:Nat},(List.replicate (cC d).ins.length none++Sm.b_ (cC d).outs (Sm.bP (cC d).b)++Sm.b_ (cC d).b.vars 0)[i]?=some (some k)->
    ((cC d).ins.length<=i/\i<(cC d).ins.length+(cC d).outs.length/\(Sm.b_ (cC d).outs (Sm.bP (cC d).b))[i-(cC d).ins.length]?=some (some k))\/((cC d).ins.length+(cC d).outs.length<=i/\(Sm.b_ (cC d).b.vars 0)[i-((cC d).ins.length+(cC d).outs.length)]?=some (some k)):=by
   grind
  rcases n h with⟨o,c,l⟩|⟨o,c⟩<;>rcases n a with⟨p,f,m⟩|⟨p,f⟩
  ·have:=oL l m;omega
  ·have:=Sm.gd l;have:=Sm.gd f;omega
  ·have:=Sm.gd c;have:=Sm.gd m;omega
  ·have:=oL c f;omega
 ·rw[g.f e]at h a;exact oL h a
theorem qA(X:bJ P T F A d u Pr aD){π:Path}{b:bj}{s:Nat}{rs:Rs}(a:dD T F A d u π=some (b,s,rs)){j:Nat}{q:aB}{p:Nat}(m:(cT b)[j]?=some q)(g:(kI b s)[j]?=some p){k:Nat}(r:p<=k)(t:k<p+wQ q):Sm.mJ (aN T F A d u Pr aD ap) (cC d) π k/\(∀{b':Sm.bj} {c:Nat},Sm.Gu (aN T F A d u Pr aD ap) (cC d) π b' c->c+Sm.aU b'.vars<=k/\k<c+Sm.bP b')/\
  ∀{j':Nat} {q':aB} {h:Nat},(cT b)[j']?=some q'->(kI b s)[j']?=some h->h<=k->k<h+wQ q'->j'=j:=by
 have e: ∀{j p:Nat},(kI b s)[j]?=some p->(Sm.aK.fr (aN T F A d u Pr aD ap) π).pos[j]?=some p:= λ{j p} l=>by show(fj T F A d u π).pos[j]?=some p;rw[(qz a).2];exact l
 have n: ∀q,wQ q<=Sm.qP (dE q):= λq=>by
  have:=Sm.jD (dE q);have l:=GW q;rw[<-fh]at l;omega
 have w:=n q;refine⟨La X a m g r (by rw[GW];exact t),λ{b' c} i=> ?_,λ{j' q' h} v o x y=> ?_⟩
 ·have:=Sm.sG i (l9 a m) (e g);omega
 ·obtain⟨b',c,i⟩:=Sm.shape X.sp X.wf X.lP π (iy a);have z:=n q';rcases av6 j j' with f|f|f
  ·have:=Sm.og i (l9 a m) (e g) (e o) f;omega
  ·exact f.symm
  ·have:=Sm.og i (l9 a v) (e o) (e g) f;omega
inductive Wr(T:eD)(F:List (Option Int))(A:Env)(d:Nd)(u:US)(c:Sm.aK)(k:Nat)(v:Int):Prop where
 |ew (π:Path) (j:Nat) (b:bj) (s:Nat) (rs:Rs) (q:aB) (p:Nat) (hp:dD T F A d u π=some (b,s,rs)) (hj:(cT b)[j]?=some q) (Q0:(kI b s)[j]?=some p) (ht:c.jg π (dE q)) (hm:(k,v)∈uQ T A rs p q)
 |last (π:Path) (i:Nat) (b:bj) (s:Nat) (rs:Rs) (hp:dD T F A d u π=some (b,s,rs)) (hl:(c.fr π).cO[i]?=some (some k)) (hv:c.val π i=some v)
 |aP (π:Path) (j:Nat) (b:bj) (s:Nat) (rs:Rs) (aj:List bh) (hp:dD T F A d u π=some (b,s,rs)) (hj:(cT b)[j]?=some (.aP aj)) (Q0:(kI b s)[j]?=some k) (hv:v=(EV T F A rs k (.aP aj):Nat))
theorem AJ{k:Nat}{v:Int}(h:Sm.nJ (aN T F A d u Pr aD ap) k v):Wr T F A d u (aN T F A d u Pr aD ap) k v:=by
 rcases h with⟨c,f,o,p,i,a,l⟩|⟨c,z,p,i,a⟩|⟨c,f,o,p,i,a,l,C⟩
 ·obtain⟨b,g,j,m,n,q,r,s,rfl,w,t⟩:=kY (show(fj T F A d u c).au[f]?=some o from i);rw[HV t]at l;exact .ew c f b g j m n q r s a l
 ·obtain⟨b,g,j,D⟩:=wT p;exact .last c z b g j D i a
 ·obtain⟨b,g,j,m,n,q,r,s,rfl,w,t⟩:=kY (show(fj T F A d u c).au[f]?=some o from i);have:n=k:=by
   have y:(fj T F A d u c).pos[f]?=some k:=l;rw[w]at y;injection y
  subst this;rw[fh]at a;cases m with
  |df B e=>simp[dB]at a
  |call B E G H b I e=>simp[dB]at a
  |sw e x=>simp[dB]at a
  |aP x=>exact .aP c f b g j x q r s (by rw[C,(AG t).2.2.1])
  |reset e b=>simp[dB]at a
theorem MG(X:bJ P T F A d u Pr aD){k:Nat}{v S:Int}(h:Sm.nJ (aN T F A d u Pr aD ap) k v)(M:Sm.nJ (aN T F A d u Pr aD ap) k S):v=S:=by
 have p:Sm.pc P (aN T F A d u Pr aD ap) (cC d):=X.lP;have n: ∀{o i:Path} {K L:bj×Nat×Rs},dD T F A d u o=some K->dD T F A d u i=some L->Sm.mJ (aN T F A d u Pr aD ap) (cC d) o k->Sm.mJ (aN T F A d u Pr aD ap) (cC d) i k->i=o/\L=K:= λ{o i K L} U D h3 h4=>by
  have e:=h3.same X.sp X.wf p (iy U) (iy D) h4;subst e;rw[U]at D;injection D with D
  exact⟨W,D.symm⟩
 cases AJ h with
 |ew o ac b R V co d6 j w J ht N=>
  obtain⟨i1,i2⟩:=yJ N;obtain⟨l,O,E⟩:=qA X (ap:=ap) j w J i1 i2;cases AJ M with
  |ew i G q r s Y Z c a f WY x=>
   obtain⟨z,B⟩:=yJ x;obtain⟨g,_⟩:=qA X (ap:=ap) c a f z B;obtain⟨rfl,e⟩:=n j c l g;cases e;have:=E a f z B;subst this;rw[w]at a;injection a with a;subst a
   rw[J]at f;injection f with f;subst f
   exact Ld N x
  |last i ah q r s c y H=>
   obtain⟨g,_⟩:=Sm.lj X.sp X.wf p (iy c) y;obtain⟨rfl,e⟩:=n j c l g;obtain⟨bS,sS,m⟩:=Sm.shape X.sp X.wf p i (iy c);have:=O m;rcases last_pos X m y with t|t<;>omega
  |aP i G q r s aj c a f H=>
   obtain⟨g,_⟩:=qA X (ap:=ap) c a f (auK k) (by show k<k+1;omega);obtain⟨rfl,e⟩:=n j c l g;cases e;have:=E a f (auK k) (by show k<k+1;omega);subst this;rw[w]at a;injection a with a;subst a
   cases N
 |last o ah b R V j y H=>
  obtain⟨l,_⟩:=Sm.lj X.sp X.wf p (iy j) y;obtain⟨bS,sS,m⟩:=Sm.shape X.sp X.wf p o (iy j);cases AJ M with
  |ew i G q r s Y Z c a f WY x=>
   obtain⟨z,B⟩:=yJ x;obtain⟨g,Q,_⟩:=qA X (ap:=ap) c a f z B;obtain⟨rfl,e⟩:=n j c l g;have:=Q m;rcases last_pos X m y with t|t<;>omega
  |last i i' q r s c I C=>
   obtain⟨g,_⟩:=Sm.lj X.sp X.wf p (iy c) I;obtain⟨rfl,e⟩:=n j c l g;have:=Jr X m y I;subst this;rw[H]at C;injection C
  |aP i G q r s aj c a f C=>
   obtain⟨g,Q,_⟩:=qA X (ap:=ap) c a f (auK k) (by show k<k+1;omega);obtain⟨rfl,e⟩:=n j c l g;have:=Q m;rcases last_pos X m y with t|t<;>omega
 |aP o ac b R V aj j w J H=>
  obtain⟨l,O,E⟩:=qA X (ap:=ap) j w J (auK k) (by show k<k+1;omega);cases AJ M with
  |ew i G q r s Y Z c a f WY x=>
   obtain⟨z,B⟩:=yJ x;obtain⟨g,_⟩:=qA X (ap:=ap) c a f z B;obtain⟨rfl,e⟩:=n j c l g;cases e;have:=E a f z B;subst this;rw[w]at a;injection a with a;subst a
   cases x
  |last i i' q r s c I C=>
   obtain⟨g,_⟩:=Sm.lj X.sp X.wf p (iy c) I;obtain⟨rfl,e⟩:=n j c l g;obtain⟨bS,sS,m⟩:=Sm.shape X.sp X.wf p i (iy c);have:=O m;rcases last_pos X m I with t|t<;>omega
  |aP i G q r s d7 c a f C=>
   obtain⟨g,_⟩:=qA X (ap:=ap) c a f (auK k) (by show k<k+1;omega);obtain⟨rfl,e⟩:=n j c l g;cases e;have:=E a f (auK k) (by show k<k+1;omega);subst this;rw[w]at a;injection a with a;injection a with a;subst a
   rw[H,C]
theorem HY(X:bJ P T F A d u Pr aD){π c:Path}{j j' k:Nat}{q q':Sm.aB}(m:Sm.aK.ok (aN T F A d u Pr aD ap) π)(n:(Sm.aK.fr (aN T F A d u Pr aD ap) π).au[j]?=some q)(r:q.kd=2\/q.kd=4)(h:(Sm.aK.fr (aN T F A d u Pr aD ap) π).pos[j]?=some k)(i:Sm.aK.ok (aN T F A d u Pr aD ap) c)(o:(Sm.aK.fr (aN T F A d u Pr aD ap) c).au[j']?=some q')(s:q'.kd=2\/q'.kd=4)(l:(Sm.aK.fr (aN T F A d u Pr aD ap) c).pos[j']?=some k):c=π/\j'=j:=by
 have g:Sm.pc P (aN T F A d u Pr aD ap) (cC d):=X.lP;have v:Sm.h_ q.kd=1:=by rcases r with a|a<;>rw[a]<;>rfl
 have w:Sm.h_ q'.kd=1:=by rcases s with a|a<;>rw[a]<;>rfl
 have e:=(Sm.qx X.sp X.wf g m n h (auK k) (by omega)).same X.sp X.wf g m i (Sm.qx X.sp X.wf g i o l (auK k) (by omega));subst e;obtain⟨b,t,p⟩:=Sm.shape X.sp X.wf g c i;have x:=Sm.jD q;have y:=Sm.jD q';refine⟨W,?_⟩;rcases av6 j j' with f|f|f
 ·have:=Sm.og p n h l f;omega
 ·exact f.symm
 ·have:=Sm.og p o l h f;omega
theorem MH(X:bJ P T F A d u Pr aD){k:Nat}{v a:Bool}(h:Sm.xj (aN T F A d u Pr aD ap) k v)(b:Sm.xj (aN T F A d u Pr aD ap) k a):v=a:=by
 obtain⟨p,q,r,c,e,f,g,i⟩:=h;obtain⟨s,t,w,j,l,m,n,o⟩:=b;obtain⟨rfl,rfl⟩:=HY X c e (.inr f) g j l (.inr m) n;rw[i,o]
theorem MI(X:bJ P T F A d u Pr aD){k:Nat}{v a:US}(h:Sm.wu (aN T F A d u Pr aD ap) k v)(b:Sm.wu (aN T F A d u Pr aD ap) k a):v=a:=by
 obtain⟨p,q,r,c,e,f,s,g,i⟩:=h;obtain⟨t,w,x,j,l,m,y,n,o⟩:=b;obtain⟨rfl,rfl⟩:=HY X c e (.inl f) g j l (.inl m) n;rw[i,o]
open Classical in
noncomputable def s8(c:Sm.aK)(i:Nat):US:= .mk i (λk=>if h: ∃v,Sm.nJ c k v then Classical.choose h else c.rd k) (λk=>if h: ∃v,Sm.xj c k v then Classical.choose h else c.rp k) (λk=>if h: ∃v,Sm.wu c k v then some (Classical.choose h)else c.rs k)
open Classical in
theorem Le(X:bJ P T F A d u Pr aD)(i k:Nat):(∀v,Sm.nJ (aN T F A d u Pr aD ap) k v->(s8 (aN T F A d u Pr aD ap) i).mem k=v)/\((∀v,¬Sm.nJ (aN T F A d u Pr aD ap) k v)->(s8 (aN T F A d u Pr aD ap) i).mem k=Sm.aK.rd (aN T F A d u Pr aD ap) k):=by
 refine⟨λv b=> ?_,λc=> ?_⟩
 ·have a: ∃v,Sm.nJ (aN T F A d u Pr aD ap) k v:=⟨v,b⟩;show(if a: ∃v,Sm.nJ (aN T F A d u Pr aD ap) k v then Classical.choose a else Sm.aK.rd (aN T F A d u Pr aD ap) k)=v;rw[axq a];exact MG X (awl a) b
 ·show(if a: ∃v,Sm.nJ (aN T F A d u Pr aD ap) k v then Classical.choose a else Sm.aK.rd (aN T F A d u Pr aD ap) k)=_;rw[axz (λ⟨v,b⟩=>c v b)]
open Classical in
theorem N6(X:bJ P T F A d u Pr aD)(i k:Nat):(∀v,Sm.xj (aN T F A d u Pr aD ap) k v->(s8 (aN T F A d u Pr aD ap) i).cu k=v)/\((∀v,¬Sm.xj (aN T F A d u Pr aD ap) k v)->(s8 (aN T F A d u Pr aD ap) i).cu k=Sm.aK.rp (aN T F A d u Pr aD ap) k):=by
 refine⟨λv b=> ?_,λc=> ?_⟩
 ·have a: ∃v,Sm.xj (aN T F A d u Pr aD ap) k v:=⟨v,b⟩;show(if a: ∃v,Sm.xj (aN T F A d u Pr aD ap) k v then Classical.choose a else Sm.aK.rp (aN T F A d u Pr aD ap) k)=v;rw[axq a];exact MH X (awl a) b
 ·show(if a: ∃v,Sm.xj (aN T F A d u Pr aD ap) k v then Classical.choose a else Sm.aK.rp (aN T F A d u Pr aD ap) k)=_;rw[axz (λ⟨v,b⟩=>c v b)]
open Classical in
theorem Lf(X:bJ P T F A d u Pr aD)(i k:Nat):(∀v,Sm.wu (aN T F A d u Pr aD ap) k v->(s8 (aN T F A d u Pr aD ap) i).an k=some v)/\((∀v,¬Sm.wu (aN T F A d u Pr aD ap) k v)->(s8 (aN T F A d u Pr aD ap) i).an k=Sm.aK.rs (aN T F A d u Pr aD ap) k):=by
 refine⟨λv b=> ?_,λc=> ?_⟩
 ·have a: ∃v,Sm.wu (aN T F A d u Pr aD ap) k v:=⟨v,b⟩;show(if a: ∃v,Sm.wu (aN T F A d u Pr aD ap) k v then some (Classical.choose a)else Sm.aK.rs (aN T F A d u Pr aD ap) k)=some v;rw[axq a,MI X (awl a) b]
 ·show(if a: ∃v,Sm.wu (aN T F A d u Pr aD ap) k v then some (Classical.choose a)else Sm.aK.rs (aN T F A d u Pr aD ap) k)=_;rw[axz (λ⟨v,b⟩=>c v b)]
end
end Go.Ex
namespace Go.Ex
open Go.Mt Go.Mk
open Go.Sm (Path US It)
theorem EY: ∀e:E,Sm.jP (cA e):=by
 have f: ∀{k h d s names p},k≠9->names.length<=1000000->Sm.jP (.mk k h d s names [] p):= λm q=> .mk (λe=>absurd e m) (by simp) q (λe a=>by cases a)
 intro e
 induction e with
 |nil=>exact f (by decide) (by simp)
 |int d=>exact f (by decide) (by simp)
 |bool d=>exact f (by decide) (by simp)
 |ctor d=>exact f (by decide) (by simp)
 |var d=>exact f (by decide) (by simp)
 |last d=>exact f (by decide) (by simp)
 |un h g r=>exact .mk (by simp) (by simp) (by simp) (λe a=>by grind)
 |bin h g b i j=>exact .mk (by simp) (by simp) (by simp) (λe a=>by grind)
 |ite c g b l i j=>exact .mk (by simp) (by simp) (by simp) (λe a=>by grind)
 |ga c n l t=>exact .mk (by simp) (by simp) (by simp) (λe a=>by grind)
 |pre n t=>exact .mk (by simp) (by simp) (by simp) (λe a=>by grind)
 |arrow g b i j=>exact .mk (by simp) (by simp) (by simp) (λe a=>by grind)
 |fI o c g r=>exact .mk (by simp) (by simp) (by simp) (λe a=>by grind)
 |merge o u v w g b c i j l=>exact .mk (by simp) (by simp) (by simp) (λe a=>by grind)
theorem Nk(d:Nat):1<=3^d:=Nat.one_le_pow _ _ (by decide)
def te(n:Nat)(e:E):Prop:=xE e<=n/\ ∀T A rd p,(ej T A rd e p).length<=n
theorem AK{t:Ty}{e:E}(h:GC t e):te 0 e:=by cases h<;>exact⟨auK _,λ_ _ _ _=>auK _⟩
theorem te.mono{n m:Nat}{e:E}(h:te n e)(a:n<=m):te m e:=⟨avD h.1 a,λb c rd d=>avD (h.2 b c rd d) a⟩
theorem uq{s:Sc}{t:Ty}{st:Bool}{d:Nat}{e:E}(h:GE s t st d e):te (3^d-1) e:=by
 induction h with
 |v h=>
  refine te.mono (n:=0) ?_ (avp _);cases h with
  |vB h=>exact AK h
  |var h=>obtain⟨v,_,_,_,rfl⟩:=h;exact⟨auK _,λ_ _ _ _=>auK _⟩
 |c h=>exact(AK h).mono (avp _)
 | @ite s t st d c a b p l m q f k=>
  refine⟨?_,λg i rd j=> ?_⟩
  ·have e:xE (.ite c a b)=xE c+xE a+xE b:=by simp[xE,cA,Sm.xP,Sm.eg,Sm.dt];omega
   rw[e,awa];have:=q.1;have:=f.1;have:=k.1;omega
  ·simp only[ej,auN,awa];have:=q.2 g i rd j;have:=f.2 g i rd (j+xE c);have:=k.2 g i rd (j+xE c+xE a);omega
 | @ga s t d c a p l f=>
  have:=Nk d;refine⟨?_,λg i rd j=> ?_⟩
  ·have e:xE (.ga c a)=1+xE c+xE a:=by simp[xE,cA,Sm.xP,Sm.eg,Sm.dt];omega
   rw[e,awa];have:=(AK p).1;have:=f.1;omega
  ·simp only[ej,au4,awa];have:=f.2 g i rd (j+1+xE c);omega
 | @arrow s t d a b l m f k=>
  have:=Nk d;refine⟨?_,λg i rd j=> ?_⟩
  ·have e:xE (.arrow a (.pre b))=1+xE a+(1+xE b):=by simp[xE,cA,Sm.xP,Sm.eg,Sm.dt];omega
   rw[e,awa];have:=f.1;have:=k.1;omega
  ·simp only[ej,au4,auN,awa];have:=f.2 g i rd (j+1);have:=k.2 g i rd (j+1+xE a+1);omega
 | @last s t st d u h=>obtain⟨v,_,_,_,rfl⟩:=h;exact te.mono (n:=0) ⟨auK _,λ_ _ _ _=>auK _⟩ (avp _)
 | @neg s st d a l f=>
  refine⟨?_,λg i rd j=> ?_⟩
  ·have e:xE (.un 2 a)=xE a:=by simp[xE,cA,Sm.xP,Sm.eg,Sm.dt]
   rw[e,awa];have:=f.1;omega
  ·simp only[ej,awa];have:=f.2 g i rd j;omega
 | @arith s st d a b o r l m f k=>
  refine⟨?_,λg i rd j=> ?_⟩
  ·have e:xE (.bin o a b)=xE a+xE b:=by simp[xE,cA,Sm.xP,Sm.eg,Sm.dt]
   rw[e,awa];have:=f.1;have:=k.1;omega
  ·simp only[ej,auN,awa];have:=f.2 g i rd j;have:=k.2 g i rd (j+xE a);omega
 | @not s st d a l f=>
  refine⟨?_,λg i rd j=> ?_⟩
  ·have e:xE (.un 1 a)=xE a:=by simp[xE,cA,Sm.xP,Sm.eg,Sm.dt]
   rw[e,awa];have:=f.1;omega
  ·simp only[ej,awa];have:=f.2 g i rd j;omega
 | @lH s st d a b o w r l m f k=>
  refine⟨?_,λg i rd j=> ?_⟩
  ·have e:xE (.bin o a b)=xE a+xE b:=by simp[xE,cA,Sm.xP,Sm.eg,Sm.dt]
   rw[e,awa];have:=f.1;have:=k.1;omega
  ·simp only[ej,auN,awa];have:=f.2 g i rd j;have:=k.2 g i rd (j+xE a);omega
def qV:aB->Prop
 | .df _ e=>te 26 e
 | .call _ _ _ a b _ e=>te 8 a/\te 8 b/\te 8 e
 | .sw e aj=>te 8 e/\aj.length<=3/\ ∀a∈aj,jY a= []/\lu a= []
 | .aP aj=>aj.length<=3/\ ∀a∈aj,(jY a).length<=2/\(lu a).length<=2/\ ∀t:Tr,t∈jY a\/t∈lu a->xE t.e=0
 | .reset e _=>te 8 e
inductive yp:bj->Prop where
 |mk {b:bj} (hq: ∀q∈cT b,qV q) (hb: ∀q∈cT b,∀a∈cD q,yp (eb a)):yp b
mutual
def lR(y:Nat)(Z:aB->Nat):aB->Nat
 | .df x e=>Z (.df x e)
 | .call x z f a b has e=>Z (.call x z f a b has e)
 | .sw e aj=>Z (.sw e aj)+lx y Z aj
 | .aP aj=>Z (.aP aj)+lx y Z aj
 | .reset e b=>Z (.reset e b)+nV y Z b
def lx(y:Nat)(Z:aB->Nat):List bh->Nat
 | []=>0
 | .mk _ b _ _::l=>nV y Z b+lx y Z l
def nV(y:Nat)(Z:aB->Nat):bj->Nat
 | .mk vars au=>y*vars.length+jL y Z au
def jL(y:Nat)(Z:aB->Nat):List aB->Nat
 | []=>0
 |q::l=>lR y Z q+jL y Z l
end
theorem Ci(y:Nat)(Z:aB->Nat)(l r:List bh):lx y Z (l++r)=lx y Z l+lx y Z r:=by
 induction l with
 |nil=>simp[lx]
 |cons a l b=>cases a;simp only[avM,lx,b];omega
theorem Cj(y:Nat)(Z:aB->Nat)(l r:List aB):jL y Z (l++r)=jL y Z l+jL y Z r:=by
 induction l with
 |nil=>simp[jL]
 |cons b l a=>simp only[avM,jL,a];omega
section
variable{Sub:Sc->List Va->Nat->Nat->bj->Prop}{cb y z:Nat}{Z:aB->Nat}
def EZ(y z:Nat)(Z:aB->Nat)(Sub:Sc->List Va->Nat->Nat->bj->Prop)(cb:Nat):Prop:= ∀s (l:List Va) n1 n2 b,l.length<=3->Sub s l n1 n2 b->n1<=n2/\yp b/\nV y Z b+(z+y)*n1<=cb+(z+y)*n2
theorem Ck(f:EZ y z Z Sub cb){s:Sc}{outs:List Va}{names:List Nm}{n n':Nat}{aj:List bh}(h:nO Sub s outs names n aj n')(g:outs.length<=3):
  n<=n'/\(∀a∈aj,yp (eb a)/\jY a= []/\lu a= [])/\lx y Z aj+(z+y)*n<=aj.length*cb+(z+y)*n':=by
 induction h with
 |nil=>exact⟨auK _,λa h=>(by cases h),by simp[lx]⟩
 | @snoc aj r t h c u q i v b j k=>
  obtain⟨w,l,x⟩:=k;obtain⟨A,m,B⟩:=f _ _ _ _ _ (avD i.len g) j;refine⟨by omega,λa o=> ?_,?_⟩
  ·rcases auS.1 o with d|d
   ·exact l a d
   ·rw[auW]at d;subst d;exact⟨m,W,W⟩
  ·rw[Ci];have p: ∀e:bh,(aj++ [e]).length*cb=aj.length*cb+cb:= λe=>by grind
   rw[p];simp only[lx,av9];omega
theorem Lg(i:EZ y z Z Sub cb){s:Sc}{outs:List Va}{N n n':Nat}{aj:List bh}(h:u6 Sub s outs N n aj n')(j:outs.length<=3):
  n<=n'/\(∀a∈aj,yp (eb a)/\(jY a).length<=2/\(lu a).length<=2/\ ∀t:Tr,t∈jY a\/t∈lu a->xE t.e=0)/\lx y Z aj+(z+y)*n<=aj.length*cb+(z+y)*n':=by
 induction h with
 |nil=>exact⟨auK _,λa h=>(by cases h),by simp[lx]⟩
 | @snoc aj v w h u k x A f b l B g m=>
  obtain⟨C,o,D⟩:=m;obtain⟨E,p,F⟩:=i _ _ _ _ _ (avD k.len j) l;refine⟨by omega,λa q=> ?_,?_⟩
  ·rcases auS.1 q with d|d
   ·exact o a d
   ·rw[auW]at d;subst d;refine⟨p,f.1,g.1,λt c=> ?_⟩;rcases c with c|c
    ·exact(ou (T:=⟨λ_=> .int,λ_=>false,λ_=>0,λ_=> .any⟩) (f.2 t c).1 W).1
    ·exact(ou (T:=⟨λ_=> .int,λ_=>false,λ_=>0,λ_=> .any⟩) (g.2 t c).1 W).1
  ·rw[Ci];have r: ∀e:bh,(aj++ [e]).length*cb=aj.length*cb+cb:= λe=>by grind
   rw[r];simp only[lx,av9];omega
structure N7(y z:Nat)(Z:aB->Nat)(c n n':Nat)(q:List aB)(vs:List Va):Prop where
 le:n<=n'
 w: ∀e∈q,qV e/\ ∀a∈cD e,yp (eb a)
 m:jL y Z q+y*vs.length+(z+y)*n<=c+(z+y)*n'
theorem Lh(k: ∀q,qV q->Z q<=z)(A:EZ y z Z Sub cb){S:Nat}{s:Sc}{outs:List Va}{n n':Nat}{q:List aB}{m:List Va}(h:GQ Sub S s outs n n' q m)(p:outs.length<=3):N7 y z Z (3*cb+3*z) n n' q m:=by
 have w: ∀q,jL y Z [q]=lR y Z q:= λq=>by simp[jL]
 induction h with
 | @sZ s outs n q h=>
  have ac: ∀{outs:List Va} {q:List aB},p7 s outs q->(∀e∈q,qV e/\cD e= [])/\jL y Z q<=outs.length*z:=by
   intro outs q h
   induction h with
   |nil=>exact⟨λe f=>(by cases f),by simp[jL]⟩
   | @snoc I q h Q e f v=>
    obtain⟨H,B⟩:=v;have g:qV (.df Q.name e):=uq f;refine⟨λj d=> ?_,?_⟩
    ·rcases auS.1 d with x|x
     ·exact H j x
     ·rw[auW]at x;subst x;exact⟨g,W⟩
    ·rw[Cj,w,auN,awy];simp only[lR,avd,Nat.one_mul];have:=k _ g;omega
  obtain⟨J,C⟩:=ac h;have k3:outs.length*z<=3*z:=avk _ p;exact⟨auK _,λe f=>⟨(J e f).1,λc a=>by rw[(J e f).2]at a;cases a⟩,by simp only[avt,axa];omega⟩
 | @ua s outs n n' e t f a D=>
  obtain⟨r,i,E⟩:=Ck A a p;have g:qV (.sw e t):=⟨uq f,by omega,λc a=>(i c a).2⟩;refine⟨r,λj d=> ?_,?_⟩
  ·rw[auW]at d;subst d;exact⟨g,λc a=>(i c a).1⟩
  ·rw[w,D]at*;simp only[lR,avt,axa];have:=k _ g;omega
 | @qy s outs n n' e t f a D=>
  obtain⟨r,i,E⟩:=Ck A a p;have g:qV (.sw e t):=⟨uq f,by omega,λc a=>(i c a).2⟩;refine⟨r,λj d=> ?_,?_⟩
  ·rw[auW]at d;subst d;exact⟨g,λc a=>(i c a).1⟩
  ·rw[w];rw[D]at E;simp only[lR,avt,axa];have:=k _ g;omega
 | @aP s outs n n' t co hN a D=>
  obtain⟨r,i,E⟩:=Lg A a p;have g:qV (.aP t):=⟨by omega,λc a=>(i c a).2⟩;have h4:t.length*cb<=3*cb:=avk _ (by omega);refine⟨r,λj d=> ?_,?_⟩
  ·rw[auW]at d;subst d;exact⟨g,λc a=>(i c a).1⟩
  ·rw[w];simp only[lR,avt,axa];have:=k _ g;omega
 | @reset s outs n n' e b f u=>
  obtain⟨r,i,E⟩:=A _ _ _ _ _ p u;have g:qV (.reset e b):=uq f;refine⟨r,λj d=> ?_,?_⟩
  ·rw[auW]at d;subst d;refine⟨g,λc a=> ?_⟩;have K:c∈ [bh.mk e0 b [] []]:=a;rw[auW]at K;subst K;exact i
  ·rw[w];simp only[lR,avt,axa];have:=k _ g;omega
 | @call s outs n n' I m R hj c b a u ah e f h v=>
  obtain⟨H,B,U⟩:=v p;have g:qV (.call (nm 117 (n+1)) (nm 117 (n+2)) (nm 102 R) c b ah e):=⟨uq a,uq u,by
   rcases f with⟨_,rfl⟩|⟨_,f⟩
   ·exact⟨avp _,λ_ _ _ _=>avp _⟩
   ·exact uq f⟩
  refine⟨by omega,λj d=> ?_,?_⟩
  ·rcases auX.1 d with rfl|d
   ·exact⟨g,λc a=>(by cases a)⟩
   ·exact B j d
  ·simp only[jL,lR,au4];have:=k _ g;have V:(z+y)*(n+2)=(z+y)*n+2*z+2*y:=by rw[awz];omega
   have X:y*(m.length+1+1)=y*m.length+2*y:=by rw[awz,awz];omega
   omega
 | @mY s outs n n' I m c b G C e cK a u Y P7 f RS h v=>
  obtain⟨H,B,U⟩:=v p;obtain⟨a1,a2⟩:=ou (T:=⟨λ_=> .int,λ_=>false,λ_=>0,λ_=> .any⟩) a W;have F:te 0 c:=⟨by omega,λT l rd o=>by rw[(ou (T:=T) a W).2];simp⟩;have L:te 0 b:=⟨by have:=(ou (T:=⟨λ_=> .int,λ_=>false,λ_=>0,λ_=> .any⟩) u W).1;omega,λT l rd o=>by rw[(ou (T:=T) u W).2];simp⟩;have M:=AK Y;have N:qV (.df (nm 99 (n+1)) e):=uq f;have O:qV (.df (nm 119 (n+2)) cK):=by
   rcases RS with rfl|rfl
   ·refine te.mono (n:=0) ⟨?_,λT l rd o=>F.2 T l rd o⟩ (by omega);have:xE (.fI (nm 99 (n+1)) cj c)=xE c:=by simp[xE,cA,Sm.xP,Sm.eg,Sm.dt]
    rw[this];exact F.1
   ·refine te.mono (n:=1) ⟨?_,λT l rd o=> ?_⟩ (by omega)
    ·have:xE (.ga C (.bin 3 (.var (nm 119 (n+2))) (.fI (nm 99 (n+1)) cj c)))=1+xE C+xE c:=by simp[xE,cA,Sm.xP,Sm.eg,Sm.dt];omega
     rw[this];have:=F.1;have:=(AK P7).1;omega
    ·simp only[ej,au4,avn];have:=F.2 T l rd (o+1+xE C+xE (.var (nm 119 (n+2))));omega
  have P:qV (.df (nm 122 (n+3)) (.merge (nm 99 (n+1)) bC cj c8 (.fI (nm 99 (n+1)) bC b) (.var (nm 119 (n+2))) G)):=by
   refine te.mono (n:=0) ⟨?_,λT l rd o=> ?_⟩ (by omega)
   ·have:xE (.merge (nm 99 (n+1)) bC cj c8 (.fI (nm 99 (n+1)) bC b) (.var (nm 119 (n+2))) G)=xE b+xE G:=by simp[xE,cA,Sm.xP,Sm.eg,Sm.dt]
    rw[this];have:=L.1;have:=M.1;omega
   ·simp only[ej];split
    ·exact L.2 T l rd o
    ·split
     ·simp
     ·exact M.2 T l rd _
  refine⟨by omega,λj d=> ?_,?_⟩
  ·rcases auX.1 d with rfl|d
   ·exact⟨N,λc a=>(by cases a)⟩
   rcases auX.1 d with rfl|d
   ·exact⟨O,λc a=>(by cases a)⟩
   rcases auX.1 d with rfl|d
   ·exact⟨P,λc a=>(by cases a)⟩
   ·exact B j d
  ·simp only[jL,lR,au4];have:=k _ N;have:=k _ O;have:=k _ P;have V:(z+y)*(n+3)=(z+y)*n+3*z+3*y:=by rw[awz];omega
   have X:y*(m.length+1+1+1)=y*m.length+3*y:=by rw[awz,awz,awz];omega
   omega
end
section
variable{Q:Sc->List Va->Nat->Nat->List aB->List Va->Prop}{c y z:Nat}{Z:aB->Nat}
theorem N8(m: ∀s l n i q b,l.length<=3->Q s l n i q b->N7 y z Z c n i q b){o s:Sc}{j f:List Va}{d n:Nat}{q:List aB}{b:List Va}(h:GL Q o j d s f n q b):
  d<=n/\(∀e∈q,qV e/\ ∀a∈cD e,yp (eb a))/\ ∃g,g+f.length<=j.length/\jL y Z q+y*b.length+(z+y)*d<=c*g+(z+y)*n:=by
 induction h with
 |start=>exact⟨auK _,λe k=>(by cases k),0,by simp,by simp[jL]⟩
 | @step s f n u q b v w h t x A B p r=>
  obtain⟨C,D,g,E,F⟩:=r;obtain⟨G,H,I⟩:=m _ _ _ _ _ _ (by grind) p;refine⟨by omega,λe k=> ?_,g+1,by grind,?_⟩
  ·grind
  ·rw[Cj,auN,awz,Nat.mul_succ];omega
theorem MJ{n a:Nat}{b:List Va}(h:NV n b a):a=n+b.length:=by
 induction h with
 |nil=>rfl
 |snoc h c d e f g=>simp;omega
theorem HZ(m: ∀j i a g f d,i.length<=3->Q j i a g f d->N7 y z Z c a g f d):EZ y z Z (ED Q) (6*c+3*y):=by
 rintro j i a g b r ⟨d,n,s,f,C,o,p,q,rfl⟩;have t:=MJ o;obtain⟨u,k,l,v,w⟩:=N8 m q;have B:c*l<=c*6:=aw8 _ (by grind);have x:y*d.length<=y*3:=aw8 _ p;have A:(z+y)*a<=(z+y)*n:=aw8 _ (by omega);refine⟨by omega,.mk (λe h=>(k e h).1) (λe h=>(k e h).2),?_⟩;simp only[nV,auN,awz];omega
end
def yq(y z:Nat):Nat->Nat
 |0=>18*z+3*y
 |d+1=>18*yq y z d+18*z+3*y
theorem AL{y z:Nat}{Z:aB->Nat}(f: ∀e,qV e->Z e<=z)(b:Nat): ∀d,EZ y z Z (GB b d) (yq y z d)
 |0=>by
  have a:=HZ (Q:=GQ (λ_ _ _ _ _=>False) b) (c:=3*0+3*z) (y:=y) (z:=z) (Z:=Z) λh l i j e k g a=>Lh f (cb:=0) (by intro _ _ _ _ _ _ a;exact a.elim) a g
  rw[show 6*(3*0+3*z)+3*y=yq y z 0 by simp only[yq];omega]at a;exact a
 |d+1=>by
  have a:=HZ (Q:=GQ (GB b d) b) (c:=3*yq y z d+3*z) (y:=y) (z:=z) (Z:=Z) λh l i j e k g a=>Lh f (AL f b d) a g
  rw[show 6*(3*yq y z d+3*z)+3*y=yq y z (d+1) by simp only[yq];omega]at a;exact a
theorem AM{y:Nat}{Z:aB->Nat}{a:bh} : ∀{l:List bh},a∈l->nV y Z (eb a)<=lx y Z l
 | [],c=>by cases c
 | .mk d b e f::l,c=>by
  simp only[lx];rcases auX.1 c with rfl|c
  ·show nV y Z b<=_;omega
  ·have:=AM (y:=y) (Z:=Z) c;omega
theorem H3{y:Nat}{Z:aB->Nat}{q:aB}{a:bh}(h:a∈cD q):nV y Z (eb a)<=lR y Z q:=by
 cases q with
 |df f e=>cases h
 |call f g i a b j e=>cases h
 |sw e c=>have:=AM (y:=y) (Z:=Z) (show a∈c from h);simp only[lR];omega
 |aP c=>have:=AM (y:=y) (Z:=Z) (show a∈c from h);simp only[lR];omega
 |reset e b=>
  have d:a∈ [bh.mk e0 b [] []]:=h;rw[auW]at d;subst d;simp only[lR];show nV y Z b<=_;omega
theorem Li{y:Nat}{Z:aB->Nat}{q:aB} : ∀{l:List aB},q∈l->lR y Z q<=jL y Z l
 | [],a=>by cases a
 |b::l,a=>by
  simp only[jL];rcases auX.1 a with rfl|a
  ·omega
  ·have:=Li (y:=y) (Z:=Z) a;omega
theorem Nl{y:Nat}{Z:aB->Nat}{q:aB}{b:bj}(h:q∈cT b):lR y Z q<=nV y Z b:=by
 cases b with
 |mk c a=>have:=Li (y:=y) (Z:=Z) (show q∈a from h);simp only[nV];omega
theorem AN{Z:aB->Nat}(b:bj):(dw b).length<=nV 1 Z b:=by cases b;simp only[nV,dw];omega
theorem MK(q:aB):1<=lR 0 (λ_=>1) q:=by cases q<;>simp only[lR]<;>omega
theorem H4: ∀l:List aB,l.length<=jL 0 (λ_=>1) l
 | []=>avp _
 |a::l=>by have:=MK a;have:=H4 l;simp only[jL,au4];omega
theorem ML(b:bj):(cT b).length<=nV 0 (λ_=>1) b:=by cases b with|mk c a=>have:=H4 a;simp only[nV,cT];omega
theorem Lj{b:bj}(h:yp b):nV 1 (λ_=>0) b<=900000->nV 0 (λ_=>1) b<=900000->Sm.uP (eV b)/\Sm.Dg (eV b):=by
 induction h with
 | @mk b t O L=>
  intro u w;have E:=AN (Z:= λ_=>0) b;have j:=ML b;have F: ∀c∈cT b,∀a∈cD c,Sm.uP (eV (eb a))/\Sm.Dg (eV (eb a)):= λc d a G=>by
   have P:=H3 (y:=1) (Z:= λ_=>0) G;have Q:=Nl (y:=1) (Z:= λ_=>0) d;have R:=H3 (y:=0) (Z:= λ_=>1) G;have S:=Nl (y:=0) (Z:= λ_=>1) d;exact L c d a G (by omega) (by omega)
  cases b with
  |mk T I=>
  simp only[dw,cT]at E j t F;have m: ∀f∈fM I,∃c∈I,f=dE c:= λf h=>by rw[iG]at h;obtain⟨c,u,w⟩:=ava.1 h;exact⟨c,u,w.symm⟩
  have x: ∀c:aB,∀k∈(dE c).aj,∃a∈cD c,k=pj a:= λc k h=>by rw[nS]at h;obtain⟨a,u,w⟩:=ava.1 h;exact⟨a,u,w.symm⟩
  have z: ∀a:bh,(pj a).fG=(jY a).map vM/\(pj a).fH=(lu a).map vM:= λa=>by cases a;exact⟨W,W⟩
  refine⟨.mk (by grind) (by rw[iG,au8];omega) (λf d k p=> ?_) (λf d=> ?_) (λf d=> ?_) (λf d=> ?_) (λf d k p=> ?_),.mk (λv E=> ?_) (λf d=> ?_) (λf d k p=> ?_) (λf d k p K M=> ?_)⟩
  ·obtain⟨c,i,rfl⟩:=m f d;obtain⟨a,g,rfl⟩:=x c k p;rw[um];exact(F c i a g).1
  ·obtain⟨c,i,rfl⟩:=m f d;have n:=t c i;rw[nS,au8];cases c with
   |df o e=>simp[cD]
   |call o C D a b H e=>simp[cD]
   |sw e q=>have:=n.2.1;simp only[cD];omega
   |aP q=>have:=n.1;simp only[cD];omega
   |reset e b=>simp[cD]
  ·obtain⟨c,i,rfl⟩:=m f d;cases c with
   |df o e=>exact⟨EY e,by simp[dE,Sm.aB.args],λe j=>(by cases j)⟩
   |call o C D a b H e=>exact⟨EY e,by simp[dE,Sm.aB.args],λe j=>by
     have J:e∈ [cA a,cA b]:=j;simp only[auX,au3,avF]at J;rcases J with rfl|rfl
     ·exact EY a
     ·exact EY b⟩
   |sw e q=>exact⟨EY e,by simp[dE,Sm.aB.args],λe j=>(by cases j)⟩
   |aP q=>exact⟨EY .nil,by simp[dE,Sm.aB.args],λe j=>(by cases j)⟩
   |reset e b=>exact⟨EY e,by simp[dE,Sm.aB.args],λe j=>(by cases j)⟩
  ·obtain⟨c,i,rfl⟩:=m f d;cases c<;>simp[dE,Sm.aB.lhs]
  ·obtain⟨c,i,rfl⟩:=m f d;obtain⟨a,g,rfl⟩:=x c k p;rw[(z a).1,(z a).2,au8,au8];have n:=t c i;cases c with
   |df o e=>cases g
   |call o C D a b H e=>cases g
   |sw e q=>obtain⟨A,B⟩:=n.2.2 a g;rw[A,B];simp
   |aP q=>obtain⟨A,B,_⟩:=n.2 a g;omega
   |reset e b=>
    have r:a∈ [bh.mk e0 b [] []]:=g;rw[auW]at r;subst r;simp[jY,lu]
  ·obtain⟨l,s,rfl⟩:=ava.1 E;show(Gy l.clock).length<=_;cases l.clock<;>simp[Gy]
  ·obtain⟨c,i,rfl⟩:=m f d;rw[fh];cases c<;>simp[dB,dE,Sm.aB.args,Sm.aB.ex,cA,Sm.xP,Sm.eg,Sm.dt]
  ·obtain⟨c,i,rfl⟩:=m f d;obtain⟨a,g,rfl⟩:=x c k p;rw[um];exact(F c i a g).2
  ·obtain⟨c,i,rfl⟩:=m f d;obtain⟨a,g,rfl⟩:=x c k p;rw[(z a).1,(z a).2]at M;have n:=t c i;have N: ∃l:Tr,(l∈jY a\/l∈lu a)/\K=vM l:=by
    grind
   obtain⟨l,s,rfl⟩:=N;refine⟨EY l.e,?_⟩;cases c with
   |df o e=>cases g
   |call o C D a b H e=>cases g
   |sw e q=>obtain⟨A,B⟩:=n.2.2 a g;rw[A,B]at s;rcases s with h|h<;>cases h
   |aP q=>exact(n.2 a g).2.2 l s
   |reset e b=>
    have r:a∈ [bh.mk e0 b [] []]:=g;rw[auW]at r;subst r;rcases s with h|h<;>cases h
def Zp(q:aB):Nat:=wQ q+5
def Zd:aB->Nat
 | .df .. =>1
 | .call .. =>2
 |_=>0
theorem N9(q:aB)(h:qV q):Zp q<=31:=by
 unfold Zp;cases q with
 |df a e=>have:=h.1;simp only[wQ];omega
 |call a d f g b i e=>have:=h.1.1;have:=h.2.1.1;have:=h.2.2.1;simp only[wQ];omega
 |sw e c=>have:=h.1.1;simp only[wQ];omega
 |aP c=>simp only[wQ];omega
 |reset e b=>have:=h.1;simp only[wQ];omega
theorem N_(q:aB)(h:qV q):Zd q<=2:=by cases q<;>simp[Zd]
mutual
theorem N': ∀q:aB,Sm.qP (dE q)<=lR 1 Zp q
 | .df d e=>by
  have c:Sm.qP (dE (.df d e))=xE e+0+0+0:=rfl;simp only[lR,Zp,wQ];omega
 | .call d h i f b j e=>by
  have c:Sm.qP (dE (.call d h i f b j e))=xE e+(xE f+(xE b+0))+1+0:=rfl;simp only[lR,Zp,wQ];omega
 | .sw e a=>by
  have g:=Dv a;have c:Sm.qP (dE (.sw e a))=xE e+0+0+Sm.lC (eZ a):=rfl;simp only[lR,Zp,wQ];omega
 | .aP a=>by
  have g:=Dv a;have c:Sm.qP (dE (.aP a))=0+0+1+Sm.lC (eZ a):=rfl;simp only[lR,Zp,wQ];omega
 | .reset e b=>by
  have g:=GX b;have c:Sm.qP (dE (.reset e b))=xE e+0+0+(Sm.bP (eV b)+0):=rfl;simp only[lR,Zp,wQ];omega
theorem Dv: ∀l:List bh,Sm.lC (eZ l)<=lx 1 Zp l
 | []=>avp _
 | .mk a b c d::l=>by
  have e:=GX b;have f:=Dv l;have g:Sm.lC (eZ (.mk a b c d::l))=Sm.bP (eV b)+Sm.lC (eZ l):=rfl;simp only[lx];omega
theorem GX: ∀b:bj,Sm.bP (eV b)<=nV 1 Zp b
 | .mk a c=>by
  have d:=H5 c;have e:Sm.aU (a.map ey)<=a.length:=by unfold Sm.aU;exact avD (awk _ _) (by simp)
  have f:Sm.bP (eV (.mk a c))=Sm.aU (a.map ey)+Sm.wo (fM c):=rfl;simp only[nV];omega
theorem H5: ∀l:List aB,Sm.wo (fM l)<=jL 1 Zp l
 | []=>avp _
 |a::l=>by
  have b:=N' a;have c:=H5 l;have d:Sm.wo (fM (a::l))=Sm.qP (dE a)+Sm.wo (fM l):=rfl;simp only[jL];omega
end
mutual
theorem Oa: ∀q:aB,Sm.pX (dE q)<=lR 0 Zd q
 | .df f e=>auK 1
 | .call f g h i b j e=>auK 2
 | .sw e a=>by
  have c:=Dw a;have d:Sm.pX (dE (.sw e a))=0+Sm.mX (eZ a):=rfl;simp only[lR,Zd];omega
 | .aP a=>by
  have c:=Dw a;have d:Sm.pX (dE (.aP a))=0+Sm.mX (eZ a):=rfl;simp only[lR,Zd];omega
 | .reset e b=>by
  have c:=Dx b;have d:Sm.pX (dE (.reset e b))=0+(Sm.gg (eV b)+0):=rfl;simp only[lR,Zd];omega
theorem Dw: ∀l:List bh,Sm.mX (eZ l)<=lx 0 Zd l
 | []=>avp _
 | .mk a b c d::l=>by
  have e:=Dx b;have f:=Dw l;have g:Sm.mX (eZ (.mk a b c d::l))=Sm.gg (eV b)+Sm.mX (eZ l):=rfl;simp only[lx];omega
theorem Dx: ∀b:bj,Sm.gg (eV b)<=nV 0 Zd b
 | .mk c a=>by
  have d:=H6 a;have e:Sm.gg (eV (.mk c a))=Sm.kB (fM a):=rfl;simp only[nV];omega
theorem H6: ∀l:List aB,Sm.kB (fM l)<=jL 0 Zd l
 | []=>avp _
 |a::l=>by
  have b:=Oa a;have c:=H6 l;have d:Sm.kB (fM (a::l))=Sm.pX (dE a)+Sm.kB (fM l):=rfl;simp only[jL];omega
end
theorem Dy{k:Nat}{d:Nd}(h:GN k d):yp d.b/\nV 1 Zp d.b<=4000000/\nV 0 Zd d.b<=300000/\nV 1 (λ_=>0) d.b<=900000/\nV 0 (λ_=>1) d.b<=900000:=by
 obtain⟨_,_,⟨last,first,p,c⟩,q,r,a⟩:=h;have b:d.outs.length<=3:=by rw[c];simp
 obtain⟨_,e,f⟩:=AL (y:=1) (z:=31) (Z:=Zp) N9 k 3 _ _ _ _ _ b a;obtain⟨_,_,g⟩:=AL (y:=0) (z:=2) (Z:=Zd) N_ k 3 _ _ _ _ _ b a;obtain⟨_,_,i⟩:=AL (y:=1) (z:=0) (Z:= λ_=>0) (λ_ _=>auK _) k 3 _ _ _ _ _ b a;obtain⟨_,_,j⟩:=AL (y:=0) (z:=1) (Z:= λ_=>1) (λ_ _=>auK _) k 3 _ _ _ _ _ b a;have l:yq 1 31 3=3464175:=by decide
 have m:yq 0 2 3=222300:=by decide
 have n:yq 1 0 3=18525:=by decide
 have o:yq 0 1 3=111150:=by decide
 rw[l]at f;rw[m]at g;rw[n]at i;rw[o]at j;exact⟨e,by omega,by omega,by omega,by omega⟩
theorem AO{l:List Nd}(h:GP l):Sm.lL (dG l)/\Sm.p6 (dG l):=by
 obtain⟨z,A,s⟩:=h;have n: ∀a∈(dG l).nodes,∃b d,a=cC d/\GN b d:= λa c=>by
  obtain⟨d,t,rfl⟩:=ava.1 c;obtain⟨b,u⟩:=ave.1 t;exact⟨b,d,W,s b d u⟩
 refine⟨⟨⟨by simp[dG],λe w=> ?_⟩,by show(l.map cC).length<=_;rw[au8];omega,λa c=> ?_,λa c=> ?_⟩,⟨λa c=> ?_⟩⟩
 ·have o:e∈ [Am]:=w;rw[auW]at o;subst o;simp
 ·obtain⟨b,d,rfl,f⟩:=n a c;obtain⟨i,p,q,j,k⟩:=Dy f;obtain⟨_,_,⟨last,first,B,x⟩,_⟩:=f;have:=GX d.b;exact⟨(Lj i j k).1,by show(d.outs.map ey).length<=_;rw[x];simp,by show Sm.bP (eV d.b)<=_;omega⟩
 ·obtain⟨b,d,rfl,f⟩:=n a c;obtain⟨i,p,q,j,k⟩:=Dy f;obtain⟨_,y,_⟩:=f;have:=Dx d.b;exact⟨by show(d.ins.map ey).length<=_;rw[y];simp,by show Sm.gg (eV d.b)<=_;omega⟩
 ·obtain⟨b,d,rfl,f⟩:=n a c;obtain⟨i,p,q,j,k⟩:=Dy f;have r: ∀v:Va,(ey v).clock.length<=1000000:= λv=>by
   show(Gy v.clock).length<=_;cases v.clock<;>simp[Gy]
  refine⟨(Lj i j k).2,λv g=> ?_,?_⟩
  ·rcases g with g|g
   ·obtain⟨m,_,rfl⟩:=ava.1 g;exact r m
   ·obtain⟨m,_,rfl⟩:=ava.1 g;exact r m
  ·show(eV d.b).vars.length<=_;rw[nT,au8];have:=AN (Z:= λ_=>0) d.b;omega
mutual
def Bn(π:Path)(j:Nat):aB->List It
 | .df _ _=>[]
 | .call _ _ _ _ _ _ _=>[.call π j]
 | .sw _ aj=> .bA π j::AP (j::π) aj
 | .aP aj=> .bA π j:: .lv π j::AP (j::π) aj
 | .reset _ b=> .bA π j::AQ (j::π) b
def AP(π:Path):List bh->List It
 | []=>[]
 | .mk _ b _ _::l=>AQ π b++AP π l
def AQ(π:Path):bj->List It
 | .mk vars au=>(List.range vars.length).map (.cell π)++Cl π 0 au
def Cl(π:Path)(j:Nat):List aB->List It
 | []=>[]
 |q::l=>Bn π j q++Cl π (j+1) l
end
mutual
theorem Lk: ∀(q:aB) (π:Path) (j:Nat),(Bn π j q).length<=lR 1 Zp q
 | .df c e,π,j=>avp _
 | .call c d f g b h e,π,j=>by simp only[Bn,lR,Zp,au4,avt];omega
 | .sw e a,π,j=>by have:=xH a (j::π);simp only[Bn,lR,Zp,au4];omega
 | .aP a,π,j=>by have:=xH a (j::π);simp only[Bn,lR,Zp,au4];omega
 | .reset e b,π,j=>by have:=AR b (j::π);simp only[Bn,lR,Zp,au4];omega
theorem xH: ∀(l:List bh) (π:Path),(AP π l).length<=lx 1 Zp l
 | [],π=>avp _
 | .mk a b c d::l,π=>by have:=AR b π;have:=xH l π;simp only[AP,lx,auN];omega
theorem AR: ∀(b:bj) (π:Path),(AQ π b).length<=nV 1 Zp b
 | .mk c a,π=>by have:=Cm a π 0;simp only[AQ,nV,auN,au8,List.length_range];omega
theorem Cm: ∀(l:List aB) (π:Path) (j:Nat),(Cl π j l).length<=jL 1 Zp l
 | [],π,j=>avp _
 |a::l,π,j=>by have:=Lk a π j;have:=Cm l π (j+1);simp only[Cl,jL,auN];omega
end
theorem xI{π:Path}{a:bh}{it:It} : ∀{l:List bh},a∈l->it∈AQ π (eb a)->it∈AP π l
 | [],c,_=>by cases c
 | .mk e b f g::l,c,d=>by
  simp only[AP];rcases auX.1 c with rfl|c
  ·exact auY _ d
  ·exact au0 _ (xI c d)
theorem Cn{π:Path}{q:aB}{it:It} : ∀{l:List aB} {j i:Nat},l[i]?=some q->it∈Bn π (j+i) q->it∈Cl π j l
 | [],j,i,a,_=>by simp at a
 |c::l,j,i,a,b=>by
  simp only[Cl];cases i with
  |zero=>simp at a;subst a;exact auY _ b
  |succ i=>exact au0 _ (Cn (j:=j+1) (i:=i) (by simpa using a) (by grind))
theorem E0{π:Path}{b:bj}{i:Nat}{q:aB}{it:It}(h:(cT b)[i]?=some q)(hi:it∈Bn π i q):it∈AQ π b:=by
 cases b with
 |mk c a=>
 simp only[AQ];exact au0 _ (Cn (j:=0) (show a[i]?=some q from h) (by grind))
theorem Ll{π:Path}{j:Nat}{q:aB}{a:bh}{it:It}(h:a∈cD q)(hi:it∈AQ (j::π) (eb a)):it∈Bn π j q:=by
 cases q with
 |df f e=>cases h
 |call f g i a b k e=>cases h
 |sw e c=>exact au7 _ (xI (show a∈c from h) hi)
 |aP c=>exact au7 _ (au7 _ (xI (show a∈c from h) hi))
 |reset e b=>
  have d:a∈ [bh.mk e0 b [] []]:=h;rw[auW]at d;subst d;exact au7 _ hi
def jZ(d:Nd):List It:=(List.range (d.ins.length+d.outs.length+(dw d.b).length)).map (.cell [])++AQ [] d.b
theorem E4{T:eD}{F:List (Option Int)}{A:Env}{d:Nd}{u:US} : ∀{π:Path} {b:bj} {s:Nat} {rs:Rs},dD T F A d u π=some (b,s,rs)-> ∀it∈AQ π b,it∈jZ d:=by
 intro π
 induction π with
 |nil=>
  intro b s rs a it c;obtain⟨rfl,_⟩:=rI a;exact au0 _ c
 |cons k π e=>
  intro b s rs a it c;obtain⟨o,p,q,l,m,n,f,g,r,h,i,t⟩:=lm a;have j:=(avV i).1;subst j;exact e f it (E0 g (Ll (auQ h) c))
theorem GY{a:Type}{l:List a}{f:a->Bool} :(l.findIdx? f).getD 0<=l.length:=by
 cases b:l.findIdx? f with
 |none=>exact avp _
 |some d=>
  obtain⟨c,_⟩:=avq.1 b;exact axF c
section
variable{P:Sm.Pg}{T:eD}{F:List (Option Int)}{A:Env}{d:Nd}{u:US}{Pr:Nat->US->List Int->List Int->US->Prop}{aD:Nat->US}{ap:List Sm.It}{step:US->List Int->List Int->US->Prop}
theorem AS(f:yp d.b): ∀{π:Path} {b:bj} {s:Nat} {rs:Rs},dD T F A d u π=some (b,s,rs)->yp b:=by
 intro π
 induction π with
 |nil=>intro b s rs a;obtain⟨rfl,_⟩:=rI a;exact f
 |cons n π g=>
  intro b s rs a;obtain⟨p,q,r,c,o,e,h,i,t,j,k,v⟩:=lm a;have l:=(avV k).1;subst l;have:=g h;cases this with
  |mk w m=>exact m c (auQ i) e (auQ j)
theorem E5{rs:Rs}{p:Nat}{q:aB}(h:qV q):(uQ T A rs p q).length<=26:=by
 cases q with
 |df a e=>exact h.2 T A rs.rd p
 |call a g i c b f e=>
  have j:=h.1.2 T A rs.rd (p+1+xE e);have k:=h.2.1.2 T A rs.rd (p+1+xE e+xE c);have l:=h.2.2.2 T A rs.rd (p+1);simp only[uQ,auN,avg];cases f with
  |false=>simp only[avS,awi,avt];omega
  |true=>simp only[awr];omega
 |sw e d=>have:=h.1.2 T A rs.rd p;simp only[uQ];omega
 |aP d=>simp[uQ]
 |reset e b=>have:=h.2 T A rs.rd p;simp only[uQ];omega
theorem MN{rs:Rs}{p:Nat}{q:aB}(h:qV q):EV T F A rs p q<=1000:=by
 cases q with
 |df d e=>exact avp _
 |call d f g i b k e=>exact avp _
 |sw e a=>exact avp _
 |aP a=>
  have j:=h.1;show(match wR T F A rs p (.aP a)with|none=>(if fQ T A rs p (.aP a)<a.length then fQ T A rs p (.aP a)else 0)|some c=>sH a c.to)<=1000;cases wR T F A rs p (.aP a)with
  |none=>simp only;split<;>omega
  |some c=>have:sH a c.to<=a.length:=GY;simp only;omega
 |reset e b=>exact avp _
theorem qC{a:Type}{l:List a}{k:Nat}{x:a}(h:l[k]?=some x):k<l.length:=by grind
theorem AT{π:Path}{k:Nat}{b:Sm.Va}(h:(Sm.aK.fr (aN T F A d u Pr aD ap) π).vars[k]?=some b): ∃v,(qf T F A d u π)[k]?=some v/\b=ey v:=by
 have a:(fj T F A d u π).vars[k]?=some b:=h;rw[oJ,au6]at a;cases c:(qf T F A d u π)[k]? with
 |none=>rw[c]at a;cases a
 |some v=>rw[c]at a;injection a with a;exact⟨v,W,a.symm⟩
theorem OP(l:List It):(l.map λ_=>100).foldr (·+ ·) 0=100*l.length:=by
 induction l with
 |nil=>rfl
 |cons b l a=>simp only[avm,aw5,au4,a];omega
open Classical in
theorem Oc(X:bJ P T F A d u Pr aD)(L:N4 P step Pr aD)(hz:yp d.b)(hm:nV 1 Zp d.b<=4000000)(hd:P.nodes[u.i]?=some (cC d))(Th:d.ins.length<=1000)(i9:d.outs.length<=1000){ins:List Int}(hl:ins.length=d.ins.length)(gc: ∀(h:Nat) (v:Va) (Y:Int),d.ins[h]?=some v->ins[h]?=some Y-> ∃sb k,get A v.name=some (some Y,sb,k)):
  Sm.gy P step (aN T F A d u Pr aD (jZ d)) (cC d) u ins (d.outs.map λv=>val A v.name) (s8 (aN T F A d u Pr aD (jZ d)) u.i):=by
 have hg:Sm.pc P (aN T F A d u Pr aD (jZ d)) (cC d):=X.lP;have P0:(cC d).ins.length=d.ins.length:=by show(d.ins.map ey).length=_;simp
 have ge:(cC d).outs.length=d.outs.length:=by show(d.outs.map ey).length=_;simp
 have y:dD T F A d u []=some (d.b,0,rf u):=rfl;have v0:qf T F A d u []=d.ins++d.outs++dw d.b:=by rw[lZ y,au2 W]
 have d8: ∀{j:aB} {q:Nm},dB j=1\/dB j=2->q∈(dE j).lhs->q∈dQ j:= λ{j q} g B=>by
  cases j with
  |df l e=>have D:q∈ [l]:=B;rw[auW]at D;exact eE.2 D
  |call l z M N b R e=>have D:q∈ [l,z]:=B;simp only[auX,au3,avF]at D;exact eE.2 D
  |sw e O=>simp[dB]at g
  |aP O=>simp[dB]at g
  |reset e b=>simp[dB]at g
 refine{nd:=hd,sz:=rfl,Bd:=rfl,i_:=hg.i_,qe:=hg.qe,sU:=by rw[P0];exact hl,ya:= λh v Y g hn=> ?_,cell:= λa h v lp H I Qc hi=> ?_,eq:= λa i j p H f hp=> ?_,lhs:= λa i j H f g ht k q B=> ?_,nx:= λa i=> ?_,vD:= λa hn=> ?_,gh:= λa i j f g=> ?_,lh:= λa i j H f q B x E he=> ?_,II:= λk v I=> ?_,F_:= λa i j q H f g hl ht=> ?_,IK:= λa i j H f q B=> ?_,aj:= λa i j H f g=> ?_,rd:= λh g=> ?_,rp:= λh g=> ?_,rs:= λh g=> ?_,nm:= λh g=>Le X u.i h,np:= λh g=>N6 X u.i h,ns:= λh g=>Lf X u.i h,ui:=rfl,wc:= λa h v H I hi=> ?_,wq:= λa i j H f=> ?_,ws:= ?_,outs:= ?_}
 ·have Qv:(d.ins.map ey)[h]?=some v:=g;rw[au6]at Qv;cases I:d.ins[h]? with
  |none=>rw[I]at Qv;cases Qv
  |some ac=>
   obtain⟨sb,k,r⟩:=gc h ac Y I hn;have Sj:(qf T F A d u [])[h]?=some ac:=by rw[v0,avh,auL (qC I)];exact I
   obtain⟨g1,g2,_⟩:=GO (Pr:=Pr) (aD:=aD) (ap:=jZ d) [] Sj;rw[g1,g2,(mz r).2.2,(mz r).2.1];have:=uO r;exact⟨W,by show _<A.length+1;omega⟩
 ·obtain⟨b,s,rs,hp⟩:=wT H;obtain⟨ac,J,rfl⟩:=AT I;exact N5 X hp J Qc (λe=>by rw[<-P0];exact hi e)
 ·obtain⟨b,s,rs,n,y,o,t,K,rfl,Q,C⟩:=kY (show(fj T F A d u a).au[i]?=some j from f);have P2:(fj T F A d u a).pos[i]?=some p:=hp;rw[Q]at P2;injection P2 with P2
  subst P2;exact Pk X L o t K
 ·obtain⟨b,s,rs,n,y,o,t,K,rfl,Q,C⟩:=kY (show(fj T F A d u a).au[i]?=some j from f);rw[fh]at g;cases n with
  |df l e=>simp[dB]at g
  |sw e O=>simp[dB]at g
  |aP O=>simp[dB]at g
  |reset e b=>simp[dB]at g
  |call l z M N b' R e=>
   obtain⟨i8,g1,g2,g3,g4,g5⟩:=fZ X.hL X.hU X.hS o;obtain⟨⟨w1,w2,co,jj,ii,ox,oy,u',E,k1,k2,_⟩,_⟩:=(pv g1).2.2.1 i _ y t K;have VR:=Ch (Pr:=Pr) (aD:=aD) (ap:=jZ d) C;have d9:xG A (.call l z M N b' R e)=ii:=(mz k1).1;have f9: ∀{q:Nm} {ah:Int} {d7:Nat} {k:Nat},q∈dQ (.call l z M N b' R e)->get A q=some (some ah,ii,d7)->ii<=d7->(HR A (.call l z M N b' R e))[k]?=some ah->(∀(w:Nat) (G:Nm),(dE (.call l z M N b' R e)).lhs[w]?=some G->G=q->w=k)->
     ∃x Y,(aN T F A d u Pr aD (jZ d)).find a q=some x/\(aN T F A d u Pr aD (jZ d)).val x.1 x.2=some Y/\((aN T F A d u Pr aD (jZ d)).outs a i)[k]?=some Y/\(aN T F A d u Pr aD (jZ d)).sb x.1 x.2=(aN T F A d u Pr aD (jZ d)).ek a i/\(aN T F A d u Pr aD (jZ d)).ek a i<=(aN T F A d u Pr aD (jZ d)).jX x
      /\(∀w G PW,(dE (.call l z M N b' R e)).lhs[w]?=some G->(aN T F A d u Pr aD (jZ d)).find a G=some PW->PW=x->w=k)/\ ∃s j0,Sm.gR ((aN T F A d u Pr aD (jZ d)).fr x.1) x.2 s j0/\s.name=q/\((aN T F A d u Pr aD (jZ d)).fr x.1).vars[x.2]?=some s/\Sm.Src (aN T F A d u Pr aD (jZ d)) ((aN T F A d u Pr aD (jZ d)).sb x.1 x.2) x.1 j0 q (some (a,i))/\(x.1= []->(cC d).ins.length<=x.2):=by
    intro q ah d7 k B WI hr i6 i7;obtain⟨ρ,h,v,E,j0,S,U,e3,e4⟩:=yI X (ap:=jZ d) o t (.inr W) B;obtain⟨y1,y2,y3,y4⟩:=E.get;refine⟨(ρ,h),ah,E.f,by rw[y3,(mz WI).2.2],by rw[(AG (Pr:=Pr) (aD:=aD) (ap:=jZ d) C).1];exact i6,by rw[y4,(mz WI).1,VR,d9],by rw[VR,d9,y2,(mz WI).2.1];exact hr,λw G PW r m h3=> ?_,ey v,j0,S,E.n,U,e3,λe=>by rw[P0];exact e4 e⟩;subst h3;refine i7 w G r ?_;have D:=d8 (.inr W) (auQ r);obtain⟨ρ',k',v',V,_⟩:=yI X (ap:=jZ d) o t (.inr W) D;rw[V.f]at m;injection m with m
    injection m with m h3
    subst m;subst h3;have:=V.vv;rw[E.vv]at this;injection this with this
    rw[<-V.n,<-this,E.n]
   have D:([l,z]:List Nm)[k]?=some q:=B;rw[sL k1|>.symm]at k1;rw[sL k2|>.symm]at k2;cases k with
   |zero=>
    simp at D;subst D;refine f9 (eE.2 (.inl W)) k1 (auK _) W (λw G r m=> ?_);have Tm:([l,z]:List Nm)[w]?=some G:=r;cases w with
    |zero=>rfl
    |succ w=>
     cases w with
     |zero=>simp at Tm;rw[Tm,m]at co;exact absurd W co
     |succ w=>simp at Tm
   |succ k=>
    cases k with
    |succ k=>simp at D
    |zero=>
     simp at D;subst D;refine f9 (eE.2 (.inr W)) k2 (Nat.le_succ _) W (λw G r m=> ?_);have Tm:([l,z]:List Nm)[w]?=some G:=r;cases w with
     |zero=>simp at Tm;rw[Tm,m]at co;exact absurd W co
     |succ w=>
      cases w with
      |zero=>rfl
      |succ w=>simp at Tm
 ·show(match kX T F A d u a i with|some (j,p,rs)=>EV T F A rs p j|none=>0)<=1000;cases f:kX T F A d u a i with
  |none=>exact avp _
  |some l=>
   obtain⟨j,p,rs⟩:=l;refine MN ?_;cases r:dD T F A d u a with
   |none=>unfold kX at f;rw[r]at f;cases f
   |some z=>
    obtain⟨b,s,Sv⟩:=z;unfold kX at f;rw[r]at f;simp only at f;cases m:(cT b)[i]? with
    |none=>rw[m]at f;cases f
    |some q'=>
     obtain⟨p',P2⟩:=nU (s:=s) m;rw[m,P2]at f;injection f with f
     injection f with f _
     subst f;have:=AS hz r;cases this with
     |mk f hb=>exact f q' (auQ m)
 ·have RL: ¬(dD T F A d u a).isSome=true:=hn;have r:dD T F A d u a=none:=by
   cases c:dD T F A d u a with
   |none=>rfl
   |some l=>rw[c]at RL;exact absurd W RL
  have:(aN T F A d u Pr aD (jZ d)).fr a=⟨[],[],[],[]⟩:=by show fj T F A d u a=_;unfold fj;rw[r]
  rw[this];exact⟨W,W⟩
 ·obtain⟨b,s,rs,n,y,o,t,K,rfl,Q,C⟩:=kY (show(fj T F A d u a).au[i]?=some j from f);have r:dD T F A d u (i::a)=none:=by
   cases c:dD T F A d u (i::a)with
   |none=>rfl
   |some l=>
    obtain⟨b',s',Sv,q',p',a',S,U,e3,e4,_⟩:=lm c;rw[o]at S;injection S with S
    cases S;rw[t]at U;injection U with U
    subst U;have:=Ay e4;rw[fh]at g;omega
  have m:(fj T F A d u (i::a)).vars= []:=by unfold fj;rw[r]
  refine⟨?_,?_⟩
  ·show(match(fj T F A d u (i::a)).vars[0]? with|some v=>jm A v.name|none=>match kX T F A d u a i with|some (j,_,_)=>xG A j|none=>0)=_;rw[m,Ch C,C];rfl
  ·show(match(fj T F A d u (i::a)).vars[0]? with|some v=>s7 A v.name|none=>none)=_;rw[m];rfl
 ·obtain⟨b,s,rs,n,y,o,t,K,rfl,Q,C⟩:=kY (show(fj T F A d u a).au[i]?=some j from f);by_cases g:dB n=1\/dB n=2
  ·obtain⟨ρ,h,v,V,_,_,_,_,e4⟩:=yI X (ap:=jZ d) o t g (d8 g B);rw[V.f]at E;injection E with E
   subst E;rw[P0];exact e4 he
  ·cases n with
   |df l e=>simp[dB]at g
   |call l z M N b R e=>simp[dB]at g
   |sw e O=>cases B
   |aP O=>cases B
   |reset e b=>cases B
 ·have RT:(d.outs.map ey)[k]?=some v:=I;rw[au6]at RT;cases J:d.outs[k]? with
  |none=>rw[J]at RT;cases RT
  |some ac=>
   rw[J]at RT;injection RT with RT
   subst RT;rw[P0];have Sj:(qf T F A d u [])[d.ins.length+k]?=some ac:=by
    rw[v0,avh,auR (by omega),avP,auL (qC J)];exact J
   exact(pF X y Sj).f
 ·obtain⟨b,s,rs,n,y,o,t,K,rfl,Q,C⟩:=kY (show(fj T F A d u a).au[i]?=some j from f);rw[fh]at g;have B:q∈dQ n:=d8 (.inl g) (by rw[hl];exact av1 _);obtain⟨ρ,h,v,V,j0,S,U,e3,e4⟩:=yI X (ap:=jZ d) o t (.inl g) B;exact⟨(ρ,h),ey v,j0,V.f,S,V.n,U,e3,λe=>by rw[P0];exact e4 e⟩
 ·obtain⟨b,s,rs,n,y,o,t,K,rfl,Q,C⟩:=kY (show(fj T F A d u a).au[i]?=some j from f);obtain⟨ρ,h,v,E⟩:=rH X (ap:=jZ d) o (yH X o t B);exact⟨_,E.f⟩
 ·obtain⟨b,s,rs,n,y,o,t,K,rfl,Q,C⟩:=kY (show(fj T F A d u a).au[i]?=some j from f);rw[fh]at g;rw[nS];cases n with
  |df l e=>rfl
  |call l z M N b R e=>rfl
  |sw e O=>simp[dB]at g
  |aP O=>simp[dB]at g
  |reset e b=>simp[dB]at g
 ·rw[<-X.hF];refine⟨λc=> ?_,λc=> ?_⟩
  ·show(if Sm.fO (oW T F A d u Pr aD (jZ d)) h then _ else _)=_;exact au2 c
  ·show(if Sm.fO (oW T F A d u Pr aD (jZ d)) h then _ else _)=_;exact auU c
 ·rw[<-X.hF];refine⟨λc m=> ?_,λc=> ?_⟩
  ·show(if Sm.fO (oW T F A d u Pr aD (jZ d)) h/\_ then _ else _)=_;exact au2 ⟨c,m⟩
  ·show(if Sm.fO (oW T F A d u Pr aD (jZ d)) h/\_ then _ else _)=_;exact auU c
 ·rw[<-X.hF];refine⟨λc m=> ?_,λc=> ?_⟩
  ·show(if Sm.fO (oW T F A d u Pr aD (jZ d)) h/\_ then _ else _)=_;exact au2 ⟨c,m⟩
  ·show(if Sm.fO (oW T F A d u Pr aD (jZ d)) h/\_ then _ else _)=_;exact auU c
 ·obtain⟨b,s,rs,hp⟩:=wT H;obtain⟨ac,J,rfl⟩:=AT I;have S1:=qC J;refine⟨?_,(by decide:1<=100),λi PC j' j _ _ f g=> ?_⟩
  ·show It.cell a h∈jZ d;rw[lZ hp]at S1;by_cases e:a= []
   ·subst e;rw[au2 W]at S1;refine auY _ (ava.2 ⟨h,awp.2 (by simp only[auN]at S1;exact S1),W⟩)
   ·rw[auU e]at S1;refine E4 hp _ ?_;cases b with
    |mk pm au=>exact auY _ (ava.2 ⟨h,awp.2 S1,W⟩)
  ·obtain⟨b,s,rs,n,y,o,t,K,rfl,Q,C⟩:=kY (show(fj T F A d u PC).au[j']?=some j from f);rw[HV C];have hs:qV n:=by
    have:=AS hz o;cases this with
    |mk f hb=>exact f n (auQ t)
   have:=E5 (T:=T) (A:=A) (rs:=rs) (p:=y) hs;show 1+_<=100;omega
 ·obtain⟨b,s,rs,n,y,o,t,K,rfl,Q,C⟩:=kY (show(fj T F A d u a).au[i]?=some j from f);rw[fh,HV C];have hs:qV n:=by
   have:=AS hz o;cases this with
   |mk f hb=>exact f n (auQ t)
  have mt:=E5 (T:=T) (A:=A) (rs:=rs) (p:=y) hs;have d6:(uQ T A rs y n).length<=100:=by omega
  have TA: ∀it∈Bn a i n,it∈jZ d:= λit hi=>E4 o it (E0 t hi)
  cases n with
  |df l e=>exact⟨λc=>by simp[dB]at c,λc=>by simp[dB]at c,λc=>by simp[dB]at c⟩
  |call l z M N b R e=>exact⟨λ_ _=>⟨TA _ (av1 _),d6⟩,λc=>by simp[dB]at c,λc=>by simp[dB]at c⟩
  |sw e O=>exact⟨λc=>by simp[dB]at c,λ_=>⟨TA _ (avj ..),d6⟩,λc=>by simp[dB]at c⟩
  |aP O=>exact⟨λc=>by simp[dB]at c,λ_=>⟨TA _ (avj ..),d6⟩,λ_=>⟨TA _ (au7 _ (avj ..)),(by decide:1<=100)⟩⟩
  |reset e b=>exact⟨λc=>by simp[dB]at c,λ_=>⟨TA _ (avj ..),d6⟩,λc=>by simp[dB]at c⟩
 ·show((jZ d).map λ_=>100).foldr (·+ ·) 0<=_;rw[OP];have r:=AR d.b [];have m:=AN (Z:=Zp) d.b;have h3:(jZ d).length=d.ins.length+d.outs.length+(dw d.b).length+(AQ [] d.b).length:=by simp[jZ]
  omega
 ·rw[ge];apply awt;intro k;rw[au6,au6];rcases auM k d.outs.length with c|c
  ·rw[auO c,List.getElem?_range c];have J:d.outs[k]?=some d.outs[k]:=auO c;have Sj:(qf T F A d u [])[d.ins.length+k]?=some d.outs[k]:=by
    rw[v0,avh,auR (by omega),avP,auL c];exact J
   have:=(pF X (ap:=jZ d) y Sj).get.1;simp only[awC];rw[P0,this]
  ·rw[auP c,auP (by simpa using c)];rfl
end
section
variable{P:Sm.Pg}{T:eD}{F:List (Option Int)}{A:Env}{d:Nd}{u:US}{Pr:Nat->US->List Int->List Int->US->Prop}{aD:Nat->US}{ap:List Sm.It}{an:Nat}{G:Nat->US->Prop}
theorem MO{aj:List bh}{x:Nm}{k:Nat}(h:Sm.nH (eZ aj) x=some k)(e:k=sH aj x):sH aj x<aj.length:=by
 unfold Sm.nH at h;obtain⟨a,_⟩:=avq.1 h;rw[pE,au8]at a;rw[<-e];exact a
theorem Od{V:Nm->Prop}{rs:Rs}{p:Nat}{aj:List bh}(h:Ap T F A Pr aD V rs p (.aP aj)):EV T F A rs p (.aP aj)<aj.length:=by
 obtain⟨b,a,m,n,o,q,r,s,c,f,t⟩:=h;have d:=qC c;have g:wR T F A rs p (.aP aj)=jv T A (pk T F A rs p (.aP aj) a).rd (lu a):=by
  show(match aj[fQ T A rs p (.aP aj)]? with|some a=>jv T A (pk T F A rs p (.aP aj) a).rd (lu a)|none=>none)=_;rw[c]
 show(match wR T F A rs p (.aP aj)with|none=>(if fQ T A rs p (.aP aj)<aj.length then fQ T A rs p (.aP aj)else 0)|some b=>sH aj b.to)<aj.length;rw[g,au2 d];cases i:jv T A (pk T F A rs p (.aP aj) a).rd (lu a)with
 |none=>exact d
 |some e=>
  obtain⟨_,_,_,l,j,k⟩:=f e (ul i);exact MO j k
theorem MP(h:Wd T F G Pr aD an)(k:Mem T G (rf u)):Mem T G ⟨Sm.aK.rd (aN T F A d u Pr aD ap),Sm.aK.rp (aN T F A d u Pr aD ap),Sm.aK.rs (aN T F A d u Pr aD ap)⟩:=by
 classical
 intro a;have b:=k a;have i:Sm.aK.rd (aN T F A d u Pr aD ap) a=if Sm.fO (oW T F A d u Pr aD ap) a then Sm.bZ F a else u.mem a:=rfl
 have m:Sm.aK.rs (aN T F A d u Pr aD ap) a=if Sm.fO (oW T F A d u Pr aD ap) a/\F[a]?=some none then none else u.an a:=rfl
 cases c:T.pt a with
 |val f=>
  rw[c]at b;show VT f (Sm.aK.rd (aN T F A d u Pr aD ap) a);rw[i];split
  ·exact h.fv a f c
  ·exact b
 |any=>trivial
 |aP g=>
  rw[c]at b;show 0<=Sm.aK.rd (aN T F A d u Pr aD ap) a/\Sm.aK.rd (aN T F A d u Pr aD ap) a<(g:Int);rw[i];split
  ·exact h.fa a g c
  ·exact b
 |call n=>
  rw[c]at b;intro j l;have e:Sm.aK.rs (aN T F A d u Pr aD ap) a=some j:=l;rw[m]at e;split at e
  ·cases e
  ·exact b j e
theorem Co(X:bJ P T F A d u Pr aD){π:Path}{b:bj}{s:Nat}{rs:Rs}(a:dD T F A d u π=some (b,s,rs)){j:Nat}{q:aB}{p:Nat}(c:(cT b)[j]?=some q)(e:(kI b s)[j]?=some p):Aq T q p:=by
 obtain⟨h,i,k,f,l,m⟩:=fZ X.hL X.hU X.hS a;cases f with
 |mk n g sb=>exact g j q p c e
theorem AU(X:bJ P T F A d u Pr aD){π:Path}{b:bj}{s:Nat}{rs:Rs}(a:dD T F A d u π=some (b,s,rs)){j:Nat}{q:aB}{p:Nat}(c:(cT b)[j]?=some q)(e:(kI b s)[j]?=some p): ∃V,Cb T F A Pr aD V rs p q/\ ∀x,V x->jH T F A d u π x:=by
 obtain⟨V,f,i,k,g,l⟩:=fZ X.hL X.hU X.hS a;exact⟨_,(pv f).2.2.1 j q p c e,λx h=>(g x).1 h⟩
theorem Lm(X:bJ P T F A d u Pr aD)(hW:Wd T F G Pr aD an)(hM:Mem T G (rf u))(hG: ∀m u i d8 o,Pr m u i d8 o->o.i=m/\G m o)(i:Nat):Mem T G (rf (s8 (aN T F A d u Pr aD ap) i)):=by
 intro a;have z:=MP (A:=A) (d:=d) (ap:=ap) hW hM a;obtain⟨m1,m2⟩:=Le X (ap:=ap) i a;obtain⟨s1,s2⟩:=Lf X (ap:=ap) i a;have S: ∀v,Sm.nJ (aN T F A d u Pr aD ap) a v->match T.pt a with| .val t=>VT t v| .any=>True| .aP w=>0<=v/\v<(w:Int)| .call m=>False:=by
  intro v f;have d9:MT T a v->match T.pt a with| .val t=>VT t v| .any=>True| .aP w=>0<=v/\v<(w:Int)| .call m=>False:= λc=>by
   unfold MT at c;cases p:T.pt a with
   |val t=>rw[p]at c;exact c
   |any=>trivial
   |aP w=>rw[p]at c;exact c.elim
   |call m=>rw[p]at c;exact c.elim
  cases AJ f with
  |ew j m b Y I Z L l M N ht r=>
   obtain⟨d6,⟨B,C⟩,hV⟩:=AU X l M N;apply d9;cases Z with
   |df x e=>
    have hs:=(AF X l (hV x B.1) W (.inl W)).1 ht;refine C ?_ (a,v) r;obtain⟨_,⟨D,g1,_⟩|⟨D,g1⟩⟩:=B
    ·exact⟨_,_,_,g1⟩
    ·rw[(mz g1).2.2]at hs;cases hs
   |call x ac ah q O U e=>
    obtain⟨w1,w2,w3⟩:=C;simp only[uQ,avg,auS]at r;cases U with
    |false=>
     rcases r with k|k|k
     ·cases k
     ·exact w2 (a,v) k
     ·exact w3 (a,v) k
    |true=>
     rcases r with k|k|k
     ·exact w1 W (a,v) k
     ·exact w2 (a,v) k
     ·exact w3 (a,v) k
   |sw e Q=>exact C (a,v) r
   |aP Q=>cases r
   |reset e O=>exact C (a,v) r
  |last j D b Y I l hl RT=>
   have i6:D<(Sm.aK.fr (aN T F A d u Pr aD ap) j).vars.length:=by
    have s:=qC hl;have R:(Sm.aK.fr (aN T F A d u Pr aD ap) j).cO.length=(Sm.aK.fr (aN T F A d u Pr aD ap) j).vars.length:=by
     show(fj T F A d u j).cO.length=(fj T F A d u j).vars.length;rw[Az l,oJ,lZ l];split
     ·simp[Sm.ff]
     ·simp[Sm.ff]
    omega
   obtain⟨n,g,i7⟩:=AT (Pr:=Pr) (aD:=aD) (ap:=ap) (auO i6);have f9:n.last=true:=by
    by_cases e:n.last=true
    ·exact e
    ·exfalso;have PU: ∀{y:List Va} {q i:Nat} {n:Va},y[i]?=some n->n.last=false->(Sm.b_ (y.map ey) q)[i]?=some none:=by
      intro y
      induction y with
      |nil=>intro q i n c _;simp at c
      |cons v y ih=>
       intro q i n c g;cases i with
       |zero=>simp at c;subst c;show(if v.last then _ else _)[0]?=_;rw[auU (by rw[g];simp)];rfl
       |succ i=>
        have h':y[i]?=some n:=by simpa using c
        show(if v.last then _ else _)[i+1]?=_;split
        ·exact ih h' g
        ·exact ih h' g
     have ZL:n.last=false:=by simpa using e
     have h:(fj T F A d u j).cO[D]?=some (some a):=hl;rw[Az l]at h;rw[lZ l]at g;by_cases e0:j= []
     ·rw[au2 e0]at h g;have J:(List.replicate d.ins.length (none:Option Nat)).length=d.ins.length:=by simp
      have P6:(Sm.b_ (d.outs.map ey) (Sm.bP (eV d.b))).length=d.outs.length:=by rw[Sm.ff];simp
      rcases auM D d.ins.length with s|s
      ·rw[avh,auL (by rw[J];exact s)]at h;simp[s]at h
      rcases auM D (d.ins.length+d.outs.length)with R|R
      ·rw[avh,auR (by rw[J];exact s),auL (by rw[J,P6];omega),J]at h;rw[avh,auR s,auL (by omega)]at g;rw[PU g ZL]at h;cases h
      ·rw[auR (by simp[P6];omega)]at h;simp only[auN,J,P6]at h;rw[auR (by simp;omega)]at g;simp only[auN]at g;rw[PU g ZL]at h;cases h
     ·rw[auU e0]at h g;rw[PU g ZL]at h;cases h
   obtain⟨E,q2,q3⟩:=(KZ (ap:=ap) X l g).lp f9;rw[hl]at E;injection E with E
   injection E with E
   have Qf:=(GO (Pr:=Pr) (aD:=aD) (ap:=ap) j g).1;rw[RT]at Qf;rw[E,q2];have:val A n.name=v:=by rw[<-Cg,<-Qf];rfl
   rw[<-this];exact q3
  |aP j m b Y I Q l M N RT=>
   obtain⟨d6,⟨B,C⟩,hV⟩:=AU X l M N;have Qp:=Co X l M N;rw[Qp,RT];have:=Od B;simp only;omega
 cases p:T.pt a with
 |val t=>
  rw[p]at z S;show VT t ((s8 (aN T F A d u Pr aD ap) i).mem a);by_cases f: ∃v,Sm.nJ (aN T F A d u Pr aD ap) a v
  ·obtain⟨v,f⟩:=f;rw[m1 v f];exact S v f
  ·rw[m2 (λv c=>f ⟨v,c⟩)];exact z
 |any=>trivial
 |aP w=>
  rw[p]at z S;show 0<=(s8 (aN T F A d u Pr aD ap) i).mem a/\(s8 (aN T F A d u Pr aD ap) i).mem a<(w:Int);by_cases f: ∃v,Sm.nJ (aN T F A d u Pr aD ap) a v
  ·obtain⟨v,f⟩:=f;rw[m1 v f];exact S v f
  ·rw[m2 (λv c=>f ⟨v,c⟩)];exact z
 |call m=>
  rw[p]at z;intro o U6;have H:(s8 (aN T F A d u Pr aD ap) i).an a=some o:=U6;by_cases f: ∃v,Sm.wu (aN T F A d u Pr aD ap) a v
  ·obtain⟨v,f⟩:=f;rw[s1 v f]at H;injection H with H
   subst H;obtain⟨j,j',q',s,R,K,h4,h5,h6⟩:=f;obtain⟨b,Y,I,Z,L,f1,f2,f3,rfl,f5,f6⟩:=kY (show(fj T F A d u j).au[j']?=some q' from R);have XP:L=a:=by
    have d7:(fj T F A d u j).pos[j']?=some a:=h5;rw[f5]at d7;injection d7
   subst XP;rw[fh]at K;cases Z with
   |df x e=>simp[dB]at K
   |sw e Q=>simp[dB]at K
   |aP Q=>simp[dB]at K
   |reset e b=>simp[dB]at K
   |call x ac ah q O U e=>
    obtain⟨d6,⟨B,C⟩,hV⟩:=AU X f1 f2 f3;obtain⟨_,_,_,jj,ii,ox,oy,gc,hf,k1,k2,_,_,_,Qp,UK⟩:=B;have V:=(Co X f1 f2 f3).1 jj hf;rw[p]at V;injection V with V
    subst V;have co: ∃o,HS T A Pr aD I L (.call x ac ah q O U e) o:=⟨gc,m,hf,by rw[sL k1,sL k2];exact Qp⟩;have hq:yj T A Pr aD I L (.call x ac ah q O U e)=Classical.choose co:=by unfold yj;rw[axq co]
    obtain⟨j2,Sf,ge⟩:=awl co;rw[hf]at Sf;have:=(iX Sf).2;subst this;rw[h6,(AG f6).2.1,hq];exact hG _ _ _ _ _ ge
  ·rw[s2 (λv c=>f ⟨v,c⟩)]at H;exact z o H
end
end Go.Ex
