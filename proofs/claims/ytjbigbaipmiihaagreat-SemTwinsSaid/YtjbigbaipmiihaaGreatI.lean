/- A part of the proof of the last text of this claim, without conditions. -/
import Derived.Test.YtjbigbaipmiihaaGreatH
set_option maxRecDepth 4000
set_option linter.all false
namespace Go.Proofs
open Go.Mt Go.Mk
def L2(H:Hp)(QW:List (List D))(m1:M)(n2:Nat)(R7:List (List D))(m2:M):Prop:= ∃i1 i2,Acc 15 i1 QW m1 H/\Acc n2 i2 R7 m2 H/\2<=i1/\2<=i2/\i1≠i2
theorem L2.Fs{H:Hp}{a:List (List D)}{b:M}{c:Nat}{d:List (List D)}{e:M}(h:L2 H a b c d e)(n:Nat):L2 H a b n [] (.d (.sl [])):=by
 obtain⟨f,g,i,m,j,k,l⟩:=h;exact⟨f,g,i,.inl ⟨rfl,rfl⟩,j,k,l⟩
theorem L2.Ek{H:Hp}{a:List (List D)}{b:M}{d:Nat}{e:List (List D)}{f:M}(h:L2 H a b d e f)(g: ∀c∈a,c.length=15):iI H b=some (.sl a):=by
 obtain⟨j,k,i,_⟩:=h;exact i.view g
theorem L2.yr{H:Hp}{e:List (List D)}{f:M}{b:Nat}{a:List (List D)}{c:M}(h:L2 H e f b a c)(g: ∀d∈a,d.length=b):iI H c=some (.sl a):=by
 obtain⟨j,k,_,i,_⟩:=h;exact i.view g
theorem yu(a b:List (List D)):aX (a++b)=aX a++aX b:=by simp[aX]
theorem CV{n i:Nat}{rs rows:List (List D)}{m:M}{H:Hp}(h:Acc n i rs m H)(hi:2<=i)(p:2<=H.length):
  ∃d,Acc n d (rs++rows) (ie m H rows) (fW n m H rows)/\2<=d/\(d=i\/d=H.length)/\(∀j ob,(rs≠ []->j≠i)->H[j]?=some ob->(fW n m H rows)[j]?=some ob)/\H.length<=(fW n m H rows).length/\ ∀v b c g F,H=GH v b c g++F-> ∃q,fW n m H rows=GH v b c g++q:=by
 rcases h with⟨rfl,rfl⟩|⟨r,f,rfl,k⟩
 ·cases rows with
  |nil=>exact⟨i,.inl ⟨rfl,rfl⟩,hi,.inl W,λj ob _ h=>h,aqd _,λv b c g F h=>⟨F,h⟩⟩
  |cons l o=>
   refine⟨H.length,.inr ⟨by simp,0,by simp[ie,vo],by simp[fW,kW]⟩,p,.inr W,λj ob _ h=> ?_,by simp[fW,kW],λv b c g F h=>⟨F++ [.row true n 0 (aX (l::o))],by rw[h];simp[fW,kW]⟩⟩;simp only[fW,kW];rw[aqf (tm h)];exact h
 ·have s:=tm k;have e:fW n (.bB i f rs.length) H rows=H.set i (.row true n (f+1) (aX rs++aX rows)):=by simp only[fW,k]
  rw[e];refine⟨i,.inr ⟨by simp[r],f+1,by simp[ie],by rw[yu];simp[s]⟩,hi,.inl W,λj ob t h=>by grind,by simp,λv b c g F h=> ?_⟩;obtain⟨a,rfl⟩: ∃a,i=2+a:=⟨i-2,by omega⟩;refine⟨F.set a (.row true n (f+1) (aX rs++aX rows)),?_⟩;rw[h,arq _ _ (by grind)];show _++F.set (2+a-2) _=_;rw[show 2+a-2=a by omega]
section
variable{v:D}{aj:Nat}{main:Bool}{g:GS}{F:Hp}{QW R7 rows:List (List D)}{m1 m2:M}{n2:Nat}
theorem L2.wz(h:L2 (GH v aj main g++F) QW m1 n2 R7 m2)(rows:List (List D)): ∃a,fW n2 m2 (GH v aj main g++F) rows=GH v aj main g++a/\L2 (GH v aj main g++a) QW m1 n2 (R7++rows) (ie m2 (GH v aj main g++F) rows):=by
 obtain⟨f,u,b,m,n,o,i⟩:=h;obtain⟨c,d,j,p,k,q,r⟩:=CV (rows:=rows) m o (by simp);obtain⟨a,l⟩:=r _ _ _ _ _ W;rw[l]at d k q;refine⟨a,l,?_⟩;by_cases e:QW= []
 ·subst e;exact⟨c+1,c,b.any,d,by omega,j,by omega⟩
 ·have w:=b.lt e;refine⟨f,c,b.other (λs t=>k f s (λ_=>i) t),d,n,j,?_⟩;rcases p with rfl|rfl
  ·exact i
  ·omega
theorem L2.IB(h:L2 (GH v aj main g++F) QW m1 n2 R7 m2)(rows:List (List D)): ∃a,fW 15 m1 (GH v aj main g++F) rows=GH v aj main g++a/\L2 (GH v aj main g++a) (QW++rows) (ie m1 (GH v aj main g++F) rows) n2 R7 m2:=by
 obtain⟨u,f,m,b,n,o,i⟩:=h;obtain⟨c,d,j,p,k,q,r⟩:=CV (rows:=rows) m n (by simp);obtain⟨a,l⟩:=r _ _ _ _ _ W;rw[l]at d k q;refine⟨a,l,?_⟩;by_cases e:R7= []
 ·subst e;exact⟨c,c+1,d,b.any,j,by omega,by omega⟩
 ·have w:=b.lt e;refine⟨c,f,d,b.other (λs t=>k f s (λ_=>aq7 i) t),j,o,?_⟩;rcases p with rfl|rfl
  ·exact i
  ·omega
theorem L2.call{g':GS}(h:L2 (GH v aj main g++F) QW m1 n2 R7 m2):L2 (GH v aj main g'++F) QW m1 n2 R7 m2:=by
 obtain⟨b,c,j,k,d,e,l⟩:=h;have i: ∀a,2<=a-> ∀f,(GH v aj main g++F)[a]?=some f->(GH v aj main g'++F)[a]?=some f:=by
  grind
 exact⟨b,c,j.other (i b d),k.other (i c e),d,e,l⟩
end
theorem tv(l r:List Va):(eP l r).length<=l.length+r.length:=by
 induction r generalizing l with
 |nil=>simp[eP]
 |cons a r b=>
  simp only[eP];split
  ·grind
  ·grind
def vR(W:Int):Nat->Int
 |0=>0
 |i+1=>vR W i+W
theorem Ft{W:Int}(h:0<=W): ∀i,i<=6->0<=vR W i/\vR W i<=6*W
 |0,_=>by simp only[vR];omega
 |1,_=>by simp only[vR];omega
 |2,_=>by simp only[vR];omega
 |3,_=>by simp only[vR];omega
 |4,_=>by simp only[vR];omega
 |5,_=>by simp only[vR];omega
 |6,_=>by simp only[vR];omega
 |i+7,h=>by omega
theorem Lc: ∀d,qB d=6*(1+3*qP d)
 |0=>rfl
 |d+1=>rfl
theorem Ld(a:Nat): ∀d,GB a d=CO (GQ (CS a d) a)
 |0=>rfl
 |d+1=>rfl
instance:br Tryz.prog 52:=cK (by kernel_rfl)
theorem JH(l:List Va)(k:Nat):A_ ((aC l).drop k)= .sl (aC (l.drop k))\/A_ ((aC l).drop k)= .o8/\l.drop k= []:=by
 have e:(aC l).drop k=aC (l.drop k):=by simp[aC,List.map_drop]
 rw[e];cases l.drop k with
 |nil=>exact .inr ⟨rfl,rfl⟩
 |cons a b=>exact .inl W
section
variable{zs:List Int}{v:D}(ht:Tape zs v)(aj:Nat)(main:Bool)
include ht
set_option maxHeartbeats 4000000 in
theorem Ap(d:Nat)(hd:d<=3)(hE:vQ zs v aj main d 14):qn zs v aj main d:=by
 intro h hs s ho H hg hn Fr O7;have hL:=ht.hl;have t2:=hs.ready;have FS:=hs.cW;have U9:=IA d hd;obtain⟨r0,K0,⟨m,g0,rfl,rfl,TJ⟩,N_⟩:=eQ ht aj main 4 (by omega) (by omega) H hg;have Of:=TJ.lt;have Nq:=TJ.mv;have Ve:=TJ.pN;have Ux:=Nq.n;have ge:=Nq.q;have t3:=Nq.i;refine DT.drop 2 (aqd _)<|DT.ob Tryz.func37 W Tryz.ntmps37 W<|dO [2,2,2,27] W<|Mu (ap N_ W W)<|dL [] W<|dC [2] W<|MG [nN 11 0,nN 10 m,(9,.loc 9 0),(8,.loc 8 0),nD 5 (.aZ h.cells 0),nN 3 d,nD 2 (.sl (aC s)),nR 0 1] (GH v aj main g0++ []) W W<|dC [3] W<|DC.lp (λI J=> ∃(n:Nat) (f:List Va) (y:M) (g':GS) (i:Hp) (p:List (Nat×List M)),J=⟨[nI 11 (n:Int),nN 10 m,(9,.loc 9 0),(8,.loc 8 0),nD 5 (.aZ h.cells 0),nN 3 d,nD 2 (.sl (aC s)),nR 0 1],p,GH v aj main g'++i⟩/\Go.Mt.get p 9=some [y,.d (.sl [])]/\Go.Mt.get p 8=some [.d (.sl []),.d (.sl [])]/\L2 (GH v aj main g'++i) (aC f) y 16 [] (.d (.sl []))/\n<=m/\f.length=n/\NV H.n f g'.n/\g'.n=H.n+n/\g'.q=H.q/\g0.i<=g'.i/\g'.i<=zs.length/\I=m-n) m _
  ⟨0,[],.d (.sl []),g0,[],_,rfl,rfl,rfl,⟨2,3,.inl ⟨rfl,rfl⟩,.inl ⟨rfl,rfl⟩,by omega,by omega,by omega⟩,by omega,rfl,by rw[Ux];exact .nil,by omega,ge,aqd _,Nq.le,rfl⟩ W ?_
 rintro I J ⟨n,f,y,b,i,p,rfl,o,r,j,hi,QU,f7,t4,GT,t5,f8,rfl⟩;refine dC [2] W<|DC.cond W (λk=> ?_) (λk=> ?_)
 ·have A:n<m:=by have:=aqv k;omega
  obtain⟨r1,K1,⟨rfl,rfl⟩,M0⟩:=qm ht aj main 118 b f8 (by omega);obtain⟨r2,K2,⟨q,g2,rfl,rfl,NL⟩,M1⟩:=Fp ht aj main ⟨b.i,b.n+1,b.q⟩ f8;obtain⟨r3,K3,⟨a,Q,rfl,rfl,R⟩,K⟩:=eQ ht aj main 3 (by omega) (by omega) g2 NL.le;have Xx:=NL.trans R.mv;have co:=Xx.n;have i6:=Xx.q;have i7:=Xx.i;simp only at co i6 i7;have M0:=iO (by rfl) M0 i;have M1:=iO (by rfl) M1 i;have K:=iO (by rfl) K i;have SX:(aC f).length=n:=by rw[bw,QU]
  refine dO [3,2,34] W<|Mu (ap M0 W W)<|dR [36] W<|Mu (ap M1 W W)<|dL [] W ?_;rcases aqJ a with i8|i8
  ·subst i8;obtain⟨r4,K4,⟨e,S,rfl,rfl,t6,YT⟩,L⟩:=ir ht aj main q Q Xx.le;obtain⟨ke,O3,ne,se,ae,be,he⟩:=e.shape;rw[he]at L;have L:=iO (by rfl) L i;have t7:=YT.n;have Id:=YT.q;have In:=YT.i;have N:=j.call (g':=S);have hw:(⟨nm 118 (b.n+1),q,none,true,e⟩:Va).cells= [.str (nm 118 (b.n+1)),.int .u8 q.kind,.str q.nm,.sl [],.bool true,.int .u8 ke,.int .u8 O3,.int .i32 ne,.str se,.sl ae,.sl be,.int .i64 0,.int .i64 0,.int .i64 0,.int .i64 0]:=by simp only[Va.cells,he];rfl
   obtain⟨F',T,W0⟩:=N.IB [[.str (nm 118 (b.n+1)),.int .u8 q.kind,.str q.nm,.sl [],.bool true,.int .u8 ke,.int .u8 O3,.int .i32 ne,.str se,.sl ae,.sl be,.int .i64 0,.int .i64 0,.int .i64 0,.int .i64 0]];have NA:aC (f++ [⟨nm 118 (b.n+1),q,none,true,e⟩])=aC f++ [[.str (nm 118 (b.n+1)),.int .u8 q.kind,.str q.nm,.sl [],.bool true,.int .u8 ke,.int .u8 O3,.int .i32 ne,.str se,.sl ae,.sl be,.int .i64 0,.int .i64 0,.int .i64 0,.int .i64 0]]:=by rw[gC,<-hw];rfl
   obtain⟨i1,i2,Ps,_⟩:=id N;refine dO [2,42] W<|Mu (ap K W W)<|dR [1,2,2,48] W<|Mu (ap L W W)<|dR [2,51] W<|Mu (lV W W o W)<|dR [54] W<|Mu (mg Ps W W W W W (mQ W) (by rw[SX];simp only[aqH];omega) (by rw[SX];simp only[aqH];omega))<|dR [999] W<|Mu (ff W W o (gL _ _ _) W W)<|dR [2,32] W<|Mu (ax W W W (by omega))<|dL [] W ?_;rw[<-NA]at W0;exact bE (k':=m-(n+1)) (by omega) ⟨n+1,_,_,S,F',_,rfl,rfl,r,W0,by omega,by simp[QU],by rw[t7,co];exact .snoc f7 _ W W (.inr ⟨rfl,t6⟩),by omega,by omega,by omega,YT.le,rfl⟩ T W
  ·have t8:(((a:Nat):Int)==0)=false:=aqV.2 (by omega);have N:=j.call (g':=Q);obtain⟨F',T,W0⟩:=N.IB [[.str (nm 118 (b.n+1)),.int .u8 q.kind,.str q.nm,.sl [],.bool false,.int .u8 0,.int .u8 0,.int .i32 0,.str ⟨#[]⟩,.sl [],.sl [],.int .i64 0,.int .i64 0,.int .i64 0,.int .i64 0]];have NA:aC (f++ [⟨nm 118 (b.n+1),q,none,false,.nil⟩])=aC f++ [[.str (nm 118 (b.n+1)),.int .u8 q.kind,.str q.nm,.sl [],.bool false,.int .u8 0,.int .u8 0,.int .i32 0,.str ⟨#[]⟩,.sl [],.sl [],.int .i64 0,.int .i64 0,.int .i64 0,.int .i64 0]]:=by rw[gC];rfl
   obtain⟨i1,i2,Ps,_⟩:=id N;refine dO [2,42] W<|Mu (ap K W W)<|dR [43] W<|Mu (aN t8 W W W W)<|dR [0,2,51] W<|Mu (lV W W o W)<|dR [54] W<|Mu (mg Ps W W W W W (mQ W) (by rw[SX];simp only[aqH];omega) (by rw[SX];simp only[aqH];omega))<|dR [999] W<|Mu (ff W W o (gL _ _ _) W W)<|dR [2,32] W<|Mu (ax W W W (by omega))<|dL [] W ?_;rw[<-NA]at W0;exact bE (k':=m-(n+1)) (by omega) ⟨n+1,_,_,Q,F',_,rfl,rfl,r,W0,by omega,by simp[QU],by rw[co];exact .snoc f7 _ W W (.inl ⟨rfl,rfl⟩),by omega,by omega,by omega,Xx.le,rfl⟩ T W
 refine DC.exit ?_;have A:n=m:=by have:=aqA k;omega
 have SX:(aC f).length<=3:=by rw[bw,QU];omega
 have IO:(aC s).length<=3:=by rw[bw];omega
 have t9:b.n<=3*b.i:=by
  rcases aqJ m with ac|ac
  ·omega
  ·have:=Ve (by omega);omega
 have LE:H.n<=b.n:=by omega
 have LT:H.i<=b.i:=by omega
 clear Ve t4 t3 Ux ge t5 Nq TJ;refine dC [2] W ?_;have l0:=j.Fs 15;obtain⟨F1,Ww,l1⟩:=l0.wz (aC f);obtain⟨F2,X,Y⟩:=l1.wz (aC s);obtain⟨_,i2,_,T8,_⟩:=id l0;obtain⟨_,i3,_,SN,_⟩:=id l1;have d6:=l0.Ek (cc f);refine dO [2,58] W<|Mu (lV W W o W)<|Mu (TL.b9 54 W d6)<|dR [59] W<|Mu (mg T8 W W W W W (cc _) (by simp only[aqS];omega) (by simp only[aqS];omega))<|dL [] W ?_;rw[Ww];generalize ie (.d (.sl [])) (GH v aj main b++i) (aC f)=ma at l1 X Y SN⊢;refine dO [2,62] W<|Mu (mg SN W W W W W (cc _) (by simp only[aqK];omega) (by simp only[aqK];omega))<|dL [] W ?_;rw[X];generalize ie ma (GH v aj main b++F1) (aC s)=mb at Y⊢;rw[aqK,<-gC]at Y;refine DC.b9 13 W (Y.yr (cc _))<|dC [2] W ?_;have l3:=Y.Fs 15;obtain⟨F3,i9,l4⟩:=l3.wz (aC h.ready);obtain⟨F4,f9,F⟩:=l4.wz (aC f);obtain⟨F5,d7,u⟩:=F.wz (aC s);obtain⟨_,_,_,mt,_⟩:=id l3;obtain⟨_,_,_,Xz,_⟩:=id l4;obtain⟨_,_,_,U,_⟩:=id F;have SP:(aC h.ready).length<=1000:=by rw[bw];omega
 have pm:=l4.Ek (cc f);refine dO [2,70] W<|Mu (mg mt W W W W W (cc _) (by simp only[aqS];omega) (by simp only[aqS];omega))<|dR [999] W<|Mu (ff W W W (gL _ _ _) W W)<|dL [] W ?_;rw[i9];generalize ie (.d (.sl [])) (GH v aj main b++F2) (aC h.ready)=mc at l4 f9 F d7 u Xz U⊢;refine dO [2,75] W<|Mu (lV W W o W)<|Mu (TL.b9 71 W pm)<|dR [76] W<|Mu (mg Xz W W W W W (cc _) (by simp only[aqK];omega) (by simp only[aqK];omega))<|dR [999] W<|Mu (ff W W W (gL _ _ _) W W)<|dL [] W ?_;rw[f9];generalize ie mc (GH v aj main b++F3) (aC f)=md at F d7 u U⊢;refine dO [2,81] W<|Mu (mg U W W W W W (cc _) (by simp only[aqK,aqg];omega) (by simp only[aqK,aqg];omega))<|dR [999] W<|Mu (ff W W W (gL _ _ _) W W)<|dL [] W ?_;rw[d7];generalize ie md (GH v aj main b++F4) (aC s)=me at u⊢;rw[aqK,<-gC,<-gC]at u;refine DC.jd (MY:=[.d (.sl (aC h.ready)),.d (.sl (aC (h.ready++f++s))),.d (.sl [])]) 14 W (fF (gN (u.yr (cc _)) (fF W))) ?_;have l7:=u.Fs 15;obtain⟨F6,qr,l8⟩:=l7.wz (aC h.cW);obtain⟨_,_,_,rg,_⟩:=id l7;have Od:(aC h.cW).length<=1000:=by rw[bw];omega
 refine dO [2,87] W<|Mu (mg rg W W W W W (cc _) (by simp only[aqS];omega) (by simp only[aqS];omega))<|dR [999] W<|Mu (ff W W W (gL _ _ _) W W)<|dL [] W ?_;rw[qr];generalize ie (.d (.sl [])) (GH v aj main b++F5) (aC h.cW)=mf at l8⊢;rw[aqK]at l8;clear l0 l1 Y l3 l4 F u l7 Ww X i9 f9 d7 qr T8 SN mt Xz U rg d6 pm j;refine dC [2] W ?_;obtain⟨g,d8⟩: ∃g,g=f++s:=⟨_,rfl⟩;have Mr:g.length<=6:=by rw[d8,aqg];omega
 rw[<-d8];refine MG [nN 15 0,(14,.loc 14 0),nD 13 (.sl (aC g)),(9,.loc 9 0),(8,.loc 8 0),nN 3 d,nR 0 1] (GH v aj main b++F6) W W<|dC [3] W<|DC.lp (λI J=> ∃(n:Nat) (Z:M) (i:Hp) (p:List (Nat×List M)),J=⟨[nI 15 (n:Int),(14,.loc 14 0),nD 13 (.sl (aC g)),(9,.loc 9 0),(8,.loc 8 0),nN 3 d,nR 0 1],p,GH v aj main b++i⟩/\Go.Mt.get p 9=some [y,.d (.sl [])]/\Go.Mt.get p 8=some [.d (.sl []),.d (.sl [])]/\Go.Mt.get p 14=some [.d (.sl (aC h.ready)),.d (.sl (aC (h.ready++f++s))),Z]/\L2 (GH v aj main b++i) (aC f) y 15 (aC (eP h.cW (g.take n))) Z/\n<=g.length/\I=g.length-n) g.length _
  ⟨0,mf,F6,_,rfl,o,r,rfl,l8,by omega,rfl⟩ W ?_
 clear o r l8;rintro I J ⟨a,Z,i,p,rfl,o,r,w,j,hj,rfl⟩;refine dO [2,91] W<|Mu (bH W W W) ?_;rw[bw];refine dL [] W<|DC.cond W (λk=> ?_) (λk=> ?_)
 ·have A:a<g.length:=by have:=aqv k;omega
  clear k;have B:=dM A;have Nv:g.take (a+1)=g.take a++ [g[a]]:=aqu A;generalize g[a]=z at B Nv;have x:=ym h.cW (g.take a) z;rw[<-Nv]at x;have t1:=tv h.cW (g.take a);rw[arX]at t1;generalize eP h.cW (g.take a)=V at j x t1;have d6:=j.yr (cc V);have YU:CT Tryz.prog 52 [Z,.d (.str z.name)] (GH v aj main b++i) λr' K'=>r'= .d (.bool (V.any λf4=>decide (f4.name=z.name)))/\K'=GH v aj main b++i:=
   CT.HK d6 ((CT.xx (JF V z.name (by omega))).mono (by rintro _ _ ⟨⟨_,rfl,rfl⟩,rfl⟩;exact⟨rfl,rfl⟩))
  obtain⟨_,_,_,ut,_⟩:=id j;obtain⟨F',T,O⟩:=j.wz [z.cells];obtain⟨x0,x1,x2,x3,x4,x5,x6,x7,hw,_⟩:=j5 z;have NA:aC (V++ [z])=aC V++ [z.cells]:=by rw[gC];rfl
  rw[<-NA]at O;rw[hw]at B T O;have Ms:(aC V).length<=1000:=by rw[bw];omega
  refine dC [3] W ?_;cases NW:z.last with
  |false=>
   rw[NW]at B x;simp only[Bool.false_and,are,arK]at x;refine dC [] W ?_;apply Mz bT
   ·intro s0 Oo;refine fR 2 W<|bK W W W (aqe a) B W<|fR 13 W<|TF.nil ⟨by kernel_rfl,rfl⟩
   refine dO [0,2,94] W<|Mu (ax W W W (by omega))<|dL [] W<|bE (k':=g.length-(a+1)) (by omega) ⟨a+1,Z,i,_,rfl,o,r,w,by rw[x];exact j,by omega,rfl⟩ W W
  |true=>
   rw[NW]at B x;cases VK:V.any λf4=>decide (f4.name=z.name)with
   |true=>
    rw[VK]at x YU;simp only[Bool.not_true,Bool.and_false,are,arK]at x;refine dC [] W ?_;apply Mz bT
    ·intro s0 Oo;refine fR 2 W<|bK W W W (aqe a) B W<|fR 4 W ?_
     first|refine bg W W W W ?_|refine bh W W W ?_|(refine aU W W ?_;(refine p5 W W w W ?_))
     refine fR 2 W ?_
     first|refine bg W W W W ?_|refine bh W W W ?_|(refine aU W W ?_;(refine bK W W W (aqe a) B W ?_))
     refine fR 2 W ?_
     first|refine bg W W W W ?_|refine bh W W W ?_|(refine aU W W ?_;(refine jW YU W W ?_))
     refine fR 2 W<|TF.nil ⟨by kernel_rfl,rfl⟩
    refine dO [0,2,94] W<|Mu (ax W W W (by omega))<|dL [] W<|bE (k':=g.length-(a+1)) (by omega) ⟨a+1,Z,i,_,rfl,o,r,w,by rw[x];exact j,by omega,rfl⟩ W W
   |false=>
    rw[VK]at x YU;simp only[Bool.not_false,Bool.and_true,arR]at x;rw[NW]at T O;refine dC [] W ?_;apply Mz bT
    ·intro s0 Oo;refine fR 2 W<|bK W W W (aqe a) B W<|fR 4 W ?_
     first|refine bg W W W W ?_|refine bh W W W ?_|(refine aU W W ?_;(refine p5 W W w W ?_))
     refine fR 2 W ?_
     first|refine bg W W W W ?_|refine bh W W W ?_|(refine aU W W ?_;(refine bK W W W (aqe a) B W ?_))
     refine fR 2 W ?_
     first|refine bg W W W W ?_|refine bh W W W ?_|(refine aU W W ?_;(refine jW YU W W ?_))
     refine fR 2 W<|TF.nil ⟨by kernel_rfl,rfl⟩
    refine dC [1] W ?_;apply Mz bT
    ·intro s0 Oo;refine fR 1 W<|p5 W W w W<|fR 2 W<|bK W W W (aqe a) B W<|fR 2 W<|A9 ut W W W W W W (by omega) (by omega)<|fR 1 W<|iH W W w (gL _ _ _) W W<|TF.nil ⟨by kernel_rfl,rfl⟩
    refine dO [2,94] W<|Mu (ax W W W (by omega))<|dL [] W<|bE (k':=g.length-(a+1)) (by omega) ⟨a+1,_,F',_,rfl,o,r,rfl,by rw[x];exact O,by omega,rfl⟩ T W
 refine DC.exit ?_;have A:a=g.length:=by have:=aqA k;omega
 clear k;subst A;rw[aqQ]at j;have O:=j.Fs 16;have rt:(eP h.cW g).length<=800-200*d+6:=by have:=tv h.cW g;omega
 refine DC.jd (MY:=[.d (.sl (aC h.ready)),.d (.sl (aC (h.ready++f++s))),.d (.sl (aC (eP h.cW g)))]) 14 w (fF (fF (gN (j.yr (cc _)) W))) ?_;obtain⟨C,d9⟩: ∃C:Sc,C=Iu h f s:=⟨_,rfl⟩;have Wo:C.ready=h.ready:=by rw[d9];rfl
 have Vv:C.all=h.ready++f++s:=by rw[d9];rfl
 have gc:C.cW=eP h.cW g:=by rw[d9,d8];rfl
 rw[<-Vv,<-gc,<-Wo];have v6:C.cW.length<=800-200*d+6:=by rw[gc];exact rt
 have wd:C.all.length<=1000:=by rw[Vv];simp only[aqg];omega
 have Mw:C.ready.length<=800-200*d:=by rw[Wo];exact t2
 clear w j rt Wo Vv gc;have hW:0<=1+3*qP d:=by omega
 refine dC [3] W<|DC.lp (λI J=> ∃(a:Nat) (c:List Va) (td:D) (t:Sc) (E:List ay) (G:List Va) (y me:M) (g':GS) (i:Hp) (p:List (Nat×List M)),J=⟨[(14,.loc 14 0),nM 13 (.d td),(9,.loc 9 0),(8,.loc 8 0),nN 3 d,nR 0 1],p,GH v aj main g'++i⟩/\
   (td= .sl (aC c)\/td= .o8/\c= [])/\Go.Mt.get p 9=some [y,me]/\Go.Mt.get p 8=some [.d (.sl []),.d (.sl [])]/\Go.Mt.get p 14=some [.d (.sl (aC t.ready)),.d (.sl (aC t.all)),.d (.sl (aC t.cW))]/\L2 (GH v aj main g'++i) (aC (f++G)) y 16 (bF E) me/\
   GL (GQ (CS aj d) aj) C g b.n t c g'.n E G/\(t.ready.length+c.length<=800-200*d+6/\t.all.length<=1000/\t.cW.length<=800-200*d+6/\G.length<=42*a/\E.length<=45*a/\a+c.length<=6)/\(b.i<=g'.i/\g'.i<=zs.length/\b.n<=g'.n/\g'.n<=3*g'.i/\min H.q 0-vR (1+3*qP d) a<=g'.q/\g'.q<=H.q)/\I=c.length) g.length _
  ⟨0,g,_,C,[],[],y,.d (.sl []),b,i,_,rfl,.inl W,o,r,rfl,by rw[aqC];exact O,.start,⟨by omega,wd,v6,by simp,by simp,by omega⟩,⟨aqd _,f8,aqd _,t9,by simp only[vR];omega,by omega⟩,rfl⟩ W ?_
 clear o r O;rintro I J ⟨a,c,td,t,E,G,y,me,g2,i,p,rfl,rx,o,r,w,j,Wa,⟨z1,z2,z3,z4,z5,z6⟩,⟨y1,y2,y3,y4,y5,y6⟩,rfl⟩;have wn:oB td=some c.length:=by
  rcases rx with rfl|⟨rfl,rfl⟩
  ·simp only[oB,bw]
  ·rfl
 refine dO [2,121] W<|Mu (bH W W wn)<|dL [] W<|DC.cond W (λk=> ?_) (λk=> ?_)
 ·have A:0<c.length:=by have:=aqv k;omega
  clear k;obtain rfl:td= .sl (aC c):=by
   rcases rx with ac|⟨_,rfl⟩
   ·exact ac
   ·simp at A
  have Do:=Ft hW a (by omega);have Mx:=La d hd;obtain⟨r3,K3,⟨k0,Q,rfl,rfl,R⟩,K⟩:=eQ ht aj main 3 (by omega) (by omega) g2 y2;have Uk:=R.lt;have co:=R.mv.n;have i6:=R.mv.q;have i7:=R.mv.i;have K:=iO (by rfl) K i;have O:=j.call (g':=Q);obtain⟨l,MA⟩: ∃l,l=min (k0+1) c.length:=⟨_,rfl⟩;have P:1<=l/\l<=3/\l<=c.length:=by omega
  have Eq:1+((k0:Nat):Int)=((k0+1:Nat):Int):=by omega
  obtain⟨r4,K4,⟨q1,To,S,rfl,rfl,PE,QP,ME,M8⟩,L⟩:=hE t (by omega) z2 (by omega) (c.take l) (by rw[arX];omega) Q R.mv.le (by omega) (by omega) (by omega) (by omega);have L:=iO (by rfl) L i;have Pi:=M8.q0;have SO:=M8.q1;have QM:=M8.i;have Zk:=M8.n;have N:=j.call (g':=S);have Nv:(aC c).take l=aC (c.take l):=by simp[aC,asN]
  have MW:aC c≠ []:=by intro ac;have h2:=bw c;rw[ac]at h2;have h3:(0:Nat)=c.length:=h2;omega
  obtain⟨F1,Ww,F⟩:=N.wz (bF q1);obtain⟨F2,X,u⟩:=F.IB (aC To);obtain⟨_,_,_,Xz,_⟩:=id N;obtain⟨_,_,U,_,_⟩:=id F;have Sx:(aC (f++G)).length<=300:=by rw[bw,aqg];omega
  have ST:(aC To).length<=50:=by rw[bw];omega
  have UP:(bF E).length<=300:=by rw[dP];omega
  have UV:(bF q1).length<=50:=by rw[dP];omega
  refine dO [3,2,127] W<|Mu (ap K W W)<|dR [128] W<|Mu (ax W W W (by omega)) ?_;rw[Eq];refine dR [2,131] W<|Mu (bH W W W) ?_;rw[bw];refine dL [] W<|DC.md ⟨[nN 16 l,(14,.loc 14 0),nD 13 (.sl (aC c)),(9,.loc 9 0),(8,.loc 8 0),nN 3 d,nR 0 1],p,GH v aj main Q++i⟩ ?_ ?_
  ·refine DC.cond W (λk=> ?_) (λk=> ?_)
   ·have ZL:c.length<k0+1:=by have:=aqv k;omega
    refine dO [2,134] W<|Mu (bH W W W) ?_;rw[bw,show c.length=l by omega];refine dL [] W<|cF W W
   ·have ZL: ¬c.length<k0+1:=by have:=aqA k;omega
    refine dC [] W<|cF W (kc (by rw[show l=k0+1 by omega];rfl) W)
  refine dC [] W ?_;apply Mz bT
  ·intro s0 Oo;refine fR 1 W<|zH W W w W W<|fR 2 W<|xM W W W MW P.1 (by rw[bw];exact P.2.2) (cc _) ?_;rw[Nv];refine fR 1 W<|bm L W W<|fR 5 W<|TF.nil ⟨by kernel_rfl,rfl⟩
  refine dO [2,146] W<|Mu (lV W W o W)<|dR [148] W<|Mu (mg Xz W W W W W (eH q1) (by omega) (by omega))<|dR [999] W<|Mu (ff W W o (gL _ _ _) W W)<|dL [] W ?_;rw[Ww];generalize ie me (GH v aj main S++i) (bF q1)=Fd at F X u U⊢;refine dO [2,153] W<|Mu (mg U W W W W W (cc To) (by omega) (by omega))<|dR [999] W<|Mu (ff W W W (gL _ _ _) W W)<|dL [] W ?_;rw[X];generalize ie y (GH v aj main S++F1) (aC To)=Fn at u⊢;apply Mz bT
  ·intro s0 Oo;refine zH W W w W W<|fR 2 W<|xM W W W MW P.1 (by rw[bw];exact P.2.2) (cc _) ?_;rw[Nv];refine aS (sF t (c.take l) (by omega) (by rw[arX];omega)) W W<|iH W W w W W W<|TF.nil ⟨by kernel_rfl,rfl⟩
  refine dO [2,162] W<|Mu (DX W W W MW (by rw[bw];exact P.2.2) (cc _))<|dL [] W ?_;rw[<-gC,<-iv]at u;have Oc:(c.drop l).length=c.length-l:=by simp
  exact bE (k':=(c.drop l).length) (by omega) ⟨a+1,c.drop l,_,t.more (c.take l),E++q1,G++To,Fn,Fd,S,F2,_,rfl,JH c l,rfl,r,rfl,by rw[<-aqD];exact u,.step Wa l P.1 P.2.1 P.2.2 (by rw[<-co];exact PE),⟨by simp only[Sc.more,aqg,arX];omega,z2,z3,by simp only[aqg];omega,by simp only[aqg];omega,by omega⟩,⟨by omega,M8.le,by omega,M8.pN,by simp only[vR];omega,by omega⟩,rfl⟩ W W
 refine DC.exit ?_;have A:c= []:=by
  have:=aqA k;exact List.length_eq_zero_iff.1 (by omega)
 clear k;subst A;refine DC.jd (MY:=[.d (.sl (aC (f++G))),.d (.sl (bF E))]) 9 o (gN (j.Ek (cc _)) (gN (j.yr (eH _)) W))<|dO [2,999] W<|Mu (ff W W r W W W)<|dL [] W ?_;have Do:=Ft hW a (by omega);have Wm:=Lc d;refine DC.ret ⟨_,rfl,by simp,.d _,oY v aj main g2,.mk (f++G) E,g2,by rw[aW.cells];rfl,rfl,?_,⟨by omega,y2,by omega,y4,by omega,y6⟩⟩;rw[Ld];exact⟨f,b.n,t,E,G,f7,by omega,by rw[<-d9,<-d8];exact Wa,rfl⟩
end
section
variable{zs:List Int}{v:D}(ht:Tape zs v)(aj:Nat)(main:Bool)
include ht
theorem blocks(b:aj<=10): ∀d,d<=3->qn zs v aj main d
 |0,a=>Ap ht aj main 0 a (BA ht aj main 0 a b (λd e=>by omega) 14 (by omega))
 |d+1,a=>Ap ht aj main (d+1) a (BA ht aj main (d+1) a b (λc e=>by
   have f:c=d:=by omega
   subst f;exact blocks b c (by omega)) 14 (by omega))
theorem IC(x:aj<=10)(i0:Nat)(G:i0<=zs.length):DT Tryz.prog 24 [.ref 1 0,dN aj] (GH v aj main ⟨i0,0,14⟩) λr K=> ∃(y:Nd) (g':GS),r= .d (.agg y.cells)/\K=GH v aj main g'/\GN aj y/\i0<=g'.i/\g'.i<=zs.length:=by
 have S:=ht.hl;have z:=mw (aj+1) aj (by omega) (by omega);have ac:=qk aj;obtain⟨T,U,⟨F,f,rfl,rfl,N⟩,A⟩:=eQ ht aj main 3 (by omega) (by omega) ⟨i0,0,14⟩ G;have h:=N.mv;have O:=h.n;have P:=h.q;have Q:=h.i;simp only at O P Q;rcases aqJ F with B|B
 ·skip
  subst B;obtain⟨V,X,⟨e,t,rfl,rfl,R,g⟩,C⟩:=ir ht aj main .int f h.le;obtain⟨i,j,k,l,m,o,E⟩:=e.shape;rw[E]at C;have co:=g.n;have d6:=g.q;have d7:=g.i;have p:aC [⟨⟨#[120]⟩,.int,none,true,e⟩,yV]= [[D.str ⟨#[120]⟩,.int .u8 2,.str ⟨#[]⟩,.sl [],.bool true,.int .u8 i,.int .u8 j,.int .i32 k,.str l,.sl m,.sl o,.int .i64 0,.int .i64 0,.int .i64 0,.int .i64 0],[D.str ⟨#[121]⟩,.int .u8 3,.str nL,.sl [],.bool false,.int .u8 0,.int .u8 0,.int .i32 0,.str ⟨#[]⟩,.sl [],.sl [],.int .i64 0,.int .i64 0,.int .i64 0,.int .i64 0]]:=by simp only[aC,aqN,arf,Va.cells,E];rfl
  obtain⟨H,I,⟨b,d,rfl,rfl,q,a⟩,c⟩:=blocks ht aj main x 3 (by omega) ⟨[aV,bV],[],[]⟩ ⟨by simp,by simp,by simp⟩ [⟨⟨#[120]⟩,.int,none,true,e⟩,yV] (by simp) t g.le (by omega) (by omega) (by omega);obtain⟨J,L,s⟩:=b.shape;rw[s,p]at c;have c:=iO (by rfl) c [.row true 15 0 (aX [[D.str ⟨#[120]⟩,.int .u8 2,.str ⟨#[]⟩,.sl [],.bool true,.int .u8 i,.int .u8 j,.int .i32 k,.str l,.sl m,.sl o,.int .i64 0,.int .i64 0,.int .i64 0,.int .i64 0],[D.str ⟨#[121]⟩,.int .u8 3,.str nL,.sl [],.bool false,.int .u8 0,.int .u8 0,.int .i32 0,.str ⟨#[]⟩,.sl [],.sl [],.int .i64 0,.int .i64 0,.int .i64 0,.int .i64 0]])];have M:=a.i;refine DT.drop 2 (aqd _)<|DT.ob Tryz.func24 W Tryz.ntmps24 W<|dO [2,2,12] W<|Mu (aJ z W W)<|dR [13] W<|Mu (pY W W W (by have:(⟨#[102]⟩:ByteArray).size=1:=rfl;omega))<|dR [2,15] W<|Mu (aJ du W W)<|dR [17] W<|Mu (aJ jp W W)<|dR [2,21] W<|Mu (aJ du W W)<|dR [23] W<|Mu (aJ kG W W)<|dR [25] W<|Mu (ig W W W W W W)<|dL [] W ?_;have w:=iO (by rfl) A [.row false 15 0 (aX [[D.str ⟨#[120]⟩,.int .u8 2,.str ⟨#[]⟩,.sl [],.bool false,.int .u8 0,.int .u8 0,.int .i32 0,.str ⟨#[]⟩,.sl [],.sl [],.int .i64 0,.int .i64 0,.int .i64 0,.int .i64 0],[D.str ⟨#[121]⟩,.int .u8 3,.str nL,.sl [],.bool false,.int .u8 0,.int .u8 0,.int .i32 0,.str ⟨#[]⟩,.sl [],.sl [],.int .i64 0,.int .i64 0,.int .i64 0,.int .i64 0]])]
  refine dO [2,31] W<|Mu (ap w W W)<|dR [1,2,35] W<|Mu (zJ W W W W (by omega) (by decide))<|dR [999] W<|Mu (FV W W W W W W)<|dL [] W ?_;apply Mz bT
  ·intro Y Z;refine fR 3 W<|aS du W W<|bm (iO (by rfl) C [.row false 15 0 (aX [[D.str ⟨#[120]⟩,.int .u8 2,.str ⟨#[]⟩,.sl [],.bool true,.int .u8 0,.int .u8 0,.int .i32 0,.str ⟨#[]⟩,.sl [],.sl [],.int .i64 0,.int .i64 0,.int .i64 0,.int .i64 0],[D.str ⟨#[121]⟩,.int .u8 3,.str nL,.sl [],.bool false,.int .u8 0,.int .u8 0,.int .i32 0,.str ⟨#[]⟩,.sl [],.sl [],.int .i64 0,.int .i64 0,.int .i64 0,.int .i64 0]])]) W W<|cS W W W W (by omega) (by decide)<|fR 1 W<|fj W W W W W W<|TF.nil ⟨by kernel_rfl,rfl⟩
  refine DC.kV 2 W<|MG [(5,.loc 5 0),(4,.loc 4 0),nR 0 1] (GH v aj main t++ [.row true 15 0 (aX [[D.str ⟨#[120]⟩,.int .u8 2,.str ⟨#[]⟩,.sl [],.bool true,.int .u8 i,.int .u8 j,.int .i32 k,.str l,.sl m,.sl o,.int .i64 0,.int .i64 0,.int .i64 0,.int .i64 0],[D.str ⟨#[121]⟩,.int .u8 3,.str nL,.sl [],.bool false,.int .u8 0,.int .u8 0,.int .i32 0,.str ⟨#[]⟩,.sl [],.sl [],.int .i64 0,.int .i64 0,.int .i64 0,.int .i64 0]])]) W W<|DC.jd (MY:=[.d (.str (⟨#[102]⟩++dg aj)),.d (.sl (aC [aV,bV])),.d (.sl [[D.str ⟨#[120]⟩,.int .u8 2,.str ⟨#[]⟩,.sl [],.bool true,.int .u8 i,.int .u8 j,.int .i32 k,.str l,.sl m,.sl o,.int .i64 0,.int .i64 0,.int .i64 0,.int .i64 0],[D.str ⟨#[121]⟩,.int .u8 3,.str nL,.sl [],.bool false,.int .u8 0,.int .u8 0,.int .i32 0,.str ⟨#[]⟩,.sl [],.sl [],.int .i64 0,.int .i64 0,.int .i64 0,.int .i64 0]]),.d (.sl []),.d (.sl []),.d (.int .i64 0),.d (.int .i64 0)]) 5 W (fF (fF (gN (kH (n:=15) (rs:=[[D.str ⟨#[120]⟩,.int .u8 2,.str ⟨#[]⟩,.sl [],.bool true,.int .u8 i,.int .u8 j,.int .i32 k,.str l,.sl m,.sl o,.int .i64 0,.int .i64 0,.int .i64 0,.int .i64 0],[D.str ⟨#[121]⟩,.int .u8 3,.str nL,.sl [],.bool false,.int .u8 0,.int .u8 0,.int .i32 0,.str ⟨#[]⟩,.sl [],.sl [],.int .i64 0,.int .i64 0,.int .i64 0,.int .i64 0]]) W W (by simp) (by simp_all)) W)))<|dO [2,2,51] W<|Mu (ap c W W)<|dL [2] W ?_
  refine DC.ret ⟨_,rfl,po W,.d _,oY v aj main d,⟨nm 102 aj,[aV,bV],[⟨⟨#[120]⟩,.int,none,true,e⟩,yV],b⟩,d,by rw[Nd.cells,p,s];rfl,rfl,⟨rfl,rfl,⟨true,e,.inr ⟨rfl,R⟩,rfl⟩,d.n,(by have:=a.pN;have:=a.le;omega),?_⟩,by omega,a.le⟩;have u:t.n=0:=by omega
  rw[u]at q;exact q
 ·skip
  have g:Mv zs f f:=⟨rfl,rfl,aqd _,h.le⟩;have p:aC [⟨⟨#[120]⟩,.int,none,false,.nil⟩,yV]= [[D.str ⟨#[120]⟩,.int .u8 2,.str ⟨#[]⟩,.sl [],.bool false,.int .u8 0,.int .u8 0,.int .i32 0,.str ⟨#[]⟩,.sl [],.sl [],.int .i64 0,.int .i64 0,.int .i64 0,.int .i64 0],[D.str ⟨#[121]⟩,.int .u8 3,.str nL,.sl [],.bool false,.int .u8 0,.int .u8 0,.int .i32 0,.str ⟨#[]⟩,.sl [],.sl [],.int .i64 0,.int .i64 0,.int .i64 0,.int .i64 0]]:=by rfl
  obtain⟨H,I,⟨b,d,rfl,rfl,q,a⟩,c⟩:=blocks ht aj main x 3 (by omega) ⟨[aV,bV],[],[]⟩ ⟨by simp,by simp,by simp⟩ [⟨⟨#[120]⟩,.int,none,false,.nil⟩,yV] (by simp) f g.le (by omega) (by omega) (by omega);obtain⟨J,L,s⟩:=b.shape;rw[s,p]at c;have c:=iO (by rfl) c [.row true 15 0 (aX [[D.str ⟨#[120]⟩,.int .u8 2,.str ⟨#[]⟩,.sl [],.bool false,.int .u8 0,.int .u8 0,.int .i32 0,.str ⟨#[]⟩,.sl [],.sl [],.int .i64 0,.int .i64 0,.int .i64 0,.int .i64 0],[D.str ⟨#[121]⟩,.int .u8 3,.str nL,.sl [],.bool false,.int .u8 0,.int .u8 0,.int .i32 0,.str ⟨#[]⟩,.sl [],.sl [],.int .i64 0,.int .i64 0,.int .i64 0,.int .i64 0]])];have M:=a.i;refine DT.drop 2 (aqd _)<|DT.ob Tryz.func24 W Tryz.ntmps24 W<|dO [2,2,12] W<|Mu (aJ z W W)<|dR [13] W<|Mu (pY W W W (by have:(⟨#[102]⟩:ByteArray).size=1:=rfl;omega))<|dR [2,15] W<|Mu (aJ du W W)<|dR [17] W<|Mu (aJ jp W W)<|dR [2,21] W<|Mu (aJ du W W)<|dR [23] W<|Mu (aJ kG W W)<|dR [25] W<|Mu (ig W W W W W W)<|dL [] W ?_;have w:=iO (by rfl) A [.row false 15 0 (aX [[D.str ⟨#[120]⟩,.int .u8 2,.str ⟨#[]⟩,.sl [],.bool false,.int .u8 0,.int .u8 0,.int .i32 0,.str ⟨#[]⟩,.sl [],.sl [],.int .i64 0,.int .i64 0,.int .i64 0,.int .i64 0],[D.str ⟨#[121]⟩,.int .u8 3,.str nL,.sl [],.bool false,.int .u8 0,.int .u8 0,.int .i32 0,.str ⟨#[]⟩,.sl [],.sl [],.int .i64 0,.int .i64 0,.int .i64 0,.int .i64 0]])]
  refine dO [2,31] W<|Mu (ap w W W)<|dR [32] W<|Mu (aN (aqV.2 (by omega)) W W W W)<|dL [0] W<|DC.kV 2 W<|MG [(5,.loc 5 0),(4,.loc 4 0),nR 0 1] (GH v aj main f++ [.row true 15 0 (aX [[D.str ⟨#[120]⟩,.int .u8 2,.str ⟨#[]⟩,.sl [],.bool false,.int .u8 0,.int .u8 0,.int .i32 0,.str ⟨#[]⟩,.sl [],.sl [],.int .i64 0,.int .i64 0,.int .i64 0,.int .i64 0],[D.str ⟨#[121]⟩,.int .u8 3,.str nL,.sl [],.bool false,.int .u8 0,.int .u8 0,.int .i32 0,.str ⟨#[]⟩,.sl [],.sl [],.int .i64 0,.int .i64 0,.int .i64 0,.int .i64 0]])]) W W<|DC.jd (MY:=[.d (.str (⟨#[102]⟩++dg aj)),.d (.sl (aC [aV,bV])),.d (.sl [[D.str ⟨#[120]⟩,.int .u8 2,.str ⟨#[]⟩,.sl [],.bool false,.int .u8 0,.int .u8 0,.int .i32 0,.str ⟨#[]⟩,.sl [],.sl [],.int .i64 0,.int .i64 0,.int .i64 0,.int .i64 0],[D.str ⟨#[121]⟩,.int .u8 3,.str nL,.sl [],.bool false,.int .u8 0,.int .u8 0,.int .i32 0,.str ⟨#[]⟩,.sl [],.sl [],.int .i64 0,.int .i64 0,.int .i64 0,.int .i64 0]]),.d (.sl []),.d (.sl []),.d (.int .i64 0),.d (.int .i64 0)]) 5 W (fF (fF (gN (kH (n:=15) (rs:=[[D.str ⟨#[120]⟩,.int .u8 2,.str ⟨#[]⟩,.sl [],.bool false,.int .u8 0,.int .u8 0,.int .i32 0,.str ⟨#[]⟩,.sl [],.sl [],.int .i64 0,.int .i64 0,.int .i64 0,.int .i64 0],[D.str ⟨#[121]⟩,.int .u8 3,.str nL,.sl [],.bool false,.int .u8 0,.int .u8 0,.int .i32 0,.str ⟨#[]⟩,.sl [],.sl [],.int .i64 0,.int .i64 0,.int .i64 0,.int .i64 0]]) W W (by simp) (by simp_all)) W)))<|dO [2,2,51] W<|Mu (ap c W W)<|dL [2] W ?_
  refine DC.ret ⟨_,rfl,po W,.d _,oY v aj main d,⟨nm 102 aj,[aV,bV],[⟨⟨#[120]⟩,.int,none,false,.nil⟩,yV],b⟩,d,by rw[Nd.cells,p,s];rfl,rfl,⟨rfl,rfl,⟨false,.nil,.inl ⟨rfl,rfl⟩,rfl⟩,d.n,(by have:=a.pN;have:=a.le;omega),?_⟩,by omega,a.le⟩;have u:f.n=0:=by omega
  rw[u]at q;exact q
end
instance:br Tryz.prog 24:=cK (by kernel_rfl)
theorem BB(n:Nd):n.cells.length=7:=by
 obtain⟨v,b,a⟩:=n.b.shape;rw[Nd.cells,a];rfl
theorem Aq(l:List Nd):(ly l).length=l.length:=by simp[ly]
theorem yv(l:List Nd): ∀r∈ly l,r.length=7:=by intro r a;obtain⟨_,_,rfl⟩:=aqM.1 a;exact BB _
theorem ID{l:List D}(h:l.length=7): ∃a b c d e f g,l= [a,b,c,d,e,f,g]:=by
 match l,h with
 | [a,b,c,d,e,f,g],_=>exact⟨_,_,_,_,_,_,_,rfl⟩
section
variable{zs:List Int}{v:D}(ht:Tape zs v)
include ht
theorem IE(c:Nat)(h:Bool)(A:c<=10)(i0:Nat)(B:i0<=zs.length)(H:Hp)(n:H[0]?=some (.box (eW v i0))):
  ∃(i:Nd) (o:Nat) (C:Nat) (D:Int),GN c i/\o<=zs.length/\CT Tryz.prog 24 [.ref H.length 0,dN c] (H++ [.box (jM 0 14 c h)]) λr K=>r= .d (.agg i.cells)/\K=H.set 0 (.box (eW v o))++ [.box (jM C D c h)]:=by
 obtain⟨r,K,⟨i,k,rfl,rfl,E,P,F⟩,G⟩:=IC ht c h A i0 B;refine⟨i,k.i,k.n,k.q,E,F,?_⟩;have p:0<H.length:=by
  rcases aqh 0 H.length with l|l
  ·exact l
  ·simp[aqj l]at n
 have q:=CT.frame (H:=GH v c h ⟨i0,0,14⟩) (K:=H++ [.box (jM 0 14 c h)]) (λa=>if a=0 then 0 else H.length) (λa f d g s=>by
   have j:a=0\/a=1:=by have:a<2:=d;omega
   have I:f=0\/f=1:=by have:f<2:=g;omega
   rcases j with rfl|rfl<;>rcases I with rfl|rfl
   ·rfl
   ·exact absurd (show 0=H.length from s) (by omega)
   ·exact absurd (show H.length=0 from s) (by omega)
   ·rfl) (λa Q d=>by
   have j:a=0\/a=1:=by have R:a<2:=tm d;omega
   rcases j with rfl|rfl
   ·simp at d;subst d;rw[aqf (by simpa using p)];simpa [cD,iz,dj] using n
   ·simp at d;subst d;simp[cD,iz,dj]) (oY _ _ _ _) (λm t=>by
   simp at t;rcases t with rfl|rfl
   ·exact iX W
   ·exact .d _) (G.mono λJ u ⟨z,b⟩=>(⟨by rw[b];rfl,z,b⟩:u.length=(GH v c h ⟨i0,0,14⟩).length/\(J= .d (.agg i.cells)/\u=GH v c h k)))
 have e:iz (λa=>if a=0 then 0 else H.length) [.ref 1 0,dN c]= [.ref H.length 0,dN c]:=by simp[iz,dj]
 rw[e]at q;refine q.mono ?_;rintro r O ⟨S,T,⟨rfl,rfl⟩,_,rfl,L,w,M⟩;refine⟨rfl,?_⟩;apply ar4;intro f;have x:=w 0 _ W;have y:=w 1 _ W;simp[cD,iz,dj]at x y;rcases arx f H.length with g|g|g
 ·rw[aqf (by simpa using g)];by_cases N:f=0
  ·subst N;rw[x];simp[p]
  ·rw[M f (λa d=>by
    have j:a=0\/a=1:=by have:a<2:=d;omega
    rcases j with rfl|rfl
    ·simp;omega
    ·simp;omega),aqf g,aqn (by omega)]
 ·subst g;rw[y,aqm (by simp)];simp
 ·rw[aqj (by simp at L;omega),aqj (by simp;omega)]
end
theorem G4(a:List Int)(v:D)(ht:Tape a v)(k:Nat)(e:0<k)(u:k<=1000)(i:Nat)(o:i<=a.length):DT Tryz.prog 23 [.ref 0 0,dN k] [.box (eW v i)] λr K=> ∃(j f:Nat),r=dN j/\K= [.box (eW v f)]/\j<k/\f<=a.length:=by
 obtain⟨⟨n,p,q⟩,w⟩:=ht;refine DT.ob Tryz.func23 W Tryz.ntmps23 W<|dC [2] W ?_;rcases aqh i a.length with c|c
 rotate_left
 ·have d:decide (((i:Nat):Int)>=(a.length:Int))=true:=aqI (by omega);refine dC [] W ?_;apply Mz bT
  ·intro g h;refine fR 8 W<|wI W W n<|lX W W W (r:= .bool true) (by show some (D.bool (decide _))=_;rw[d])<|TF.nil ⟨by kernel_rfl,rfl⟩
  refine dC [1,2] W<|DC.ret ⟨_,rfl,0,i,rfl,rfl,e,o⟩
 ·have d:decide (((i:Nat):Int)>=(a.length:Int))=false:=aqR (by omega);obtain rfl:v= .sl (jJ .u8 a):=p.resolve_left (by grind);have l:(jJ .u8 a)[((i:Nat):Int).toNat]?=some [.int .u8 a[i]]:=xI (aqi c);have m:=Iw (q a[i] (aqz c));generalize a[i]=b at l m;obtain⟨b,rfl⟩:=asR m.1;have s:((i:Nat):Int)+1-1=(i:Int):=by omega
  have t:Int.tmod (b:Int) (k:Int)=((b%k:Nat):Int):=rfl;refine dC [] W ?_;apply Mz bT
  ·intro g h;refine fR 8 W<|wI W W n<|lX W W W (r:= .bool false) (by show some (D.bool (decide _))=_;rw[d])<|TF.nil ⟨by kernel_rfl,rfl⟩
  refine dO [0,2,23] W<|Mu (ax W W W (by omega))<|dR [999] W<|Mu (bX W W W W W W)<|dL [] W ?_;apply Mz bT
  ·intro g h;refine fR 8 W<|fO W W W (by omega) ?_;rw[s];refine bK W W W (aqe i) l W<|fR 1 W<|rU W W ?_;rw[IntWalk.i64_in _ ⟨by omega,by omega⟩];refine fR 1 W<|DG W W W (by simp;omega) ?_;rw[t];refine fR 1 W<|TF.nil ⟨by kernel_rfl,rfl⟩
  exact DC.ret ⟨_,rfl,b%k,i+1,rfl,rfl,ar5 _ e,c⟩
theorem IF{a:Type}{l:List a}{i:Nat}{x:a}(h:l[i]?=some x):i<l.length:=by grind
theorem Ar{n i:Nat}{rs:List (List D)}{m:M}{H:Hp}(h:Acc n i rs m H)(hi:1<=i)(d:1<=H.length)(rows:List (List D)):
  ∃b,Acc n b (rs++rows) (ie m H rows) (fW n m H rows)/\1<=b/\(∀j ob,(rs≠ []->j≠i)->H[j]?=some ob->(fW n m H rows)[j]?=some ob)/\H.length<=(fW n m H rows).length:=by
 rcases h with⟨rfl,rfl⟩|⟨f,a,rfl,c⟩
 ·cases rows with
  |nil=>exact⟨i,.inl ⟨rfl,rfl⟩,hi,λj ob _ h=>h,aqd _⟩
  |cons k l=>
   refine⟨H.length,.inr ⟨by simp,0,by simp[ie,vo],by simp[fW,kW]⟩,d,λj ob _ h=> ?_,by simp[fW,kW]⟩;simp only[fW,kW];rw[aqf (tm h)];exact h
 ·have g:=tm c;have e:fW n (.bB i a rs.length) H rows=H.set i (.row true n (a+1) (aX rs++aX rows)):=by simp only[fW,c]
  rw[e];exact⟨i,.inr ⟨by simp[f],a+1,by simp[ie],by rw[yu];simp[g]⟩,hi,λj ob o h=>by grind,by simp⟩
theorem IG(t:List Int)(v:D)(ht:Tape t v):PT Tryz.prog 10 [v] (λr=> ∃l,r= [.agg (Ir l)]/\GP l):=by
 obtain⟨r1,K1,⟨s,T,rfl,rfl,hj,PJ⟩,M0⟩:=G4 t v ht 3 (by omega) (by omega) 0 (by omega);have hN:1+((s:Nat):Int)=((s+1:Nat):Int):=by omega
 have co:s+1<=3:=by omega
 have Se:1<=s+1:=by omega
 have hv:(∃q,v= .sl q)\/v= .o8:=by
  have:=ht.da.1;cases v<;>simp[oB]at this
  ·exact .inl ⟨_,rfl⟩
  ·exact .inr W
 have d6:= λ(aj:Nat) (d8:Bool) (hs:aj<=10) (g:Nat) (u:g<=t.length)=>IE ht aj d8 hs g u
 rcases hv with⟨q,rfl⟩|rfl
 ·refine MP (DT.ct ?_);refine DT.ob Tryz.func10 W Tryz.ntmps10 W<|dO [2,2,14] W<|Mu (cA W W W)<|dR [2,2,20] W<|Mu (ap M0 W W)<|dR [21] W<|Mu (ax W W W (by omega)) ?_;rw[hN];refine dL [] W ?_;generalize s+1=b at co Se⊢;refine dC [2] W<|MG [nN 6 0,nN 5 b,(4,.loc 4 0),nR 3 0,(2,.loc 2 0)] [.box (eW (.sl q) T)] W W<|dC [3] W<|DC.lp (λc w=> ∃(a:Nat) (l:List Nd) (m:M) (g h:Nat) (e:Hp) (i:List (Nat×List M)),w=⟨[nI 6 (a:Int),nN 5 b,(4,.loc 4 0),nR 3 0,(2,.loc 2 0)],i,e⟩/\Go.Mt.get i 4=some [.d (.sl [CN]),m]/\Go.Mt.get i 2=some [.d (.sl []),.d (.sl [])]/\Acc 7 h (ly l) m e/\1<=h/\e[0]?=some (.box (eW (.sl q) g))/\g<=t.length/\a<=b/\l.length=a/\(∀(c:Nat) (d:Nd),l[c]?=some d->GN c d)/\c=b-a) b _
   ⟨0,[],.d (.sl []),T,1,_,_,rfl,rfl,rfl,.inl ⟨rfl,rfl⟩,by omega,rfl,PJ,by omega,rfl,by simp,rfl⟩ W ?_
  rintro c w ⟨a,l,m,g,h,e,i,rfl,n,x,y,U,R,u,hi,z,A,rfl⟩;refine dC [2] W<|DC.cond W (λo=> ?_) (λo=> ?_)
  ·have V:a<b:=by have:=aqv o;omega
   obtain⟨p,j,B,C,X,Y,E⟩:=d6 a (((a:Nat):Int)==((b:Nat):Int)-1) (by omega) g u e R;obtain⟨F,G,H,I,J,K,L,N⟩:=ID (BB p);rw[N]at E;have S:=tm R;have O:Acc 7 h (ly l) m (e.set 0 (.box (eW (.sl q) j))++ [.box (jM B C a (((a:Nat):Int)==((b:Nat):Int)-1))]):=y.other (λob P=>by
    rw[aqf (by simpa using tm P),aqn (by omega)];exact P)
   have d7:(ly l).length<=3:=by rw[Aq];omega
   have Z:ly (l++ [p])=ly l++ [[F,G,H,I,J,K,L]]:=by rw[<-N];simp[ly]
   obtain⟨a',Q,b2,b3,b4⟩:=Ar O U (by simp) [[F,G,H,I,J,K,L]];have ac:=b3 0 _ (by omega) (show(e.set 0 (.box (eW (.sl q) j))++ [.box (jM B C a (((a:Nat):Int)==((b:Nat):Int)-1))])[0]?=some (.box (eW (.sl q) j)) by rw[aqf (by simpa using S)];simp[S]);rw[<-Z]at Q;refine dO [3,2,31] W<|Mu (cC W W W (by omega))<|dR [33] W<|Mu (jT W W W W W)<|dR [34] W<|Mu (cA W W W)<|dL [] W ?_;apply Mz bT
   ·intro s0 Oo;refine fR 1 W<|p5 W W n W<|fR 2 W<|bm E W W<|fR 1 W<|A9 O W W W W W W (by omega) (by omega)<|fR 1 W<|iH W W n (gL _ _ _) W W<|TF.nil ⟨by kernel_rfl,rfl⟩
   refine dO [2,26] W<|Mu (ax W W W (by omega))<|dL [] W<|bE (k':=b-(a+1)) (by omega) ⟨a+1,l++ [p],_,j,a',_,_,rfl,rfl,x,Q,b2,ac,Y,by omega,by simp[z],by
    intro c d f;rcases aqh c l.length with k|k
    ·rw[aqf k]at f;exact A c d f
    ·rw[aqm k]at f;obtain rfl:c=l.length:=by have:=IF f;simp at this;omega
     simp at f;subst f;rw[z];exact X,rfl⟩ W W
  ·refine DC.exit ?_;have V:a=b:=by have:=aqA o;omega
   refine DC.jd (MY:=[.d (.sl [CN]),.d (.sl (ly l))]) 4 n (fF (gN (y.view (yv l)) W))<|dO [2,999] W<|Mu (ff W W x W W W)<|dL [] W<|DC.ret ⟨_,rfl,[_],rfl,l,rfl,by omega,by omega,A⟩
 ·refine MP (DT.ct ?_);refine DT.ob Tryz.func10 W Tryz.ntmps10 W<|dO [2,2,14] W<|Mu (cA W W W)<|dR [2,2,20] W<|Mu (ap M0 W W)<|dR [21] W<|Mu (ax W W W (by omega)) ?_;rw[hN];refine dL [] W ?_;generalize s+1=b at co Se⊢;refine dC [2] W<|MG [nN 6 0,nN 5 b,(4,.loc 4 0),nR 3 0,(2,.loc 2 0)] [.box (eW .o8 T)] W W<|dC [3] W<|DC.lp (λc w=> ∃(a:Nat) (l:List Nd) (m:M) (g h:Nat) (e:Hp) (i:List (Nat×List M)),w=⟨[nI 6 (a:Int),nN 5 b,(4,.loc 4 0),nR 3 0,(2,.loc 2 0)],i,e⟩/\Go.Mt.get i 4=some [.d (.sl [CN]),m]/\Go.Mt.get i 2=some [.d (.sl []),.d (.sl [])]/\Acc 7 h (ly l) m e/\1<=h/\e[0]?=some (.box (eW .o8 g))/\g<=t.length/\a<=b/\l.length=a/\(∀(c:Nat) (d:Nd),l[c]?=some d->GN c d)/\c=b-a) b _
   ⟨0,[],.d (.sl []),T,1,_,_,rfl,rfl,rfl,.inl ⟨rfl,rfl⟩,by omega,rfl,PJ,by omega,rfl,by simp,rfl⟩ W ?_
  rintro c w ⟨a,l,m,g,h,e,i,rfl,n,x,y,U,R,u,hi,z,A,rfl⟩;refine dC [2] W<|DC.cond W (λo=> ?_) (λo=> ?_)
  ·have V:a<b:=by have:=aqv o;omega
   obtain⟨p,j,B,C,X,Y,E⟩:=d6 a (((a:Nat):Int)==((b:Nat):Int)-1) (by omega) g u e R;obtain⟨F,G,H,I,J,K,L,N⟩:=ID (BB p);rw[N]at E;have S:=tm R;have O:Acc 7 h (ly l) m (e.set 0 (.box (eW .o8 j))++ [.box (jM B C a (((a:Nat):Int)==((b:Nat):Int)-1))]):=y.other (λob P=>by
    rw[aqf (by simpa using tm P),aqn (by omega)];exact P)
   have d7:(ly l).length<=3:=by rw[Aq];omega
   have Z:ly (l++ [p])=ly l++ [[F,G,H,I,J,K,L]]:=by rw[<-N];simp[ly]
   obtain⟨a',Q,b2,b3,b4⟩:=Ar O U (by simp) [[F,G,H,I,J,K,L]];have ac:=b3 0 _ (by omega) (show(e.set 0 (.box (eW .o8 j))++ [.box (jM B C a (((a:Nat):Int)==((b:Nat):Int)-1))])[0]?=some (.box (eW .o8 j)) by rw[aqf (by simpa using S)];simp[S]);rw[<-Z]at Q;refine dO [3,2,31] W<|Mu (cC W W W (by omega))<|dR [33] W<|Mu (jT W W W W W)<|dR [34] W<|Mu (cA W W W)<|dL [] W ?_;apply Mz bT
   ·intro s0 Oo;refine fR 1 W<|p5 W W n W<|fR 2 W<|bm E W W<|fR 1 W<|A9 O W W W W W W (by omega) (by omega)<|fR 1 W<|iH W W n (gL _ _ _) W W<|TF.nil ⟨by kernel_rfl,rfl⟩
   refine dO [2,26] W<|Mu (ax W W W (by omega))<|dL [] W<|bE (k':=b-(a+1)) (by omega) ⟨a+1,l++ [p],_,j,a',_,_,rfl,rfl,x,Q,b2,ac,Y,by omega,by simp[z],by
    intro c d f;rcases aqh c l.length with k|k
    ·rw[aqf k]at f;exact A c d f
    ·rw[aqm k]at f;obtain rfl:c=l.length:=by have:=IF f;simp at this;omega
     simp at f;subst f;rw[z];exact X,rfl⟩ W W
  ·refine DC.exit ?_;have V:a=b:=by have:=aqA o;omega
   refine DC.jd (MY:=[.d (.sl [CN]),.d (.sl (ly l))]) 4 n (fF (gN (y.view (yv l)) W))<|dO [2,999] W<|Mu (ff W W x W W W)<|dL [] W<|DC.ret ⟨_,rfl,[_],rfl,l,rfl,by omega,by omega,A⟩
end Go.Proofs
namespace Go.Ex
open Go.Mt Go.Mk
abbrev e0:Nm:=⟨#[]⟩
abbrev z2:Int×Int:=(0,0)
def cg:E->Sm.Xp
 | .nil=> .mk 0 0 0 e0 [] [] z2
 | .int n=> .mk 1 0 n e0 [] [] z2
 | .bool n=> .mk 2 0 n e0 [] [] z2
 | .ctor s=> .mk 3 0 0 s [] [] z2
 | .var s=> .mk 4 0 0 s [] [] z2
 | .last s=> .mk 5 0 0 s [] [] z2
 | .un op a=> .mk 6 op 0 e0 [] [cg a] z2
 | .bin op a b=> .mk 7 op 0 e0 [] [cg a,cg b] z2
 | .ite c a b=> .mk 8 0 0 e0 [] [cg c,cg a,cg b] z2
 | .fA a b=> .mk 9 0 0 e0 [] [cg a,cg b] z2
 | .pre a=> .mk 10 0 0 e0 [] [cg a] z2
 | .arrow a b=> .mk 11 0 0 e0 [] [cg a,cg b] z2
 | .e_ x c a=> .mk 12 0 0 x [c] [cg a] z2
 | .merge x c1 c2 c3 a b c=> .mk 13 0 0 x [c1,c2,c3] [cg a,cg b,cg c] z2
def El:Option (Nm×Nm)->List (Nm×Nm)
 |none=>[]
 |some c=>[c]
def dW(v:Va):Sm.Va:=⟨v.name,v.ty.kind,v.ty.nm,El v.clock,v.last,cg v.first,z2⟩
def t_(t:Tr):Sm.Tr:=⟨cg t.e,t.to,t.fb,z2⟩
mutual
def di:ay->Sm.ay
 | .df x e=> .mk 1 [x] e0 [] false (cg e) [] z2
 | .call x y f a b has e=> .mk 2 [x,y] f [cg a,cg b] has (cg e) [] z2
 | .sw e ah=> .mk 3 [] e0 [] false (cg e) (ej ah) z2
 | .aL ah=> .mk 4 [] e0 [] false (cg .nil) (ej ah) z2
 | .reset e b=> .mk 5 [] e0 [] false (cg e) [.mk e0 (ep b) [] [] z2] z2
def nY:aY->Sm.aY
 | .mk name b eT eU=> .mk name (ep b) (eT.map t_) (eU.map t_) z2
def ej:List aY->List Sm.aY
 | []=>[]
 |a::l=>nY a::ej l
def ep:aW->Sm.aW
 | .mk vars au=> .mk (vars.map dW) (eR au)
def eR:List ay->List Sm.ay
 | []=>[]
 |q::l=>di q::eR l
end
theorem ov(l:List aY):ej l=l.map nY:=by induction l with
 |nil=>rfl
 |cons b l a=>simp[ej,a]
theorem g_(l:List ay):eR l=l.map di:=by induction l with
 |nil=>rfl
 |cons b l a=>simp[eR,a]
def cG(d:Nd):Sm.Nd:=⟨d.name,d.ins.map dW,d.outs.map dW,ep d.b,z2⟩
abbrev yw:Sm.En:=⟨nL,[bZ,bu,cQ],z2⟩
def lO(l:List Nd):Sm.Pg:=⟨[yw],l.map cG⟩
theorem cX: ∀e:E,(cg e).cells=e.cells
 | .nil=>rfl
 | .int f=>rfl
 | .bool f=>rfl
 | .ctor d=>rfl
 | .var d=>rfl
 | .last d=>rfl
 | .un h a=>by simp only[cg,Sm.Xp.cells,Sm.rq,cX a];rfl
 | .bin h a b=>by simp only[cg,Sm.Xp.cells,Sm.rq,cX a,cX b];rfl
 | .ite c a b=>by simp only[cg,Sm.Xp.cells,Sm.rq,cX a,cX b,cX c];rfl
 | .fA a b=>by simp only[cg,Sm.Xp.cells,Sm.rq,cX a,cX b];rfl
 | .pre a=>by simp only[cg,Sm.Xp.cells,Sm.rq,cX a];rfl
 | .arrow a b=>by simp only[cg,Sm.Xp.cells,Sm.rq,cX a,cX b];rfl
 | .e_ g c a=>by simp only[cg,Sm.Xp.cells,Sm.rq,cX a];rfl
 | .merge g i j k a b c=>by simp only[cg,Sm.Xp.cells,Sm.rq,cX a,cX b,cX c];rfl
theorem Em(v:Va):(dW v).cells=v.cells:=by
 obtain⟨b,c,a,d,e⟩:=v;have:Sm.rX (El a)=rX a:=by cases a<;>rfl
 simp only[dW,Sm.Va.cells,Va.cells,cX,this]
theorem yx(l:List Va):Sm.aC (l.map dW)=aC l:=by simp[Sm.aC,aC,Function.comp_def,Em]
theorem Eo(l:List Tr):Sm.eC (l.map t_)=eC l:=by
 simp only[Sm.eC,eC,as9];exact aq3 λa _=>by simp[t_,Sm.Tr.cells,Tr.cells,cX]
mutual
theorem Ep: ∀q:ay,(di q).cells=q.cells
 | .df c e=>by simp only[di,Sm.ay.cells,ay.cells,cX];try rfl
 | .call c d f g b h e=>by simp only[di,Sm.ay.cells,ay.cells,cX,aqN,arf];try rfl
 | .sw e a=>by simp only[di,Sm.ay.cells,ay.cells,cX,sH a];try rfl
 | .aL a=>by simp only[di,Sm.ay.cells,ay.cells,cX,sH a];try rfl
 | .reset e b=>by simp only[di,Sm.ay.cells,ay.cells,cX,Sm.b7,Sm.aY.cells,ua b];try rfl
theorem Er: ∀a:aY,(nY a).cells=a.cells
 | .mk e b c d=>by simp only[nY,Sm.aY.cells,aY.cells,ua b,Eo]
theorem sH: ∀l:List aY,Sm.b7 (ej l)=b7 l
 | []=>rfl
 |a::l=>by simp only[ej,Sm.b7,b7,Er a,sH l]
theorem ua: ∀b:aW,(ep b).cells=b.cells
 | .mk c a=>by simp only[ep,Sm.aW.cells,aW.cells,yx,wA a]
theorem wA: ∀l:List ay,Sm.bF (eR l)=bF l
 | []=>rfl
 |a::l=>by simp only[eR,Sm.bF,bF,Ep a,wA l]
end
theorem Es(d:Nd):(cG d).cells=d.cells:=by
 have a:=ua d.b;rw[Sm.aW.aA]at a;have b:d.cells= [.str d.name,.sl (aC d.ins),.sl (aC d.outs)]++d.b.cells++ [.int .i64 0,.int .i64 0]:=rfl;rw[b,<-a];simp only[cG,Sm.Nd.cells,yx];rfl
theorem yy(l:List Nd):(lO l).cells=Ir l:=by
 have:(l.map cG).map Sm.Nd.cells=ly l:=by
  simp only[ly,as9];exact aq3 λd _=>Es d
 show [D.sl [Sm.En.cells yw],D.sl ((l.map cG).map Sm.Nd.cells)]=_;rw[this];rfl
abbrev Env:=List (Nm×Option Int×Nat)
def pO:Env->Nat->Nm->Option (Option Int×Nat×Nat)
 | [],_,_=>none
 |(y,v,s)::r,i,x=>if y=x then some (v,s,i)else pO r (i+1) x
def get(A:Env)(x:Nm):Option (Option Int×Nat×Nat):=pO A 0 x
theorem ub: ∀(A a:Env) (i:Nat) (x:Nm),pO (A++a) i x=match pO A i x with|some e=>some e|none=>pO a (i+A.length) x
 | [],a,i,x=>rfl
 |(d,v,f)::b,a,i,x=>by
  simp only[arl,pO];by_cases c:d=x
  ·grind
  ·rw[aqo c,aqo c,ub b a (i+1) x,aqw,show i+(b.length+1)=i+1+b.length by omega]
theorem lL{A a:Env}{x:Nm}{e:Option Int×Nat×Nat}(h:get A x=some e):get (A++a) x=some e:=by unfold get;rw[ub];unfold get at h;rw[h]
theorem As: ∀{A:Env} {i:Nat} {x:Nm} {v:Option Int} {s k:Nat},pO A i x=some (v,s,k)->i<=k/\k<i+A.length
 | [],i,x,v,s,k,a=>by cases a
 |(b,c,d)::e,i,x,v,s,k,a=>by
  unfold pO at a;split at a
  ·grind
  ·have:=As a;simp;omega
theorem ta{A:Env}{x:Nm}{v:Option Int}{s k:Nat}(h:get A x=some (v,s,k)):k<A.length:=by have:=As h;omega
def val(A:Env)(x:Nm):Int:=match get A x with
 |some (some v,_,_)=>v
 |_=>0
def Kn(A:Env)(x:Nm)(r:Nat):Prop:= ∃v s i,get A x=some (some v,s,i)/\i<r
theorem Kn.app{A:Env}{x:Nm}{r r':Nat}(h:Kn A x r)(a:Env)(e:r<=r'):Kn (A++a) x r':=by obtain⟨v,b,c,d,f⟩:=h;exact⟨v,b,c,lL d,by omega⟩
theorem Kn.val{A:Env}{x:Nm}{r:Nat}(h:Kn A x r)(b:Env):val (A++b) x=val A x:=by obtain⟨v,c,d,a,e⟩:=h;unfold Ex.val;rw[lL a,a]
def VT:Ty->Int->Prop
 | .bool,n=>n=0\/n=1
 | .int,n=>Sm.oW n
 | .eO,n=>n=0\/n=1\/n=2
abbrev xE(e:E):Nat:=Sm.xP (cg e)
def gO(x:Nm):Int:=Sm.kB [bZ,bu,cQ] x
inductive PK where
 |val (t:Ty)|any|aL (N:Nat)|call (j:Nat)
structure dS where
 ty:Nm->Ty
 ls:Nm->Bool
 lp:Nm->Nat
 pt:Nat->PK
def pP(T:dS):E->Ty
 | .nil=> .int
 | .int _=> .int
 | .bool _=> .bool
 | .ctor _=> .eO
 | .var x=>T.ty x
 | .last x=>T.ty x
 | .un op _=>if op=1 then .bool else .int
 | .bin op _ _=>if op∈ [(3:Int),4,5,6,7]then .int else .bool
 | .ite _ a _=>pP T a
 | .fA c _=>pP T c
 | .pre a=>pP T a
 | .arrow a _=>pP T a
 | .e_ _ _ a=>pP T a
 | .merge _ _ _ _ _ _ c=>pP T c
section
variable(T:dS)(A:Env)(rd:Nat->Int)
def cy:E->Nat->Int
 | .nil,_=>0
 | .int n,_=>n
 | .bool n,_=>n
 | .ctor s,_=>gO s
 | .var x,_=>val A x
 | .last x,_=>rd (T.lp x)
 | .un op a,p=>Sm.Bg op (cy a p)
 | .bin op a b,p=>Sm.iL op (cy a p) (cy b (p+xE a))
 | .ite c a b,p=>if cy c p=0 then cy b (p+xE c+xE a)else cy a (p+xE c)
 | .fA _ _,p=>rd p
 | .pre _,p=>rd p
 | .arrow a b,p=>if rd p=0 then cy b (p+1+xE a)else cy a (p+1)
 | .e_ _ _ a,p=>cy a p
 | .merge x c1 c2 _ a b c,p=>if gO c1=val A x then cy a p else if gO c2=val A x then cy b (p+xE a)else cy c (p+xE a+xE b)
def dH:E->Nat->List (Nat×Int)
 | .un _ a,p=>dH a p
 | .bin _ a b,p=>dH a p++dH b (p+xE a)
 | .ite c a b,p=>dH c p++dH a (p+xE c)++dH b (p+xE c+xE a)
 | .fA c y,p=>(p,cy T A rd y (p+1+xE c))::dH y (p+1+xE c)
 | .pre y,p=>(p,cy T A rd y (p+1))::dH y (p+1)
 | .arrow a b,p=>(p,0)::(dH a (p+1)++dH b (p+1+xE a))
 | .e_ _ _ a,p=>dH a p
 | .merge x c1 c2 _ a b c,p=>if gO c1=val A x then dH a p else if gO c2=val A x then dH b (p+xE a)else dH c (p+xE a+xE b)
 |_,_=>[]
def eu(V:Nm->Prop)(R:Nat):Nat->E->Prop
 |_,.nil=>False
 |_,.int _=>True
 |_,.bool _=>True
 |_,.ctor s=>s∈ [bZ,bu,cQ]
 |r,.var x=>V x/\Kn A x r
 |_,.last x=>V x/\T.ls x=true
 |r,.un _ a=>eu V R r a
 |r,.bin _ a b=>eu V R r a/\eu V R r b
 |r,.ite c a b=>eu V R r c/\eu V R r a/\eu V R r b
 |_,.fA c y=>eu V R R y
 |_,.pre y=>eu V R R y
 |r,.arrow a b=>eu V R r a/\eu V R r b
 |r,.e_ _ _ a=>eu V R r a
 |r,.merge x c1 c2 c3 a b c=>V x/\Kn A x r/\T.ty x= .eO/\(if gO c1=val A x then eu V R r a else if gO c2=val A x then eu V R r b else gO c3=val A x/\eu V R r c)
end
section
variable{T:dS}{A:Env}{rd:Nat->Int}{V:Nm->Prop}
theorem iP(d:Env): ∀{e:E} {g r p:Nat},eu T A V g r e->cy T (A++d) rd e p=cy T A rd e p
 | .nil,_,_,_,a=>a.elim
 | .int _,_,_,_,_=>rfl
 | .bool _,_,_,_,_=>rfl
 | .ctor _,_,_,_,_=>rfl
 | .var j,_,_,_,a=>a.2.val d
 | .last _,_,_,_,_=>rfl
 | .un k f,g,r,p,a=>by simp only[cy];rw[iP d (e:=f) a]
 | .bin k f b,g,r,p,a=>by simp only[cy];rw[iP d (e:=f) a.1,iP d (e:=b) a.2]
 | .ite c f b,g,r,p,a=>by simp only[cy];rw[iP d (e:=c) a.1,iP d (e:=f) a.2.1,iP d (e:=b) a.2.2]
 | .fA _ _,_,_,_,_=>rfl
 | .pre _,_,_,_,_=>rfl
 | .arrow f b,g,r,p,a=>by simp only[cy];rw[iP d (e:=f) a.1,iP d (e:=b) a.2]
 | .e_ _ _ f,g,r,p,a=>by simp only[cy];exact iP d (e:=f) a
 | .merge j m n o f b c,g,r,p,a=>by
  obtain⟨q,l,s,h⟩:=a;simp only[cy,l.val d];split
  ·rename_i e;rw[aqy e]at h;exact iP d h
  ·rename_i e;rw[aqo e]at h;split
   ·rename_i i;rw[aqy i]at h;exact iP d h
   ·rename_i i;rw[aqo i]at h;exact iP d h.2
theorem eu.app(g:Env){m:Nat} : ∀{e:E} {h r r':Nat},eu T A V h r e->h<=m->r<=r'->eu T (A++g) V m r' e
 | .nil,_,_,_,a,_,_=>a.elim
 | .int _,_,_,_,_,_,_=>trivial
 | .bool _,_,_,_,_,_,_=>trivial
 | .ctor _,_,_,_,a,_,_=>a
 | .var o,_,_,_,a,_,f=>⟨a.1,a.2.app g f⟩
 | .last _,_,_,_,a,_,_=>a
 | .un p j,h,r,r',a,d,f=>eu.app g (e:=j) a d f
 | .bin p j b,h,r,r',a,d,f=>⟨eu.app g a.1 d f,eu.app g a.2 d f⟩
 | .ite c j b,h,r,r',a,d,f=>⟨eu.app g a.1 d f,eu.app g a.2.1 d f,eu.app g a.2.2 d f⟩
 | .fA c k,h,r,r',a,d,f=>eu.app g (e:=k) a d d
 | .pre k,h,r,r',a,d,f=>eu.app g (e:=k) a d d
 | .arrow j b,h,r,r',a,d,f=>⟨eu.app g a.1 d f,eu.app g a.2 d f⟩
 | .e_ _ _ j,h,r,r',a,d,f=>eu.app g (e:=j) a d f
 | .merge o t u v j b c,h,r,r',a,d,f=>by
  obtain⟨q,n,s,i⟩:=a;refine⟨q,n.app g f,s,?_⟩;rw[n.val g];split
  ·rename_i e;rw[aqy e]at i;exact eu.app g i d f
  ·rename_i e;rw[aqo e]at i;split
   ·rename_i l;rw[aqy l]at i;exact eu.app g i d f
   ·rename_i l;rw[aqo l]at i;exact⟨i.1,eu.app g i.2 d f⟩
theorem eu.rF{V':Nm->Prop}(d: ∀g,V g->V' g): ∀{e:E} {f r:Nat},eu T A V f r e->eu T A V' f r e
 | .nil,_,_,a=>a.elim
 | .int _,_,_,_=>trivial
 | .bool _,_,_,_=>trivial
 | .ctor _,_,_,a=>a
 | .var g,_,_,a=>⟨d g a.1,a.2⟩
 | .last g,_,_,a=>⟨d g a.1,a.2⟩
 | .un l i,f,r,a=>eu.rF d (e:=i) a
 | .bin l i b,f,r,a=>⟨eu.rF d a.1,eu.rF d a.2⟩
 | .ite c i b,f,r,a=>⟨eu.rF d a.1,eu.rF d a.2.1,eu.rF d a.2.2⟩
 | .fA c j,f,r,a=>eu.rF d (e:=j) a
 | .pre j,f,r,a=>eu.rF d (e:=j) a
 | .arrow i b,f,r,a=>⟨eu.rF d a.1,eu.rF d a.2⟩
 | .e_ _ _ i,f,r,a=>eu.rF d (e:=i) a
 | .merge g p q s i b c,f,r,a=>by
  obtain⟨m,n,o,h⟩:=a;refine⟨d g m,n,o,?_⟩;split
  ·rename_i e;rw[aqy e]at h;exact eu.rF d h
  ·rename_i e;rw[aqo e]at h;split
   ·rename_i k;rw[aqy k]at h;exact eu.rF d h
   ·rename_i k;rw[aqo k]at h;exact⟨h.1,eu.rF d h.2⟩
end
def nO(T:dS)(rd:Nat->Int):E->Nat->Prop
 | .un _ a,p=>nO T rd a p
 | .bin _ a b,p=>nO T rd a p/\nO T rd b (p+xE a)
 | .ite c a b,p=>nO T rd c p/\nO T rd a (p+xE c)/\nO T rd b (p+xE c+xE a)
 | .fA c y,p=>VT (pP T c) (rd p)/\nO T rd y (p+1+xE c)
 | .pre y,p=>VT (pP T y) (rd p)/\nO T rd y (p+1)
 | .arrow a b,p=>nO T rd a (p+1)/\nO T rd b (p+1+xE a)
 | .e_ _ _ a,p=>nO T rd a p
 | .merge _ _ _ _ a b c,p=>nO T rd a p/\nO T rd b (p+xE a)/\nO T rd c (p+xE a+xE b)
 |_,_=>True
def Le(T:dS)(s:Sc):Prop:=(∀v∈s.ready,T.ty v.name=v.ty)/\(∀v∈s.all,T.ty v.name=v.ty)/\ ∀v∈s.cW,T.ty v.name=v.ty
structure G5(T:dS)(A:Env)(rd:Nat->Int)(V:Nm->Prop)(s:Sc)(r:Nat):Prop where
 t:Le T s
 wD: ∀v∈s.ready,v.clock=none->V v.name/\Kn A v.name r/\VT v.ty (val A v.name)
 uX: ∀v∈s.cW,V v.name/\T.ls v.name=true/\VT v.ty (rd (T.lp v.name))
def qo(A:Env)(V:Nm->Prop)(s:Sc)(R:Nat):Prop:= ∀v∈s.all,v.clock=none->V v.name/\Kn A v.name R/\VT v.ty (val A v.name)
section
variable{T:dS}{A:Env}{rd:Nat->Int}{V:Nm->Prop}
theorem sI{t:Ty}{e:E}(h:GC t e):pP T e=t:=by cases h<;>rfl
theorem IH{s:Sc}{t:Ty}{st:Bool}{d:Nat}{e:E}(h:GE s t st d e):Le T s->pP T e=t:=by
 induction h with
 |v h=>intro b;cases h with
  |vw h=>exact sI h
  |var h=>obtain⟨v,g,i,_,rfl⟩:=h;exact(b.1 v g).trans i
 |c h=>intro _;exact sI h
 |ite l f j p a k=>intro b;exact a b
 |fA l f a=>intro _;simp only[pP];exact sI l
 |arrow f j a k=>intro b;exact a b
 |last h=>intro b;obtain⟨v,g,i,_,rfl⟩:=h;exact(b.2.2 v g).trans i
 |neg f a=>intro _;rfl
 |arith m n f j a k=>intro _;simp only[pP];rw[aqy n]
 |not f a=>intro _;rfl
 |kz m o n f j a k=>
  intro _;have:m∉ [(3:Int),4,5,6,7]:=by
   grind
  simp only[pP];rw[aqo this]
theorem i32_in(n:Int):Sm.oW (Sm.i32 n):=by
 have a:Sm.i32 n=if n%4294967296>=2147483648 then n%4294967296-4294967296 else n%4294967296:=by
  show IntKind.i32.wrap n=_;unfold IntKind.wrap;have b:(2:Int)^32=4294967296:=by decide
  have c:(2:Int)^(32-1)=2147483648:=by decide
  simp only[IntKind.signed,IntKind.bits,Bool.true_and,b,c,decide_eq_true_eq]
 rw[a];unfold Sm.oW;constructor<;>split<;>omega
theorem Au(b:Bool):VT .bool (Sm.kq b):=by cases b<;>simp[Sm.kq,VT]
theorem JI(a:Int):VT .int (Sm.Bg 2 a):=by
 have:Sm.Bg 2 a=Sm.i32 (-a):=rfl;rw[this];exact i32_in _
theorem JJ(a:Int):VT .bool (Sm.Bg 1 a):=Au _
theorem CW{op a b:Int}(d:op∈ [(3:Int),4,5,6,7])(e:Sm.oW a)(h:Sm.oW b):VT .int (Sm.iL op a b):=by
 have c:Sm.oW 0:=by unfold Sm.oW;omega
 simp only[aqs,aqx,aq9]at d;rcases d with rfl|rfl|rfl|rfl|rfl
 ·exact i32_in _
 ·exact i32_in _
 ·exact i32_in _
 ·show Sm.oW (if b=0 then 0 else if a= -2147483648/\b= -1 then a else Sm.i32 (Int.tdiv a b));split
  ·exact c
  ·split
   ·exact e
   ·exact i32_in _
 ·show Sm.oW (if b=0 then 0 else if a= -2147483648/\b= -1 then 0 else Int.tmod a b);split
  ·exact c
  ·split
   ·exact c
   ·unfold Sm.oW at e⊢;have i:Int.natAbs (Int.tmod a b)<=Int.natAbs a:=by
     rw[Int.natAbs_tmod];exact Nat.mod_le _ _
    rcases Int.le_total 0 a with f|f
    ·have:=Int.tmod_nonneg b f;omega
    ·have:Int.tmod a b<=0:=by
      have g:=Int.tmod_nonneg b (show 0<= -a by omega);rw[Int.neg_tmod]at g;omega
     omega
theorem G6{op a b:Int}(c:op=8\/op=9\/op=10\/op=11\/op=13\/op=16):VT .bool (Sm.iL op a b):=by
 rcases c with rfl|rfl|rfl|rfl|rfl|rfl<;>exact Au _
theorem BC{t:Ty}{e:E}(h:GC t e)(p:Nat):VT t (cy T A rd e p):=by
 cases h with
 |bool h=>exact h
 |int h=>
  simp only[cy];show Sm.oW _;simp only[aqs,aqx,aq9]at h;unfold Sm.oW;omega
 |eO h=>
  simp only[cy];simp only[aqs,aqx,aq9]at h;rcases h with rfl|rfl|rfl
  ·exact .inl W
  ·exact .inr (.inl W)
  ·exact .inr (.inr W)
theorem Et{t:Ty}{e:E}(h:GC t e)(a r:Nat):eu T A V a r e:=by
 cases h with
 |bool h=>trivial
 |int h=>trivial
 |eO h=>exact h
theorem mL{s:Sc}{t:Ty}{st:Bool}{d:Nat}{e:E}(h:GE s t st d e): ∀{r p:Nat},G5 T A rd V s r->nO T rd e p->VT t (cy T A rd e p):=by
 induction h with
 | @v s t st d e h=>
  intro r p a b;cases h with
  |vw h=>exact BC h p
  |var h=>obtain⟨v,l,m,i,rfl⟩:=h;simp only[cy];rw[<-m];exact(a.wD v l i).2.2
 |c h=>intro r p a b;exact BC h p
 |ite i g k u f j=>
  intro r p a b;simp only[cy];split
  ·exact j a b.2.2
  ·exact f a b.2.1
 |fA i g f=>intro r p a b;simp only[cy];have:=b.1;rw[sI i]at this;exact this
 |arrow g k f j=>
  intro r p a b;simp only[cy];split
  ·have:=b.2.1;rw[IH k ⟨a.t.2.1,a.t.2.1,a.t.2.2⟩]at this;exact this
  ·exact f a b.1
 |last h=>intro r p a b;obtain⟨v,l,m,i,rfl⟩:=h;simp only[cy];rw[<-m];exact(a.uX v l).2.2
 |neg g f=>intro r p a b;exact JI _
 |arith o n g k f j=>intro r p a b;exact CW n (f a b.1) (j a b.2)
 |not g f=>intro r p a b;exact JJ _
 |kz o q n g k f j=>
  intro r p a b;refine G6 ?_;rcases n with⟨h,_⟩|⟨h,_⟩|rfl
  ·grind
  ·grind
  ·omega
theorem nC{s:Sc}{t:Ty}{st:Bool}{d:Nat}{e:E}(h:GE s t st d e): ∀{r g:Nat},r<=g->G5 T A rd V s r->qo A V s g->eu T A V g r e:=by
 induction h with
 | @v s t st d e h=>
  intro r g f a b;cases h with
  |vw h=>exact Et h g r
  |var h=>obtain⟨v,l,o,m,rfl⟩:=h;exact⟨(a.wD v l m).1,(a.wD v l m).2.1⟩
 |c h=>intro r g f a b;exact Et h g r
 |ite m k n p i j=>intro r g f a b;exact⟨p f a b,i f a b,j f a b⟩
 |fA m k i=>intro r g f a b;exact i (aqd g) ⟨⟨a.t.2.1,a.t.2.1,a.t.2.2⟩,b,a.uX⟩ b
 |arrow k n i j=>intro r g f a b;exact⟨i f a b,j (aqd g) ⟨⟨a.t.2.1,a.t.2.1,a.t.2.2⟩,b,a.uX⟩ b⟩
 |last h=>intro r g f a b;obtain⟨v,l,o,m,rfl⟩:=h;exact⟨(a.uX v l).1,(a.uX v l).2.1⟩
 |neg k i=>intro r g f a b;exact i f a b
 |arith q u k n i j=>intro r g f a b;exact⟨i f a b,j f a b⟩
 |not k i=>intro r g f a b;exact i f a b
 |kz q w u k n i j=>intro r g f a b;exact⟨i f a b,j f a b⟩
end
structure Rs where
 rd:Nat->Int
 rp:Nat->Bool
 rs:Nat->Option Sm.US
def BD(F:List (Option Int))(s:Rs)(lo hi:Nat):Rs:=
 ⟨λk=>if lo<=k/\k<hi then Sm.cd F k else s.rd k,λk=>if(lo<=k/\k<hi)/\F[k]?=some none then false else s.rp k,λk=>if(lo<=k/\k<hi)/\F[k]?=some none then none else s.rs k⟩
def Mem(T:dS)(G:Nat->Sm.US->Prop)(s:Rs):Prop:= ∀k,match T.pt k with
 | .val t=>VT t (s.rd k)
 | .any=>True
 | .aL N=>0<=s.rd k/\s.rd k<N
 | .call j=> ∀u,s.rs k=some u->u.i=j/\G j u
def gP(T:dS):E->Nat->Prop
 | .un _ a,p=>gP T a p
 | .bin _ a b,p=>gP T a p/\gP T b (p+xE a)
 | .ite c a b,p=>gP T c p/\gP T a (p+xE c)/\gP T b (p+xE c+xE a)
 | .fA c y,p=>T.pt p= .val (pP T c)/\gP T y (p+1+xE c)
 | .pre y,p=>T.pt p= .val (pP T y)/\gP T y (p+1)
 | .arrow a b,p=>T.pt p= .any/\gP T a (p+1)/\gP T b (p+1+xE a)
 | .e_ _ _ a,p=>gP T a p
 | .merge _ _ _ _ a b c,p=>gP T a p/\gP T b (p+xE a)/\gP T c (p+xE a+xE b)
 |_,_=>True
theorem jD{T:dS}{f:Nat->Sm.US->Prop}{s:Rs}(h:Mem T f s): ∀{e:E} {p:Nat},gP T e p->nO T s.rd e p
 | .nil,_,_=>trivial
 | .int _,_,_=>trivial
 | .bool _,_,_=>trivial
 | .ctor _,_,_=>trivial
 | .var _,_,_=>trivial
 | .last _,_,_=>trivial
 | .un i d,p,a=>jD h (e:=d) a
 | .bin i d b,p,a=>⟨jD h a.1,jD h a.2⟩
 | .ite c d b,p,a=>⟨jD h a.1,jD h a.2.1,jD h a.2.2⟩
 | .fA c g,p,a=>⟨by have:=h p;rw[a.1]at this;exact this,jD h a.2⟩
 | .pre g,p,a=>⟨by have:=h p;rw[a.1]at this;exact this,jD h a.2⟩
 | .arrow d b,p,a=>⟨jD h a.2.1,jD h a.2.2⟩
 | .e_ _ _ d,p,a=>jD h (e:=d) a
 | .merge _ _ _ _ d b c,p,a=>⟨jD h a.1,jD h a.2.1,jD h a.2.2⟩
def cq:ay->List aY
 | .sw _ ah=>ah
 | .aL ah=>ah
 | .reset _ b=>[.mk e0 b [] []]
 |_=>[]
def dG:aY->aW| .mk _ b _ _=>b
def jx:aY->Nm| .mk n _ _ _=>n
def jf:aY->List Tr| .mk _ _ u _=>u
def kg:aY->List Tr| .mk _ _ _ w=>w
def c8:aW->List Va| .mk v _=>v
def cJ:aW->List ay| .mk _ q=>q
abbrev cI:List Sm.En:=[yw]
section
variable(T:dS)(F:List (Option Int))(A:Env)
def iZ(rd:Nat->Int):List Tr->Option Tr
 | []=>none
 |t::l=>if cy T A rd t.e 0≠0 then some t else iZ rd l
def rc(l:List aY)(x:Nm):Nat:=(l.findIdx? λa=>decide (jx a=x)).getD 0
def eY(s:Rs)(p:Nat):ay->Nat
 | .sw e ah=>(ah.findIdx? λa=>decide (Sm.gx cI (jx a)=cy T A s.rd e p)).getD 0
 | .aL ah=>match iZ T A s.rd (((ah[(s.rd p).toNat]?).map jf).getD [])with
  |none=>(s.rd p).toNat
  |some t=>rc ah t.to
 |_=>0
def zu(s:Rs)(p:Nat):ay->Bool
 | .aL ah=>match iZ T A s.rd (((ah[(s.rd p).toNat]?).map jf).getD [])with
  |none=>s.rp p
  |some t=> !t.fb
 | .reset e _=>decide (cy T A s.rd e p≠0)
 |_=>false
abbrev nc(q:ay)(p k:Nat):Nat:=Sm.dx (di q) p k
def nZ(s:Rs)(p:Nat)(q:ay)(a:aY):Rs:=if zu T A s p q then BD F s (nc q p (eY T A s p q)) (nc q p (eY T A s p q)+Sm.bP (ep (dG a)))else s
def iw(x:Nm):Nat:=match get A x with
 |some (_,sb,_)=>sb
 |none=>0
abbrev dQ(q:ay):List Nm:=Sm.b_ (di q)
abbrev dA(a:aY):List Nm:=Sm.jL (ep (dG a))
def yz(s:Rs)(q:ay)(a:aY):Prop:= ∀x∈dQ q,x∉dA a->T.ls x=true/\ ∃i,get A x=some (some (s.rd (T.lp x)),i,i)
variable(My:Nat->Sm.US->List Int->List Int->Sm.US->Prop)(az:Nat->Sm.US)
def yA(V:Nm->Prop)(s:Rs)(p:Nat):ay->Prop
 | .df x e=>V x/\((∃i,get A x=some (some (cy T A s.rd e p),i,i)/\eu T A V (A.length+1) i e)\/ ∃i,get A x=some (none,i,i))
 | .call x y f a b has e=>V x/\V y/\x≠y/\ ∃j i ox oy u',f=nm 102 j/\get A x=some (some ox,i,i)/\get A y=some (some oy,i,i+1)/\(has=true->eu T A V (A.length+1) i e)/\eu T A V (A.length+1) i a/\eu T A V (A.length+1) i b
   /\My j ((if has=true/\cy T A s.rd e (p+1)≠0 then none else s.rs p).getD (az j)) [cy T A s.rd a (p+1+xE e),cy T A s.rd b (p+1+xE e+xE a)] [ox,oy] u'/\ ∀u,s.rs p=some u->u.i=j
 | .sw e ah=> ∃t a,t<=A.length/\eu T A V (A.length+1) t e/\(∀x∈dQ (.sw e ah),V x/\t<=iw A x)/\ah[eY T A s p (.sw e ah)]?=some a/\Sm.gx cI (jx a)=cy T A s.rd e p
   /\(∀(i:Nat) (b:aY),i<eY T A s p (.sw e ah)->ah[i]?=some b->Sm.gx cI (jx b)≠cy T A s.rd e p)/\yz T A s (.sw e ah) a
 | .aL ah=> ∃t a a0,t<=A.length/\0<=s.rd p/\ah[(s.rd p).toNat]?=some a0/\(∀w∈jf a0,eu T A V (A.length+1) t w.e/\xE w.e=0/\dH T A s.rd w.e 0= []/\ ∃k,Sm.mo (ej ah) w.to=some k/\k=rc ah w.to)/\(∀x∈dQ (.aL ah),V x/\t<=iw A x)/\ah[eY T A s p (.aL ah)]?=some a
   /\(∀w∈kg a,eu T A (λx=>V x\/ ∃v∈c8 (dG a),v.name=x) (A.length+1) (A.length+1) w.e/\xE w.e=0/\dH T A (nZ T F A s p (.aL ah) a).rd w.e 0= []/\ ∃k,Sm.mo (ej ah) w.to=some k/\k=rc ah w.to)/\yz T A s (.aL ah) a
 | .reset e b=> ∃t,t<=A.length/\eu T A V (A.length+1) t e/\(∀x∈dQ (.reset e b),V x/\t<=iw A x)/\yz T A s (.reset e b) (.mk e0 b [] [])
def MT(k:Nat)(v:Int):Prop:=match T.pt k with
 | .val t=>VT t v
 | .any=>True
 |_=>False
def Mo(s:Rs)(p:Nat):ay->Prop
 | .df x e=>(∃v sb i,get A x=some (some v,sb,i))-> ∀kv∈dH T A s.rd e p,MT T kv.1 kv.2
 | .call _ _ _ a b has e=>(has=true-> ∀kv∈dH T A s.rd e (p+1),MT T kv.1 kv.2)/\(∀kv∈dH T A s.rd a (p+1+xE e),MT T kv.1 kv.2)/\ ∀kv∈dH T A s.rd b (p+1+xE e+xE a),MT T kv.1 kv.2
 | .sw e _=> ∀kv∈dH T A s.rd e p,MT T kv.1 kv.2
 | .aL _=>True
 | .reset e _=> ∀kv∈dH T A s.rd e p,MT T kv.1 kv.2
def Av(V:Nm->Prop)(s:Rs)(p:Nat)(q:ay):Prop:=yA T F A My az V s p q/\Mo T A s p q
def Kk(V:Nm->Prop)(v:Va):Prop:=T.ty v.name=v.ty/\T.ls v.name=v.last/\ ∃o sb i,get A v.name=some (o,sb,i)/\sb<=i/\match v.clock with
 |none=>o.isSome=true
 |some (k,x)=>V x/\T.ty x= .eO/\Kn A x sb/\(o.isSome=true↔gO k=val A x)
inductive rA:(Nm->Prop)->Rs->Nat->aW->Prop where
 |mk {V:Nm->Prop} {s:Rs} {p0:Nat} {b:aW} (hv: ∀v∈c8 b,Kk T A (λx=>V x\/ ∃v∈c8 b,v.name=x) v)
   (hl: ∀(i:Nat) (v:Va),(c8 b)[i]?=some v->v.last=true->(Sm.cm ((c8 b).map dW) p0)[i]?=some (some (T.lp v.name))/\T.pt (T.lp v.name)= .val v.ty/\VT v.ty (val A v.name))
   (hq: ∀(j:Nat) (q:ay) (p:Nat),(cJ b)[j]?=some q->(Sm.fy (eR (cJ b)) (p0+Sm.aR ((c8 b).map dW)))[j]?=some p->Av T F A My az (λx=>V x\/ ∃v∈c8 b,v.name=x) s p q)
   (hb: ∀(j:Nat) (q:ay) (p:Nat) (a:aY),(cJ b)[j]?=some q->(Sm.fy (eR (cJ b)) (p0+Sm.aR ((c8 b).map dW)))[j]?=some p->(cq q)[eY T A s p q]?=some a->
    rA (λx=>V x\/ ∃v∈c8 b,v.name=x) (nZ T F A s p q a) (nc q p (eY T A s p q)) (dG a)):rA V s p0 b
end
def yB(T:dS):ay->Nat->Prop
 | .df _ e,p=>gP T e p
 | .call _ _ f a b _ e,p=>(∀j,f=nm 102 j->T.pt p= .call j)/\gP T e (p+1)/\gP T a (p+1+xE e)/\gP T b (p+1+xE e+xE a)
 | .sw e _,p=>gP T e p
 | .aL ah,p=>T.pt p= .aL ah.length
 | .reset e _,p=>gP T e p
inductive pQ(T:dS):Nat->aW->Prop where
 |mk {p0:Nat} {b:aW} (hv: ∀(i:Nat) (v:Va),(c8 b)[i]?=some v->T.ty v.name=v.ty/\T.ls v.name=v.last/\(v.last=true->(Sm.cm ((c8 b).map dW) p0)[i]?=some (some (T.lp v.name))/\T.pt (T.lp v.name)= .val v.ty))
   (hq: ∀(j:Nat) (q:ay) (p:Nat),(cJ b)[j]?=some q->(Sm.fy (eR (cJ b)) (p0+Sm.aR ((c8 b).map dW)))[j]?=some p->yB T q p)
   (hb: ∀(j:Nat) (q:ay) (p k:Nat) (a:aY),(cJ b)[j]?=some q->(Sm.fy (eR (cJ b)) (p0+Sm.aR ((c8 b).map dW)))[j]?=some p->(cq q)[k]?=some a->pQ T (nc q p k) (dG a)):pQ T p0 b
def II(l:List UInt8):Nat:=l.foldl (λa b=>10*a+(b.toNat-48)) 0
theorem re(d:Nat)(h:d<10):(strOfNums [IntKind.u8.wrap (48+(d:Int))]).data.toList= [UInt8.ofNat (48+d)]:=by
 match d,h with
 |0,_=>rfl
 |1,_=>rfl
 |2,_=>rfl
 |3,_=>rfl
 |4,_=>rfl
 |5,_=>rfl
 |6,_=>rfl
 |7,_=>rfl
 |8,_=>rfl
 |9,_=>rfl
theorem CX(d:Nat)(h:d<10):(UInt8.ofNat (48+d)).toNat-48=d:=by
 match d,h with
 |0,_=>rfl
 |1,_=>rfl
 |2,_=>rfl
 |3,_=>rfl
 |4,_=>rfl
 |5,_=>rfl
 |6,_=>rfl
 |7,_=>rfl
 |8,_=>rfl
 |9,_=>rfl
theorem Fu(n:Nat):II (dg n).data.toList=n:=by
 induction n using Nat.strongRecOn with
 |ind n c=>
  rw[dg];split
  ·rename_i a;rw[re n a];simp only[II,ars,asG];rw[CX n a];omega
  ·rename_i a;have b:=c (n/10) (by omega);rw[asw,asB,re (n%10) (by omega)];unfold II at b⊢;rw[asK,b];simp only[ars,asG];rw[CX (n%10) (by omega)];omega
theorem yC(c:UInt8)(k:Nat):(nm c k).data.toList=c::(dg k).data.toList:=by
 unfold nm;rw[asw,asB];rfl
theorem gS{c a:UInt8}{k k':Nat}(h:nm c k=nm a k'):c=a/\k=k':=by
 have b:(nm c k).data.toList=(nm a k').data.toList:=by rw[h]
 rw[yC,yC]at b;injection b with d e
 exact⟨d,by rw[<-Fu k,e,Fu k']⟩
theorem Lf(k:Nat):(dg k).data.toList≠ []:=by
 rw[dg];split
 ·rename_i a;rw[re k a];simp
 ·rw[asw,asB,re _ (by omega)];simp
theorem JK(c a:UInt8)(k:Nat):nm c k≠⟨#[a]⟩:=by
 intro d;have b:(nm c k).data.toList= [a]:=by rw[d]
 rw[yC]at b;injection b with _ e
 exact Lf k e
def Gt(n:Nat)(x:Nm):Prop:= ∃ch k,n<k/\x=nm ch k
def fV(n n':Nat)(x:Nm):Prop:= ∃ch k,n<k/\k<=n'/\x=nm ch k
theorem fV.gt{n n':Nat}{x:Nm}(h:fV n n' x):Gt n x:=by obtain⟨c,a,b,_,d⟩:=h;exact⟨c,a,b,d⟩
theorem fV.not{n n':Nat}{x:Nm}(h:fV n n' x): ¬Gt n' x:=by
 rintro⟨e,f,g,a⟩;obtain⟨c,d,i,j,b⟩:=h;rw[b]at a;have:=(gS a).2;omega
theorem fV.mono{n n' m a:Nat}{x:Nm}(h:fV n n' x)(e:m<=n)(f:n'<=a):fV m a x:=by obtain⟨c,b,g,i,d⟩:=h;exact⟨c,b,by omega,by omega,d⟩
theorem G7{l:List Nm}{x y:Nm} :y∈Sm.kC l x↔y∈l\/y=x:=by
 unfold Sm.kC;split
 ·rename_i a;rw[Sm.og]at a;constructor
  ·exact .inl
  ·grind
 ·simp
theorem yD{r:List Nm} : ∀{l:List Nm} {y:Nm},y∈r.foldl Sm.kC l↔y∈l\/y∈r:=by
 induction r with
 |nil=>intro l y;simp
 |cons b r a=>intro l y;rw[ars,a,G7,aqs,or_assoc]
theorem sJ{ah:List Sm.aY} : ∀{l:List Nm} {x:Nm},x∈Sm.jA l ah↔x∈l\/ ∃a∈ah,x∈Sm.jL a.cp:=by
 induction ah with
 |nil=>intro l x;simp[Sm.jA]
 |cons a c b=>
  intro l x;rw[Sm.jA,b,yD];have e:Sm.qO a=Sm.jL a.cp:=by cases a;rw[Sm.qO];rfl
  rw[e];constructor
  ·grind
  ·grind
theorem CY{b:List Sm.Va}{a:List Sm.ay} : ∀{l:List Nm} {x:Nm},x∈Sm.kO b l a↔x∈l\/ ∃q∈a,x∈Sm.b_ q/\(Sm.fS b x).isNone=true:=by
 induction a with
 |nil=>intro l x;simp[Sm.kO]
 |cons q d c=>
  intro l x;rw[Sm.kO,c,yD,asj];constructor
  ·grind
  ·grind
theorem mx{b:aW}{x:Nm} :x∈Sm.jL (ep b)↔(∃q∈cJ b,x∈dQ q)/\ ∀v∈c8 b,v.name≠x:=by
 obtain⟨d,h⟩:=b;rw[ep,Sm.jL,CY];have i:(Sm.fS (d.map dW) x).isNone=true↔ ∀v∈d,v.name≠x:=by
  unfold Sm.fS;rw[Option.isNone_iff_eq_none,arB];constructor
  ·intro a v c e;have:=a (dW v) (aqU c);simp[dW,e]at this
  ·intro a g f;obtain⟨v,c,rfl⟩:=aqM.1 f;simp[dW,a v c]
 simp only[cJ,c8];rw[g_];constructor
 ·grind
 ·grind
theorem dT{q:ay}{x:Nm} :x∈dQ q↔(match q with| .df y _=>x=y| .call y z _ _ _ _ _=>x=y\/x=z|_=> ∃a∈cq q,x∈dA a):=by
 have g: ∀c:List aY,(∃a∈ej c,x∈Sm.jL a.cp)↔ ∃a∈c,x∈dA a:= λc=>by
  rw[ov];constructor
  ·rintro⟨a,f,d⟩;obtain⟨h,i,rfl⟩:=aqM.1 f;exact⟨h,i,by cases h;exact d⟩
  ·rintro⟨a,f,d⟩;exact⟨nY a,aqU f,by cases a;exact d⟩
 cases q with
 |df y e=>simp[dQ,di,Sm.b_,Sm.jA]
 |call y z j a b k e=>simp[dQ,di,Sm.b_,Sm.jA]
 |sw e c=>simp only[dQ,di,Sm.b_,sJ,aqx,false_or];exact g c
 |aL c=>simp only[dQ,di,Sm.b_,sJ,aqx,false_or];exact g c
 |reset e b=>
  have:=g [.mk e0 b [] []];simp only[dQ,di,Sm.b_,sJ,aqx,false_or];exact this
theorem G8(l r:List Sm.ay): ∀a,Sm.fy (l++r) a=Sm.fy l a++Sm.fy r (a+Sm.aP (l.map Sm.qP)):=by
 induction l with
 |nil=>intro a;simp[Sm.fy,Sm.aP]
 |cons c l b=>intro a;simp only[arl,Sm.fy,aqN,Sm.jK];rw[b,asd]
abbrev eI(l:List Va)(x:Nm):Prop:= ∃v∈l,v.name=x
abbrev CZ(V:Nm->Prop)(b:aW)(x:Nm):Prop:=V x\/ ∃v∈c8 b,v.name=x
inductive uY:(Nm->Prop)->aW->Prop where
 |mk {V:Nm->Prop} {b:aW} (hn:((c8 b).map (·.name)).Nodup) (hd: ∀v∈c8 b,¬V v.name) (hu: ∀(i j:Nat) (q q':ay) (x:Nm),(cJ b)[i]?=some q->(cJ b)[j]?=some q'->x∈dQ q->x∈dQ q'->i=j)
   (hs: ∀q∈cJ b,∀x∈dQ q,CZ V b x) (hb: ∀q∈cJ b,∀a∈cq q,uY (CZ V b) (dG a)) (hx: ∀v∈c8 b,∃q∈cJ b,v.name∈dQ q):uY V b
def Uq(qs:List ay):Prop:= ∀(i j:Nat) (q q':ay) (x:Nm),qs[i]?=some q->qs[j]?=some q'->x∈dQ q->x∈dQ q'->i=j
theorem Uq.nil:Uq []:= λb c d f e a=>by simp at a
theorem Uq.one(q:ay):Uq [q]:= λh i j b k f g _ _=>by
 have e: ∀{a:Nat} {c:ay},[q][a]?=some c->a=0:= λ{a c} d=>by cases a with
  |zero=>rfl
  |succ a=>simp at d
 rw[e f,e g]
theorem Uq.app{l r:List ay}(m:Uq l)(n:Uq r)(o: ∀c∈l,∀d∈r,∀a,a∈dQ c->a∈dQ d->False):Uq (l++r):=by
 intro i g c d a e f j k;rcases aqh i l.length with h|h
 ·rw[aqf h]at e;rcases aqh g l.length with b|b
  ·rw[aqf b]at f;exact m i g c d a e f j k
  ·grind
 ·rw[aqm h]at e;rcases aqh g l.length with b|b
  ·grind
  ·rw[aqm b]at f;have:=n _ _ c d a e f j k;omega
theorem Uq.cons{q:ay}{r:List ay}(c:Uq r)(e: ∀b∈r,∀a,a∈dQ q->a∈dQ b->False):Uq (q::r):=by
 have:=Uq.app (Uq.one q) c (λd f b g a h i=>by grind);simpa using this
structure lP(Sub:Sc->List Va->Nat->Nat->aW->Prop):Prop where
 le: ∀s outs n n' b,Sub s outs n n' b->n<=n'
 st: ∀s outs n n' b,Sub s outs n n' b-> ∀V:Nm->Prop,(∀v∈outs,V v.name)->(∀x,V x-> ¬fV n n' x)->(outs.map (·.name)).Nodup->
  (∀v∈c8 b,fV n n' v.name)/\(∀x,x∈Sm.jL (ep b)↔eI outs x)/\uY V b
theorem LS.names{a b:List Va}(h:LS a b):(b.map (·.name)).Sublist (a.map (·.name)):=by
 induction h with
 |nil=>exact List.Sublist.refl _
 |cB h d c=>simp only[aqO];exact List.Sublist.append c (List.Sublist.refl _)
 |drop h d e c=>simp only[aqO];exact c.trans (List.sublist_append_left _ _)
section
variable{Sub:Sc->List Va->Nat->Nat->aW->Prop}
theorem lb(k: ∀s outs n n' b,Sub s outs n n' b->n<=n'){s:Sc}{outs:List Va}{names:List Nm}{n n':Nat}{ah:List aY}(h:mu Sub s outs names n ah n'):
  n<=n'/\ ∀(i:Nat) (a:aY),ah[i]?=some a-> ∃c b l d e,names[i]?=some c/\a= .mk c b [] []/\LS outs l/\(i=0->l=outs)/\n<=d/\e<=n'/\Sub s.bN l d e b:=by
 induction h with
 |nil=>exact⟨aqd _,λi a h=>by simp at h⟩
 | @snoc ah d e h c m l o p b f g=>
  obtain⟨q,r⟩:=g;have t:=k _ _ _ _ _ f;refine⟨by omega,λi a u=> ?_⟩;rcases aqh i ah.length with j|j
  ·grind
  ·grind
theorem vS(I: ∀s outs n n' b,Sub s outs n n' b->n<=n'){s:Sc}{outs:List Va}{N n n':Nat}{ah:List aY}(h:tu Sub s outs N n ah n'):
  n<=n'/\ ∀(i:Nat) (a:aY),ah[i]?=some a-> ∃b l d f g j,a= .mk (nm 83 i) b g j/\LS outs l/\(i=0->l=outs)/\n<=d/\f<=n'/\Sub s.bN l d f b/\yn s N g/\yn (s.more l) N j:=by
 induction h with
 |nil=>exact⟨aqd _,λi a h=>by simp at h⟩
 | @snoc ah d f h l o p g q b m j r t=>
  obtain⟨u,v⟩:=t;have J:=I _ _ _ _ _ m;refine⟨by omega,λi a c=> ?_⟩;rcases aqh i ah.length with k|k
  ·rw[aqf k]at c;obtain⟨w,x,y,z,A,B,C,D,E,F,K,G⟩:=v i a c;exact⟨w,x,y,z,A,B,C,D,E,F,by omega,G⟩
  ·rw[aqm k]at c;have H:i=ah.length:=by
    grind
   subst H;simp at c;subst c;exact⟨b,l,d,f,g,j,rfl,o,λe=>p (aq4 e),u,aqd _,m,q,r⟩
structure yE(outs:List Va)(n n':Nat)(qs:List ay)(vs:List Va):Prop where
 v: ∀v∈vs,fV n n' v.name
 nd:(vs.map (·.name)).Nodup
 d:(∀x,eI outs x-> ¬fV n n' x)->(outs.map (·.name)).Nodup-> ∀x,(∃q∈qs,x∈dQ q)↔eI outs x\/eI vs x
 u:(∀x,eI outs x-> ¬fV n n' x)->(outs.map (·.name)).Nodup->Uq qs
 b: ∀V:Nm->Prop,(∀v∈outs,V v.name)->(∀x,eI outs x-> ¬fV n n' x)->(outs.map (·.name)).Nodup->(∀x,V x->fV n n' x->eI vs x)-> ∀q∈qs,∀a∈cq q,uY V (dG a)
theorem yE.pre{outs:List Va}{n m n':Nat}{q0 l:List ay}{v0 y:List Va}(r:n<=m)(C:m<=n')(u: ∀v∈v0,fV n m v.name)(H:(v0.map (·.name)).Nodup)(z: ∀b,(∃c∈q0,b∈dQ c)↔eI v0 b)(I:Uq q0)(J: ∀c∈q0,∀w∈cq c,False)
  (h:yE outs m n' l y):yE outs n n' (q0++l) (v0++y):=by
 have E: ∀b,eI v0 b->eI y b->False:=by
  rintro b ⟨v,d,rfl⟩ ⟨x,K,e⟩;have s:=u v d;have k:=h.v x K;rw[e]at k;exact s.not k.gt
 refine⟨λv L=> ?_,?_,λo p b=> ?_,λo p=> ?_,λG M o p N c O w D=> ?_⟩
 ·rcases aql.1 L with a|a
  ·exact(u v a).mono (aqd _) C
  ·exact(h.v v a).mono r (aqd _)
 ·rw[aqO,aq8];refine⟨H,h.nd,λb q j i e=> ?_⟩;subst e;obtain⟨v,s,P⟩:=aqM.1 q;obtain⟨x,k,Q⟩:=aqM.1 i;exact E b ⟨v,s,P⟩ ⟨x,k,Q⟩
 ·have A:=h.d (λj i g=>o j i (g.mono r (aqd _))) p b;constructor
  ·rintro⟨c,B,q⟩;rcases aql.1 B with a|a
   ·obtain⟨v,d,e⟩:=(z b).1 ⟨c,a,q⟩;exact .inr ⟨v,aqq _ d,e⟩
   ·rcases A.1 ⟨c,a,q⟩with a|⟨v,d,e⟩
    ·exact .inl a
    ·exact .inr ⟨v,aqt _ d,e⟩
  ·rintro(a|⟨v,d,e⟩)
   ·obtain⟨c,t,f⟩:=A.2 (.inl a);exact⟨c,aqt _ t,f⟩
   ·rcases aql.1 d with a|a
    ·obtain⟨c,t,f⟩:=(z b).2 ⟨v,a,e⟩;exact⟨c,aqq _ t,f⟩
    ·obtain⟨c,t,f⟩:=A.2 (.inr ⟨v,a,e⟩);exact⟨c,aqt _ t,f⟩
 ·have F: ∀b,eI outs b-> ¬fV m n' b:= λj i g=>o j i (g.mono r (aqd _))
  refine Uq.app I (h.u F p) λc B R S b s k=> ?_
  obtain a:=(z b).1 ⟨c,B,s⟩;rcases(h.d F p b).1 ⟨R,S,k⟩with f|f
  ·obtain⟨v,d,e⟩:=a;exact o b f (e▸(u v d).mono (aqd _) C)
  ·exact E b a f
 ·rcases aql.1 O with a|a
  ·exact(J c a w D).elim
  ·refine h.b G M (λj i g=>o j i (g.mono r (aqd _))) p (λb q g=> ?_) c a w D;obtain⟨v,d,e⟩:=N b q (g.mono r (aqd _));rcases aql.1 d with a|a
   ·exact((u v a).not (e▸g.gt)).elim
   ·exact⟨v,a,e⟩
theorem sL(c:lP Sub){j:Nat}{s:Sc}{outs:List Va}{n n':Nat}{k:List ay}{l:List Va}(h:GQ Sub j s outs n n' k l):n<=n':=by
 induction h with
 |rz h=>exact aqd _
 |sD d a g=>exact(lb c.le a).1
 |pA d a g=>exact(lb c.le a).1
 |aL o r a g=>exact(vS c.le a).1
 |reset d f=>exact c.le _ _ _ _ _ f
 |call p t i b a f y e d h m=>omega
 |lN i b q u e cB a f v w d x h m=>omega
theorem uZ{outs:List Va}{ah:List aY}{n n':Nat}(t:lP Sub)(z:0<ah.length)(u: ∀(g:Nat) (a:aY),ah[g]?=some a-> ∃b c i j,dG a=b/\LS outs c/\(g=0->c=outs)/\n<=i/\j<=n'/\ ∃r,Sub r c i j b):
  ((∀x,eI outs x-> ¬fV n n' x)->(outs.map (·.name)).Nodup-> ∀x,(∃a∈ah,x∈dA a)↔eI outs x)/\ ∀V:Nm->Prop,(∀v∈outs,V v.name)->(outs.map (·.name)).Nodup->(∀x,V x-> ¬fV n n' x)-> ∀a∈ah,uY V (dG a):=by
 refine⟨λA s x=>⟨?_,λB=> ?_⟩,λV C s D a k=> ?_⟩
 ·rintro⟨a,k,B⟩;obtain⟨g,w⟩:=aqG.1 k;obtain⟨b,c,i,j,rfl,d,y,l,m,r,o⟩:=u g a w;have:=t.st _ _ _ _ _ o (eI outs) (λv f=>⟨v,d.mem v f,rfl⟩) (λh p q=>A h p (q.mono l m)) ((LS.names d).nodup s);obtain⟨v,f,e⟩:=(this.2.1 x).1 B;exact⟨v,d.mem v f,e⟩
 ·have k:=aqi z;obtain⟨b,c,i,j,E,d,y,l,m,r,o⟩:=u 0 _ k;have e:=y W;subst e;have:=t.st _ _ _ _ _ o (eI c) (λv f=>⟨v,f,rfl⟩) (λh p q=>A h p (q.mono l m)) s;exact⟨ah[0],aqz z,by grind⟩
 ·obtain⟨g,w⟩:=aqG.1 k;obtain⟨b,c,i,j,rfl,d,y,l,m,r,o⟩:=u g a w;exact(t.st _ _ _ _ _ o V (λv f=>C v (d.mem v f)) (λh p q=>D h p (q.mono l m)) ((LS.names d).nodup s)).2.2
theorem BE(C:lP Sub){aj:Nat}{s:Sc}{outs:List Va}{n n':Nat}{V:List ay}{M:List Va}(h:GQ Sub aj s outs n n' V M):yE outs n n' V M:=by
 have O: ∀{outs:List Va} {n n':Nat} {f:ay},(∀d,d∈dQ f↔ ∃i∈cq f,d∈dA i)->0<(cq f).length->(∀(a:Nat) (i:aY),(cq f)[a]?=some i-> ∃b q w x,dG i=b/\LS outs q/\(a=0->q=outs)/\n<=w/\x<=n'/\ ∃s',Sub s' q w x b)->yE outs n n' [f] []:=by
  intro outs n n' f X h0 hg;have Q:=uZ C h0 hg;refine⟨λv k=>(by cases k),arQ,λR D d=> ?_,λ_ _=>Uq.one f,λU hV R D hB y o i p=> ?_⟩
  ·constructor
   ·rintro⟨y,o,l⟩;rw[aqp]at o;subst o;exact .inl ((Q.1 R D d).1 ((X d).1 l))
   ·rintro(l|⟨v,k,_⟩)
    ·exact⟨f,aru _,(X d).2 ((Q.1 R D d).2 l)⟩
    ·cases k
  ·rw[aqp]at o;subst o;exact Q.2 U hV D (λd l F=>by obtain⟨v,k,_⟩:=hB d l F;cases k) i p
 induction h with
 | @rz s outs n f h=>
  have co: ∀{outs:List Va} {f:List ay},oX s outs f->f.length=outs.length/\(∀(a:Nat) (e:ay),f[a]?=some e-> ∃t z,outs[a]?=some t/\e= .df t.name z):=by
   intro outs f h
   induction h with
   |nil=>exact⟨rfl,λa e h=>by simp at h⟩
   | @snoc q f h t e G u=>
    refine⟨by simp[u.1],λa d l=> ?_⟩;rcases aqh a f.length with g|g
    ·rw[aqf g]at l;obtain⟨Y,z,j,r⟩:=u.2 a d l;exact⟨Y,z,by rw[aqf (by rw[<-u.1];exact g)];exact j,r⟩
    ·rw[aqm g]at l;have Z:a-f.length=0:=by
      rcases aqJ (a-f.length)with e|e
      ·exact e
      ·rw[aqj (by simp;omega)]at l;cases l
     rw[Z]at l;simp at l;subst l;exact⟨t,e,by rw[aqm (by rw[<-u.1];exact g),<-u.1,Z];rfl,rfl⟩
  obtain⟨k1,E⟩:=co h;refine⟨λv k=>(by cases k),arQ,λ_ _ d=> ?_,λ_ D=> ?_,λU _ _ _ _ y o i p=> ?_⟩
  ·constructor
   ·rintro⟨y,o,l⟩;obtain⟨a,g⟩:=aqG.1 o;obtain⟨t,z,j,rfl⟩:=E a y g;have:d=t.name:=dT.1 l;exact .inl ⟨t,aqk j,this.symm⟩
   ·rintro(⟨v,k,rfl⟩|⟨v,k,_⟩)
    ·obtain⟨a,g⟩:=aqG.1 k;have N:a<f.length:=by
      rcases aqh a outs.length with h|h
      ·omega
      ·rw[aqj h]at g;cases g
     obtain⟨t,z,j,r⟩:=E a f[a] (aqi N);rw[g]at j;injection j with j
     subst j;refine⟨f[a],aqz N,?_⟩;rw[r];exact dT.2 W
    ·cases k
  ·intro a P i b d j r h3 h4;obtain⟨t,z,A,rfl⟩:=E a i j;obtain⟨Y,d8,B,rfl⟩:=E P b r;have S:(outs.map (·.name))[a]?=some d:=by simp[A,dT.1 h3]
   have m2:(outs.map (·.name))[P]?=some d:=by simp[B,dT.1 h4]
   have N:a<(outs.map (·.name)).length:=by
    rcases aqh a (outs.map (·.name)).length with h|h
    ·exact h
    ·rw[aqj h]at S;cases S
   exact(ass N D).1 (S.trans m2.symm)
  ·obtain⟨a,g⟩:=aqG.1 o;obtain⟨t,z,j,rfl⟩:=E a y g;cases p
 | @sD s outs n n' e H G p hl=>
  exact O (λd=>dT) (by show 0<H.length;omega) (λa i g=>by obtain⟨c,b,q,w,x,_,rfl,A,B,I,J,K⟩:=(lb C.le p).2 a i g;exact⟨b,q,w,x,rfl,A,B,I,J,_,K⟩)
 | @pA s outs n n' e H G p hl=>
  exact O (λd=>dT) (by show 0<H.length;omega) (λa i g=>by obtain⟨c,b,q,w,x,_,rfl,A,B,I,J,K⟩:=(lb C.le p).2 a i g;exact⟨b,q,w,x,rfl,A,B,I,J,_,K⟩)
 | @aL s outs n n' H d6 hN p hl=>
  exact O (λd=>dT) (by show 0<H.length;omega) (λa i g=>by obtain⟨b,q,w,x,u1,u2,rfl,A,B,I,J,K,_⟩:=(vS C.le p).2 a i g;exact⟨b,q,w,x,rfl,A,B,I,J,_,K⟩)
 | @reset s outs n n' e b G F=>
  refine O (λd=>dT) Nat.one_pos (λa i g=> ?_);have T5:a=0:=by
   cases a with
   |zero=>rfl
   |succ a=>simp[cq]at g
  subst T5;simp[cq]at g;subst g;exact⟨b,outs,n,n',rfl,LS.refl _,λ_=>rfl,aqd _,aqd _,_,F⟩
 | @call s outs n n' q M P hj i b p F d9 e G h u=>
  have T:=sL C h;refine yE.pre (m:=n+2) (q0:=[_]) (v0:=[_,_]) (by omega) T ?_ ?_ ?_ (Uq.one _) ?_ u
  ·intro v k;simp only[aqs,aqx,aq9]at k;rcases k with rfl|rfl
   ·exact⟨117,n+1,by omega,by omega,rfl⟩
   ·exact⟨117,n+2,by omega,by omega,rfl⟩
  ·simp only[aqN,arf,asl,aqp,aqx,ast,arQ,and_true];intro e;have:=(gS e).2;omega
  ·intro d;simp only[aqp,exists_eq_left,dT,eI,aqs,aqx,aq9,exists_eq_or_imp];constructor
   ·rintro(h|h)<;>simp[cR,h]
   ·rintro(h|h)
    ·exact .inl h.symm
    ·exact .inr h.symm
  ·intro f L i p;rw[aqp]at L;subst L;cases p
 | @lN s outs n n' q M i b d7 E e cB p F hk M' G OI h u=>
  have T:=sL C h;have Zb:nm 99 (n+1)≠nm 119 (n+2):= λe=>by have:=(gS e).2;omega
  have Za:nm 99 (n+1)≠nm 122 (n+3):= λe=>by have:=(gS e).2;omega
  have ac:nm 119 (n+2)≠nm 122 (n+3):= λe=>by have:=(gS e).2;omega
  refine yE.pre (m:=n+3) (q0:=[_,_,_]) (v0:=[_,_,_]) (by omega) T ?_ ?_ ?_ ?_ ?_ u
  ·intro v k;simp only[aqs,aqx,aq9]at k;rcases k with rfl|rfl|rfl
   ·exact⟨99,n+1,by omega,by omega,rfl⟩
   ·exact⟨119,n+2,by omega,by omega,rfl⟩
   ·exact⟨122,n+3,by omega,by omega,rfl⟩
  ·simp only[aqN,arf,asl,aqs,aqx,aq9,not_or,ast,arQ,and_true];exact⟨⟨Zb,Za⟩,ac⟩
  ·intro d;simp only[eI,aqs,aqx,aq9,exists_eq_or_imp,exists_eq_left,dT];constructor
   ·rintro(h|h|h)<;>simp[cR,h]
   ·rintro(h|h|h)
    ·exact .inl h.symm
    ·exact .inr (.inl h.symm)
    ·exact .inr (.inr h.symm)
  ·refine Uq.cons (Uq.cons (Uq.one _) ?_) ?_
   ·intro y o d j r;rw[aqp]at o;subst o;have j:=dT.1 j;have r:=dT.1 r;exact ac (j.symm.trans r)
   ·intro y o d j r;have j:=dT.1 j;simp only[aqs,aqx,aq9]at o;rcases o with rfl|rfl
    ·exact Zb (j.symm.trans (dT.1 r))
    ·exact Za (j.symm.trans (dT.1 r))
  ·intro f L i p;simp only[aqs,aqx,aq9]at L;rcases L with rfl|rfl|rfl<;>cases p
theorem BF{Q:Sc->List Va->Nat->Nat->List ay->List Va->Prop}(Z: ∀s Y n L R z,Q s Y n L R z->n<=L/\yE Y n L R z){s0:Sc}{S:List Va}{E:Nat}{s:Sc}{D:List Va}{n:Nat}{q:List ay}{z:List Va}(h:GL Q s0 S E s D n q z):
  E<=n/\ ∃A,S=A++D/\yE A E n q z:=by
 induction h with
 |start=>
  refine⟨aqd _,[],rfl,λv g=>(by cases g),arQ,λ_ _ c=> ?_,λ_ _=>Uq.nil,λJ _ _ _ _ q x=>(by cases x)⟩;constructor
  ·rintro⟨q,x,_⟩;cases x
  ·rintro(⟨q,x,_⟩|⟨q,x,_⟩)<;>cases x
 | @step s D n T q z q1 To h K F h3 hk x ih=>
  obtain⟨B,A,i2,p⟩:=ih;obtain⟨C,r⟩:=Z _ _ _ _ _ _ x;have X: ∀c,eI z c->eI To c->False:=by
   rintro c ⟨v,NA,rfl⟩ ⟨k,hw,e⟩;have t:=p.v v NA;have m:=r.v k hw;rw[e]at m;exact t.not m.gt
  have inl: ∀{w b:List Va} {c:Nm},eI (w++b) c↔eI w c\/eI b c:= λ{w b c} =>by
   constructor
   ·rintro⟨v,g,e⟩;rcases aql.1 g with a|a
    ·exact .inl ⟨v,a,e⟩
    ·exact .inr ⟨v,a,e⟩
   ·rintro(⟨v,g,e⟩|⟨v,g,e⟩)
    ·exact⟨v,aqq _ g,e⟩
    ·exact⟨v,aqt _ g,e⟩
  refine⟨by omega,A++D.take K,by rw[aqD,arw];exact i2,λv g=> ?_,?_,λo f c=> ?_,λo f=> ?_,λJ U o f V i M w G=> ?_⟩
  ·rcases aql.1 g with a|a
   ·exact(p.v v a).mono (aqd _) C
   ·exact(r.v v a).mono B (aqd _)
  ·rw[aqO,aq8];refine⟨p.nd,r.nd,λc y l j e=> ?_⟩;subst e;obtain⟨v,F,e1⟩:=aqM.1 y;obtain⟨k,N,e2⟩:=aqM.1 j;exact X c ⟨v,F,e1⟩ ⟨k,N,e2⟩
  ·rw[aqO,aq8]at f;have O:=p.d (λl j d=>o l (inl.2 (.inl j)) (d.mono (aqd _) C)) f.1 c;have P:=r.d (λl j d=>o l (inl.2 (.inr j)) (d.mono B (aqd _))) f.2.1 c;rw[inl,inl];constructor
   ·rintro⟨i,M,y⟩;rcases aql.1 M with a|a
    ·rcases O.1 ⟨i,a,y⟩with a|a
     ·exact .inl (.inl a)
     ·exact .inr (.inl a)
    ·rcases P.1 ⟨i,a,y⟩with a|a
     ·exact .inl (.inr a)
     ·exact .inr (.inr a)
   ·rintro((a|a)|(a|a))
    ·obtain⟨i,t,m⟩:=O.2 (.inl a);exact⟨i,aqq _ t,m⟩
    ·obtain⟨i,t,m⟩:=P.2 (.inl a);exact⟨i,aqt _ t,m⟩
    ·obtain⟨i,t,m⟩:=O.2 (.inr a);exact⟨i,aqq _ t,m⟩
    ·obtain⟨i,t,m⟩:=P.2 (.inr a);exact⟨i,aqt _ t,m⟩
  ·rw[aqO,aq8]at f;have H: ∀c,eI A c-> ¬fV E n c:= λl j d=>o l (inl.2 (.inl j)) (d.mono (aqd _) C)
   have I: ∀c,eI (D.take K) c-> ¬fV n T c:= λl j d=>o l (inl.2 (.inr j)) (d.mono B (aqd _))
   refine Uq.app (p.u H f.1) (r.u I f.2.1) λw G b d c F N=> ?_
   rcases(p.d H f.1 c).1 ⟨w,G,F⟩with⟨v,a,rfl⟩|⟨v,a,rfl⟩<;>rcases(r.d I f.2.1 _).1 ⟨b,d,N⟩with⟨k,u,e⟩|⟨k,u,e⟩
   ·exact f.2.2 _ (aqU a) _ (aqU u) e.symm
   ·exact o _ (inl.2 (.inl ⟨v,a,rfl⟩)) (e▸(r.v k u).mono B (aqd _))
   ·exact o _ (inl.2 (.inr ⟨k,u,rfl⟩)) (e▸(p.v v a).mono (aqd _) C)
   ·exact X v.name ⟨v,a,rfl⟩ ⟨k,u,e⟩
  ·rw[aqO,aq8]at f;have H: ∀c,eI A c-> ¬fV E n c:= λl j d=>o l (inl.2 (.inl j)) (d.mono (aqd _) C)
   have I: ∀c,eI (D.take K) c-> ¬fV n T c:= λl j d=>o l (inl.2 (.inr j)) (d.mono B (aqd _))
   rcases aql.1 M with a|a
   ·refine p.b J (λv g=>U v (aqq _ g)) H f.1 (λc y d=> ?_) i a w G;rcases inl.1 (V c y (d.mono (aqd _) C))with a|⟨k,u,e⟩
    ·exact a
    ·exact(d.not (e▸(r.v k u).gt)).elim
   ·refine r.b J (λv g=>U v (aqt _ g)) I f.2.1 (λc y d=> ?_) i a w G;rcases inl.1 (V c y (d.mono B (aqd _)))with⟨k,u,e⟩|a
    ·exact((e▸p.v k u).not d.gt).elim
    ·exact a
theorem BG{n m:Nat}{b:List Va}(h:NV n b m):n<=m/\(∀v∈b,fV n m v.name)/\(b.map (·.name)).Nodup:=by
 induction h with
 |nil=>exact⟨aqd _,λv c=>(by cases c),arQ⟩
 | @snoc b d h j k u w l=>
  obtain⟨o,f,p⟩:=l;have i:fV d (d+1) j.name:=⟨118,d+1,by omega,by omega,k⟩;refine⟨by omega,λv c=> ?_,?_⟩
  ·rcases aql.1 c with a|a
   ·exact(f v a).mono (aqd _) (by omega)
   ·rw[aqp]at a;subst a;exact i.mono o (aqd _)
  ·rw[aqO,aq8];refine⟨p,by simp,λs q t g e=> ?_⟩;subst e;obtain⟨v,r,rfl⟩:=aqM.1 q;simp only[aqN,arf,aqp]at g;exact(f v r).not (g▸i.gt)
theorem Fv{Q:Sc->List Va->Nat->Nat->List ay->List Va->Prop}(H: ∀u i j h I f,Q u i j h I f->j<=h/\yE i j h I f):lP (CO Q):=by
 constructor
 ·rintro u i j h b ⟨f,J,R,N,t,w,S,x,rfl⟩;have:=(BG w).1;have:=(BF H x).1;omega
 ·rintro u i j h b ⟨f,J,R,N,t,w,S,x,rfl⟩ Z q r T;obtain⟨y,s,K⟩:=BG w;obtain⟨U,dn,L,k⟩:=BF H x;rw[aqC]at L;subst L;have z: ∀v∈f++t,fV j h v.name:= λv c=>by
   rcases aql.1 c with a|a
   ·exact(s v a).mono (aqd _) U
   ·exact(k.v v a).mono y (aqd _)
  have M: ∀d,eI i d-> ∀v∈f++t,v.name≠d:=by
   rintro d ⟨m,V,rfl⟩ v c e;exact r _ (q m V) (e▸z v c)
  have A:((f++i).map (·.name)).Nodup:=by
   rw[aqO,aq8];refine⟨K,T,λd g O B e=> ?_⟩;subst e;obtain⟨v,n,C⟩:=aqM.1 g;obtain⟨m,l,D⟩:=aqM.1 B;exact M d ⟨m,l,D⟩ v (aqq _ n) C
  have E: ∀d,eI (f++i) d-> ¬fV J h d:=by
   rintro d ⟨v,c,rfl⟩ o;rcases aql.1 c with a|a
   ·exact(s v a).not o.gt
   ·exact r _ (q v a) (o.mono y (aqd _))
  have p:=k.d E A;refine⟨z,λd=> ?_,⟨?_,λv c X=>r _ X (z v c),k.u E A,λF G d g=> ?_,λF G P Y=> ?_,λv c=> ?_⟩⟩
  ·rw[mx];constructor
   ·rintro⟨n,l⟩;rcases(p d).1 n with⟨v,c,e⟩|⟨v,c,e⟩
    ·rcases aql.1 c with a|a
     ·exact(l v (aqq _ a) e).elim
     ·exact⟨v,a,e⟩
    ·exact(l v (aqt _ c) e).elim
   ·intro a;refine⟨(p d).2 (.inl ?_),M d a⟩;obtain⟨v,c,e⟩:=a;exact⟨v,aqt _ c,e⟩
  ·show((f++t).map (·.name)).Nodup;rw[aqO,aq8];refine⟨K,k.nd,λd g O B e=> ?_⟩;subst e;obtain⟨v,n,C⟩:=aqM.1 g;obtain⟨m,l,D⟩:=aqM.1 B;have:=s v n;rw[C,<-D]at this;exact this.not (k.v m l).gt
  ·rcases(p d).1 ⟨F,G,g⟩with⟨v,c,e⟩|⟨v,c,e⟩
   ·rcases aql.1 c with a|a
    ·exact .inr ⟨v,aqq _ a,e⟩
    ·exact .inl (e▸q v a)
   ·exact .inr ⟨v,aqt _ c,e⟩
  ·refine k.b _ (λv c=> ?_) E A (λd g o=> ?_) F G P Y
   ·rcases aql.1 c with a|a
    ·exact .inr ⟨v,aqq _ a,rfl⟩
    ·exact .inl (q v a)
   ·rcases g with g|⟨v,c,e⟩
    ·exact(r d g (o.mono y (aqd _))).elim
    ·rcases aql.1 c with a|a
     ·exact((s v a).not (e▸o.gt)).elim
     ·exact⟨v,a,e⟩
  ·rcases aql.1 c with a|a
   ·exact(p v.name).2 (.inl ⟨v,aqq _ a,rfl⟩)
   ·exact(p v.name).2 (.inr ⟨v,a,rfl⟩)
theorem BH(b:Nat): ∀d,lP (GB b d)
 |0=>Fv λe j f g h i a=>by
  have c:lP (λ_ _ _ _ _=>False):=⟨λ_ _ _ _ _ a=>a.elim,λ_ _ _ _ _ a=>a.elim⟩;exact⟨sL c a,BE c a⟩
 |d+1=>Fv λe j f g h i a=>⟨sL (BH b d) a,BE (BH b d) a⟩
end
def At(qs:List ay)(c:Nat)(q:ay)(p:Nat):Prop:= ∃j:Nat,qs[j]?=some q/\(Sm.fy (eR qs) c)[j]?=some p
def zw(qs:List ay):Nat:=Sm.aP ((eR qs).map Sm.qP)
theorem vB(l:List Sm.ay): ∀c,(Sm.fy l c).length=l.length:=by
 induction l with
 |nil=>intro c;rfl
 |cons b l a=>intro c;simp[Sm.fy,a]
theorem At.nil{c q p} : ¬At [] c q p:=by rintro⟨b,a,_⟩;simp at a
theorem At.one{q0:ay}{c:Nat}{q:ay}{p:Nat} :At [q0] c q p↔q=q0/\p=c:=by
 constructor
 ·rintro⟨b,a,d⟩;cases b with
  |zero=>simp[eR,Sm.fy]at a d;exact⟨a.symm,d.symm⟩
  |succ b=>simp at a
 ·rintro⟨rfl,rfl⟩;exact⟨0,rfl,rfl⟩
theorem At.app{l r:List ay}{c:Nat}{q:ay}{p:Nat} :At (l++r) c q p↔At l c q p\/At r (c+zw l) q p:=by
 have f:(Sm.fy (eR l) c).length=l.length:=by rw[vB,g_,aqE]
 have b:Sm.fy (eR (l++r)) c=Sm.fy (eR l) c++Sm.fy (eR r) (c+zw l):=by
  rw[g_,aqO,<-g_,<-g_];exact G8 _ _ _
 unfold At;rw[b];constructor
 ·grind
 ·rintro(⟨a,d,e⟩|⟨a,d,e⟩)
  ·have g:a<l.length:=by
    grind
   exact⟨a,by grind,by grind⟩
  ·exact⟨l.length+a,by grind,by grind⟩
theorem At.cons{q0:ay}{r:List ay}{c:Nat}{q:ay}{p:Nat} :At (q0::r) c q p↔(q=q0/\p=c)\/At r (c+Sm.qP (di q0)) q p:=by
 have a:=At.app (l:=[q0]) (r:=r) (c:=c) (q:=q) (p:=p);rw[At.one]at a;have e:zw [q0]=Sm.qP (di q0):=by simp[zw,eR,Sm.aP]
 rw[e]at a;exact a
structure Wd(T:dS)(F:List (Option Int))(G:Nat->Sm.US->Prop)(My:Nat->Sm.US->List Int->List Int->Sm.US->Prop)(az:Nat->Sm.US)(aj:Nat):Prop where
 fv: ∀k t,T.pt k= .val t->VT t (Sm.cd F k)
 fa: ∀k N,T.pt k= .aL N->0<=Sm.cd F k/\Sm.cd F k<N
 fc: ∀k j,T.pt k= .call j->F[k]?=some none
 az: ∀j,j<aj->G j (az j)/\(az j).i=j
 Mp: ∀j,j<aj-> ∀u,G j u-> ∀a b,VT .int a->VT .bool b-> ∃ox oy u',My j u [a,b] [ox,oy] u'/\VT .int ox/\VT .eO oy
def G9(T:dS)(v:Va):Prop:=T.ty v.name=v.ty/\T.ls v.name=v.last/\(v.last=true->T.pt (T.lp v.name)= .val v.ty)
structure lc(T:dS)(A:Env)(V:Nm->Prop)(s:Sc)(r:Nat):Prop where
 t:Le T s
 wD: ∀v∈s.ready,v.clock=none->V v.name/\Kn A v.name r/\VT v.ty (val A v.name)
 uX: ∀v∈s.cW,V v.name/\T.ls v.name=true/\T.pt (T.lp v.name)= .val v.ty
section
variable{T:dS}{F:List (Option Int)}{G:Nat->Sm.US->Prop}{My:Nat->Sm.US->List Int->List Int->Sm.US->Prop}{az:Nat->Sm.US}{aj:Nat}
theorem C0(f:Wd T F G My az aj){s:Rs}(h:Mem T G s)(lo hi:Nat):Mem T G (BD F s lo hi):=by
 intro a;have b:=h a;cases c:T.pt a with
 |val d=>
  rw[c]at b;show VT d (if lo<=a/\a<hi then Sm.cd F a else s.rd a);split
  ·exact f.fv a d c
  ·exact b
 |any=>trivial
 |aL e=>
  rw[c]at b;show 0<=(if lo<=a/\a<hi then Sm.cd F a else s.rd a)/\(if lo<=a/\a<hi then Sm.cd F a else s.rd a)<(e:Int);split
  ·exact f.fa a e c
  ·exact b
 |call k=>
  rw[c]at b;intro i j;have g:(if(lo<=a/\a<hi)/\F[a]?=some none then none else s.rs a)=some i:=j;split at g
  ·cases g
  ·grind
theorem lc.s{A:Env}{V:Nm->Prop}{s:Sc}{r:Nat}(h:lc T A V s r){rs:Rs}(a:Mem T G rs):G5 T A rs.rd V s r:=
 ⟨h.t,h.wD,λv b=>by
  obtain⟨c,d,e⟩:=h.uX v b;have:=a (T.lp v.name);rw[e]at this;exact⟨c,d,this⟩⟩
theorem lc.app{A:Env}{V:Nm->Prop}{s:Sc}{r r':Nat}(h:lc T A V s r)(a:Env)(c:r<=r'):lc T (A++a) V s r':=
 ⟨h.t,λv d e=>by
  obtain⟨f,b,g⟩:=h.wD v d e;exact⟨f,b.app a c,by rw[b.val a];exact g⟩,h.uX⟩
theorem lc.rF{A:Env}{V V':Nm->Prop}{s:Sc}{r:Nat}(h:lc T A V s r)(f: ∀e,V e->V' e):lc T A V' s r:=
 ⟨h.t,λv a g=>by obtain⟨b,c,d⟩:=h.wD v a g;exact⟨f _ b,c,d⟩,λv a=>by obtain⟨b,c,d⟩:=h.uX v a;exact⟨f _ b,c,d⟩⟩
theorem lc.bN{A:Env}{V:Nm->Prop}{s:Sc}{r:Nat}(h:lc T A V s r):lc T A V s.bN r:=⟨⟨h.t.1,λv a=>(by cases a),h.t.2.2⟩,h.wD,h.uX⟩
theorem lc.more{A:Env}{V:Nm->Prop}{s:Sc}{r:Nat}(h:lc T A V s r){l:List Va}(c: ∀v∈l,T.ty v.name=v.ty/\(v.clock=none->V v.name/\Kn A v.name r/\VT v.ty (val A v.name))):lc T A V (s.more l) r:=
 ⟨⟨λv b=>by
   rcases aql.1 b with a|a
   ·exact h.t.1 v a
   ·exact(c v a).1,h.t.2.1,h.t.2.2⟩,λv b d=>by
  rcases aql.1 b with a|a
  ·exact h.wD v a d
  ·exact(c v a).2 d,h.uX⟩
theorem Lg{s:Sc}{t:Ty}{st:Bool}{d:Nat}{e:E}(h:GE s t st d e): ∀{A:Env} {rd:Nat->Int} {V:Nm->Prop} {r:Nat} (a:Env) (p:Nat),lc T A V s r->cy T (A++a) rd e p=cy T A rd e p:=by
 induction h with
 |v h=>intro A rd V r a p b;cases h with
  |vw h=>cases h<;>rfl
  |var h=>obtain⟨v,l,m,j,rfl⟩:=h;exact(b.wD v l j).2.1.val a
 |c h=>intro A rd V r a p b;cases h<;>rfl
 |ite j g k n f i=>intro A rd V r a p b;simp only[cy];rw[n a _ b,f a _ b,i a _ b]
 |fA j g f=>intro A rd V r a p b;rfl
 |arrow g k f i=>
  intro A rd V r a p b;simp only[cy];rw[f a _ b]
 |last h=>intro A rd V r a p b;obtain⟨v,l,m,j,rfl⟩:=h;rfl
 |neg g f=>intro A rd V r a p b;simp only[cy];rw[f a _ b]
 |arith o q g k f i=>intro A rd V r a p b;simp only[cy];rw[f a _ b,i a _ b]
 |not g f=>intro A rd V r a p b;simp only[cy];rw[f a _ b]
 |kz o u q g k f i=>intro A rd V r a p b;simp only[cy];rw[f a _ b,i a _ b]
theorem ud{s:Sc}{t:Ty}{st:Bool}{d:Nat}{e:E}(h:GE s t st d e): ∀{A:Env} {rs:Rs} {V:Nm->Prop} {r l p:Nat},Mem T G rs->G5 T A rs.rd V s r->qo A V s l->gP T e p-> ∀f∈dH T A rs.rd e p,MT T f.1 f.2:=by
 induction h with
 |v h=>intro A rs V r l p g a i j f b;cases h with
  |vw h=>cases h<;>cases b
  |var h=>obtain⟨v,y,z,w,rfl⟩:=h;cases b
 |c h=>intro A rs V r l p g a i j f b;cases h<;>cases b
 |ite w n u B m o=>
  intro A rs V r l p g a i j f b;simp only[dH,aql]at b;rcases b with(k|k)|k
  ·exact B g a i j.1 f k
  ·exact m g a i j.2.1 f k
  ·exact o g a i j.2.2 f k
 |fA w n m=>
  intro A rs V r l p g a i j f b;have q:=(⟨⟨a.t.2.1,a.t.2.1,a.t.2.2⟩,i,a.uX⟩:G5 T A rs.rd V ⟨_,_,_⟩ l);simp only[dH,aqs]at b;rcases b with rfl|k
  ·show MT T p _;unfold MT;rw[j.1,sI w];exact mL n q (jD g j.2)
  ·exact m g q i j.2 f k
 |arrow n u m o=>
  intro A rs V r l p g a i j f b;have q:=(⟨⟨a.t.2.1,a.t.2.1,a.t.2.2⟩,i,a.uX⟩:G5 T A rs.rd V ⟨_,_,_⟩ l);simp only[dH,aqs,aql]at b;obtain⟨C,J,D,x⟩:=j;rcases b with rfl|k|rfl|k
  ·show MT T p _;unfold MT;rw[C];trivial
  ·grind
  ·unfold MT;simp only;rw[D,IH u q.t];exact mL u q (jD g x)
  ·exact o g q i x f k
 |last h=>intro A rs V r l p g a i j f b;obtain⟨v,y,z,w,rfl⟩:=h;cases b
 |neg n m=>intro A rs V r l p g a i j f b;exact m g a i j f b
 |arith F H n u m o=>
  intro A rs V r l p g a i j f b;simp only[dH,aql]at b;rcases b with k|k
  ·exact m g a i j.1 f k
  ·exact o g a i j.2 f k
 |not n m=>intro A rs V r l p g a i j f b;exact m g a i j f b
 |kz F I H n u m o=>
  intro A rs V r l p g a i j f b;simp only[dH,aql]at b;rcases b with k|k
  ·exact m g a i j.1 f k
  ·exact o g a i j.2 f k
theorem mM{s:Sc}{t:Ty}{st:Bool}{d:Nat}{e:E}(h:GE s t st d e):st=false->xE e=0/\ ∀(A:Env) (rd:Nat->Int) (p:Nat),dH T A rd e p= []:=by
 induction h with
 |v h=>intro _;cases h with
  |vw h=>cases h<;>exact⟨rfl,λ_ _ _=>rfl⟩
  |var h=>obtain⟨v,o,q,l,rfl⟩:=h;exact⟨rfl,λ_ _ _=>rfl⟩
 |c h=>intro _;cases h<;>exact⟨rfl,λ_ _ _=>rfl⟩
 |ite l i m r b j=>
  intro h;obtain⟨n,u⟩:=r h;obtain⟨a,f⟩:=b h;obtain⟨g,k⟩:=j h;refine⟨?_,λA rd p=>by simp only[dH,u,f,k];rfl⟩;simp only[xE]at n a g;simp[xE,cg,Sm.xP,Sm.fQ,Sm.dE,n,a,g]
 |fA l i b=>intro h;cases h
 |arrow i m b j=>intro h;cases h
 |last h=>intro _;obtain⟨v,o,q,l,rfl⟩:=h;exact⟨rfl,λ_ _ _=>rfl⟩
 |neg i b=>intro h;obtain⟨a,f⟩:=b h;exact⟨by simp only[xE]at a;simp[xE,cg,Sm.xP,Sm.fQ,Sm.dE,a],λA rd p=>by simp only[dH,f]⟩
 |arith w x i m b j=>intro h;obtain⟨a,f⟩:=b h;obtain⟨g,k⟩:=j h;exact⟨by simp only[xE]at a g;simp[xE,cg,Sm.xP,Sm.fQ,Sm.dE,a,g],λA rd p=>by simp only[dH,f,k];rfl⟩
 |not i b=>intro h;obtain⟨a,f⟩:=b h;exact⟨by simp only[xE]at a;simp[xE,cg,Sm.xP,Sm.fQ,Sm.dE,a],λA rd p=>by simp only[dH,f]⟩
 |kz w y x i m b j=>intro h;obtain⟨a,f⟩:=b h;obtain⟨g,k⟩:=j h;exact⟨by simp only[xE]at a g;simp[xE,cg,Sm.xP,Sm.fQ,Sm.dE,a,g],λA rd p=>by simp only[dH,f,k];rfl⟩
end
def a_(A E:Env):Prop:= ∃C,E=A++C
theorem a_.refl(A:Env):a_ A A:=⟨[],by simp⟩
theorem a_.trans{A a C:Env}(h:a_ A a)(g:a_ a C):a_ A C:=by obtain⟨b,rfl⟩:=h;obtain⟨c,rfl⟩:=g;exact⟨b++c,by simp⟩
theorem a_.app(A a:Env):a_ A (A++a):=⟨a,rfl⟩
theorem a_.get{A E:Env}(h:a_ A E){x:Nm}{e:Option Int×Nat×Nat}(g:Ex.get A x=some e):Ex.get E x=some e:=by obtain⟨a,rfl⟩:=h;exact lL g
theorem a_.len{A E:Env}(h:a_ A E):A.length<=E.length:=by obtain⟨a,rfl⟩:=h;simp
theorem a_.kn{A E:Env}(h:a_ A E){x:Nm}{r r':Nat}(g:Kn A x r)(b:r<=r'):Kn E x r':=by obtain⟨a,rfl⟩:=h;exact g.app a b
theorem a_.val{A E:Env}(h:a_ A E){x:Nm}{r:Nat}(g:Kn A x r):Ex.val E x=Ex.val A x:=by obtain⟨a,rfl⟩:=h;exact g.val a
theorem lc.ext{T:dS}{A E:Env}{V:Nm->Prop}{s:Sc}{r r':Nat}(h:lc T A V s r)(g:a_ A E)(b:r<=r'):lc T E V s r':=by obtain⟨a,rfl⟩:=g;exact h.app a b
theorem n_{T:dS}{s:Sc}{t:Ty}{st:Bool}{d:Nat}{e:E}(h:GE s t st d e){A a:Env}{rd:Nat->Int}{V:Nm->Prop}{r:Nat}(g:a_ A a)(p:Nat)(c:lc T A V s r):cy T a rd e p=cy T A rd e p:=by obtain⟨b,rfl⟩:=g;exact Lg h b p c
theorem Fw{s:Sc}{t:Ty}{st:Bool}{d:Nat}{e:E}(h:GE s t st d e):st=false->GE s.bN t st d e:=by
 induction h with
 |v h=>intro _;exact .v h
 |c h=>intro _;exact .c h
 |ite l b g m a f=>intro h;exact .ite (m h) (a h) (f h)
 |fA l b a=>intro h;cases h
 |arrow b g a f=>intro h;cases h
 |last h=>intro _;exact .last h
 |neg b a=>intro h;exact .neg (a h)
 |arith i j b g a f=>intro h;exact .arith i j (a h) (f h)
 |not b a=>intro h;exact .not (a h)
 |kz i k j b g a f=>intro h;exact .kz i k j (a h) (f h)
theorem qo.bN{A:Env}{V:Nm->Prop}{s:Sc}{a:Nat} :qo A V s.bN a:= λv b=>by cases b
theorem Aw(E:Env)(y:Nm)(o:Option Int)(sb:Nat)(x:Nm):get (E++ [(y,o,sb)]) x=match get E x with|some e=>some e|none=>if y=x then some (o,sb,E.length)else none:=by
 unfold get;rw[ub];simp only[pO,arF]<;>cases pO E 0 x<;>rfl
theorem gF{E:Env}{y:Nm}{o:Option Int}{sb:Nat}(h:get E y=none):get (E++ [(y,o,sb)]) y=some (o,sb,E.length):=by rw[Aw,h];simp
theorem gG{E:Env}{y:Nm}{o:Option Int}{sb:Nat}{x:Nm}(h:get (E++ [(y,o,sb)]) x≠none):get E x≠none\/x=y:=by
 rw[Aw]at h;cases a:get E x with
 |some e=>exact .inl (by simp)
 |none=>rw[a]at h;simp at h;exact .inr h.symm
theorem jN{E:Env}{y:Nm}{o:Option Int}{sb:Nat}{x:Nm}(h:get E x=none)(b:x≠y):get (E++ [(y,o,sb)]) x=none:=by
 cases a:get (E++ [(y,o,sb)]) x with
 |none=>rfl
 |some e=>
  rcases gG (x:=x) (E:=E) (y:=y) (o:=o) (sb:=sb) (by rw[a];simp)with h1|h1
  ·grind
  ·grind
def C1(a:Nat)(E:Env)(v:Va):Prop:= ∃o sb i,get E v.name=some (some o,sb,i)/\a<=sb/\sb<=i/\VT v.ty o
theorem C1.mono{a b:Nat}{E c:Env}{v:Va}(h:C1 a E v)(g:a_ E c)(k:b<=a):C1 b c v:=by obtain⟨d,sb,e,f,l,i,j⟩:=h;exact⟨d,sb,e,g.get f,by omega,i,j⟩
theorem C1.kn{a:Nat}{E:Env}{v:Va}(h:C1 a E v){r:Nat}(f:E.length<=r):Kn E v.name r/\VT v.ty (val E v.name):=by
 obtain⟨c,sb,d,b,g,i,e⟩:=h;have:=ta b;refine⟨⟨c,sb,d,b,by omega⟩,?_⟩;unfold val;rw[b];exact e
structure C2(A E:Env)(outs:List Va)(n n':Nat):Prop where
 o: ∀v∈outs,C1 A.length E v
 Eu: ∀x,get E x≠none->get A x≠none\/eI outs x\/fV n n' x
theorem Kl(f:Va->Int): ∀(L:List Va) (E:Env),(L.map (·.name)).Nodup->(∀v∈L,get E v.name=none)-> ∃b,a_ E b/\(∀v∈L,∃i,E.length<=i/\get b v.name=some (some (f v),i,i))/\ ∀x,get b x≠none->get E x≠none\/eI L x
 | [],E,_,_=>⟨E,a_.refl E,λv a=>(by cases a),λx k=> .inl k⟩
 |g::L,E,d,h=>by
  rw[aqN,asl]at d;obtain⟨b,j,n,l⟩:=Kl f L (E++ [(g.name,some (f g),E.length)]) d.2 (λv a=>jN (h v (aqF _ a)) (λe=>d.1 (e▸aqU a)));refine⟨b,(a_.app _ _).trans j,λv a=> ?_,λx m=> ?_⟩
  ·rcases aqs.1 a with rfl|a
   ·exact⟨E.length,aqd _,j.get (gF (h v (aqP ..)))⟩
   ·grind
  ·rcases l x m with c|⟨v,a,e⟩
   ·rcases gG c with c|rfl
    ·exact .inl c
    ·grind
   ·grind
theorem LS.JL{a b:List Va}(h:LS a b): ∀v∈a,v∈b\/v.last=true:=by
 induction h with
 |nil=>intro v c;cases c
 |cB h f e=>
  intro v c;rcases aql.1 c with d|d
  ·grind
  ·grind
 |drop h f g e=>
  intro v c;rcases aql.1 c with d|d
  ·exact e v d
  ·grind
theorem JM{T:dS}{I:Nat->Sm.US->Prop}{A E:Env}{outs l:List Va}{n n' u w:Nat}{rs:Rs}(K:Mem T I rs)(r:LS outs l)(x:(outs.map (·.name)).Nodup)(s: ∀v∈outs,G9 T v/\get A v.name=none)(L: ∀k,eI outs k-> ¬fV n n' k)
  (y:n<=u) (z:w<=n') (t:a_ A E) (h:C2 A E l u w): ∃m,a_ E m/\C2 A m outs n n'/\ ∀v∈outs,¬eI l v.name->T.ls v.name=true/\ ∃i,get m v.name=some (some (rs.rd (T.lp v.name)),i,i):=by
 have p: ∀v,v∈outs.filter (λv=>l.all λc=> !decide (c.name=v.name))↔v∈outs/\ ¬eI l v.name:= λv=>by
  rw[asj,arz];constructor
  ·rintro⟨f,d⟩;refine⟨f,?_⟩;rintro⟨c,j,e⟩;have:=d c j;simp[e]at this
  ·rintro⟨f,d⟩;refine⟨f,λc j=> ?_⟩;simp only[arn,asp];exactλe=>d ⟨c,j,e⟩
 obtain⟨m,B,C,M⟩:=Kl (λv=>rs.rd (T.lp v.name)) (outs.filter (λv=>l.all λc=> !decide (c.name=v.name))) E ((List.Sublist.map _ List.filter_sublist).nodup x) (λv a=>by
  obtain⟨f,d⟩:=(p v).1 a;cases N:get E v.name with
  |none=>rfl
  |some e=>
   rcases h.Eu v.name (by rw[N];simp)with b|b|b
   ·exact(b (s v f).2).elim
   ·exact(d b).elim
   ·exact(L _ ⟨v,f,rfl⟩ (b.mono y z)).elim)
 have D: ∀v∈outs,¬eI l v.name->v.last=true:= λv a g=>by
  rcases LS.JL r v a with b|b
  ·exact(g ⟨v,b,rfl⟩).elim
  ·exact b
 refine⟨m,B,⟨λv a=> ?_,λk t=> ?_⟩,λv a g=> ?_⟩
 ·by_cases g:eI l v.name
  ·obtain⟨c,j,e⟩:=g;obtain⟨i,q⟩:=aqG.1 (r.mem c j);obtain⟨J,o⟩:=aqG.1 a;have O:i<(outs.map (·.name)).length:=by
    rcases aqh i outs.length with h|h
    ·simpa using h
    ·rw[aqj h]at q;cases q
   have:i=J:=(ass O x).1 (by simp[q,o,e]);subst this;rw[q]at o;injection o with o
   subst o;exact(h.o c j).mono B (aqd _)
  ·obtain⟨i,f,d⟩:=C v ((p v).2 ⟨a,g⟩);have Q:=t.len;refine⟨_,i,i,d,by omega,aqd _,?_⟩;obtain⟨P,F,G⟩:=(s v a).1;have H:=K (T.lp v.name);rw[G (D v a g)]at H;exact H
 ·rcases M k t with b|⟨v,a,e⟩
  ·rcases h.Eu k b with b|⟨v,a,e⟩|b
   ·exact .inl b
   ·exact .inr (.inl ⟨v,r.mem v a,e⟩)
   ·exact .inr (.inr (b.mono y z))
  ·exact .inr (.inl ⟨v,((p v).1 a).1,e⟩)
 ·obtain⟨i,f,d⟩:=C v ((p v).2 ⟨a,g⟩);refine⟨?_,i,d⟩;obtain⟨P,F,G⟩:=(s v a).1;rw[F];exact D v a g
def Ax(T:dS)(E:Env)(V:Nm->Prop)(v:Va):Prop:= ∃o sb i,get E v.name=some (o,sb,i)/\sb<=i/\match v.clock with
 |none=>o.isSome=true
 |some (k,x)=>V x/\T.ty x= .eO/\Kn E x sb/\(o.isSome=true↔gO k=val E x)
theorem Ax.ext{T:dS}{E e:Env}{V:Nm->Prop}{v:Va}(h:Ax T E V v)(g:a_ E e):Ax T e V v:=by
 obtain⟨i,sb,j,l,m,a⟩:=h;refine⟨i,sb,j,g.get l,m,?_⟩;cases f:v.clock with
 |none=>rw[f]at a;exact a
 |some n=>
  obtain⟨o,p⟩:=n;rw[f]at a;obtain⟨k,b,c,d⟩:=a;exact⟨k,b,g.kn c (aqd _),by rw[g.val c];exact d⟩
section
variable(T:dS)(F:List (Option Int))(G:Nat->Sm.US->Prop)(My:Nat->Sm.US->List Int->List Int->Sm.US->Prop)(az:Nat->Sm.US)
def u4(Sub:Sc->List Va->Nat->Nat->aW->Prop):Prop:= ∀s outs n n' b,Sub s outs n n' b-> ∀(A:Env) (rs:Rs) (V:Nm->Prop) (p:Nat),Mem T G rs->lc T A V s A.length->(∀v∈outs,V v.name/\G9 T v/\v.clock=none/\get A v.name=none)->(outs.map (·.name)).Nodup->(∀x,V x-> ¬fV n n' x)->(∀x,fV n n' x->get A x=none)->pQ T p b->
 ∃E,a_ A E/\C2 A E outs n n'/\ ∀E',a_ E E'->rA T F E' My az V rs p b
structure QX(A:Env)(V:Nm->Prop)(rs:Rs)(s:Sc)(outs:List Va)(n n':Nat)(qs:List ay)(c:Nat)(vs:List Va):Prop where
 m:Mem T G rs
 x:lc T A V s A.length
 o: ∀v∈outs,V v.name/\G9 T v/\v.clock=none/\get A v.name=none
 nd:(outs.map (·.name)).Nodup
 vv: ∀v∈vs,V v.name/\G9 T v
 vb: ∀x,V x->fV n n' x->eI vs x
 f: ∀x,fV n n' x->get A x=none
 ob: ∀x,eI outs x-> ¬fV n n' x
 sq: ∀q p,At qs c q p->yB T q p
 sb: ∀q p,At qs c q p-> ∀(k:Nat) (a:aY),(cq q)[k]?=some a->pQ T (nc q p k) (dG a)
structure QD(A E:Env)(V:Nm->Prop)(rs:Rs)(s:Sc)(outs:List Va)(n n':Nat)(qs:List ay)(c:Nat)(vs:List Va):Prop where
 x:a_ A E
 o:C2 A E outs n n'
 v: ∀v∈vs,Ax T E V v
 q: ∀E',a_ E E'->qo E' V s (E'.length+1)-> ∀q p,At qs c q p->Av T F E' My az V rs p q
 b: ∀E',a_ E E'-> ∀q p a,At qs c q p->(cq q)[eY T E' rs p q]?=some a->rA T F E' My az V (nZ T F E' rs p q a) (nc q p (eY T E' rs p q)) (dG a)
end
theorem yF{T:dS}{F:List (Option Int)}{h:Nat->Sm.US->Prop}{My:Nat->Sm.US->List Int->List Int->Sm.US->Prop}{az:Nat->Sm.US}{S:Nat}{H:Sc->List Va->Nat->Nat->aW->Prop}(U:Wd T F h My az S)(X:lP H)(Y:u4 T F h My az H)
  {A:Env} {V:Nm->Prop} {rs:Rs} {s:Sc} {outs:List Va} {n n' c:Nat} {q:ay} (e:QX T h A V rs s outs n n' [q] c []) (K:Nat) (N:Bool) (J: ∀b,a_ A b->eY T b rs c q=K) (Z: ∀b,a_ A b->zu T b rs c q=N)
  {a:aY} (L:(cq q)[K]?=some a) {l:List Va} {j k:Nat} {u:Sc} (m:LS outs l) (w:n<=j) (y:k<=n') (o:H u l j k (dG a)) (hs:lc T A V u A.length) (M: ∀x,x∈dQ q↔eI outs x):
  ∃E,a_ A E/\C2 A E outs n n'/\(∀v∈l,C1 A.length E v)/\ ∀b,a_ E b->yz T b rs q a/\(∀x∈dQ q,V x/\A.length<=iw b x)/\ ∀f p a',At [q] c f p->(cq f)[eY T b rs p f]?=some a'->rA T F b My az V (nZ T F b rs p f a') (nc f p (eY T b rs p f)) (dG a'):=by
 have R: ∀x,V x-> ¬fV j k x:= λx g o=>by obtain⟨v,d,_⟩:=e.vb x g (o.mono w y);cases d
 have O:=(LS.names m).nodup e.nd
 let z:Rs:=if N then BD F rs (nc q c K) (nc q c K+Sm.bP (ep (dG a)))else rs
 have OD:Mem T h z:=by
  show Mem T h (if N then _ else rs);split
  ·exact C0 U e.m _ _
  ·exact e.m
 obtain⟨E,B,P,e3⟩:=Y u l j k (dG a) o A z V (nc q c K) OD hs (λv d=>e.o v (m.mem v d)) O R (λx g=>e.f x (g.mono w y)) (e.sb q c (At.one.2 ⟨rfl,rfl⟩) K a L);obtain⟨E2,r,Q,f3⟩:=JM e.m m e.nd (λv d=>⟨(e.o v d).2.1,(e.o v d).2.2.2⟩) e.ob w y B P;refine⟨E2,B.trans r,Q,λv d=>(P.o v d).mono r (aqd _),λb t=>⟨λx g Sy=> ?_,λx g=> ?_,λf p a' Oy i=> ?_⟩⟩
 ·obtain⟨v,d,rfl⟩:=(M x).1 g;obtain⟨C,I,D⟩:=f3 v d (λhn=>Sy ((((X.st _ _ _ _ _ o V (λv d=>(e.o v (m.mem v d)).1) R O).2.1) _).2 hn));exact⟨C,I,t.get D⟩
 ·obtain⟨v,d,rfl⟩:=(M x).1 g;obtain⟨ac,sb,I,C,D,g3,g4⟩:=Q.o v d;refine⟨(e.o v d).1,?_⟩;unfold iw;rw[t.get C];exact D
 ·obtain⟨rfl,rfl⟩:=At.one.1 Oy;have G:=(B.trans r).trans t;rw[J b G]at i⊢;rw[L]at i;injection i with i
  subst i;have:nZ T F b rs p f a=z:=by
   unfold nZ;rw[Z b G,J b G]
  rw[this];exact e3 b (r.trans t)
theorem wO{c:Type}(l:List c)(f:c->Bool)(h: ∃a∈l,f a=true): ∃k a,l.findIdx? f=some k/\l[k]?=some a/\f a=true/\ ∀(i:Nat) (b:c),i<k->l[i]?=some b->f b=false:=by
 induction l with
 |nil=>obtain⟨a,j,_⟩:=h;cases j
 |cons e l m=>
  rw[List.findIdx?_cons];cases g:f e with
  |true=>exact⟨0,e,by simp,rfl,g,λi b n=>by omega⟩
  |false=>
   obtain⟨k,a,o,p,q,r⟩:=m (by
    grind)
   refine⟨k+1,a,by simp[o],p,q,λi b n d=> ?_⟩;cases i with
   |zero=>simp at d;subst d;exact g
   |succ i=>exact r i b (by omega) d
section
variable{T:dS}{F:List (Option Int)}{G:Nat->Sm.US->Prop}{My:Nat->Sm.US->List Int->List Int->Sm.US->Prop}{az:Nat->Sm.US}{aj:Nat}{Sub:Sc->List Va->Nat->Nat->aW->Prop}
theorem G_(P:Wd T F G My az aj){A:Env}{V:Nm->Prop}{rs:Rs}{s:Sc}(g:Mem T G rs)(o:lc T A V s A.length){outs:List Va}{r:List ay}(h:oX s outs r): ∀(c n n':Nat),(∀v∈outs,V v.name/\get A v.name=none)->(outs.map (·.name)).Nodup->(∀q p,At r c q p->yB T q p)->
  ∃E,a_ A E/\(∀v∈outs,C1 A.length E v)/\(∀x,get E x≠none->get A x≠none\/eI outs x)/\ ∀f,a_ E f->qo f V s (f.length+1)-> ∀q p,At r c q p->Av T F f My az V rs p q:=by
 induction h with
 |nil=>intro c n n' _ _ _;exact⟨A,a_.refl A,λv d=>(by cases d),λx h=> .inl h,λf _ _ q p h=>(At.nil h).elim⟩
 | @snoc O q h b e i J=>
  intro c n n' z t B;rw[aqO,aq8]at t;obtain⟨E,j,K,C,L⟩:=J c n n' (λv d=>z v (aqq _ d)) t.1 (λq p u=>B q p (At.app.2 (.inl u)));have D:=z b (aqt _ (aru _));have H:get E b.name=none:=by
   cases M:get E b.name with
   |none=>rfl
   |some e=>
    rcases C b.name (by rw[M];simp)with a|⟨v,d,a⟩
    ·exact(a D.2).elim
    ·exact(t.2.2 v.name (aqU d) b.name (by simp) a).elim
  have k:=o.ext j j.len;have I:=B (.df b.name e) (c+zw q) (At.app.2 (.inr (At.one.2 ⟨rfl,rfl⟩)));have l:a_ E (E++ [(b.name,some (cy T E rs.rd e (c+zw q)),E.length)]):=a_.app _ _;refine⟨E++ [(b.name,some (cy T E rs.rd e (c+zw q)),E.length)],j.trans l,λv d=> ?_,λx o=> ?_,λf w y N p u=> ?_⟩
  ·rcases aql.1 d with a|a
   ·exact(K v a).mono l (aqd _)
   ·rw[aqp]at a;subst a;exact⟨_,_,_,gF H,j.len,aqd _,(mL i (k.s g) (jD g I))⟩
  ·rcases gG o with a|rfl
   ·rcases C x a with a|⟨v,d,a⟩
    ·exact .inl a
    ·exact .inr ⟨v,aqq _ d,a⟩
   ·exact .inr ⟨b,aqt _ (aru _),rfl⟩
  ·rcases At.app.1 u with a|a
   ·exact L f (l.trans w) y N p a
   ·obtain⟨rfl,rfl⟩:=At.one.1 a;have m:=l.trans w;refine⟨⟨D.1,.inl ⟨E.length,?_,?_⟩⟩,λ_=>ud i g ((k.ext m (aqd _)).s g) y I⟩
    ·rw[n_ i m _ k];exact w.get (gF H)
    ·exact nC i (by have:=m.len;omega) ((k.ext m (aqd _)).s g) y
theorem Lh{names:List Nm}{n n':Nat}{s:Sc}{outs:List Va}{ah:List aY}(h:lP Sub)(j:mu Sub s outs names n ah n')(t:ah.length=names.length)(x:Int)(l: ∃c∈names,Sm.gx cI c=x):
  ∃k a,(ah.findIdx? λa=>decide (Sm.gx cI (jx a)=x))=some k/\ah[k]?=some a/\Sm.gx cI (jx a)=x/\ ∀(i:Nat) (b:aY),i<k->ah[i]?=some b->Sm.gx cI (jx b)≠x:=by
 obtain⟨c,m,e⟩:=l;obtain⟨i,f⟩:=aqG.1 m;have g:i<ah.length:=by
  grind
 obtain⟨u,b,r,v,w,d,o,_⟩:=(lb h.le j).2 i ah[i] (aqi g);rw[f]at d;injection d with d
 subst d;obtain⟨k,a,p,q,y,z⟩:=wO ah (λa=>decide (Sm.gx cI (jx a)=x)) ⟨ah[i],aqz g,by rw[o];exact aqI e⟩;exact⟨k,a,p,q,by grind,λi b f A=>by grind⟩
theorem Fx(O:Wd T F G My az aj)(j:lP Sub)(P:u4 T F G My az Sub){A:Env}{V:Nm->Prop}{rs:Rs}{s:Sc}{outs:List Va}{n n' c:Nat}{e:E}{ah:List aY}{t:Ty}{d:Nat}{names:List Nm}(l:GE s t true d e)(r:mu Sub s outs names n ah n')(Q:ah.length=names.length)(R:0<ah.length)
  (S: ∀g,VT t g-> ∃c∈names,Sm.gx cI c=g) (f:QX T G A V rs s outs n n' [.sw e ah] c []): ∃E,QD T F My az A E V rs s outs n n' [.sw e ah] c []:=by
 have M:=f.sq _ _ (At.one.2 ⟨rfl,rfl⟩);have u:=mL l (f.x.s f.m) (jD f.m M);obtain⟨k,i,U,z,k3,X⟩:=Lh j r Q _ (S _ u);have B: ∀a,a_ A a->cy T a rs.rd e c=cy T A rs.rd e c:= λa p=>n_ l p c f.x
 have C: ∀a,a_ A a->eY T a rs c (.sw e ah)=k:= λa p=>by
  show((ah.findIdx? λi=>decide (Sm.gx cI (jx i)=cy T a rs.rd e c)).getD 0)=k;rw[B a p,U];rfl
 obtain⟨cn,b,y,D,H,I,rfl,w,J,x,Y,Z⟩:=(lb j.le r).2 k i z;have hd: ∀g,g∈dQ (.sw e ah)↔eI outs g:= λg=>by
  have m:=uZ j (ah:=ah) (outs:=outs) (n:=n) (n':=n') R (λN i hi=>by obtain⟨c,b,y,D,H,_,rfl,I,g2,w,J,x⟩:=(lb j.le r).2 N i hi;exact⟨b,y,D,H,rfl,I,g2,w,J,_,x⟩);exact(dT (q:= .sw e ah)).trans (m.1 f.ob f.nd g)
 obtain⟨E,K,e2,e3,L⟩:=yF O j P f k false C (λ_ _=>rfl) z w x Y Z f.x.bN hd;refine⟨E,K,e2,λv u=>(by cases u),λa o m q ac Oy=> ?_,λa o=>(L a o).2.2⟩;obtain⟨rfl,rfl⟩:=At.one.1 Oy;obtain⟨f1,f2,f3⟩:=L a o;have h:=K.trans o;refine⟨⟨A.length,_,h.len,nC l (by have:=h.len;omega) ((f.x.ext h (aqd _)).s f.m) m,f2,?_,?_,?_,f1⟩,ud l f.m ((f.x.ext h (aqd _)).s f.m) m M⟩
 ·simp_all
 ·simp_all
 ·rw[C a h,B a h];exact X
theorem Ev(x:Wd T F G My az aj)(o:lP Sub)(y:u4 T F G My az Sub){A:Env}{V:Nm->Prop}{rs:Rs}{s:Sc}{outs:List Va}{n n' c:Nat}{e:E}{b:aW}{d:Nat}(m:GE s .bool true d e)(p:Sub s outs n n' b)
  (f:QX T G A V rs s outs n n' [.reset e b] c []): ∃E,QD T F My az A E V rs s outs n n' [.reset e b] c []:=by
 have z: ∀g,a_ A g->cy T g rs.rd e c=cy T A rs.rd e c:= λg l=>n_ m l c f.x
 have B: ∀h,h∈dQ (.reset e b)↔eI outs h:= λh=>by
  have i:=uZ o (ah:=[.mk e0 b [] []]) (outs:=outs) (n:=n) (n':=n') Nat.one_pos (λw a r=>by
   have C:w=0:=by
    grind
   subst C;simp at r;subst r;exact⟨b,outs,n,n',rfl,LS.refl _,λ_=>rfl,aqd _,aqd _,s,p⟩)
  exact(dT (q:= .reset e b)).trans (i.1 f.ob f.nd h)
 obtain⟨E,t,D,M,u⟩:=yF x o y f 0 (decide (cy T A rs.rd e c≠0)) (λ_ _=>rfl) (λg l=>by show decide (cy T g rs.rd e c≠0)=_;rw[z g l]) (a:= .mk e0 b [] []) W (LS.refl outs) (aqd _) (aqd _) p f.x B;refine⟨E,t,D,λv H=>(by cases H),λg j i q L I=> ?_,λg j=>(u g j).2.2⟩;obtain⟨rfl,rfl⟩:=At.one.1 I;obtain⟨J,K,N⟩:=u g j;have k:=t.trans j;exact⟨⟨A.length,k.len,nC m (by have:=k.len;omega) ((f.x.ext k (aqd _)).s f.m) i,K,J⟩,ud m f.m ((f.x.ext k (aqd _)).s f.m) i (f.sq _ _ (At.one.2 ⟨rfl,rfl⟩))⟩
theorem C3{A b:Env}{V:Nm->Prop}{s:Sc}{r:Nat}(g:a_ A b)(c:lc T A V s r)(rd:Nat->Int): ∀(l:List Tr),(∀t∈l,∃st d,GE s .bool st d t.e)->iZ T b rd l=iZ T A rd l
 | [],_=>rfl
 |t::l,a=>by
  obtain⟨st,d,e⟩:=a t (aqP ..);simp only[iZ];rw[n_ e g 0 c,C3 g c rd l (λt f=>a t (aqF _ f))]
theorem sM{A:Env}{rd:Nat->Int} : ∀{l:List Tr} {t:Tr},iZ T A rd l=some t->t∈l
 | [],t,a=>by cases a
 |b::l,t,a=>by
  unfold iZ at a;split at a
  ·grind
  ·exact aqF _ (sM a)
theorem Li{ah:List aY}(e: ∀(b:Nat) (a:aY),ah[b]?=some a->jx a=nm 83 b){k:Nat}(f:k<ah.length):(ah.findIdx? λa=>decide (jx a=nm 83 k))=some k:=by
 obtain⟨d,a,g,h,i,j⟩:=wO ah (λa=>decide (jx a=nm 83 k)) ⟨ah[k],aqz f,by grind⟩;have c:jx a=nm 83 k:=by grind
 rw[e d a h]at c;have:=(gS c).2;rw[g,this]
theorem Ay(ah:List aY)(x:Nm):Sm.mo (ej ah) x=ah.findIdx? λa=>decide (jx a=x):=by
 unfold Sm.mo;rw[ov,asM]
 congr 1
 funext a
 cases a;rfl
theorem Ha(hW:Wd T F G My az aj)(H:lP Sub)(hD:u4 T F G My az Sub){A:Env}{V:Nm->Prop}{rs:Rs}{s:Sc}{outs:List Va}{n n' c:Nat}{ah:List aY}{N:Nat}(hN:1<=N)(ha:tu Sub s outs N n ah n')(hl:ah.length=N)
  (g:QX T G A V rs s outs n n' [.aL ah] c []): ∃E,QD T F My az A E V rs s outs n n' [.aL ah] c []:=by
 have z:=(vS H.le ha).2;have Nu:0<=rs.rd c/\rs.rd c<ah.length:=by have:=g.m c;rw[g.sq _ _ (At.one.2 ⟨rfl,rfl⟩)]at this;exact this
 have MV:(rs.rd c).toNat<ah.length:=by omega
 have Zw: ∀(k:Nat) (a:aY),ah[k]?=some a->jx a=nm 83 k:= λk a I=>by obtain⟨b,y,J,K,u1,u2,rfl,_⟩:=z k a I;rfl
 have L:=aqi MV;have M: ∀f,f<N->(ah.findIdx? λa=>decide (jx a=nm 83 f))=some f:= λf i=>Li Zw (by omega)
 have Z: ∀f,f<N->rc ah (nm 83 f)=f:= λf i=>by unfold rc;rw[M f i];rfl
 obtain⟨b0,l0,m1,m2,j,gc,q1,q2,q3,q4,q5,q6,O,q8⟩:=z _ _ L;have co:((ah[(rs.rd c).toNat]?).map jf).getD []=j:=by rw[L];simp only[ash,Option.getD_some];rw[q1];rfl
 have d6: ∀d,a_ A d->iZ T d rs.rd j=iZ T A rs.rd j:= λd p=>C3 p g.x.bN rs.rd j (λh ht=>⟨_,_,(O.2 h ht).1⟩)
 have ac: ∀d,eY T d rs c (.aL ah)=match iZ T d rs.rd j with|none=>(rs.rd c).toNat|some h=>rc ah h.to:= λd=>by
  show(match iZ T d rs.rd (((ah[(rs.rd c).toNat]?).map jf).getD [])with|none=>(rs.rd c).toNat|some h=>rc ah h.to)=_;rw[co]
 have d7: ∀d,zu T d rs c (.aL ah)=match iZ T d rs.rd j with|none=>rs.rp c|some h=> !h.fb:= λd=>by
  show(match iZ T d rs.rd (((ah[(rs.rd c).toNat]?).map jf).getD [])with|none=>rs.rp c|some h=> !h.fb)=_;rw[co]
 have d8:eY T A rs c (.aL ah)<ah.length:=by
  rw[ac A];cases m:iZ T A rs.rd j with
  |none=>exact MV
  |some h=>
   obtain⟨f,i,e⟩:=(O.2 h (sM m)).2;simp only;rw[e,Z f i];omega
 have P: ∀d,a_ A d->eY T d rs c (.aL ah)=eY T A rs c (.aL ah):= λd p=>by rw[ac,ac,d6 d p]
 have f4: ∀d,a_ A d->zu T d rs c (.aL ah)=zu T A rs c (.aL ah):= λd p=>by rw[d7,d7,d6 d p]
 obtain⟨a,C⟩: ∃a,ah[eY T A rs c (.aL ah)]?=some a:=⟨_,aqi d8⟩;obtain⟨b,y,J,K,Q,R,r1,r2,r3,r4,r5,r6,r7,r8⟩:=z _ _ C;have hd: ∀t,t∈dQ (.aL ah)↔eI outs t:= λt=>by
  have hA:=uZ H (ah:=ah) (outs:=outs) (n:=n) (n':=n') (by omega) (λk a I=>by obtain⟨b,y,J,K,u1,u2,rfl,S,U,g3,g4,g5,_⟩:=z k a I;exact⟨b,y,J,K,rfl,S,U,g3,g4,_,g5⟩);exact(dT (q:= .aL ah)).trans (hA.1 g.ob g.nd t)
 obtain⟨l,f7⟩: ∃l,eY T A rs c (.aL ah)=l:=⟨_,rfl⟩;rw[f7]at P C d8 r1;subst r1;obtain⟨E,e1,e2,e3,e4⟩:=yF hW H hD g l _ P f4 (a:= .mk (nm 83 l) b Q R) C r2 r4 r5 r6 g.x.bN hd;refine⟨E,e1,e2,λv B=>(by cases B),λd u hA q d9 Oy=> ?_,λd u=>(e4 d u).2.2⟩;obtain⟨rfl,rfl⟩:=At.one.1 Oy;obtain⟨f1,f2,f3⟩:=e4 d u;have o:=e1.trans u;refine⟨⟨A.length,.mk (nm 83 l) b Q R,_,o.len,Nu.1,L,λD m=> ?_,f2,?_,λD m=> ?_,f1⟩,trivial⟩
 ·rw[q1]at m;obtain⟨w,f,i,x⟩:=O.2 D m;obtain⟨X,Y⟩:=mM (T:=T) w W;refine⟨nC w (by have:=o.len;omega) ((g.x.ext o (aqd A.length)).bN.s g.m) qo.bN,X,Y _ _ _,f,?_,?_⟩
  ·rw[Ay,x];exact M f i
  ·rw[x,Z f i]
 ·rw[P d o];exact C
 ·obtain⟨w,f,i,x⟩:=r8.2 D m;obtain⟨X,Y⟩:=mM (T:=T) w W;have f8:lc T d V (s.more y) (d.length+1):=(g.x.ext o (by have:=o.len;omega)).more λv B=>by
   have Uy:=r2.mem v B;obtain⟨S,U⟩:=((e3 v B).mono u (aqd _)).kn (r:=d.length+1) (by omega);exact⟨(g.o v Uy).2.1.1,λ_=>⟨(g.o v Uy).1,S,U⟩⟩
  have f9:Mem T G (nZ T F d rs d9 (.aL ah) (.mk (nm 83 l) b Q R)):=by
   unfold nZ;split
   ·exact C0 hW g.m _ _
   ·exact g.m
  refine⟨eu.rF (λt hx=> .inl hx) (nC w (aqd _) (f8.bN.s f9) qo.bN),X,Y _ _ _,f,?_,?_⟩
  ·rw[Ay,x];exact M f i
  ·rw[x,Z f i]
end
theorem Hb(x:Int)(h:VT .eO x): ∃c∈([cQ,bZ,bu]:List Nm),Sm.gx cI c=x:=by
 rcases h with rfl|rfl|rfl
 ·exact⟨bZ,by simp,by decide⟩
 ·exact⟨bu,by simp,by decide⟩
 ·exact⟨cQ,by simp,by decide⟩
theorem Ew(x:Int)(h:VT .bool x): ∃c∈([oM,lI]:List Nm),Sm.gx cI c=x:=by
 rcases h with rfl|rfl
 ·exact⟨lI,by simp,by decide⟩
 ·exact⟨oM,by simp,by decide⟩
section
variable{T:dS}{F:List (Option Int)}{G:Nat->Sm.US->Prop}{My:Nat->Sm.US->List Int->List Int->Sm.US->Prop}{az:Nat->Sm.US}{aj:Nat}{Sub:Sc->List Va->Nat->Nat->aW->Prop}
theorem QX.pre{A f:Env}{V:Nm->Prop}{rs:Rs}{s r:Sc}{outs:List Va}{n m n':Nat}{q0 l:List ay}{c:Nat}{v0 t:List Va}(h:QX T G A V rs s outs n n' (q0++l) c (v0++t))(j:n<=m)(x:m<=n')(y: ∀a,get f a≠none->get A a≠none\/fV n m a)(z:lc T f V r f.length)(B: ∀v∈v0,fV n m v.name):
  QX T G f V rs r outs m n' l (c+zw q0) t:=by
 have u: ∀a,get A a=none-> ¬fV n m a->get f a=none:= λa k o=>by
  cases C:get f a with
  |none=>rfl
  |some e=>
   rcases y a (by rw[C];simp)with d|d
   ·exact(d k).elim
   ·exact(o d).elim
 exact⟨h.m,z,λv w=>by
   obtain⟨k,o,D,E⟩:=h.o v w;exact⟨k,o,D,u _ E (λb=>h.ob _ ⟨v,w,rfl⟩ (b.mono (aqd _) x))⟩,h.nd,λv F=>h.vv v (aqt _ F),λa p b=>by
   obtain⟨v,H,e⟩:=h.vb a p (b.mono j (aqd _));rcases aql.1 H with d|d
   ·exact((B v d).not (e▸b.gt)).elim
   ·exact⟨v,d,e⟩,λa b=>u a (h.f a (b.mono j (aqd _))) (λI=>I.not b.gt),λa p b=>h.ob a p (b.mono j (aqd _)),
  λg i q=>h.sq g i (At.app.2 (.inr q)),λg i q=>h.sb g i (At.app.2 (.inr q))⟩
theorem QD.pre{A g E:Env}{V:Nm->Prop}{rs:Rs}{s p:Sc}{outs:List Va}{n m n':Nat}{q0 l:List ay}{c:Nat}{v0 q:List Va}(w:n<=m)(x:m<=n')(r:a_ A g)(y: ∀f,get g f≠none->get A f≠none\/fV n m f)(j: ∀v∈v0,Ax T g V v)
  (z: ∀d,a_ g d->qo d V s (d.length+1)-> ∀b e,At q0 c b e->Av T F d My az V rs e b) (B: ∀b∈q0,cq b= []) (C:p.all=s.all) (h:QD T F My az g E V rs p outs m n' l (c+zw q0) q):QD T F My az A E V rs s outs n n' (q0++l) c (v0++q):=by
 refine⟨r.trans h.x,⟨λv D=>(h.o.o v D).mono (a_.refl E) r.len,λf G=> ?_⟩,λv H=> ?_,λd i t b e k=> ?_,λd i b e u k o=> ?_⟩
 ·rcases h.o.Eu f G with a|a|a
  ·rcases y f a with a|a
   ·exact .inl a
   ·exact .inr (.inr (a.mono (aqd _) x))
  ·grind
  ·exact .inr (.inr (a.mono w (aqd _)))
 ·rcases aql.1 H with a|a
  ·exact(j v a).ext h.x
  ·exact h.v v a
 ·rcases At.app.1 k with a|a
  ·exact z d (h.x.trans i) t b e a
  ·exact h.q d i (λv j I=>t v (C▸j) I) b e a
 ·rcases At.app.1 k with a|a
  ·obtain⟨K,J,L⟩:=a;rw[B b (aqk J)]at o;simp at o
  ·exact h.b d i b e u a o
theorem Hc(M:Wd T F G My az aj){A:Env}{V:Nm->Prop}{rs:Rs}{s:Sc}{outs:List Va}{n n' c:Nat}{l:List ay}{C:List Va}{j:Nat}(N:j<aj){a b e:E}(D:GE s .int true 2 a)(H:GE s .bool true 2 b){f:Bool}(O:f=false/\e= .nil\/f=true/\GE s .bool true 2 e)(I:n+2<=n')
  (ih: ∀(A:Env) (c:Nat),QX T G A V rs (s.more [cR 117 (n+1) .int,cR 117 (n+2) .eO]) outs (n+2) n' l c C-> ∃E,QD T F My az A E V rs (s.more [cR 117 (n+1) .int,cR 117 (n+2) .eO]) outs (n+2) n' l c C)
  (d:QX T G A V rs s outs n n' (.call (nm 117 (n+1)) (nm 117 (n+2)) (nm 102 j) a b f e::l) c (cR 117 (n+1) .int::cR 117 (n+2) .eO::C)):
  ∃E,QD T F My az A E V rs s outs n n' (.call (nm 117 (n+1)) (nm 117 (n+2)) (nm 102 j) a b f e::l) c (cR 117 (n+1) .int::cR 117 (n+2) .eO::C):=by
 obtain⟨hp,sE,sA,sB⟩:yB T (.call (nm 117 (n+1)) (nm 117 (n+2)) (nm 102 j) a b f e) c:=d.sq _ _ (At.cons.2 (.inl ⟨rfl,rfl⟩));have P:=d.m c;rw[hp j W]at P;have Wg:=d.x.s d.m;have hG:G j ((if f=true/\cy T A rs.rd e (c+1)≠0 then none else rs.rs c).getD (az j)):=by
  split
  ·exact(M.az j N).1
  ·cases Q:rs.rs c with
   |none=>exact(M.az j N).1
   |some K=>exact(P K Q).2
 obtain⟨g,u,u',st,tx,ty⟩:=M.Mp j N _ hG _ _ (mL D Wg (jD d.m sA)) (mL H Wg (jD d.m sB));have R:fV n (n+2) (nm 117 (n+1)):=⟨117,n+1,by omega,by omega,rfl⟩;have S:fV n (n+2) (nm 117 (n+2)):=⟨117,n+2,by omega,by omega,rfl⟩;have MW:nm 117 (n+1)≠nm 117 (n+2):= λe=>by have:=(gS e).2;omega
 have U:a_ (A++ [(nm 117 (n+1),some g,A.length)]) (A++ [(nm 117 (n+1),some g,A.length)]++ [(nm 117 (n+2),some u,A.length)]):=a_.app _ _;have w:=U.get (gF (o:=some g) (sb:=A.length) (d.f _ (R.mono (aqd _) I)));have q:=gF (E:=A++ [(nm 117 (n+1),some g,A.length)]) (o:=some u) (sb:=A.length) (jN (d.f _ (S.mono (aqd _) I)) MW.symm);have d7:(A++ [(nm 117 (n+1),some g,A.length)]).length=A.length+1:=by simp
 rw[d7]at q;generalize OM:A++ [(nm 117 (n+1),some g,A.length)]++ [(nm 117 (n+2),some u,A.length)]=k at U w q;have d8:k.length=A.length+2:=by rw[<-OM];simp
 have J:=(a_.app _ _).trans U;have Q9: ∀B,get k B≠none->get A B≠none\/fV n (n+2) B:= λB hx=>by
  rw[<-OM]at hx;rcases gG hx with L|rfl
  ·rcases gG L with L|rfl
   ·exact .inl L
   ·exact .inr R
  ·exact .inr S
 have X:=d.vv _ (aqP ..);have Y:=d.vv _ (aqF _ (aqP ..));have ZA:lc T k V (s.more [cR 117 (n+1) .int,cR 117 (n+2) .eO]) k.length:=(d.x.ext J J.len).more λv h=>by
  simp only[aqs,aqx,aq9]at h;rcases h with rfl|rfl
  ·exact⟨X.2.1,λ_=>⟨X.1,⟨g,_,_,w,by omega⟩,by show VT .int (val k (nm 117 (n+1)));unfold val;rw[w];exact tx⟩⟩
  ·exact⟨Y.2.1,λ_=>⟨Y.1,⟨u,_,_,q,by omega⟩,by show VT .eO (val k (nm 117 (n+2)));unfold val;rw[q];exact ty⟩⟩
 have Xf:=QX.pre (q0:=[_]) (v0:=[_,_]) (m:=n+2) d (by omega) I Q9 ZA (λv h=>by
  simp only[aqs,aqx,aq9]at h;rcases h with rfl|rfl
  ·exact R
  ·exact S)
 obtain⟨E,hE⟩:=ih k _ Xf;refine⟨E,QD.pre (q0:=[_]) (v0:=[_,_]) (m:=n+2) (by omega) I J Q9 (λv h=> ?_) (λE' Z r ac p Oy=> ?_) (λac hq=> ?_) (by rfl) hE⟩
 ·simp only[aqs,aqx,aq9]at h;rcases h with rfl|rfl
  ·exact⟨_,_,_,w,aqd _,rfl⟩
  ·exact⟨_,_,_,q,by omega,rfl⟩
 ·obtain⟨rfl,rfl⟩:=At.one.1 Oy;have x:=J.trans Z;have t:=(d.x.ext x (aqd A.length)).s d.m;have d9:=x.len;refine⟨⟨X.1,Y.1,MW,j,A.length,g,u,u',rfl,Z.get w,Z.get q,λi=> ?_,nC D (by omega) t r,nC H (by omega) t r,?_,λK Q=>(P K Q).1⟩,λi=> ?_,ud D d.m t r sA,ud H d.m t r sB⟩
  ·rcases O with⟨y,_⟩|⟨_,z⟩
   ·rw[y]at i;cases i
   ·exact nC z (by omega) t r
  ·have co:f=true->cy T E' rs.rd e (p+1)=cy T A rs.rd e (p+1):= λi=>by
    rcases O with⟨y,_⟩|⟨_,z⟩
    ·rw[y]at i;cases i
    ·exact n_ z x _ d.x
   rw[n_ D x _ d.x,n_ H x _ d.x];have d6:(if f=true/\cy T E' rs.rd e (p+1)≠0 then none else rs.rs p)=(if f=true/\cy T A rs.rd e (p+1)≠0 then none else rs.rs p):=by
    cases f with
    |false=>simp
    |true=>rw[co W]
   rw[d6];exact st
  ·rcases O with⟨y,_⟩|⟨_,z⟩
   ·rw[y]at i;cases i
   ·exact ud z d.m t r sE
 ·rw[aqp]at hq;subst hq;rfl
theorem Hd{A:Env}{V:Nm->Prop}{rs:Rs}{s:Sc}{outs:List Va}{n n' c:Nat}{l:List ay}{Y:List Va}{a b k k2 e cB:E}(N:GE s .int false 2 a)(hb:GE s .int false 2 b)(hk:GC .int k)(M':GC .int k2)(Z:GE s .eO true 3 e)
  (OI:cB= .e_ (nm 99 (n+1)) bZ a\/cB= .fA k2 (.bin 3 (.var (nm 119 (n+2))) (.e_ (nm 99 (n+1)) bZ a))) (O:n+3<=n')
  (ih: ∀(A:Env) (c:Nat),QX T G A V rs (s.more [cR 99 (n+1) .eO,cR 122 (n+3) .int]) outs (n+3) n' l c Y-> ∃E,QD T F My az A E V rs (s.more [cR 99 (n+1) .eO,cR 122 (n+3) .int]) outs (n+3) n' l c Y)
  (d:QX T G A V rs s outs n n' (.df (nm 99 (n+1)) e:: .df (nm 119 (n+2)) cB:: .df (nm 122 (n+3)) (.merge (nm 99 (n+1)) bu bZ cQ (.e_ (nm 99 (n+1)) bu b) (.var (nm 119 (n+2))) k)::l) c (cR 99 (n+1) .eO::⟨nm 119 (n+2),.int,some (bZ,nm 99 (n+1)),false,.nil⟩::cR 122 (n+3) .int::Y)):
  ∃E,QD T F My az A E V rs s outs n n' (.df (nm 99 (n+1)) e:: .df (nm 119 (n+2)) cB:: .df (nm 122 (n+3)) (.merge (nm 99 (n+1)) bu bZ cQ (.e_ (nm 99 (n+1)) bu b) (.var (nm 119 (n+2))) k)::l) c (cR 99 (n+1) .eO::⟨nm 119 (n+2),.int,some (bZ,nm 99 (n+1)),false,.nil⟩::cR 122 (n+3) .int::Y):=by
 simp only[cR]at ih d⊢;generalize hc:nm 99 (n+1)=h at*;generalize hw:nm 119 (n+2)=p at*;generalize hz:nm 122 (n+3)=x at*;have SO:fV n (n+3) h:=⟨99,n+1,by omega,by omega,hc.symm⟩;have Om:fV n (n+3) p:=⟨119,n+2,by omega,by omega,hw.symm⟩;have Qn:fV n (n+3) x:=⟨122,n+3,by omega,by omega,hz.symm⟩;have ge:h≠p:= λe=>by rw[<-hc,<-hw]at e;have:=(gS e).2;omega
 have i6:h≠x:= λe=>by rw[<-hc,<-hz]at e;have:=(gS e).2;omega
 have i7:p≠x:= λe=>by rw[<-hw,<-hz]at e;have:=(gS e).2;omega
 have K:=d.vv _ (aqP ..);have d7:=d.vv _ (aqF _ (aqP ..));have d8:=d.vv _ (aqF _ (aqF _ (aqP ..)));obtain⟨w,SF⟩: ∃w,w=c+Sm.qP (di (.df h e)):=⟨_,rfl⟩;obtain⟨p3,X6⟩: ∃p3,p3=w+Sm.qP (di (.df p cB)):=⟨_,rfl⟩;have sE:=d.sq (.df h e) c (At.cons.2 (.inl ⟨rfl,rfl⟩));have sK:=d.sq (.df p cB) w (At.cons.2 (.inr (At.cons.2 (.inl ⟨rfl,SF⟩))));have vC:=mL Z (d.x.s d.m) (jD d.m sE);have x1:a_ A (A++ [(h,some (cy T A rs.rd e c),A.length)]):=a_.app _ _;have P:=gF (E:=A) (o:=some (cy T A rs.rd e c)) (sb:=A.length) (d.f _ (SO.mono (aqd _) O));have l1:(A++ [(h,some (cy T A rs.rd e c),A.length)]).length=A.length+1:=by simp
 have w1:get (A++ [(h,some (cy T A rs.rd e c),A.length)]) p=none:=jN (d.f _ (Om.mono (aqd _) O)) ge.symm;have z1:get (A++ [(h,some (cy T A rs.rd e c),A.length)]) x=none:=jN (d.f _ (Qn.mono (aqd _) O)) i6.symm;have d1: ∀q,get (A++ [(h,some (cy T A rs.rd e c),A.length)]) q≠none->get A q≠none\/fV n (n+3) q:= λq Q=>by
  rcases gG Q with g|rfl
  ·exact .inl g
  ·exact .inr SO
 generalize A++ [(h,some (cy T A rs.rd e c),A.length)]=i at x1 P l1 w1 z1 d1;have YV: ∀f,a_ i f->val f h=cy T A rs.rd e c:= λf g=>by unfold val;rw[g.get P]
 have d9: ∀f t,a_ i f->A.length+1<=t->Kn f h t:= λf t g C=>⟨_,_,_,g.get P,by omega⟩
 obtain⟨I,R⟩: ∃I:Option Int,I=if gO bZ=cy T A rs.rd e c then some (cy T i rs.rd cB w)else none:=⟨_,rfl⟩
 have u:a_ i (i++ [(p,I,i.length)]):=a_.app _ _;have X:=gF (E:=i) (o:=I) (sb:=i.length) w1;have z2:get (i++ [(p,I,i.length)]) x=none:=jN z1 i7.symm;have l2:(i++ [(p,I,i.length)]).length=A.length+2:=by simp[l1]
 have d2: ∀q,get (i++ [(p,I,i.length)]) q≠none->get A q≠none\/fV n (n+3) q:= λq Q=>by
  rcases gG Q with g|rfl
  ·exact d1 q g
  ·exact .inr Om
 generalize i++ [(p,I,i.length)]=j at u X z2 l2 d2;rw[l1]at X;have aa:=Fw N W;have UM:=d.x.ext x1 (aqd A.length);have Y9:=UM.ext u (aqd A.length);have ac: ∀f t,a_ j f->A.length+2<=t->gO bZ=cy T A rs.rd e c->Kn f p t/\val f p=cy T i rs.rd cB w:= λf t g C y=>by
  have:=g.get X;rw[R,aqy y]at this;exact⟨⟨_,_,_,this,by omega⟩,by unfold val;rw[this]⟩
 have tW:VT .int (cy T i rs.rd cB w):=by
  rcases OI with rfl|rfl
  ·exact mL N (UM.s d.m) (jD d.m sK)
  ·have:=sK.1;rw[sI M']at this;have hm:=d.m w;rw[this]at hm;exact hm
 have f4: ∀f co t,a_ j f->A.length+2<=t->t<=co->eu T f V co t (.merge h bu bZ cQ (.e_ h bu b) (.var p) k):= λf co t g C hR=>by
  refine⟨K.1,d9 f t (u.trans g) (by omega),K.2.1,?_⟩;rw[YV f (u.trans g)];split
  ·exact nC (Fw hb W) hR ((Y9.ext g (by omega)).bN.s d.m) qo.bN
  ·rename_i h1;split
   ·rename_i L;exact⟨d7.1,(ac f t g C L).1⟩
   ·rename_i L;refine⟨?_,Et hk _ _⟩;have i1:gO bu=1:=rfl;have i2:gO bZ=0:=rfl;have i3:gO cQ=2:=rfl;rw[i1]at h1;rw[i2]at L;rw[i3];rcases vC with C|C|C
    ·exact(L C.symm).elim
    ·exact(h1 C.symm).elim
    ·exact C.symm
 obtain⟨D,f7⟩: ∃D,D=cy T j rs.rd (.merge h bu bZ cQ (.e_ h bu b) (.var p) k) p3:=⟨_,rfl⟩;have tZ:VT .int D:=by
  rw[f7];simp only[cy];split
  ·exact mL hb (Y9.s d.m) (jD d.m (d.sq _ _ (At.cons.2 (.inr (At.cons.2 (.inr (At.cons.2 (.inl ⟨rfl,by rw[X6,SF]⟩))))))).1)
  ·split
   ·rename_i L;rw[YV j u]at L;rw[(ac j (A.length+2) (a_.refl _) (aqd _) L).2];exact tW
   ·exact BC hk _
 have r:a_ j (j++ [(x,some D,j.length)]):=a_.app _ _;have M:=gF (E:=j) (o:=some D) (sb:=j.length) z2;have l3:(j++ [(x,some D,j.length)]).length=A.length+3:=by simp[l2]
 have d3: ∀q,get (j++ [(x,some D,j.length)]) q≠none->get A q≠none\/fV n (n+3) q:= λq Q=>by
  rcases gG Q with g|rfl
  ·exact d2 q g
  ·exact .inr Qn
 generalize j++ [(x,some D,j.length)]=H at r M l3 d3;rw[l2]at M;have Pd:=(x1.trans u).trans r;have ZA:lc T H V (s.more [⟨h,.eO,none,false,.nil⟩,⟨x,.int,none,false,.nil⟩]) H.length:=(d.x.ext Pd Pd.len).more λv J=>by
  simp only[aqs,aqx,aq9]at J;rcases J with rfl|rfl
  ·exact⟨K.2.1,λ_=>⟨K.1,d9 H _ (u.trans r) (by omega),by show VT .eO (val H h);rw[YV H (u.trans r)];exact vC⟩⟩
  ·exact⟨d8.2.1,λ_=>⟨d8.1,⟨D,_,_,M,by omega⟩,by show VT .int (val H x);unfold val;rw[M];exact tZ⟩⟩
 have Xf:=QX.pre (q0:=[_,_,_]) (v0:=[_,_,_]) (m:=n+3) d (by omega) O d3 ZA (λv J=>by
  simp only[aqs,aqx,aq9]at J;rcases J with rfl|rfl|rfl
  ·exact SO
  ·exact Om
  ·exact Qn)
 obtain⟨E,hE⟩:=ih H _ Xf;refine⟨E,QD.pre (q0:=[_,_,_]) (v0:=[_,_,_]) (m:=n+3) (by omega) O Pd d3 (λv J=> ?_) (λf z WC f9 d6 S=> ?_) (λf9 hq=> ?_) (by rfl) hE⟩
 ·simp only[aqs,aqx,aq9]at J;rcases J with rfl|rfl|rfl
  ·exact⟨_,_,_,(u.trans r).get P,aqd _,rfl⟩
  ·refine⟨_,_,_,r.get X,by omega,K.1,K.2.1,d9 H _ (u.trans r) (by omega),?_⟩;rw[YV H (u.trans r),R];split<;>simp[*]
  ·exact⟨_,_,_,M,by omega,rfl⟩
 ·have Ue:=Pd.trans z;have mt:=z.len;have U:=d.x.ext Ue (aqd A.length);rcases At.cons.1 S with⟨rfl,rfl⟩|S
  ·refine⟨⟨K.1,.inl ⟨A.length,?_,nC Z (by omega) (U.s d.m) WC⟩⟩,λ_=>ud Z d.m (U.s d.m) WC sE⟩;rw[n_ Z Ue _ d.x];exact((u.trans r).trans z).get P
  rcases At.cons.1 S with⟨rfl,rfl⟩|S
  ·rw[<-SF];have kw:=(r.trans z).get X;refine⟨⟨d7.1,?_⟩,λVt=> ?_⟩;rotate_left
   ·have y:gO bZ=cy T A rs.rd e c:=by
     obtain⟨v,sb,i9,g⟩:=Vt;rw[kw,R]at g;by_cases y:gO bZ=cy T A rs.rd e c
     ·exact y
     ·rw[aqo y]at g;simp at g
    obtain⟨_,z0⟩:=mM (T:=T) N W;rcases OI with rfl|rfl
    ·intro kv B;have f8:kv∈dH T f rs.rd a w:=B;rw[z0]at f8;cases f8
    ·intro kv B;simp only[dH,z0,aqK,aqC,aqs,aqx,aq9]at B;subst B;have NU:=sK.1;rw[sI M']at NU;unfold MT;rw[NU];refine CW (op:=3) (by simp) ?_ (mL N (U.s d.m) (jD d.m sK.2.2));show Sm.oW (val f p);rw[(ac f (A.length+2) (r.trans z) (aqd _) y).2];exact tW
   by_cases y:gO bZ=cy T A rs.rd e c
   ·refine .inl ⟨A.length+1,?_,?_⟩
    ·rw[kw,R,aqy y];have:cy T f rs.rd cB w=cy T i rs.rd cB w:=by
      rcases OI with rfl|rfl
      ·exact n_ N ((u.trans r).trans z) w UM
      ·rfl
     rw[this]
    ·have i8:=(ac f (f.length+1) (r.trans z) (by omega) y).1;rcases OI with rfl|rfl
     ·exact nC aa (by omega) ((U.ext (a_.refl _) (Nat.le_succ _)).bN.s d.m) qo.bN
     ·exact⟨⟨d7.1,i8⟩,nC aa (aqd _) ((U.ext (a_.refl _) (show A.length<=f.length+1 by omega)).bN.s d.m) qo.bN⟩
   ·exact .inr ⟨A.length+1,by rw[kw,R,aqo y]⟩
  obtain⟨rfl,rfl⟩:=At.one.1 S;rw[<-SF,<-X6];refine⟨⟨d8.1,.inl ⟨A.length+2,?_,f4 f _ _ (r.trans z) (by omega) (by omega)⟩⟩,λ_ kv B=> ?_⟩;rotate_left
  ·obtain⟨_,z0⟩:=mM (T:=T) hb W;have zk: ∀d6,dH T f rs.rd k d6= []:= λd6=>by cases hk<;>rfl
   simp only[dH,z0,zk]at B;split at B
   ·cases B
   ·split at B<;>cases B
  rw[z.get M,f7];obtain⟨gc,hD⟩:=r.trans z;rw[hD,iP gc (f4 j (A.length+2) (A.length+2) (a_.refl _) (aqd _) (aqd _))]
 ·simp only[aqs,aqx,aq9]at hq;rcases hq with rfl|rfl|rfl<;>rfl
end
section
variable{T:dS}{F:List (Option Int)}{G:Nat->Sm.US->Prop}{My:Nat->Sm.US->List Int->List Int->Sm.US->Prop}{az:Nat->Sm.US}{aj:Nat}{Sub:Sc->List Va->Nat->Nat->aW->Prop}
theorem JN(g:Wd T F G My az aj)(i:lP Sub)(p:u4 T F G My az Sub){s:Sc}{outs:List Va}{n n':Nat}{r:List ay}{t:List Va}(h:GQ Sub aj s outs n n' r t):
  ∀{V:Nm->Prop} {rs:Rs} (A:Env) (c:Nat),QX T G A V rs s outs n n' r c t-> ∃E,QD T F My az A E V rs s outs n n' r c t:=by
 induction h with
 | @rz s outs n m h=>
  intro V rs A c a;obtain⟨E,B,C,X,D⟩:=G_ g a.m a.x h c n n (λv q=>⟨(a.o v q).1,(a.o v q).2.2.2⟩) a.nd a.sq;refine⟨E,B,⟨C,λu x=> ?_⟩,λv q=>(by cases q),D,λY Z H Q w I y=> ?_⟩
  ·grind
  ·have P: ∀{outs:List Va} {m:List ay},oX s outs m-> ∀e∈m,cq e= []:=by
    intro outs m h
    induction h with
    |nil=>intro e d;cases d
    |snoc h R e d j=>
     intro u x;rcases aql.1 x with o|o
     ·exact j u o
     ·rw[aqp]at o;subst o;rfl
   obtain⟨z,J,g2⟩:=I;rw[P h H (aqk J)]at y;simp at y
 |sD d f k=>intro V rs A c a;exact Fx g i p d f k (by omega) Hb a
 |pA d f k=>intro V rs A c a;exact Fx g i p d f k (by omega) Ew a
 |aL S K f k=>intro V rs A c a;exact Ha g i p K.1 f k a
 |reset d l=>intro V rs A c a;exact Ev g i p d l a
 |call z L w b f l ac e d h j=>intro V rs A c a;exact Hc g L f l d (sL i h) (λA c a=>j A c a) a
 |lN w b U k2 e cB f l M N d O h j=>intro V rs A c a;exact Hd f l M N d O (sL i h) (λA c a=>j A c a) a
theorem JO(hW:Wd T F G My az aj)(N:lP Sub)(hD:u4 T F G My az Sub){H:Sc}{x:List Va}{I:Nat}{s:Sc}{w:List Va}{n:Nat}{q:List ay}{p:List Va}(h:GL (GQ Sub aj) H x I s w n q p):
  ∀{V:Nm->Prop} {rs:Rs} (A:Env) (c:Nat),QX T G A V rs H x I n q c p-> ∃E t,x=t++w/\QD T F My az A E V rs H t I n q c p/\lc T E V s E.length/\s.all=H.all:=by
 have U: ∀s S n J O p,GQ Sub aj s S n J O p->n<=J/\yE S n J O p:= λs S n J O p h=>⟨sL N h,BE N h⟩
 induction h with
 |start=>
  intro V rs A c f;exact⟨A,[],rfl,⟨a_.refl A,⟨λv b=>(by cases b),λd h=> .inl h⟩,λv b=>(by cases b),λu _ _ q i h=>(At.nil h).elim,λu _ q i M h=>(At.nil h).elim⟩,f.x,rfl⟩
 | @step s w n n1 q p q1 To h D h1 h3 hk X ih=>
  intro V rs A c f;obtain⟨y,qT,i2,i3⟩:=BF U h;obtain⟨z,j3⟩:=U _ _ _ _ _ _ X;obtain⟨E,t,g1,r,Y,Z⟩:=ih (V:=V) (rs:=rs) A c ⟨f.m,f.x,f.o,f.nd,λv b=>f.vv v (aqq _ b),λd m g=>by
    obtain⟨v,b,e⟩:=f.vb d m (g.mono (aqd _) z);rcases aql.1 b with a|a
    ·exact⟨v,a,e⟩
    ·exact(g.not (e▸(j3.v v a).gt)).elim,λd g=>f.f d (g.mono (aqd _) z),λd m g=>f.ob d m (g.mono (aqd _) z),λq i k=>f.sq q i (At.app.2 (.inl k)),λq i k=>f.sb q i (At.app.2 (.inl k))⟩
  have K:x=t++(w.take D++w.drop D):=by rw[arw];exact g1
  have L: ∀v∈w.take D,v∈x:= λv b=>by rw[K];exact aqt _ (aqq _ b)
  have ac: ∀v∈t,v∈x:= λv b=>by rw[K];exact aqq _ b
  have R:=f.nd;rw[K,aqO,aqO,aq8]at R;have M9: ∀d,get A d=none-> ¬eI t d-> ¬fV I n d->get E d=none:= λd a1 a2 a3=>by
   cases hg:get E d with
   |none=>rfl
   |some e=>
    rcases r.o.Eu d (by rw[hg];simp)with a|a|a
    ·exact(a a1).elim
    ·exact(a2 a).elim
    ·exact(a3 a).elim
  obtain⟨E2,j⟩:=JN hW N hD X (V:=V) (rs:=rs) E (c+zw q) ⟨f.m,Y,λv b=>by
    obtain⟨P,Q,o3,o4⟩:=f.o v (L v b);refine⟨P,Q,o3,M9 _ o4 ?_ (λg=>f.ob _ ⟨v,L v b,rfl⟩ (g.mono (aqd _) z))⟩;rintro⟨l,o,e⟩;exact R.2.2 _ (aqU o) _ (aqq _ (aqU b)) e,
   (aq8.1 R.2.1).1,λv b=>f.vv v (aqt _ b),λd m g=>by
    obtain⟨v,b,e⟩:=f.vb d m (g.mono y (aqd _));rcases aql.1 b with a|a
    ·exact((e▸i3.v v a).not g.gt).elim
    ·exact⟨v,a,e⟩,λd g=>M9 d (f.f d (g.mono y (aqd _))) (λ⟨l,o,e⟩=>f.ob d ⟨l,ac l o,e⟩ (g.mono y (aqd _))) (λOm=>Om.not g.gt),λd m g=>by
    obtain⟨l,o,e⟩:=m;exact f.ob d ⟨l,L l o,e⟩ (g.mono y (aqd _)),λq i k=>f.sq q i (At.app.2 (.inr k)),λq i k=>f.sb q i (At.app.2 (.inr k))⟩
  refine⟨E2,t++w.take D,by rw[aqD];exact K,⟨r.x.trans j.x,⟨λv b=> ?_,λd m=> ?_⟩,λv b=> ?_,λu B hA C i k=> ?_,λu B C i M k SM=> ?_⟩,?_,Z⟩
  ·rcases aql.1 b with a|a
   ·exact(r.o.o v a).mono j.x (aqd _)
   ·exact(j.o.o v a).mono (a_.refl _) r.x.len
  ·rcases j.o.Eu d m with a|⟨l,o,e⟩|a
   ·rcases r.o.Eu d a with a|⟨l,o,e⟩|a
    ·exact .inl a
    ·exact .inr (.inl ⟨l,aqq _ o,e⟩)
    ·exact .inr (.inr (a.mono (aqd _) z))
   ·exact .inr (.inl ⟨l,aqt _ o,e⟩)
   ·exact .inr (.inr (a.mono y (aqd _)))
  ·rcases aql.1 b with a|a
   ·exact(r.v v a).ext j.x
   ·exact j.v v a
  ·rcases At.app.1 k with a|a
   ·exact r.q u (j.x.trans B) hA C i a
   ·exact j.q u B (λv b hc=>hA v (Z▸b) hc) C i a
  ·rcases At.app.1 k with a|a
   ·exact r.b u (j.x.trans B) C i M a SM
   ·exact j.b u B C i M a SM
  ·exact(Y.ext j.x j.x.len).more λv b=>by
    obtain⟨P,Q,o3,o4⟩:=f.o v (L v b);obtain⟨k1,k2⟩:=(j.o.o v b).kn (aqd _);exact⟨Q.1,λ_=>⟨P,k1,k2⟩⟩
theorem pR: ∀{l r:List Va} {v:Va},v∈eP l r->v∈l\/v∈r/\v.last=true
 |l,[],v,a=> .inl a
 |l,c::r,v,a=>by
  unfold eP at a;rcases pR a with b|b
  ·grind
  ·grind
theorem Lj{n m:Nat}{c:List Va}(h:NV n c m): ∀v∈c,v.clock=none:=by
 induction h with
 |nil=>intro v a;cases a
 |snoc h e f g i d=>
  intro v a;rcases aql.1 a with b|b
  ·exact d v b
  ·grind
theorem yG{s:Sc}{outs:List Va}{n n':Nat}{l:List ay}{g:List Va}(h:GQ Sub aj s outs n n' l g): ∀v∈g,v.last=false:=by
 induction h with
 |rz h=>intro v a;cases a
 |sD c d i=>intro v a;cases a
 |pA c d i=>intro v a;cases a
 |aL m q d i=>intro v a;cases a
 |reset c j=>intro v a;cases a
 |call o r k b d j y e c h f=>
  intro v a;rcases aqs.1 a with rfl|a
  ·rfl
  rcases aqs.1 a with rfl|a
  ·rfl
  ·exact f v a
 |lN k b p t e cB d j u w c x h f=>
  intro v a;rcases aqs.1 a with rfl|a
  ·rfl
  rcases aqs.1 a with rfl|a
  ·rfl
  rcases aqs.1 a with rfl|a
  ·rfl
  ·exact f v a
theorem C4{Q:Sc->List Va->Nat->Nat->List ay->List Va->Prop}(o: ∀s k n d e a,Q s k n d e a-> ∀v∈a,v.last=false){f:Sc}{g:List Va}{i:Nat}{s:Sc}{l:List Va}{n:Nat}{q:List ay}{a:List Va}(h:GL Q f g i s l n q a): ∀v∈a,v.last=false:=by
 induction h with
 |start=>intro v b;cases b
 |step h m p r t u j=>
  intro v b;rcases aql.1 b with c|c
  ·exact j v c
  ·grind
theorem C5(hW:Wd T F G My az aj)(O:lP Sub)(hD:u4 T F G My az Sub):u4 T F G My az (CO (GQ Sub aj)):=by
 rintro u i M A b ⟨f,Z,s',ac,k,h1,h2,P,rfl⟩ y rs z co hm h H N4 Q hf Nu;obtain⟨B,C,a3⟩:=BG h1;obtain⟨R,dn,b2,b3⟩:=BF (λu i M A qs f l=>⟨sL O l,BE O l⟩) P;rw[aqC]at b2;subst b2;have Qx:=Lj h1;have O5: ∀v∈f++k,fV M A v.name:= λv c=>by
  rcases aql.1 c with a|a
  ·exact(C v a).mono (aqd _) R
  ·exact(b3.v v a).mono B (aqd _)
 have d9: ∀d,eI i d-> ∀v∈f++k,v.name≠d:=by
  rintro d ⟨g,hw,rfl⟩ v c e;exact Q _ (H g hw).1 (e▸O5 v c)
 have XA:((f++i).map (·.name)).Nodup:=by
  rw[aqO,aq8];refine⟨a3,N4,λd h f7 hy e=> ?_⟩;subst e;obtain⟨v,D,e1⟩:=aqM.1 h;obtain⟨g,I,e2⟩:=aqM.1 hy;exact d9 d ⟨g,I,e2⟩ v (aqq _ D) e1
 have Nx: ∀d,eI (f++i) d-> ¬fV Z A d:=by
  rintro d ⟨v,c,rfl⟩ n;rcases aql.1 c with a|a
  ·exact(C v a).not n.gt
  ·exact Q _ (H v a).1 (n.mono B (aqd _))
 cases Nu with
 |mk S sq sb=>
 have J: ∀v∈f++k,G9 T v:= λv c=>by
  obtain⟨w,E⟩:=aqG.1 c;obtain⟨D,I,U⟩:=S w v E;exact⟨D,I,λl=>(U l).2⟩
 have K: ∀v∈f++i,(z v.name\/ ∃g∈f++k,g.name=v.name)/\G9 T v/\v.clock=none/\get y v.name=none:= λv c=>by
  rcases aql.1 c with a|a
  ·exact⟨.inr ⟨v,aqq _ a,rfl⟩,J v (aqq _ a),Qx v a,hf _ ((C v a).mono (aqd _) R)⟩
  ·obtain⟨V,o2⟩:=H v a;exact⟨.inl V,o2⟩
 have ZA:lc T y (λd=>z d\/ ∃g∈f++k,g.name=d) (Iu u f i) y.length:=by
  have NK:=h.rF (V':= λd=>z d\/ ∃g∈f++k,g.name=d) (λd l=> .inl l);refine⟨⟨h.t.1,λv c=> ?_,λv c=> ?_⟩,NK.wD,λv c=> ?_⟩
  ·rcases aql.1 c with a|a
   ·rcases aql.1 a with a|a
    ·exact h.t.1 v a
    ·exact(J v (aqq _ a)).1
   ·exact(H v a).2.1.1
  ·rcases pR c with a|⟨a,_⟩
   ·exact h.t.2.2 v a
   ·exact(K v a).2.1.1
  ·rcases pR c with a|⟨a,gl⟩
   ·exact NK.uX v a
   ·obtain⟨V,⟨o2,o3,o4⟩,_⟩:=K v a;exact⟨V,by rw[o3];exact gl,o4 gl⟩
 have hX:QX T G y (λd=>z d\/ ∃g∈f++k,g.name=d) rs (Iu u f i) (f++i) Z A ac (co+Sm.aR ((f++k).map dW)) k:=by
  refine⟨hm,ZA,K,XA,λv c=>⟨.inr ⟨v,aqt _ c,rfl⟩,J v (aqt _ c)⟩,λd h n=> ?_,λd n=>hf d (n.mono B (aqd _)),Nx,λo p X=> ?_,λo p X d6 N Y=> ?_⟩
  ·rcases h with h|⟨v,c,e⟩
   ·exact(Q d h (n.mono B (aqd _))).elim
   ·rcases aql.1 c with a|a
    ·exact((C v a).not (e▸n.gt)).elim
    ·exact⟨v,a,e⟩
  ·obtain⟨m,q,s⟩:=X;exact sq m o p q s
  ·obtain⟨m,q,s⟩:=X;exact sb m o p d6 N q s Y
 obtain⟨d7,dn,c1,j,c3,c4⟩:=JO hW O hD P y _ hX;rw[aqC]at c1;subst c1;refine⟨d7,j.x,⟨λv c=>j.o.o v (aqt _ c),λd h=> ?_⟩,λx t=> ?_⟩
 ·rcases j.o.Eu d h with a|⟨v,c,e⟩|a
  ·exact .inl a
  ·rcases aql.1 c with a|a
   ·exact .inr (.inr (e▸(C v a).mono (aqd _) R))
   ·exact .inr (.inl ⟨v,a,e⟩)
  ·exact .inr (.inr (a.mono B (aqd _)))
 have f4:qo x (λd=>z d\/ ∃g∈f++k,g.name=d) (Iu u f i) (x.length+1):= λv c hc=>by
  have Pd:=j.x.trans t;have da:v∈u.ready\/v∈f++i:=by
   rcases aql.1 c with a|a
   ·rcases aql.1 a with a|a
    ·exact .inl a
    ·exact .inr (aqq _ a)
   ·exact .inr (aqt _ a)
  rcases da with a|a
  ·exact(ZA.ext Pd (r':=x.length+1) (by have:=Pd.len;omega)).wD v a hc
  ·obtain⟨k1,k2⟩:=((j.o.o v a).mono t (aqd _)).kn (r:=x.length+1) (by omega);exact⟨(K v a).1,k1,k2⟩
 refine .mk (λv c=> ?_) (λw v E L=> ?_) (λm o p q s=> ?_) (λm o p N q s Y=> ?_)
 ·obtain⟨s1,s2,_⟩:=J v c;refine⟨s1,s2,?_⟩;rcases aql.1 c with a|a
  ·obtain⟨d8,sb,w,D,I,U,g4⟩:=(j.o.o v (aqq _ a)).mono t (aqd _);exact⟨some d8,sb,w,D,U,by rw[Qx v a];rfl⟩
  ·exact(j.v v a).ext t
 ·refine⟨((S w v E).2.2 L).1,((S w v E).2.2 L).2,?_⟩;rcases aql.1 (aqk E)with a|a
  ·exact(((j.o.o v (aqq _ a)).mono t (aqd _)).kn (aqd _)).2
  ·rw[C4 (λu i M A qs f l=>yG l) P v a]at L;cases L
 ·exact j.q x t f4 o p ⟨m,q,s⟩
 ·exact j.b x t o p N ⟨m,q,s⟩ Y
theorem Fy(b:Wd T F G My az aj): ∀d,u4 T F G My az (GB aj d)
 |0=>C5 b ⟨λ_ _ _ _ _ a=>a.elim,λ_ _ _ _ _ a=>a.elim⟩ (λ_ _ _ _ _ a=>a.elim)
 |d+1=>C5 b (BH aj d) (Fy b d)
end
end Go.Ex
