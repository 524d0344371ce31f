/- A part of the proof of the last text of this claim, without conditions. -/
import Derived.Test.YtjbigbaipmiihaaGreatE
set_option maxRecDepth 4000
set_option linter.all false
namespace Go.Proofs.Sz
open Go.Mt Go.Sm Go.Proofs
section
variable{P:Pg}{n:Nat}{c:aH}{d:Nd}{u:US}{X:aq}{H:Hp}
def Ic(c:aH)(σ:Path×Nat)(lp:Option Nat)(z:Int)(x:Nm):Option (Path×Nat)->Prop
 |none=> ∃p,lp=some p/\p<c.sz/\z=c.rd p
 |some τ=>c.find τ.1 x=some σ/\ ∃q,(c.fr τ.1).au[τ.2]?=some q/\(q.kd=1->q.lhs= [x]/\z=c.ev τ.1 τ.2)/\(q.kd=2->x∈q.lhs/\c.nu τ.1 q)
def qV(c:aH)(Y:aq)(s:Option (Path×Nat)):Prop:= ∀τ q,s=some τ->(c.fr τ.1).au[τ.2]?=some q->Y.fs τ.1=2/\(q.kd=1-> ∀w∈c.ew τ.1 τ.2,Y.SS c w.1 w.2)/\(q.kd=2->Y.dn τ.1 τ.2=true)
structure wu(c:aH)(X:aq)(r:Nat)(σ:Path×Nat):Prop where
 c1: ∀J k,X.cs J k=1->(J,k)=σ\/r<c.sb J k
 s1:r<=c.sb σ.1 σ.2
 f1: ∀j J,X.fs (j::J)=1->r<c.ek J j
 c4: ∀J k,X.cs J k<=3
 tp:r<c.eV
def CE(P:Pg)(n:Nat)(c:aH)(d:Nd)(u:US)(r:Nat):Prop:= ∀(X:aq) (H:Hp),cL P n c d u X H-> ∀B,X.T c+B<=1000000000000-> ∀(J:Path) (j:Nat) (q:ay) (x:Nm) (s:Option (Path×Nat)) (σ:Path×Nat) (v:Va) (lp:Option Nat) (z:Int),wu c X r σ->X.fs J=2->(c.fr J).au[j]?=some q->Src c r J j x s->X.fs σ.1=2->X.cs σ.1 σ.2=1->(σ.1= []->d.ins.length<=σ.2)->(c.fr σ.1).vars[σ.2]?=some v->v.name=x->(c.fr σ.1).db[σ.2]?=some lp->c.val σ.1 σ.2=some z->Ic c σ lp z x s->(∀τ q,s=some τ->(c.fr τ.1).au[τ.2]?=some q->q.kd=1->(c.ew τ.1 τ.2).length<=B)->
 DT Tryz.prog 66 [.ref (X.A .it) 0,.ref (X.A (.fr J)) 0,.ref (X.A (.pl J j)) 0,.ref (X.A (.ce σ.1 σ.2)) 0] H λm K=>m= .d (.int .i32 z)/\ ∃Y,cL P n c d u Y K/\a_ c (·=σ) X H Y K/\Y.T c<=X.T c+B/\(Y.cs σ.1 σ.2=1\/Y.cs σ.1 σ.2=4)/\qV c Y s
theorem a_.Fj{E:Path×Nat->Prop}{Y Z:aq}{K L:Hp}{s:Option (Path×Nat)}(h:a_ c E Y K Z L)(k:qV c Y s):qV c Z s:= λa b e d=>⟨h.f2 _ (k a b e d).1,λf g i=>h.SS _ _ ((k a b e d).2.1 f g i),λf=>h.dn _ _ ((k a b e d).2.2 f)⟩
theorem GF{ins outs:List Int}{u':US}(ac:mX P n c d u)(hC:gX P (fT P n) c d u ins outs u'){r:Nat}(hV: ∀r'<r,et P n c d u r')(hD: ∀r'<r,CE P n c d u r'):et P n c d u r:=by
 intro X H A hT K J i8 σ hf Pe hr;have f:=A.lay;obtain⟨Nt,v,y,eq,l,RO,q,Nz,RI⟩:=k9 A hf Pe;have m:σ.2<(c.fr σ.1).vars.length:=by
  rcases aqh σ.2 (c.fr σ.1).vars.length with f|f
  ·exact f
  ·rw[aqj f]at l;cases l
 have N9:X.live c (.ce σ.1 σ.2):=⟨Nt,m⟩;have Pm:=Pu.ok ac A.pu Nt;have Qu:=f.grow [Ob.box [.ref (X.A .it) 0]];have NQ:=oU Qu A.pu ac.sz J hf i8;have Q5:X.fU c J i8= .ref (X.A (.ce σ.1 σ.2)) 0:=by unfold aq.fU;rw[Pe]
 rw[Q5]at NQ;have M9:=qg f;have Qn:(H++ [Ob.box [.ref (X.A .it) 0]]++ [Ob.box [.ref (X.A (.ce σ.1 σ.2)) 0]])[H.length]?=some (Ob.box [.ref (X.A .it) 0]):=by simp
 have L:(H++ [Ob.box [.ref (X.A .it) 0]]++ [Ob.box [.ref (X.A (.ce σ.1 σ.2)) 0]])[(H++ [Ob.box [M.ref (X.A .it) 0]]).length]?=some (Ob.box [.ref (X.A (.ce σ.1 σ.2)) 0]):=by simp
 have M_:=Qu.grow [Ob.box [.ref (X.A (.ce σ.1 σ.2)) 0]];have OG:=(a_.grow c (λ_=>False) X H [Ob.box [.ref (X.A .it) 0]]).trans (a_.grow c (λ_=>False) X _ [Ob.box [.ref (X.A (.ce σ.1 σ.2)) 0]]);have G:=bp (T:=[Ob.box [.ref (X.A (.ce σ.1 σ.2)) 0]]) (bp (T:=[Ob.box [.ref (X.A .it) 0]]) Nz);obtain⟨w,mt⟩: ∃b,b=H.length:=⟨_,rfl⟩;obtain⟨j,f8⟩: ∃b,b=(H++ [Ob.box [M.ref (X.A .it) 0]]).length:=⟨_,rfl⟩;refine DT.ob Tryz.func45 W Tryz.ntmps45 W<|dO [2,7] W<|Mu (cA W W W)<|dR [2,16] W<|Mu (ap NQ W W)<|dR [12] W<|Mu (vq W)<|dR [999] W<|Mu (bX W W (tY _ _) W W W)<|dL [] W ?_;have V0: ∀(z:Hp) (ob NH:Ob),(z++ [ob]).set z.length NH=z++ [NH]:= λz ob NH=>by rw[arq _ _ (aqd _),asr];rfl
 refine MG [nR 3 w,nR 8 j] (H++ [Ob.box [.ref (X.A .it) 0]]++ [Ob.box [.ref (X.A (.ce σ.1 σ.2)) 0]]) (kc (by rw[mt];rfl) (kc (by rw[f8];rfl) W)) (V0 _ _ _) ?_;rw[<-mt]at Qn;rw[<-f8]at L;generalize hK:H++ [Ob.box [M.ref (X.A .it) 0]]++ [Ob.box [M.ref (X.A (.ce σ.1 σ.2)) 0]]=z at Qn L M_ OG G⊢;have pm:X.box z w (.ref (X.A .it) 0):=⟨(M9 _ (by omega)),Qn⟩;have qr:X.box z j (.ref (X.A (.ce σ.1 σ.2)) 0):=⟨(M9 _ (by rw[f8];simp)),L⟩;refine dO [2,17] W<|Mu (aw W W L W)<|dR [18] W<|Mu (lG (by kernel_rfl) W W W W W)<|dL [0] W ?_;have Yy:=K.c4 σ.1 σ.2;have Eq:X.cs σ.1 σ.2≠1:= λe=>by
  have B:=K.c1 _ _ e;have h2:σ.1= []->d.ins.length<=σ.2:= λZ=>by
   rcases aqh σ.2 d.ins.length with hl|hl
   ·have:=A.pu.ci _ hl;rw[<-Z,e]at this;cases this
   ·exact hl
  have h3:=(hC.cell σ.1 σ.2 v y Pm l q h2).sr;unfold aH.mV at hr;omega
 have Qp:X.cs σ.1 σ.2=2\/X.cs σ.1 σ.2=3\/X.cs σ.1 σ.2=0:=by omega
 rcases Qp with h|h|h
 ·rw[h]at G;refine dO [2,22] W<|Mu (aw W W L W)<|dR [25] W<|Mu (aw W W G W)<|dR [3,2,0,2,1,2,33] W<|Mu (aw W W L W)<|dR [36] W<|Mu (aw W W G W)<|dL [] W<|DC.ret ⟨_,rfl,by rw[A.pu.cv σ.1 σ.2 (by rw[h];rfl)];rfl,X,cM.pre OG (cM.same M_ A.pu),.inl h⟩
 ·rw[h]at G;have rg:=A.pu.ca σ.1 σ.2 h;have f9:c.get σ=0:=by unfold aH.get;rw[rg];rfl
  refine dO [2,22] W<|Mu (aw W W L W)<|dR [25] W<|Mu (aw W W G W)<|dL [3,2,0,2,0,2,1,2] W<|DC.ret ⟨_,rfl,by rw[rg,f9];rfl,X,cM.pre OG (cM.same M_ A.pu),.inr h⟩
 have N:σ.1= []->d.ins.length<=σ.2:= λZ=>by
  rcases aqh σ.2 d.ins.length with hl|hl
  ·have:=A.pu.ci _ hl;rw[<-Z,h]at this;cases this
  ·exact hl
 have U0:=hC.cell σ.1 σ.2 v y Pm l q N;have TO:c.sb σ.1 σ.2<r:=by have:=U0.sr;unfold aH.mV at hr;omega
 have rt:=hC.wc σ.1 σ.2 v Pm l N;rw[h]at G;refine dO [2,22] W<|Mu (aw W W L W)<|dR [25] W<|Mu (aw W W G W)<|dL [] W<|Ny (λMJ=>MJ=⟨[nR 3 w,nR 8 j],[],z⟩) ?_ ?_
 ·refine dC [3,2,0,2,0,2,0] W<|⟨_,rfl,cF W W⟩
 rintro _ rfl;have UZ: ∀(J:Path) (o:Nat) (i:ay),σ=(o::J,0)->(c.fr J).au[o]?=some i->i.kd=2->False:= λJ o i e C M'=>by
  subst e;obtain⟨_,q',MO,Nw⟩:=hC.iG o J Pm;rw[C]at MO;injection MO with MO;subst MO;omega
 have W3:=M_.cH (σ:=σ) 1 Nt l q RI;have OM:=a_.cH M_ (s:=1) N9 (Ob.box (cV v y eq (X.A (.fr σ.1)) (mW 1) (if zB 1 then c.get (σ.1,σ.2)else 0))) (λe=>by rw[h]at e;cases e) (λe=>by rw[h]at e;cases e) (by decide);have Fd:=Ib (c:=c) (X:=X) (σ:=σ) (s:=1) (by decide) h rt.1;refine dO [2,39] W<|Mu (aw W W L W)<|dR [999] W<|Mu (bX W W G W W W)<|dL [] W<|MG [nR 3 w,nR 8 j] (z.set (X.A (.ce σ.1 σ.2)) (Ob.box (cV v y eq (X.A (.fr σ.1)) (mW 1) (if zB 1 then c.get (σ.1,σ.2)else 0)))) W W ?_;have W4:(z.set (X.A (.ce σ.1 σ.2)) (Ob.box (cV v y eq (X.A (.fr σ.1)) (mW 1) (if zB 1 then c.get (σ.1,σ.2)else 0))))[X.A (.ce σ.1 σ.2)]?=some (Ob.box (cV v y eq (X.A (.fr σ.1)) (mW 1) (if zB 1 then c.get (σ.1,σ.2)else 0))):=ga G _;have d9:=OM.box pm;have Zh:=OM.box qr;generalize z.set (X.A (.ce σ.1 σ.2)) (Ob.box (cV v y eq (X.A (.fr σ.1)) (mW 1) (if zB 1 then c.get (σ.1,σ.2)else 0)))=K1 at W3 OM d9 Zh W4⊢;have Zi:k7 c (X.cH σ 1) (c.sb σ.1 σ.2):=by
  refine⟨λJ Y e=> ?_,λo J e=> ?_,λJ Y=> ?_,?_⟩
  ·by_cases O:(J,Y)=σ
   ·subst O;exact aqd _
   ·rw[bC X O]at e;have:=K.c1 _ _ e;omega
  ·have:=K.f1 o J e;omega
  ·by_cases O:(J,Y)=σ
   ·subst O;rw[b8 X (J,Y) 1];omega
   ·rw[bC X O];exact K.c4 _ _
  ·have:=K.tp;omega
 obtain⟨m2,K2,⟨rfl,Y2,N'⟩,QR⟩:=sj ac (hV _ TO) (ac.cl _ _ v Pm l) U0.pr ⟨W3,(A.pu.cH (by omega) N (λe=>by cases e) (λe=>by cases e) (λe=>by rw[h]at e;cases e) (λe=>by rw[h]at e;omega) (λe=>by cases e) (λe=>by omega) (λJ o i e C m=>(UZ J o i e C m).elim) (.inl ‹_›))⟩ (by omega) Zi Nt;have D:=N'.2.1;have rx:=OM.trans (D.mono λ_=>False.elim);have Yz:=(D.A (.ce σ.1 σ.2) N9).2;have YA:=(D.A (.fr σ.1) (by show 1<=X.fs σ.1;omega)).2;have O1:=D.f2 _ Nt;have W5:=(D.c1 σ.1 σ.2 (by simp)).1 (b8 X σ 1);have co:=D.box Zh;obtain⟨Fn,XX,PD,UB,YB⟩:=N'.1.lay.cell O1 l;rw[q]at PD;injection PD with PD
 subst PD;rw[Yz,YA,W5]at UB;have Zg:=N'.2.2.1;cases x:c.val σ.1 σ.2 with
 |none=>
  rw[x]at QR;refine dC [] W ?_;apply Mz bT
  ·intro s0 Oo;refine av W W d9.2 W<|av W W Zh.2 W<|fR 2 W<|av W W W4 W<|av W W Zh.2 W<|fR 3 W<|av W W W4 W<|bm QR W W<|fR 1 W<|TF.nil ⟨by kernel_rfl,rfl⟩
  refine dO [1,2,54] W<|Mu (aw W W co.2 W)<|dR [999] W<|Mu (bX W W UB W W W)<|dL [2] W ?_;have R4:=N'.1.lay.cH (σ:=σ) 3 O1 l q YB;have Q:=a_.cH N'.1.lay (s:=3) (σ:=σ) ⟨O1,m⟩ (Ob.box (cV v y XX (Y2.A (.fr σ.1)) (mW 3) (if zB 3 then c.get (σ.1,σ.2)else 0))) (λe=>by rw[W5]at e;cases e) (λe=>rfl) (by decide);rw[Yz,YA]at R4 Q;have TM:=qU (c:=c) (X:=Y2) (σ:=σ) (s:=3) (by decide);have f9:c.get σ=0:=by unfold aH.get;rw[x];rfl
  refine DC.ret ⟨_,rfl,by rw[f9,x];rfl,Y2.cH σ 3,⟨⟨R4,(N'.1.pu.cH (by omega) N (λe=>by cases e) (λ_=>x) (λe=>by rw[W5]at e;cases e) (λe=>by rw[W5]at e;omega) (λe=>by cases e) (λe=>by omega) (λJ o i e C m=>(UZ J o i e C m).elim) (.inl ‹_›))⟩,?_,by omega,by intro p t;cases t⟩,.inr (b8 _ _ _)⟩;exact OG.trans (a_.close (rx.trans Q) (by rw[h,b8];omega) (λs hs=>by rw[h,b8];omega) (by rw[h];decide))
 |some d8=>
  rw[x]at QR;obtain⟨j0,s,Sk,S7,hs⟩:=U0.df d8 x;obtain⟨Ze,⟨q0,O7,Fr⟩,_⟩:=id Sk;have t4:=YB j0 Sk;subst t4;have S8:wu c Y2 (c.sb σ.1 σ.2) σ:=by
   have:=Zi.next D;refine⟨λJ Y e=> ?_,aqd _,λo J e=> ?_,this.c4,by have:=K.tp;omega⟩
   ·by_cases O:(J,Y)=σ
    ·exact .inl O
    ·have B:=(D.c1 J Y (by simp)).2 e;rw[bC X O]at B;have:=K.c1 _ _ B;exact .inr (by omega)
   have:=K.f1 o J ((D.f1 _).2 e);omega
  obtain⟨m3,K3,⟨rfl,Y3,W6,Q,TM,SD,W7⟩,Sb⟩:=hD _ TO Y2 K2 N'.1 (c.wt (.cell σ.1 σ.2)-1) (by omega) σ.1 j0 q0 v.name s σ v y d8 S8 O1 O7 S7 O1 W5 N l W q x (by cases s<;>exact hs) (λτ i e C P8=>by
   subst e;have:=rt.2.2 j0 τ.1 τ.2 i Sk S7 C P8;omega)
  rw[(D.A .it trivial).2,YA,Yz]at Sb;have t1:=rx.trans Q;have d6:=Q.box co;have gc:Y3.A (.ce σ.1 σ.2)=X.A (.ce σ.1 σ.2):=((Q.A (.ce σ.1 σ.2) ⟨O1,m⟩).2).trans Yz;have t2:=((Q.A (.fr σ.1) (by show 1<=Y2.fs σ.1;omega)).2).trans YA;have Wk:=Q.f2 _ O1;obtain⟨FS,t5,YC,S9,t6⟩:=W6.lay.cell Wk l;rw[q]at YC;injection YC with YC
  subst YC;have W2:c.get (σ.1,σ.2)=d8:=by unfold aH.get;rw[x];rfl
  rw[gc,t2]at S9;refine dC [] W ?_;apply Mz bT
  ·intro s0 Oo;refine av W W d9.2 W<|av W W Zh.2 W<|fR 2 W<|av W W W4 W<|av W W Zh.2 W<|fR 3 W<|av W W W4 W<|bm QR W W<|fR 1 W<|TF.nil ⟨by kernel_rfl,rfl⟩
  refine dC [0] W ?_;apply Mz bT
  ·intro s0 Oo;refine av W W (D.box d9).2 W<|av W W co.2 W<|fR 2 W<|av W W UB W<|av W W co.2 W<|fR 2 W<|av W W UB W<|av W W co.2 W<|bm Sb W W<|fR 1 W<|TF.nil ⟨by kernel_rfl,rfl⟩
  have Vv: ∀(I:aq),qV c I s-> ∀j1 v1 ML j' i,(c.fr σ.1).vars[σ.2]?=some v1->jB (c.fr σ.1) σ.2 v1 j1->Src c (c.sb σ.1 σ.2) σ.1 j1 v1.name (some (ML,j'))->(c.fr ML).au[j']?=some i->I.fs ML=2/\(i.kd=1-> ∀i9∈c.ew ML j',I.SS c i9.1 i9.2)/\(i.kd=2->I.dn ML j'=true):=by
   intro I hY j1 v1 ML j' i B h2 h3 h4;rw[l]at B;injection B with B
   subst B;obtain rfl:=Sk.tt h2;have e:=S7.tt h3;exact hY (ML,j') i e h4
  refine dO [2,68] W<|Mu (aw W W d6.2 W)<|dR [71] W<|Mu (aw W W S9 W)<|dL [] W<|Ny (λMJ=> ∃a g,cL P n c d u a g/\a_ c (·=σ) X z a g/\a.T c+1<=X.T c/\a.cs σ.1 σ.2=4/\qV c a s/\MJ=⟨[nR 3 w,nR 8 j],[],g⟩) ?_ ?_
  ·rcases SD with e|e
   ·rw[e]at S9;refine DC.cond W (λhc=> ?_) (λhc=>by rw[e]at hc;cases hc);have ge:X.A (.ce σ.1 σ.2)≠j:=by intro e8;have:=W6.lay.own (.ce σ.1 σ.2) ⟨Wk,m⟩;rw[gc,e8,d6.1]at this;cases this
    refine dC [] W ?_;apply NT (λg=>g[j]?=some (Ob.box [.ref (X.A (.ce σ.1 σ.2)) 0])) (d6.2) bT
    ·intro s0 Oo;refine MK W W (λg f=>⟨_,f,rfl⟩)<|MK W W (λg f=>⟨_,f,rfl⟩)<|iR 3 W ?_;apply MF
     ·skip
      refine fh W W S9 W W W<|TF.nil ⟨rfl,rfl⟩
     refine iR 2 W ?_;apply MF
     ·skip
      refine fh W W (ga S9 _) W W W<|TF.nil ⟨rfl,rfl⟩
     exact iT.nil ⟨by kernel_rfl,by repeat' first|exact trivial|exact .inl ((by first|exact fB d6.2 ge|exact fB (fB d6.2 ge) ge))|exact .inr (by kernel_rfl)|refine⟨?_,?_⟩,rfl⟩
    have Uo:=W6.lay.cH (σ:=σ) 4 Wk l q t6;have XY:=a_.cH W6.lay (s:=4) (σ:=σ) ⟨Wk,m⟩ (Ob.box (cV v y t5 (Y3.A (.fr σ.1)) (mW 4) (if zB 4 then c.get (σ.1,σ.2)else 0))) (λf=>by rw[e]at f;cases f) (λf=>by rw[e]at f;cases f) (by decide);rw[gc,t2]at Uo XY;have GT:=qU (c:=c) (X:=Y3) (σ:=σ) (s:=4) (by decide);exact⟨_,⟨_,_,⟨Uo,(W6.pu.cH (by omega) N (λ_=>by rw[x];rfl) (λe=>by cases e) (λ_=>rfl) (λ_=> .inr W) (λe=>by cases e) (λ_=>Vv Y3 W7) (λJ o i e C m=>(UZ J o i e C m).elim) (.inl ‹_›))⟩,t1.trans XY,by omega,b8 _ _ _,XY.Fj W7,rfl⟩,cF (by rw[List.set_set,<-W2];rfl) W⟩
   ·refine DC.cond W (λhc=>by rw[e]at hc;cases hc) (λhc=> ?_);refine dC [] W<|⟨_,⟨_,_,W6,t1,by omega,e,W7,rfl⟩,cF W W⟩
  ·rintro _ ⟨a,g,R,S,U1,W8,t3,rfl⟩;have U:=S.box pm;have d7:=S.box qr;have i6:=(S.A (.ce σ.1 σ.2) N9).2;have S_:=(S.A .it trivial).2;have Po:=S.f2 _ Nt;obtain⟨Id,In,YD,UC,IO⟩:=R.lay.cell Po l;rw[q]at YD;injection YD with YD
   subst YD;have YE: ∀(k:aq) (E:Hp),a_ c (·=σ) X z k E->k.cs σ.1 σ.2=2->a_ c (λ_=>False) X H k E:= λk E hE e=>OG.trans (a_.close hE (by rw[h,e];omega) (λs hs=>by rw[h,e];omega) (by rw[h];decide))
   have OI: ∀(k:aq) (E:Hp),cL P n c d u k E->k.cs σ.1 σ.2=4->k.fs σ.1=2->qV c k s->(∀p,y=some p->k.S c p d8)->cL P n c d u (k.cH σ 2) E/\a_ c (·=σ) k E (k.cH σ 2) E:=by
    intro k E f4 e4 NM t7 t8;obtain⟨Wf,Vu,Q1,YF,t9⟩:=f4.lay.cell NM l;rw[q]at Q1;injection Q1 with Q1
    subst Q1;have B:=f4.lay.cH (σ:=σ) 2 NM l q t9;have h2:=a_.cH f4.lay (s:=2) (σ:=σ) ⟨NM,m⟩ (Ob.box (cV v y Vu (k.A (.fr σ.1)) (mW 2) (if zB 2 then c.get (σ.1,σ.2)else 0))) (λ_=>rfl) (λf=>by rw[e4]at f;cases f) (by decide);rw[e4]at YF;have h3:E.set (k.A (.ce σ.1 σ.2)) (Ob.box (cV v y Vu (k.A (.fr σ.1)) (mW 2) (if zB 2 then c.get (σ.1,σ.2)else 0)))=E:=Aa YF;rw[h3]at B h2;exact⟨⟨B,f4.pu.cH (by omega) N (λ_=>by rw[x];rfl) (λe=>by cases e) (λ_=>rfl) (λ_=> .inl W) (λ_ p v' t OP=>by rw[q]at t;injection t with t;rw[x]at OP;injection OP with OP;subst OP;exact .inl (t8 p t)) (λ_=>Vv k t7) (λJ o i e C m=>(UZ J o i e C m).elim) (.inl ‹_›)⟩,h2⟩
   rw[i6,(S.A (.fr σ.1) (by show 1<=X.fs σ.1;omega)).2,W8]at UC;cases y with
   |none=>
    obtain⟨i7,QT⟩:=OI a g R W8 Po t3 (λp t=>by cases t);have ut:=qU (c:=c) (X:=a) (σ:=σ) (s:=2) (by decide);refine dO [2,80] W<|Mu (aw W W d7.2 W)<|dR [83] W<|Mu (aw W W UC W)<|dR [0,2,95] W<|Mu (aw W W d7.2 W)<|dR [98] W<|Mu (aw W W UC W)<|dL [] W<|DC.ret ⟨_,rfl,by rw[x];rfl,_,⟨i7,YE _ _ (S.trans QT) (b8 _ _ _),by omega,by intro p t;cases t⟩,.inl (b8 _ _ _)⟩
   |some p=>
    refine dO [2,80] W<|Mu (aw W W d7.2 W)<|dR [83] W<|Mu (aw W W UC W)<|dR [84] W<|Mu (aN (aqI (aqe p)) W W W W)<|dL [1] W ?_;have Ri:a.ry c g (.fn 67 [.ref j 0,.ref w 0]) (.cell false σ):=⟨⟨Po,m⟩,j,w,rfl,by rw[i6];exact d7,by rw[S_];exact U⟩;obtain⟨XZ,Vw⟩:=oV R.lay Ri;obtain⟨W9,v6,LE⟩:=qf R.pu (p:=(.cell false σ,.fn 67 [.ref j 0,.ref w 0])) (⟨Po,m,by rw[W8];rfl,⟨p,ac.KU _ _ _ Pm q,q⟩,N⟩) (H:=g);obtain⟨i7,QT⟩:=OI _ _ ⟨XZ,W9⟩ W8 Po (Vw.Fj t3) (λp' t=>by injection t with t;subst t;exact v6 _ _ ⟨q,x⟩);have ut:=qU (c:=c) (X:=a.c7 g (.cell false σ,.fn 67 [.ref j 0,.ref w 0])) (σ:=σ) (s:=2) (by decide);obtain⟨LT,wd,YG,YH,_⟩:=XZ.cell (J:=σ.1) Po l;rw[q]at YG;injection YG with YG
    subst YG;have wn:(a.c7 g (.cell false σ,.fn 67 [.ref j 0,.ref w 0])).cs σ.1 σ.2=4:=W8;rw[((Vw.A (.ce σ.1 σ.2) ⟨Po,m⟩).2).trans i6,wn]at YH;have VO: ∀V,a.cY g (.fn 67 [.ref j 0,.ref w 0])=V->V[j]?=some (Ob.box [.ref (X.A (.ce σ.1 σ.2)) 0])/\(∃f7,V[X.A (.ce σ.1 σ.2)]?=some (.box (cV v (some p) wd f7 (mW 4) (if zB 4 then c.get (σ.1,σ.2)else 0))))/\ ∃I,cM P n c d u X H 0 [] I V/\(I.cs σ.1 σ.2=2\/I.cs σ.1 σ.2=3):=by
     rintro V rfl;exact⟨(Vw.box d7).2,⟨_,YH⟩,_,⟨i7,YE _ _ ((S.trans (Vw.mono λ_=>False.elim)).trans QT) (b8 _ _ _),by omega,by intro p t;cases t⟩,.inl (b8 _ _ _)⟩
    have F:=R.lay.inst;rw[S_]at F
    let Iv:M->Hp->Prop:= λs g=>g[w]?=some (Ob.box [.ref (X.A .it) 0])/\g[X.A .it]?=some (Ob.box [.ref (a.A .un) 0,.ref (a.A (.fr [])) 0,.d (.bool false),bG (a.A .af) a.vF a.F.length,s])
    have Ss: ∀V,a.cY g (.fn 67 [.ref j 0,.ref w 0])=V->V=a.cY g (.fn 67 [.ref j 0,.ref w 0]):= λ_ e=>e.symm
    by_cases hN:a.N= []
    ·have Z:bG (a.A .nx) a.vN a.N.length= .d (.sl []):=by simp[hN,bG]
     rw[Z]at F;refine dC [] W ?_;apply NT (Iv (.d (.sl []))) (⟨U.2,F⟩) bT
     ·intro s0 Oo;refine MK W W (λg f=>⟨_,f.1,rfl⟩)<|MK W W (λg f=>⟨_,f.1,rfl⟩)<|iR 2 W<|MK W W (λg f=>⟨_,f.2,rfl⟩) ?_;apply MF
      ·skip
       refine eD W W<|TF.nil ⟨rfl,rfl⟩
      apply MF
      ·skip
       refine dJ (cs:=[_]) W W W W W W<|TF.nil ⟨rfl,rfl⟩
      apply MF
      ·skip
       refine oJ true W W W (lu _ _) W W (by decide) (by decide)<|TF.nil ⟨rfl,rfl⟩
      refine iR 2 W ?_;apply MF
      ·skip
       refine fh W W (bp (bp F)) W W W<|TF.nil ⟨rfl,rfl⟩
      exact iT.nil ⟨by kernel_rfl,by repeat' first|exact trivial|exact .inl ((by first|exact⟨bp U.2,bp F⟩|exact⟨bp (bp U.2),bp (bp F)⟩))|exact .inr (by kernel_rfl)|refine⟨?_,?_⟩,rfl⟩
     refine MG [nR 8 j] _ W (Ss _ (by simp only[aq.cY,aqy hN,aqg,aqH,S_];rfl)) ?_;obtain⟨g1,⟨f7,g2⟩,g3⟩:=VO _ W;refine dO [2,95] W<|Mu (aw W W g1 W)<|dR [98] W<|Mu (aw W W g2 W)<|dL [] W<|DC.ret ⟨_,rfl,by rw[x];rfl,g3⟩
    ·have Z:bG (a.A .nx) a.vN a.N.length= .bB (a.A .nx) a.vN a.N.length:=by unfold bG;rw[aqo];intro e;exact hN (aq4 e)
     rw[Z]at F;have Sy:=uP R.lay hN;have Mr:=yd (c:=c) (X:=a) (by omega);have Do:a.A .nx≠w:=by intro e;have:=R.lay.own .nx hN;rw[e,U.1]at this;cases this
     have MW:a.A .nx≠X.A .it:=by rw[<-S_];exact R.lay.ne (r:= .nx) (r':= .it) hN trivial (by simp)
     refine dC [] W ?_;apply NT (Iv (.bB (a.A .nx) a.vN a.N.length)) (⟨U.2,F⟩) bT
     ·intro s0 Oo;refine MK W W (λg f=>⟨_,f.1,rfl⟩)<|MK W W (λg f=>⟨_,f.1,rfl⟩)<|iR 2 W<|MK W W (λg f=>⟨_,f.2,rfl⟩) ?_;apply MF
      ·skip
       refine eD W W<|TF.nil ⟨rfl,rfl⟩
      apply MF
      ·skip
       refine dJ (cs:=[_]) W W W W W W<|TF.nil ⟨rfl,rfl⟩
      apply MF
      ·skip
       refine oK W W W (lu _ _) (bp Sy) W (by omega) (by omega)<|TF.nil ⟨rfl,rfl⟩
      refine iR 2 W ?_;apply MF
      ·skip
       refine fh W W (fB (bp F) MW) W W W<|TF.nil ⟨rfl,rfl⟩
      exact iT.nil ⟨by kernel_rfl,by repeat' first|exact trivial|exact .inl ((by first|exact⟨bp U.2,bp F⟩|exact⟨fB (bp U.2) Do,fB (bp F) MW⟩))|exact .inr (by kernel_rfl)|refine⟨?_,?_⟩,rfl⟩
     refine MG [nR 8 j] _ W (Ss _ (by simp only[aq.cY,aqo hN,S_];rfl)) ?_;obtain⟨g1,⟨f7,g2⟩,g3⟩:=VO _ W;refine dO [2,95] W<|Mu (aw W W g1 W)<|dR [98] W<|Mu (aw W W g2 W)<|dL [] W<|DC.ret ⟨_,rfl,by rw[x];rfl,g3⟩
end
section
variable{P:Pg}{n:Nat}{c:aH}{d:Nd}{u:US}{X:aq}{H:Hp}
def Ab(P:Pg)(n:Nat)(c:aH)(d:Nd)(u:US)(r:Nat):Prop:= ∀(X:aq) (H:Hp),cL P n c d u X H->X.T c<=1000000000000-> ∀(J:Path) (j:Nat) (q:ay),X.fs J=2->(c.fr J).au[j]?=some q->q.kd=2->c.ek J j=r->c.nu J q->X.dn J j=false->X.cs (j::J) 0=0->k7 c X r-> ∀E:Path×Nat->Prop,(∀x∈q.lhs,∀τ,c.find J x=some τ->X.cs τ.1 τ.2=1->E τ)->
 DT Tryz.prog 62 [.ref (X.A .it) 0,.ref (X.A (.fr J)) 0,.ref (X.A (.pl J j)) 0] H λm K=> ∃Y,cL P n c d u Y K/\a_ c E X H Y K/\Y.T c<=X.T c/\Y.dn J j=true/\ ∀x∈q.lhs,∀τ,c.find J x=some τ->X.cs τ.1 τ.2=1->Y.cs τ.1 τ.2=4
def ye(P:Pg)(n:Nat)(c:aH)(d:Nd)(u:US)(r:Nat):Prop:= ∀(X:aq) (H:Hp),cL P n c d u X H->X.T c<=1000000000000-> ∀(J:Path) (j:Nat) (q:ay),X.fs J=2->(c.fr J).au[j]?=some q->(q.kd=3\/q.kd=4\/q.kd=5)->c.ek J j=r->X.fs (j::J)≠1->k7 c X r->
 DT Tryz.prog 63 [.ref (X.A .it) 0,.ref (X.A (.fr J)) 0,.ref (X.A (.pl J j)) 0] H λm K=> ∃Y,m= .ref (Y.A (.fr (j::J))) 0/\cM P n c d u X H 0 [] Y K/\Y.fs (j::J)=2
theorem wu.pre{r e:Nat}{σ:Path×Nat}(h:wu c X r σ)(j:e<=r):k7 c X e:=⟨λa d g=>by
 rcases h.c1 a d g with b|b
 ·subst b;have:=h.s1;simp only at this;omega
 ·omega,λf a i=>by have:=h.f1 f a i;omega,h.c4,by have:=h.tp;omega⟩
theorem wu.next{Y:aq}{K:Hp}{r:Nat}{σ:Path×Nat}(h:wu c X r σ)(k:a_ c (λ_=>False) X H Y K):wu c Y r σ:=by
 refine⟨λa b f=>h.c1 a b ((k.c1 a b (by simp)).2 f),h.s1,λe a g=>h.f1 e a ((k.f1 _).2 g),λa b=> ?_,h.tp⟩;rcases aqh 3 (Y.cs a b)with d|d
 ·have:=(k.c4 a b (Y.cs a b) (by simp) d).2 W;have:=h.c4 a b;omega
 ·exact d
theorem D9{ins outs:List Int}{u':US}(l:mX P n c d u)(hC:gX P (fT P n) c d u ins outs u'){r:Nat}{J:Path}{j:Nat}{x:Nm}{s:Option (Path×Nat)}(S':Src c r J j x s):(∀r'≤r,et P n c d u r')->(∀r'≤r,Ab P n c d u r')->(∀r'≤r,ye P n c d u r')->
  ∀(X:aq) (H:Hp),cL P n c d u X H-> ∀V,X.T c+V<=1000000000000-> ∀(q:ay) (σ:Path×Nat) (v:Va) (lp:Option Nat) (z:Int),wu c X r σ->X.fs J=2->(c.fr J).au[j]?=some q->X.fs σ.1=2->X.cs σ.1 σ.2=1->(σ.1= []->d.ins.length<=σ.2)->(c.fr σ.1).vars[σ.2]?=some v->v.name=x->(c.fr σ.1).db[σ.2]?=some lp->c.val σ.1 σ.2=some z->Ic c σ lp z x s->(∀τ q,s=some τ->(c.fr τ.1).au[τ.2]?=some q->q.kd=1->(c.ew τ.1 τ.2).length<=V)->
  DT Tryz.prog 66 [.ref (X.A .it) 0,.ref (X.A (.fr J)) 0,.ref (X.A (.pl J j)) 0,.ref (X.A (.ce σ.1 σ.2)) 0] H λm K=>m= .d (.int .i32 z)/\ ∃Y,cL P n c d u Y K/\a_ c (·=σ) X H Y K/\Y.T c<=X.T c+V/\(Y.cs σ.1 σ.2=1\/Y.cs σ.1 σ.2=4)/\qV c Y s:=by
 have Oq: ∀(o:Int),(o=3\/o=4\/o=5)->(o==1)=false/\(o==2)=false:=by rintro o (rfl|rfl|rfl)<;>exact⟨rfl,rfl⟩
 induction S' with
 | @leaf J j x k h p R=>
  intro hV co ac X H w V hT q σ v lp z I y g L T_ da C RO Ng hz hs hB;rw[h]at g;injection g with g
  subst g;have i:=w.lay;have Z:=Pu.ok l w.pu y;obtain⟨A,hp,E⟩:=i.fe y h;obtain⟨Og,q',N,Sa,Sr⟩:=hs;simp only at Og N Sa Sr;rw[h]at N;injection N with N
  subst N;have Yu:=I.pre R;refine DT.ob Tryz.func66 W Tryz.ntmps66 W<|dO [2,2,17] W<|Mu (lG (by kernel_rfl) W W W W W)<|dL [0] W ?_;rcases p with p|p
  ·obtain⟨hl,d8⟩:=Sa p;have Pv:c.nu J k:=by
    intro _;rw[hl];exact⟨σ,Og,by rw[hz];rfl⟩
   have TP:=(hC.eq J j k A Z h hp).1;have OC:gT P.aI c J (c.ek J j) k.ex A (c.ev J j) (c.ew J j):=by
    cases TP with
    |df _ x' _ he=>exact he Pv
    |call Nw=>omega
    |sw Nw=>omega
    |aL Nw=>omega
    |reset Nw=>omega
   have YZ:=l.pq J j k A Z h hp;have Wm:=jt k;have Ok:=l.H_;have gc:=hB (J,j) k W h p;simp only at gc;obtain⟨m2,U,⟨rfl,Y,b⟩,Nz⟩:=dt l (hV _ R) J k.ex (l.Bu J j k Z h).1 A (c.ev J j) (c.ew J j) OC X H w (by omega) Yu y (by omega) (λo h1 h2=>l.oq J j k A Z h hp o h1 (by omega)) (λf4 hw=> .inl ⟨J,j,k,Z,h,Pv,hw⟩);rw[Xp.aA]at Nz;unfold dr at E;rw[p]at E;refine dO [2,25] W<|Mu (aw W W E W)<|dL [3,2,1] W ?_;apply Mz bT
   ·intro s0 Oo;refine fR 6 W<|fg W W E W W<|fR 3 W<|av W W E W<|bm Nz W W<|fR 1 W<|TF.nil ⟨by kernel_rfl,rfl⟩
   have i9:=b.2.2.1;refine DC.ret ⟨_,rfl,by rw[d8];rfl,Y,b.1,b.2.1.mono λ_=>False.elim,by omega,.inl ((b.2.1.c1 σ.1 σ.2 (by simp)).1 T_),λτ q e g=> ?_⟩;injection e with e
   subst e;simp only at g⊢;rw[h]at g;injection g with g
   subst g;exact⟨b.2.1.f2 J y,λ_ f4 hw=> .inl (b.2.2.2 f4 hw),λh2=>by omega⟩
  ·obtain⟨f7,Pv⟩:=Sr p;have VW:X.cs (j::J) 0=0/\X.dn J j=false:=by
    have hg:=l.gh J j k h p;rcases w.pu.g0 J j k h p with e|e|⟨e',e⟩
    ·exact e
    ·rcases I.c1 _ _ e with e'|e'
     ·subst e';obtain⟨_,q',N,Nw⟩:=hC.iG j J (w.pu.fp j J (by simp only at L;omega)).2;rw[h]at N;injection N with N;subst N;omega
     ·omega
    ·have:=w.pu.dl J j k y e e' h x f7 σ Og;omega
   obtain⟨m2,U,⟨Y,OL,NF,R2,ge,SE⟩,Um⟩:=co _ R X H w (by omega) J j k y h p W Pv VW.2 VW.1 Yu (·=σ) (λx' NK τ OX e=>by
    obtain⟨a,hi⟩:=aqG.1 NK;obtain⟨PP,n',h1,h2,h3,h4,_⟩:=hC.lhs J j k Z h p Pv a x' hi;rw[OX]at h1;injection h1 with h1
    subst h1;rcases I.c1 _ _ e with e'|e'
    ·exact e'
    ·omega)
   have Qk:=SE x f7 σ Og T_;obtain⟨f8,XX,O,G,_⟩:=OL.lay.cell (NF.f2 _ L) C;have Sl:σ.2<(c.fr σ.1).vars.length:=by
    rcases aqh σ.2 (c.fr σ.1).vars.length with i|i
    ·exact i
    ·rw[aqj i]at C;cases C
   rw[Qk,(NF.A (.ce σ.1 σ.2) ⟨L,Sl⟩).2]at G;unfold dr at E;rw[p]at E;refine dO [2,25] W<|Mu (aw W W E W)<|dR [3,2,0,2,1,2,45] W<|Mu (ap Um W W)<|dR [2,49] W<|Mu (aw W W G W)<|dL [] W ?_;have W2:c.get (σ.1,σ.2)=z:=by unfold aH.get;rw[hz];rfl
   refine DC.ret ⟨_,rfl,by rw[<-W2];rfl,Y,OL,NF,by omega,.inr Qk,λτ q e g=> ?_⟩;injection e with e
   subst e;simp only at g⊢;rw[h]at g;injection g with g
   subst g;exact⟨NF.f2 J y,λh1=>by omega,λ_=>ge⟩
 | @bN J j x k j' q' s h p R Qo hd i6 h2 ih=>
  intro hV co ac X H w V hT q σ v lp z I y g L T_ da C RO Ng hz hs hB;rw[h]at g;injection g with g
  subst g;have i:=w.lay;have Z:=Pu.ok l w.pu y;obtain⟨p0,X2,E⟩:=i.fe y h;have YI:X.fs (j::J)≠1:= λe=>by have:=I.f1 j J e;omega
  obtain⟨m2,U,⟨Y,rfl,b,Q⟩,Nz⟩:=ac _ R X H w (by omega) J j k y h p W YI (I.pre R);have F:=b.2.1;have Sl:σ.2<(c.fr σ.1).vars.length:=by
   rcases aqh σ.2 (c.fr σ.1).vars.length with i|i
   ·exact i
   ·rw[aqj i]at C;cases C
  have PZ:=(F.A .it trivial).2;have d6:=(F.A (.ce σ.1 σ.2) ⟨L,Sl⟩).2;have OE:=b.1.lay.frame Q;have d9:=Pu.ok l b.1.pu Q;have i8:=l.Jy (j::J);have R2:=b.2.2.1;have U2:=F.f2 _ L;have X3:=(F.c1 σ.1 σ.2 (by simp)).1 T_;obtain⟨f8,XX,O,G,_⟩:=b.1.lay.cell U2 C;rw[d6]at G;rw[Ng]at O;injection O with O
  subst O;obtain⟨m3,K3,⟨rfl,Y3,W6,Un,TM,NP,W7⟩,Sb⟩:=ih hV co ac Y U b.1 V (by omega) q' σ v lp z (I.next F) Q Qo U2 X3 da C RO Ng hz hs hB;rw[PZ,d6]at Sb;have NB:j'<(c.fr (j::J)).au.length:=by
   rcases aqh j' (c.fr (j::J)).au.length with i|i
   ·exact i
   ·rw[aqj i]at Qo;cases Qo
  refine DT.ob Tryz.func66 W Tryz.ntmps66 W<|dO [2,2,17] W<|Mu (lG (by kernel_rfl) W W W W W)<|dL [0] W ?_;obtain⟨P8,M'⟩:=Oq _ p;refine dO [2,25] W<|Mu (aw W W E W)<|dR [3,2,27] W<|Mu (fZ W W W (r:= .bool false) (by show some (D.bool (_==_))=_;rw[<-P8]))<|dR [0,2,41] W<|Mu (fZ W W W (r:= .bool false) (by show some (D.bool (_==_))=_;rw[<-M']))<|dR [0,2,53] W<|Mu (ap Nz W W)<|dR [2,57] W<|Mu (aw W W OE W)<|dR [58] W<|Mu (oT W W)<|dL [] W<|MG [nN 55 0,nN 54 ((c.fr (j::J)).au.length),nM 53 (bG (Y.A (.er (j::J))) (Y.ve (j::J)) (c.fr (j::J)).au.length),nR 9 (Y.A (.fr (j::J))),nR 0 (X.A .it),nR 3 (X.A (.ce σ.1 σ.2))] U W W<|dC [3] W<|DC.lp (λo s=> ∃(a:Nat) (bx:List (Nat×List M)),s=⟨[nN 55 a,nN 54 ((c.fr (j::J)).au.length),nM 53 (bG (Y.A (.er (j::J))) (Y.ve (j::J)) (c.fr (j::J)).au.length),nR 9 (Y.A (.fr (j::J))),nR 0 (X.A .it),nR 3 (X.A (.ce σ.1 σ.2))],bx,U⟩/\a<=j'/\o=(c.fr (j::J)).au.length-a) (c.fr (j::J)).au.length _
   ⟨0,_,rfl,by omega,rfl⟩ W ?_
  rintro o s1 ⟨a,bx,rfl,hi,rfl⟩;have S:a<(c.fr (j::J)).au.length:=by omega
  refine dO [2,60] W<|Mu (aN (aqI (by omega)) W W W W)<|dL [1] W ?_;have Ta:=b.1.lay.H4 Q (by intro e;rw[e]at S;simp at S);have MC:((List.range (c.fr (j::J)).au.length).map λo=>M.ref (Y.A (.pl (j::J) o)) 0)[((a:Nat):Int).toNat*1]?=some (.ref (Y.A (.pl (j::J) a)) 0):=by simp[S]
  have B:=aqi S;generalize (c.fr (j::J)).au[a]=t at B;obtain⟨pi,_,W_⟩:=b.1.lay.fe Q B;have T:=l.Bu _ _ _ d9 B;have Pp:=uM t T.2.2.2.1 (λd7 ha=>(T.2.2.2.2.1 d7 ha).1) T.2.2.2.2.2.2;rw[t.aA,t.ex.aA]at Pp;have OB:=nV (b_ t) v.name (aq1 (mq t) T.2.2.2.2.2.2);refine dO [3,2,61] W<|Mu (k8 W W W Ta (aqe a) (by omega))<|dR [62] W<|Mu (lY W W Ta MC)<|dL [] W ?_;rcases aqh a j' with Tx|Tx
  ·have hb:lJ (b_ t) v.name=false:=by
    have:=i6 a t Tx B;cases e:lJ (b_ t) v.name with
    |false=>rfl
    |true=>rw[og,RO]at e;exact absurd e this
   rw[hb]at OB;refine dC [] W ?_;apply Mz bT
   ·intro s0 Oo;refine fR 3 W<|fg W W W_ W W<|aS Pp W W<|fR 4 W<|av W W G W<|aS OB W W<|TF.nil ⟨by kernel_rfl,rfl⟩
   refine dO [0,2,79] W<|Mu (ax W W W (by omega))<|dL [] W<|bE (k':=(c.fr (j::J)).au.length-(a+1)) (by omega) ⟨a+1,_,rfl,by omega,rfl⟩ W W
  ·obtain rfl:a=j':=by omega
   rw[Qo]at B;injection B with B
   subst B;have hb:lJ (b_ q') v.name=true:=by rw[og,RO];exact hd
   rw[hb]at OB;refine dC [] W ?_;apply Mz bT
   ·intro s0 Oo;refine fR 3 W<|fg W W W_ W W<|aS Pp W W<|fR 4 W<|av W W G W<|aS OB W W<|TF.nil ⟨by kernel_rfl,rfl⟩
   refine dO [1,2,78] W<|Mu (ap Sb W W)<|dL [] W<|DC.ret ⟨_,rfl,rfl,Y3,W6,(F.mono λ_=>False.elim).trans Un,by omega,NP,W7⟩
 | @last J j x k h p R M9=>
  intro hV co ac X H w V hT q σ v lp z I y g L T_ da C RO Ng hz hs hB;rw[h]at g;injection g with g
  subst g;have i:=w.lay;obtain⟨p0,X2,E⟩:=i.fe y h;have YI:X.fs (j::J)≠1:= λe=>by have:=I.f1 j J e;omega
  obtain⟨m2,U,⟨Y,rfl,b,Q⟩,Nz⟩:=ac _ R X H w (by omega) J j k y h p W YI (I.pre R);have F:=b.2.1;have Sl:σ.2<(c.fr σ.1).vars.length:=by
   rcases aqh σ.2 (c.fr σ.1).vars.length with i|i
   ·exact i
   ·rw[aqj i]at C;cases C
  have PZ:=(F.A .it trivial).2;have d6:=(F.A (.ce σ.1 σ.2) ⟨L,Sl⟩).2;have OE:=b.1.lay.frame Q;have d9:=Pu.ok l b.1.pu Q;have i8:=l.Jy (j::J);have R2:=b.2.2.1;have U2:=F.f2 _ L;have X3:=(F.c1 σ.1 σ.2 (by simp)).1 T_;obtain⟨f8,XX,O,G,_⟩:=b.1.lay.cell U2 C;rw[d6]at G;rw[Ng]at O;injection O with O
  subst O;obtain⟨A,rfl,i7,d8⟩:=hs;have XW:A<bW d:=by rw[<-l.zq];exact i7
  have Q2:=b.1.lay.inst;rw[PZ]at Q2;have f9:=b.1.lay.mem;have Q8:=l.rd Y b.1.pu σ.1 A U2 (l.lo σ.1 σ.2 A (Pu.ok l w.pu L) Ng) XW;have Q7:=il (n:=bW d) (f:=io Y.x.m) XW;rw[show io Y.x.m A= .d (.int .i32 (c.rd A)) by rw[<-Q8]]at Q7;refine DT.ob Tryz.func66 W Tryz.ntmps66 W<|dO [2,2,17] W<|Mu (lG (by kernel_rfl) W W W W W)<|dL [0] W ?_;obtain⟨P8,M'⟩:=Oq _ p;refine dO [2,25] W<|Mu (aw W W E W)<|dR [3,2,27] W<|Mu (fZ W W W (r:= .bool false) (by show some (D.bool (_==_))=_;rw[<-P8]))<|dR [0,2,41] W<|Mu (fZ W W W (r:= .bool false) (by show some (D.bool (_==_))=_;rw[<-M']))<|dR [0,2,53] W<|Mu (ap Nz W W)<|dR [2,57] W<|Mu (aw W W OE W)<|dR [58] W<|Mu (oT W W)<|dL [] W<|MG [nN 55 0,nN 54 ((c.fr (j::J)).au.length),nM 53 (bG (Y.A (.er (j::J))) (Y.ve (j::J)) (c.fr (j::J)).au.length),nR 9 (Y.A (.fr (j::J))),nR 0 (X.A .it),nR 3 (X.A (.ce σ.1 σ.2))] U W W<|dC [3] W<|DC.lp (λo s=> ∃(a:Nat) (bx:List (Nat×List M)),s=⟨[nN 55 a,nN 54 ((c.fr (j::J)).au.length),nM 53 (bG (Y.A (.er (j::J))) (Y.ve (j::J)) (c.fr (j::J)).au.length),nR 9 (Y.A (.fr (j::J))),nR 0 (X.A .it),nR 3 (X.A (.ce σ.1 σ.2))],bx,U⟩/\a<=(c.fr (j::J)).au.length/\o=(c.fr (j::J)).au.length-a) (c.fr (j::J)).au.length _
   ⟨0,_,rfl,by omega,rfl⟩ W ?_
  rintro o s1 ⟨a,bx,rfl,hi,rfl⟩;refine dC [2] W<|DC.cond W (λhc=> ?_) (λhc=> ?_)
  ·have S:a<(c.fr (j::J)).au.length:=by have:=aqv hc;omega
   have Ta:=b.1.lay.H4 Q (by intro e;rw[e]at S;simp at S);have MC:((List.range (c.fr (j::J)).au.length).map λo=>M.ref (Y.A (.pl (j::J) o)) 0)[((a:Nat):Int).toNat*1]?=some (.ref (Y.A (.pl (j::J) a)) 0):=by simp[S]
   have B:=aqi S;generalize (c.fr (j::J)).au[a]=t at B;obtain⟨pi,_,W_⟩:=b.1.lay.fe Q B;have T:=l.Bu _ _ _ d9 B;have Pp:=uM t T.2.2.2.1 (λd7 ha=>(T.2.2.2.2.1 d7 ha).1) T.2.2.2.2.2.2;rw[t.aA,t.ex.aA]at Pp;have OB:=nV (b_ t) v.name (aq1 (mq t) T.2.2.2.2.2.2);refine dO [3,2,61] W<|Mu (k8 W W W Ta (aqe a) (by omega))<|dR [62] W<|Mu (lY W W Ta MC)<|dL [] W ?_;have hb:lJ (b_ t) v.name=false:=by
    have:=M9 t (aqk B);cases e:lJ (b_ t) v.name with
    |false=>rfl
    |true=>rw[og,RO]at e;exact absurd e this
   rw[hb]at OB;refine dC [] W ?_;apply Mz bT
   ·intro s0 Oo;refine fR 3 W<|fg W W W_ W W<|aS Pp W W<|fR 4 W<|av W W G W<|aS OB W W<|TF.nil ⟨by kernel_rfl,rfl⟩
   refine dO [0,2,79] W<|Mu (ax W W W (by omega))<|dL [] W<|bE (k':=(c.fr (j::J)).au.length-(a+1)) (by omega) ⟨a+1,_,rfl,by omega,rfl⟩ W W
  ·refine DC.exit ?_;refine dO [2,83] W<|Mu (aw W W G W)<|dR [84] W<|Mu (aN (aqR (by show ¬((A:Int)<0);omega)) W W W W)<|dL [0] W ?_;apply Mz bT
   ·intro s0 Oo;refine fR 3 W<|av W W Q2 W<|fR 2 W<|av W W b.1.lay.unit W<|fR 3 W<|av W W G W<|cS W W W f9 (aqe A) (by exact arD.2 XW)<|jl W W f9 Q7<|fR 1 W<|TF.nil ⟨by kernel_rfl,rfl⟩
   exact DC.ret ⟨_,rfl,by rw[d8];rfl,Y,b.1,F.mono λ_=>False.elim,by omega,.inl X3,λτ q e=>by cases e⟩
end
section
variable{P:Pg}{n:Nat}{c:aH}{d:Nd}{u:US}{X:aq}{H:Hp}
theorem Ie(f:mX P n c d u)(h:cx P n c d X H)(g:M)(x:Nm):DT Tryz.prog 128 [.ref (X.A .it) 0,g,.d (.str x)] H λm K=>m= .d (.int .i32 (gx P.aI x))/\K=H:=by
 refine DT.ob Tryz.func128 W Tryz.ntmps128 W<|dC [2,2,3,2] W<|DC.cond W (λa=> ?_) (λa=> ?_)
 ·have e:=aqv a;refine dC [2] W<|DC.ret ⟨_,rfl,by unfold gx;rw[aqy e];rfl,rfl⟩
 have b:=aqA a;refine dC [2] W<|DC.cond W (λa=> ?_) (λa=> ?_)
 ·have e:=aqv a;refine dC [2] W<|DC.ret ⟨_,rfl,by unfold gx;rw[aqo b,aqy e];rfl,rfl⟩
 have i:=aqA a;refine dC [] W ?_;have j:CT Tryz.prog 86 [.d (.sl (P.aI.map En.cells)),.d (.agg (xX x).cells)] H λk l=>k= .cZ [.d (.int .i32 (oO P.aI (xX x))),.d (.bool (isConst P.aI (xX x)))]/\l=H:=(CT.xx (vE f.en (xX x))).mono (by rintro _ _ ⟨⟨_,rfl,rfl⟩,rfl⟩;exact⟨rfl,rfl⟩)
 apply Mz bT
 ·intro o p;refine fR 3 W<|av W W h.inst W<|fR 3 W<|av W W h.unit W<|fR 1 W<|aS (Gu x) W W<|jW j W W<|fR 5 W<|TF.nil ⟨by kernel_rfl,rfl⟩
 refine dC [2] W<|DC.ret ⟨_,rfl,?_,rfl⟩;unfold gx;rw[aqo b,aqo i];rfl
theorem Ac{l:List Tr}{i:Nat}(h:i<l.length):(eC l)[((i:Nat):Int).toNat]?=some (bO l[i].e.kd l[i].e.op l[i].e.num l[i].e.nm l[i].e.names (l[i].e.kids.map Xp.cells) l[i].e.ps++ [.str l[i].to,.bool l[i].fb,.int .i64 l[i].ps.1,.int .i64 l[i].ps.2]):=by simp[eC,h,Tr.cells,Xp.aA]
theorem sn{l:List aY}{i:Nat}{a:aY}(h:l[i]?=some a):(l.map aY.cells)[((i:Nat):Int).toNat]?=some [.str a.name,.sl (aC a.cp.vars),.sl (a.cp.au.map ay.cells),.sl (eC a.eT),.sl (eC a.eU),.int .i64 a.ps.1,.int .i64 a.ps.2]:=by simp[h,aY.aA]
theorem D_{ins outs:List Int}{u':US}(i:mX P n c d u)(hC:gX P (fT P n) c d u ins outs u'){J:Path}{j:Nat}{q:ay}{p:Nat}(hV:et P n c d u (c.ek J j))(E:cL P n c d u X H)(hT:X.T c+(c.ew J j).length<=1000000000000)(hP:k7 c X (c.ek J j))(hf:X.fs J=2)(k:(c.fr J).au[j]?=some q)(w:q.kd=3\/q.kd=4\/q.kd=5)(B:(c.fr J).pos[j]?=some p):
  DT Tryz.prog 93 [.ref (X.A .it) 0,.ref (X.A (.fr J)) 0,.ref (X.A (.pl J j)) 0] H λm K=>m= .cZ [dN (c.bN J j),dN (gr q p),.d (.bool (c.mU J j))]/\ ∃Y,cM P n c d u X H (c.ew J j).length (c.ew J j) Y K:=by
 have g:=E.lay;have F:=Pu.ok i E.pu hf;obtain⟨p',L,b⟩:=g.fe hf k;rw[B]at L;injection L with L
 subst L;have OO:j<(c.fr J).au.length:=by
  rcases aqh j (c.fr J).au.length with g|g
  ·exact g
  ·rw[aqj g]at k;cases k
 have YZ:=i.pq J j q p F k B;have Wm:=jt q;have Ok:=i.H_;have S:=i.Bu J j q F k;have Wn:=jo q.ex S.1 (by omega);rw[Xp.aA]at Wn;have N8:((p:Nat):Int)+((xP q.ex:Nat):Int)=((p+xP q.ex:Nat):Int):=by omega
 have N: ∀co∈c.ew J j,nU c co.1 co.2:= λco N=> .inl ⟨J,j,q,F,k,(by intro e;omega),N⟩
 have Xa: ∀l,p<=l->l<p+xP q.ex->wC c J l:= λl o x=>i.oq J j q p F k B l o (by omega)
 have TP:=(hC.eq J j q p F k B).1;refine DT.ob Tryz.func93 W Tryz.ntmps93 W ?_;cases TP with
 |df Nw=>omega
 |call Nw=>omega
 |reset w he d6 ha O hn=>
  obtain⟨m2,T,⟨rfl,Y,s⟩,y⟩:=dt i hV J q.ex S.1 p (c.ev J j) (c.ew J j) he X H E hT hP hf (by omega) Xa N;rw[Xp.aA]at y;have Q:gr q p=p+xP q.ex:=by unfold gr;rw[aqo (by omega)]
  have z:decide (c.ev J j≠0)=(c.ev J j !=0):=by rw[asy];simp
  unfold dr at b;rw[w]at b;refine dC [2] W ?_;apply Mz bT
  ·intro t v;refine fR 3 W<|av W W b W<|fR 4 W<|fg W W b W W<|aS Wn W W<|pZ W W W (by omega) ?_;rw[N8];refine fR 1 W<|TF.nil ⟨by kernel_rfl,rfl⟩
  refine dO [2,36] W<|Mu (aw W W b W)<|dL [3,2,1] W ?_;apply Mz bT
  ·intro t v;refine fR 7 W<|fg W W b W W<|fR 3 W<|av W W b W<|bm y W W<|fR 4 W<|TF.nil ⟨by kernel_rfl,rfl⟩
  exact DC.ret ⟨_,rfl,by rw[O,hn,Q,z];rfl,Y,s⟩
 |sw w he d6 ha hv f9 hn=>
  obtain⟨m2,T,⟨rfl,Y,s⟩,y⟩:=dt i hV J q.ex S.1 p (c.ev J j) (c.ew J j) he X H E hT hP hf (by omega) Xa N;rw[Xp.aA]at y;have Q:gr q p=p+xP q.ex:=by unfold gr;rw[aqo (by omega)]
  have On:=s.2.1.f2 J hf;obtain⟨p2,_,C⟩:=s.1.lay.fe On k;rw[(s.2.1.A (.pl J j) ⟨hf,OO⟩).2]at C;have OQ:c.bN J j<q.ah.length:=by
   rcases aqh (c.bN J j) q.ah.length with g|g
   ·exact g
   ·have:=ha.ha;rw[aqj g]at this;cases this
  have ge:=S.2.2.2.1;unfold dr at b;rw[w]at b;refine dC [2] W ?_;apply Mz bT
  ·intro t v;refine fR 3 W<|av W W b W<|fR 4 W<|fg W W b W W<|aS Wn W W<|pZ W W W (by omega) ?_;rw[N8];refine fR 1 W<|TF.nil ⟨by kernel_rfl,rfl⟩
  refine dO [2,36] W<|Mu (aw W W b W)<|dL [3,2,0,2,1] W ?_;apply Mz bT
  ·intro t v;refine fR 6 W<|fg W W b W W<|fR 3 W<|av W W b W<|bm y W W<|fR 1 W<|TF.nil ⟨by kernel_rfl,rfl⟩
  refine dO [2,71] W<|Mu (aw W W C W)<|dR [72] W<|Mu (bH W W W) ?_;rw[aqE];refine dL [] W<|MG [nN 69 0,nN 68 q.ah.length,nD 67 (.sl (q.ah.map aY.cells)),nD 10 (.int .i32 (c.ev J j)),nN 9 (p+xP q.ex),nR 0 (X.A .it),nR 2 (X.A (.pl J j))] T W W<|dC [3] W<|DC.lp (λl A=> ∃(a:Nat) (U:List (Nat×List M)),A=⟨[nN 69 a,nN 68 q.ah.length,nD 67 (.sl (q.ah.map aY.cells)),nD 10 (.int .i32 (c.ev J j)),nN 9 (p+xP q.ex),nR 0 (X.A .it),nR 2 (X.A (.pl J j))],U,T⟩/\a<=c.bN J j/\l=q.ah.length-a) q.ah.length _
   ⟨0,_,rfl,by omega,rfl⟩ W ?_
  rintro l s1 ⟨a,U,rfl,hi,rfl⟩;refine dO [2,74] W<|Mu (aN (aqI (by omega)) W W W W)<|dL [1] W ?_;have V:a<q.ah.length:=by omega
  have G:=aqi V;generalize q.ah[a]=ai at G;have Z:=sn G;have OB:=Ie i s.1.lay (.d (.sl (q.ah.map aY.cells))) ai.name;rw[(s.2.1.A .it trivial).2]at OB;obtain⟨_,_,⟨rfl,rfl⟩,OB⟩:=OB;refine dC [3] W ?_;rcases aqh a (c.bN J j)with Tx|Tx
  ·have z:=aqV.2 (f9 a ai Tx G);refine dO [2,76] W<|Mu (aK W W W (aqe a) Z W)<|dL [] W ?_;apply Mz bT
   ·intro t v;refine fR 5 W<|av W W C W<|fR 2 W<|jW OB W W<|fR 1 W<|lX W W W (r:= .bool false) (by show some (D.bool (_==_))=_;rw[z])<|TF.nil ⟨by kernel_rfl,rfl⟩
   refine dO [0,2,91] W<|Mu (ax W W W (by omega))<|dL [] W<|bE (k':=q.ah.length-(a+1)) (by omega) ⟨a+1,_,rfl,by omega,rfl⟩ W W
  ·obtain rfl:a=c.bN J j:=by omega
   rw[ha.ha]at G;injection G with G
   subst G;have z:(gx P.aI d6.name==c.ev J j)=true:=by rw[hv];simp
   refine dO [2,76] W<|Mu (aK W W W (aqe _) Z W)<|dL [] W ?_;apply Mz bT
   ·intro t v;refine fR 5 W<|av W W C W<|fR 2 W<|jW OB W W<|fR 1 W<|lX W W W (r:= .bool true) (by show some (D.bool (_==_))=_;rw[z])<|TF.nil ⟨by kernel_rfl,rfl⟩
   refine dC [1,2] W<|DC.ret ⟨_,rfl,by rw[hn,Q];rfl,Y,s⟩
 |aL w L A h hs O d7 hu ht d6 ha t' Sd V9 d8=>
  have Sa:A<q.ah.length:=by
   rcases aqh A q.ah.length with g|g
   ·exact g
   ·rw[aqj g]at O;cases O
  have Q:gr q p=p+1:=by unfold gr;rw[aqy w]
  have d9:((p:Nat):Int)+1=((p+1:Nat):Int):=by omega
  have ac:p<bW d:=by rw[<-i.zq];exact L
  have da:=g.inst;have O6:=g.unit;have PA:=g.mem;have f4:=g.cu;have Q7:=il (n:=bW d) (f:=io X.x.m) ac;rw[show io X.x.m p= .d (.int .i32 (A:Int)) by rw[<-hs,<-i.rd X E.pu J p hf (i.oq J j q p F k B p (aqd _) (by rw[w];unfold ij;rw[aqy (.inr W)];omega)) ac]]at Q7;have TQ:=il (n:=bW d) (f:=ju X.x.p) ac;rw[show ju X.x.p p= .d (.bool (c.rp p)) by rw[<-i.rp X E.pu J j q p hf k w B]]at TQ;have f7:=aqk O;have i6:=(S.2.2.2.2.1 h f7).2.1;unfold dr at b;rw[w]at b;refine dC [2] W ?_;apply Mz bT
  ·intro t v;refine fR 3 W<|av W W b W<|fR 4 W<|fg W W b W W<|aS Wn W W<|pZ W W W (by omega) ?_;rw[N8];refine fR 1 W<|TF.nil ⟨by kernel_rfl,rfl⟩
  refine dO [2,36] W<|Mu (aw W W b W)<|dL [3,2,0,2,0] W ?_;apply Mz bT
  ·intro t v;refine fR 3 W<|av W W da W<|fR 2 W<|av W W O6 W<|fR 3 W<|av W W b W<|cS W W W PA (aqe p) (by exact arD.2 ac)<|jl W W PA Q7<|rU W W ?_;rw[Fg ⟨by omega,by omega⟩];refine fR 1 W<|TF.nil ⟨by kernel_rfl,rfl⟩
  refine dC [] W ?_;apply Mz bT
  ·intro t v;refine fR 3 W<|av W W da W<|fR 2 W<|av W W O6 W<|fR 3 W<|av W W b W<|cS W W W f4 (aqe p) (by exact arD.2 ac)<|jl W W f4 TQ<|fR 1 W<|TF.nil ⟨by kernel_rfl,rfl⟩
  refine dO [2,127] W<|Mu (aw W W b W)<|dR [129] W<|Mu (aK W W W (aqe A) (sn O) W)<|dR [132] W<|Mu (bH W W W) ?_;rw[show(eC h.eT).length=h.eT.length by simp[eC]];refine dL [] W<|MG [nN 129 0,nN 128 h.eT.length,nD 127 (.sl (eC h.eT)),nN 13 A,nD 14 (.bool (c.rp p)),nR 0 (X.A .it),nR 1 (X.A (.fr J)),nR 2 (X.A (.pl J j))] H W W<|dC [3] W<|DC.lp (λl s'=> ∃(a:Nat) (Y:aq) (K:Hp) (U:List (Nat×List M)),s'=⟨[nN 129 a,nN 128 h.eT.length,nD 127 (.sl (eC h.eT)),nN 13 A,nD 14 (.bool (c.rp p)),nR 0 (X.A .it),nR 1 (X.A (.fr J)),nR 2 (X.A (.pl J j))],U,K⟩/\a<=h.eT.length/\l=h.eT.length-a/\p_ P.aI c J (c.ek J j) (h.eT.drop a) d7/\cM P n c d u X H 0 [] Y K) h.eT.length _
   ⟨0,X,H,_,rfl,by omega,rfl,hu,cM.same g E.pu⟩ W ?_
  rintro l s1 ⟨a,Y0,K0,U,rfl,hi,rfl,U3,R⟩;have TR:=R.2.1;have Rp:=TR.f2 J hf;obtain⟨p2,SF,Xb⟩:=R.1.lay.fe Rp k;rw[B]at SF;injection SF with SF
  subst SF;rw[(TR.A (.pl J j) ⟨hf,OO⟩).2]at Xb;refine dC [2] W<|DC.cond W (λhc=> ?_) (λhc=> ?_);rotate_left
  ·refine DC.exit ?_;have e:a=h.eT.length:=by have:=aqA hc;omega
   rw[e,arO]at U3;cases U3;obtain⟨X4,Vp⟩:=ht;refine dC [] W ?_;apply Mz bT
   ·intro t v;refine fR 4 W<|av W W Xb W<|pZ W W W (by omega) ?_;rw[d9];refine fR 4 W<|TF.nil ⟨by kernel_rfl,rfl⟩
   exact DC.ret ⟨_,rfl,by rw[X4,Vp,Q];rfl,Y0,by rw[d8];exact R⟩
  have V:a<h.eT.length:=by have:=aqv hc;omega
  refine dC [] W ?_;have Z:=Ac V;have f8:=aqz V;rw[arb V]at U3;generalize h.eT[a]=ti at U3 Z f8;obtain⟨gc,i7⟩:=i.iZ J j q F k h f7 ti (.inl f8);have i8:=R.2.2.1;obtain⟨I,OC,X5⟩: ∃I,gT P.aI c J (c.ek J j) ti.e 0 I []/\((I≠0/\d7=some ti)\/(I=0/\p_ P.aI c J (c.ek J j) (h.eT.drop (a+1)) d7)):=by
   cases U3 with
   |Co o x=>exact⟨_,o,.inl ⟨x,rfl⟩⟩
   |no o x=>exact⟨0,o,.inr ⟨rfl,x⟩⟩
  obtain⟨m2,T,⟨rfl,Y,s⟩,y⟩:=dt i hV J ti.e gc 0 I [] OC Y0 K0 R.1 (by simp only[aqS];omega) (hP.next TR) Rp (by omega) (λl o x=>by omega) (λco N=>by cases N);rw[Xp.aA,(TR.A .it trivial).2,(TR.A (.fr J) (by show 1<=X.fs J;omega)).2]at y;have R3:=R.trans s;have On:=R3.2.1.f2 J hf;obtain⟨p3,X6,C⟩:=R3.1.lay.fe On k;rw[B]at X6;injection X6 with X6
  subst X6;rw[(R3.2.1.A (.pl J j) ⟨hf,OO⟩).2]at C;refine dO [3,2,135] W<|Mu (aK W W W (aqe a) Z W)<|dL [] W ?_;rcases X5 with⟨o,x⟩|⟨o,x⟩
  ·have z:(I !=0)=true:=by simpa using o
   subst x;obtain⟨X4,Vp⟩:=ht;have Xc:=Ff q.ah ti.to (by omega);rw[X4]at Xc;refine dO [2,141] W<|Mu (ap y W W)<|dR [142] W<|Mu (aN z W W W W)<|dL [1] W ?_;apply Mz bT
   ·intro t v;refine fR 4 W<|av W W C W<|fR 2 W<|aS Xc W W<|fR 3 W<|av W W C W<|pZ W W W (by omega) ?_;rw[d9];refine fR 6 W<|TF.nil ⟨by kernel_rfl,rfl⟩
   exact DC.ret ⟨_,rfl,by rw[Vp,Q];rfl,Y,by rw[d8];exact R3⟩
  ·have z:(I !=0)=false:=by rw[o];rfl
   refine dO [2,141] W<|Mu (ap y W W)<|dR [142] W<|Mu (aN z W W W W)<|dR [0,2,159] W<|Mu (ax W W W (by omega))<|dL [] W<|bE (k':=h.eT.length-(a+1)) (by omega) ⟨a+1,Y,T,_,rfl,by omega,rfl,x,R3⟩ W W
end
section
variable{P:Pg}{n:Nat}{c:aH}{d:Nd}{u:US}{X:aq}{H:Hp}
def aq.jC(X:aq)(f:Nat->Int):aq:= {X with x:=⟨f,X.x.p,X.x.s⟩}
def aq.qW(X:aq)(g:Nat->Bool):aq:= {X with x:=⟨X.x.m,g,X.x.s⟩}
theorem cx.jC(h:cx P n c d X H)(f:Nat->Int):cx P n c d (X.jC f) (H.set (X.A .me) (.row false 1 0 (bz (bW d) (io f)))):=by
 refine h.yb .me trivial _ W W W W W W (λa=>by cases a<;>exact ari) W (λa g b i e=> ?_);cases a with
 |me=>exact absurd W b
 |_=>exact e
theorem cx.qW(h:cx P n c d X H)(f:Nat->Bool):cx P n c d (X.qW f) (H.set (X.A .pe) (.row false 1 0 (bz (bW d) (ju f)))):=by
 refine h.yb .pe trivial _ W W W W W W (λa=>by cases a<;>exact ari) W (λa g b i e=> ?_);cases a with
 |pe=>exact absurd W b
 |_=>exact e
def aq.qX(c:aH)(X:aq):NI->aq
 | .cell _ σ=>match(c.fr σ.1).db[σ.2]? with
  |some (some k)=>X.jC (bY X.x.m k (c.get σ))
  |_=>X
 | .aL J j=>match(c.fr J).pos[j]? with
  |some k=>(X.jC (bY X.x.m k (c.pJ J j:Int))).qW (bY X.x.p k (c.nan J j))
  |none=>X
 | .arrow own=>X.jC (bY X.x.m own 0)
 | .put own v=>X.jC (bY X.x.m own v)
def D'(P:Pg)(n:Nat)(c:aH)(d:Nd)(X:aq)(H:Hp)(Y:aq)(K:Hp):Prop:=cx P n c d Y K/\K.length=H.length/\ ∀a:Nat,X.own a=none->K[a]?=H[a]?
theorem cx.off(h:cx P n c d X H){r:Ro}(e:X.live c r){a:Nat}(b:X.own a=none)(ob:Ob):(H.set (X.A r) ob)[a]?=H[a]?:=aqn (by rintro rfl;rw[h.own r e]at b;cases b)
theorem D'.jC(h:cx P n c d X H)(f:Nat->Int):D' P n c d X H (X.jC f) (H.set (X.A .me) (.row false 1 0 (bz (bW d) (io f)))):=⟨h.jC f,by simp,λb a=>h.off (r:= .me) trivial a _⟩
theorem JA(h:cx P n c d X H){m:M}{B:NI}(C:X.ry c H m B)(D:NI.ok c d X B)(N7: ∀b g,c.pJ b g<=1000): ∃f T,m= .fn f T/\br Tryz.prog f/\DT Tryz.prog f T H λ_ K=>D' P n c d X H (X.qX c B) K:=by
 have s:=h.inst;have t:=h.unit;have o:=h.mem;cases B with
 |cell co y=>
  obtain⟨hf,PY,hz,⟨k,j,U⟩,_⟩:=D;obtain⟨_,bc,bt,rfl,N,E⟩:=C;have hv:=aqi PY;obtain⟨lp,eq,F,z,_⟩:=h.cell hf hv;rw[U]at F;injection F with F
  subst F;rw[aqy hz]at z;have u:=k6 (n:=bW d) (f:=X.x.m) (k:=k) (c.get (y.1,y.2)) j;have w:=D'.jC h (bY X.x.m k (c.get y));have O:X.qX c (.cell co y)=X.jC (bY X.x.m k (c.get y)):=by simp only[aq.qX,U]
  rw[O];cases co with
  |true=>
   refine⟨127,_,rfl,inferInstance,?_⟩;refine DT.ob Tryz.func127 W Tryz.ntmps127 W<|dC [] W ?_;apply Mz bT
   ·intro G I;refine av W W E.2 W<|fR 2 W<|av W W s W<|fR 2 W<|av W W t W<|av W W N.2 W<|fR 2 W<|av W W z W<|av W W N.2 W<|fR 2 W<|av W W z W<|cS W W W o (aqe k) (by exact arD.2 j)<|fj W W o W W u<|TF.nil ⟨by kernel_rfl,rfl⟩
   exact⟨_,rfl,w⟩
  |false=>
   refine⟨67,_,rfl,inferInstance,?_⟩;refine DT.ob Tryz.func67 W Tryz.ntmps67 W<|dC [] W ?_;apply Mz bT
   ·intro G I;refine av W W E.2 W<|fR 2 W<|av W W s W<|fR 2 W<|av W W t W<|av W W N.2 W<|fR 2 W<|av W W z W<|av W W N.2 W<|fR 2 W<|av W W z W<|cS W W W o (aqe k) (by exact arD.2 j)<|fj W W o W W u<|TF.nil ⟨by kernel_rfl,rfl⟩
   exact⟨_,rfl,w⟩
 |arrow q=>
  obtain⟨j,_⟩:=D;obtain⟨V,rfl,x⟩:=C;have u:=k6 (n:=bW d) (f:=X.x.m) (k:=q) 0 j;have w:=D'.jC h (bY X.x.m q 0);refine⟨_,_,rfl,inferInstance,?_⟩;refine DT.ob Tryz.func125 W Tryz.ntmps125 W<|dC [] W ?_;apply Mz bT
  ·intro G I;refine av W W x.2 W<|fR 2 W<|av W W s W<|fR 2 W<|av W W t W<|fR 1 W<|cS W W W o (aqe q) (by exact arD.2 j)<|fj W W o W W u<|TF.nil ⟨by kernel_rfl,rfl⟩
  exact⟨_,rfl,w⟩
 |put q v=>
  obtain⟨j,_⟩:=D;obtain⟨bt,rfl,E⟩:=C;have u:=k6 (n:=bW d) (f:=X.x.m) (k:=q) v j;have w:=D'.jC h (bY X.x.m q v);refine⟨_,_,rfl,inferInstance,?_⟩;refine DT.ob Tryz.func143 W Tryz.ntmps143 W<|dC [] W ?_;apply Mz bT
  ·intro G I;refine av W W E.2 W<|fR 2 W<|av W W s W<|fR 2 W<|av W W t W<|fR 2 W<|cS W W W o (aqe q) (by exact arD.2 j)<|fj W W o W W u<|TF.nil ⟨by kernel_rfl,rfl⟩
  exact⟨_,rfl,w⟩
 |aL b g=>
  obtain⟨Tb,d6,l,hq,d7,Y,j⟩:=D;obtain⟨Q,V,b6,rfl,x,J⟩:=C;obtain⟨p',L,Z⟩:=h.fe Q.1 hq;rw[Y]at L;injection L with L
  subst L;have O:X.qX c (.aL b g)=(X.jC (bY X.x.m l (c.pJ b g:Int))).qW (bY X.x.p l (c.nan b g)):=by simp only[aq.qX,Y]
  have S:=D'.jC h (bY X.x.m l (c.pJ b g:Int));have ac:=fB (NH:=Ob.row false 1 0 (bz (bW d) (io (bY X.x.m l (c.pJ b g:Int))))) h.cu (h.ne (r:= .me) (r':= .pe) trivial trivial (by simp));rw[O];refine⟨_,_,rfl,inferInstance,?_⟩;refine DT.ob Tryz.func95 W Tryz.ntmps95 W ?_
  let R:Hp->Prop:= λi=>i[V]?=some (Ob.box [.ref (X.A .it) 0])/\i[b6]?=some (Ob.box [.ref (X.A (.pl b g)) 0])/\i[X.A .it]?=some (.box [.ref (X.A .un) 0,.ref (X.A (.fr [])) 0,.d (.bool false),bG (X.A .af) X.vF X.F.length,bG (X.A .nx) X.vN X.N.length])/\i[X.A .un]?=some (.box (oP P d (X.A .me) (X.A .pe) (X.A .su)))/\i[X.A (.pl b g)]?=some (.box (dr d6 l))
  have A: ∀p,R (H.set (X.A .me) p):= λp=>⟨fB x.2 (by intro e;have:=h.own .me trivial;rw[e,x.1]at this;cases this),fB J.2 (by intro e;have:=h.own .me trivial;rw[e,J.1]at this;cases this),fB s (h.ne (r:= .me) (r':= .it) trivial trivial (by simp)),fB t (h.ne (r:= .me) (r':= .un) trivial trivial (by simp)),fB Z (h.ne (r:= .me) (r':= .pl b g) trivial Q (by simp))⟩
  have Vv: ∀p NH,R ((H.set (X.A .me) p).set (X.A .pe) NH):= λp NH=>⟨fB (A p).1 (by intro e;have:=h.own .pe trivial;rw[e,x.1]at this;cases this),fB (A p).2.1 (by intro e;have:=h.own .pe trivial;rw[e,J.1]at this;cases this),fB (A p).2.2.1 (h.ne (r:= .pe) (r':= .it) trivial trivial (by simp)),fB (A p).2.2.2.1 (h.ne (r:= .pe) (r':= .un) trivial trivial (by simp)),fB (A p).2.2.2.2 (h.ne (r:= .pe) (r':= .pl b g) trivial Q (by simp))⟩
  refine dC [] W ?_;apply NT R ((⟨x.2,J.2,s,t,Z⟩)) bT
  ·intro G I;refine MK W W (λi h=>⟨_,h.1,rfl⟩)<|iR 2 W<|MK W W (λi h=>⟨_,h.2.2.1,rfl⟩)<|iR 2 W<|MK W W (λi h=>⟨_,h.2.2.2.1,rfl⟩)<|MK W W (λi h=>⟨_,h.2.1,rfl⟩)<|iR 2 W<|MK W W (λi h=>⟨_,h.2.2.2.2,rfl⟩)<|MK W W (λi h=>⟨_,h.1,rfl⟩)<|iR 2 W<|MK W W (λi h=>⟨_,h.2.2.1,rfl⟩)<|iR 2 W<|MK W W (λi h=>⟨_,h.2.2.2.1,rfl⟩)<|MK W W (λi h=>⟨_,h.2.1,rfl⟩)<|iR 2 W<|MK W W (λi h=>⟨_,h.2.2.2.2,rfl⟩)<|iR 1 W ?_;apply MF
   ·skip
    refine rU W W ?_;rw[Bl (by grind)];exact TF.nil ⟨rfl,rfl⟩
   refine iR 1 W ?_;apply MF
   ·skip
    refine cS W W W o (aqe l) (by exact arD.2 j)<|TF.nil ⟨rfl,rfl⟩
   apply MF
   ·skip
    refine fj W W o W W (k6 (n:=bW d) (f:=X.x.m) (k:=l) (c.pJ b g:Int) j)<|TF.nil ⟨rfl,rfl⟩
   apply MF
   ·skip
    refine cS W W W ac (aqe l) (by exact arD.2 j)<|TF.nil ⟨rfl,rfl⟩
   apply MF
   ·skip
    refine fj W W ac W W (sd (n:=bW d) (f:=X.x.p) (k:=l) (c.nan b g) j)<|TF.nil ⟨rfl,rfl⟩
   exact iT.nil ⟨by kernel_rfl,by repeat' first|exact trivial|exact .inl ((by simp_all))|exact .inr (by kernel_rfl)|refine⟨?_,?_⟩,rfl⟩
  exact⟨_,rfl,(S.1.qW (bY X.x.p l (c.nan b g))),by simp,λa ha=>by
   exact(S.1.off (r:= .pe) trivial (a:=a) ha (.row false 1 0 (bz (bW d) (ju (bY X.x.p l (c.nan b g)))))).trans (S.2.2 a ha)⟩
end
section
variable{P:Pg}{n:Nat}{c:aH}{d:Nd}{u:US}{X:aq}{H:Hp}
theorem GG{a i:Nat}{f:Nat}{b:List M}[hf:br Tryz.prog f](c:H[a]?=some (.box [.fn f b])){post:M->Hp->Prop}(d:DT Tryz.prog f (dN i::b) H post):
  DT Tryz.prog 124 [.ref a 0,.d (.aZ [iN i] 0)] H post:=by
 obtain⟨h,j,e,g⟩:=d;refine DT.ob Tryz.func124 W Tryz.ntmps124 W<|dO [2,2,7] W<|Mu (aw W W c W)<|dR [9] W<|Mu (ll (ms:=[_]) g W W W)<|dL [] W<|DC.ret ⟨_,rfl,e⟩
def aq.go(X:aq)(own:Nat)(v:Int)(w:List (Nat×Int)):aq:= {X with fi:=X.fi+1,ph:= λk z=>(k,z)=(own,v)\/(k,z)∈w}
theorem cx.fp(h:cx P n c d X H)(a:Nat)(b:Nat->Int->Prop):cx P n c d {X with fi:=a,ph:=b} H:=by
 refine⟨λe g=>h.own e (by cases e<;>exact g),h.lt,λe g=> ?_,h.sub,λf i=> ?_,λf i=>h.af f i⟩
 ·obtain⟨j,k,l⟩:=h.ob e (by cases e<;>exact g);exact⟨j,k,by cases e<;>exact l⟩
 ·have:=h.nx f i
  revert this
  generalize f.1=m;intro this;cases m<;>exact this
theorem JB{l:List (AI×M)}{i:Nat}{p:AI×M}(h:l[i]?=some p):aP ((l.drop i).map λp=>1+p.1.w.length)=(1+p.1.w.length)+aP ((l.drop (i+1)).map λp=>1+p.1.w.length):=by
 have a:i<l.length:=by
  grind
 rw[arb a];rw[aqi a]at h;injection h with h
 rw[h,aqN,jK]
theorem LR{ai:AI}{m:M}(h:X.F[X.fi]?=some (ai,m)):(X.go ai.own ai.v ai.w).T c+(1+ai.w.length)=X.T c:=by
 unfold aq.T;have b:(X.go ai.own ai.v ai.w).N=X.N:=rfl;have d:(X.go ai.own ai.v ai.w).F=X.F:=rfl;have e:(X.go ai.own ai.v ai.w).fi=X.fi+1:=rfl;have f:(X.go ai.own ai.v ai.w).cu=X.cu:=by funext a;cases a<;>rfl
 rw[b,d,e,f,JB h];simp only;omega
theorem KV(h:Pu P c d u X){ai:AI}{m:M}(l:X.F[X.fi]?=some (ai,m))(p:X.fi<=X.N.length)(q: ∀i v,¬X.ph i v):Pu P c d u (X.go ai.own ai.v ai.w):=by
 have n:X.fi<X.F.length:=by
  grind
 refine h.Bt W W W W W (λi v o=> ?_) (λe a=>a) (λe a=> .inl a) (λe a=> .inl a) n (by show X.fi+1<=X.N.length+1;omega);rcases o with(g|⟨f,e,g,b,j⟩)|g
 ·exact .inl (.inl g)
 ·rcases aqh X.fi f with k|k
  ·exact .inl (.inr ⟨f,e,k,b,j⟩)
  ·obtain rfl:f=X.fi:=by omega
   rw[l]at b;injection b with b
   subst b;exact .inr j
 ·grind
theorem GI(d7:mX P n c d u)(hV:et P n c d u c.eV)(C:cL P n c d u X H)(hT:X.T c<=1000000000000)(D:k7 c X c.eV)(ac: ∀k v,¬X.ph k v)(hn:X.fi<=X.N.length){ai:AI}{m:M}(J:X.F[X.fi]?=some (ai,m)):
  ∃f O,m= .fn f O/\br Tryz.prog f/\DT Tryz.prog f O H λ_ K=> ∃W,cL P n c d u W K/\a_ c (λ_=>False) {X with fi:=X.fi+1} H W K/\W.T c<=X.T c/\(∀k v,¬W.ph k v)/\W.fi<=W.N.length:=by
 have Q:=aqk J;have s:=C.pu.fk _ Q;obtain⟨bn,y,bk,km,e,i,a0,R,Zk,UH,Zj,UR,Xd,E,PY,S⟩:=C.lay.af _ Q;obtain⟨Vx,b4,b5,rfl,T,U⟩:=UR;simp only at R Vx T U E S s;subst R;have d9:=LR (c:=c) J;have hb:a0+aP (e.kids.map xP)<=1000000000:=by
  have t:=(fD xP (l:=e.kids) (i:=i) (by omega)).1;rw[arj (by omega)]at t;have z:e.kids[i]=ai.e:=by rw[aqi (by omega)]at E;injection E
  rw[z]at t;have:=s.sz;omega
 have hx:=dt d7 hV ai.J ai.e s.sm ai.a ai.v ai.w s.ev (X.go ai.own ai.v ai.w) H (⟨C.lay.fp _ _,KV C.pu J hn ac⟩) (by omega) (⟨D.c1,D.f1,D.c4,D.tp⟩) s.fs s.sz s.own s.wr.2;obtain⟨r1,F,⟨rfl,a,o⟩,M1⟩:=GG UH.2 (Fi Xd hb E T.2 U.2 (by rw[<-S];exact hx));have G:=o.2.1;have w:=G.box (X:=X.go ai.own ai.v ai.w) Zj;have A:a.A .it=X.A .it:=(G.A .it trivial).2;have q:=o.1.lay.inst;rw[A]at q;have Ri:a.ry c F (.fn 143 [.d (.aZ [.int .i32 ai.v] 0),.ref y 0,.d (.aZ [.int .i64 (ai.own:Int)] 0)]) (.put ai.own ai.v):=⟨y,rfl,by rw[A];exact w⟩;obtain⟨V,L⟩:=oV o.1.lay Ri;obtain⟨I,co,d6⟩:=qf o.1.pu (p:=(.put ai.own ai.v,.fn 143 [.d (.aZ [.int .i32 ai.v] 0),.ref y 0,.d (.aZ [.int .i64 (ai.own:Int)] 0)])) (⟨s.lt,s.wr.1⟩) (H:=F);have b:=G.trans L;have Y: ∀g,a.cY F (.fn 143 [.d (.aZ [.int .i32 ai.v] 0),.ref y 0,.d (.aZ [.int .i64 (ai.own:Int)] 0)])=g-> ∃W,cL P n c d u W g/\a_ c (λ_=>False) {X with fi:=X.fi+1} H W g/\W.T c<=X.T c/\(∀k v,¬W.ph k v)/\W.fi<=W.N.length:=by
  rintro g rfl;generalize hZ:a.c7 F (.put ai.own ai.v,.fn 143 [.d (.aZ [.int .i32 ai.v] 0),.ref y 0,.d (.aZ [.int .i64 (ai.own:Int)] 0)])=h at V L I co d6 b;have f4:=b.fi;have f7:h.N.length=a.N.length+1:=by rw[<-hZ];simp[aq.c7]
  have PQ:=G.fi;refine⟨{h with fi:=h.fi,ph:=X.ph},⟨V.fp _ _,?_⟩,?_,?_,ac,?_⟩
  ·refine I.Bt rfl rfl rfl rfl rfl (λk v hs=> ?_) (λp B=>B) (λp B=> .inl B) (λp B=> .inl B) I.fl I.fn;rcases hs with t|t
   ·exact .inl t
   ·rw[b.ph]at t;rcases t with z|z
    ·injection z with e1 e2
     subst e1;subst e2;exact .inl (co _ _ ⟨rfl,rfl⟩)
    ·exact .inl (L.S _ _ (o.2.2.2 _ z))
  ·exact⟨b.c0,b.f0,b.len,b.gU,λr hr=>by have:=b.A r (by cases r<;>exact hr);exact⟨by have t:=this.1;revert t;cases r<;>exact id,this.2⟩,b.aG,b.f2,b.f1,b.c1,b.c2,b.c3,b.c4,b.dn,b.qT,b.lv,b.S,b.fi,rfl,b.F⟩
  ·have e4:({h with fi:=h.fi,ph:=X.ph} :aq).cu=h.cu:=by funext i;cases i<;>rfl
   have e5:({h with fi:=h.fi,ph:=X.ph} :aq).T c=h.T c:=by unfold aq.T;rw[e4]
   rw[e5,d6];have:=o.2.2.1;omega
  ·have:=o.1.pu.fn;show h.fi<=h.N.length;omega
 refine⟨_,_,rfl,inferInstance,?_⟩;refine DT.ob Tryz.func142 rfl Tryz.ntmps142 rfl<|dO [2,8] rfl<|Mu (aw rfl rfl Zk.2 rfl)<|dR [9] rfl<|Mu (ll (ms:=[]) M1 rfl rfl rfl)<|dL [] rfl<|DC.freeze 3 (ds:=[.int .i32 ai.v]) rfl rfl ?_
 let Z:M->Hp->Prop:= λd8 g=>g[y]?=some (Ob.box [.ref (X.A .it) 0])/\g[X.A .it]?=some (Ob.box [.ref (a.A .un) 0,.ref (a.A (.fr [])) 0,.d (.bool false),bG (a.A .af) a.vF a.F.length,d8])
 by_cases x:a.N= []
 ·have N:bG (a.A .nx) a.vN a.N.length= .d (.sl []):=by simp[x,bG]
  rw[N]at q;refine dC [] rfl ?_;apply NT (Z (.d (.sl []))) (⟨w.2,q⟩) bT
  ·intro s0 Oo;refine MK rfl rfl (λg j=>⟨_,j.1,rfl⟩)<|MK rfl rfl (λg j=>⟨_,j.1,rfl⟩)<|iR 2 rfl<|MK rfl rfl (λg j=>⟨_,j.2,rfl⟩) ?_;apply MF
   ·skip
    refine eD rfl rfl<|TF.nil ⟨rfl,rfl⟩
   apply MF
   ·skip
    refine dJ (cs:=[_]) rfl rfl rfl rfl rfl rfl<|TF.nil ⟨rfl,rfl⟩
   apply MF
   ·skip
    refine oJ true rfl rfl rfl (lu _ _) rfl rfl (by decide) (by decide)<|TF.nil ⟨rfl,rfl⟩
   refine iR 2 rfl ?_;apply MF
   ·skip
    refine fh rfl rfl (bp (bp q)) rfl rfl rfl<|TF.nil ⟨rfl,rfl⟩
   exact iT.nil ⟨by kernel_rfl,by repeat' first|exact trivial|exact .inl ((by first|exact⟨bp w.2,bp q⟩|exact⟨bp (bp w.2),bp (bp q)⟩))|exact .inr (by kernel_rfl)|refine⟨?_,?_⟩,rfl⟩
  refine⟨_,rfl,Y _ ?_⟩;simp only[aq.cY,aqy x,aqg,aqH,A];rfl
 ·have N:bG (a.A .nx) a.vN a.N.length= .bB (a.A .nx) a.vN a.N.length:=by unfold bG;rw[aqo];intro e;exact x (aq4 e)
  rw[N]at q;have f8:=yd (c:=c) (X:=a) (by have:=o.2.2.1;omega);have MW:a.A .nx≠X.A .it:=by rw[<-A];exact o.1.lay.ne (r:= .nx) (r':= .it) x trivial (by simp)
  refine dC [] rfl ?_;apply NT (Z (.bB (a.A .nx) a.vN a.N.length)) (⟨w.2,q⟩) bT
  ·intro s0 Oo;refine MK rfl rfl (λg j=>⟨_,j.1,rfl⟩)<|MK rfl rfl (λg j=>⟨_,j.1,rfl⟩)<|iR 2 rfl<|MK rfl rfl (λg j=>⟨_,j.2,rfl⟩) ?_;apply MF
   ·skip
    refine eD rfl rfl<|TF.nil ⟨rfl,rfl⟩
   apply MF
   ·skip
    refine dJ (cs:=[_]) rfl rfl rfl rfl rfl rfl<|TF.nil ⟨rfl,rfl⟩
   apply MF
   ·skip
    refine oK rfl rfl rfl (lu _ _) (bp (uP o.1.lay x)) rfl (by omega) (by omega)<|TF.nil ⟨rfl,rfl⟩
   refine iR 2 rfl ?_;apply MF
   ·skip
    refine fh rfl rfl (fB (bp q) MW) rfl rfl rfl<|TF.nil ⟨rfl,rfl⟩
   exact iT.nil ⟨by kernel_rfl,by repeat' first|exact trivial|exact .inl ((by first|exact⟨bp w.2,bp q⟩|exact⟨fB (bp w.2) (by intro e;have:=o.1.lay.own .nx x;rw[e,w.1]at this;cases this),fB (bp q) MW⟩))|exact .inr (by kernel_rfl)|refine⟨?_,?_⟩,rfl⟩
  refine⟨_,rfl,Y _ ?_⟩;simp only[aq.cY,aqo x,A];rfl
end
section
variable{P:Pg}{n:Nat}{c:aH}{d:Nd}{u:US}{X:aq}{H:Hp}
theorem GJ{ins outs:List Int}{u':US}(t:mX P n c d u)(V:gX P (fT P n) c d u ins outs u')(Z: ∀r≤c.eV,et P n c d u r)(h:cL P n c d u X H)(hT:X.T c<=1000000000000)(y:k7 c X c.eV){J:Path}{j:Nat}{q:ay}(hf:X.fs J=2)(hq:(c.fr J).au[j]?=some q)(l:q.kd=1\/q.kd=2\/q.kd=3\/q.kd=4\/q.kd=5)
  (ac: ∀g∈q.lhs,∀f,c.find J g=some f->f.1= []->d.ins.length<=f.2):
  DT Tryz.prog 61 [.ref (X.A .it) 0,.ref (X.A (.fr J)) 0,.ref (X.A (.pl J j)) 0] H λm K=> ∃b,m= .d (.bool b)/\(b=true↔c.nu J q)/\ ∃Y,cM P n c d u X H 0 [] Y K:=by
 have o:=h.lay;obtain⟨co,hp,a⟩:=o.fe hf hq;refine DT.ob Tryz.func61 W Tryz.ntmps61 W ?_;unfold dr at a;refine dC [2] W ?_;rcases l with l|l|l|l|l
 ·rw[l]at a;have z:q.kd=1\/q.kd=2:=by omega
  cases p:q.lhs with
  |nil=>
   rw[p]at a;refine dO [2,16] W<|Mu (aw W W a W)<|dR [23] W ?_
   first|refine Mu (aE W W) ?_|(refine Mu (aB W) ?_;refine Mu (aw W W a W) ?_)
   refine dR [31] W ?_
   first|refine Mu (aE W W) ?_|(refine Mu (aB W) ?_;refine Mu (aw W W a W) ?_)
   refine dL [1,2] W<|DC.ret ⟨_,rfl,true,rfl,⟨λ_ _=>by grind,λ_=>rfl⟩,X,cM.same o h.pu⟩
  |cons g E=>
   rw[p]at a;have G:((((dq (g::E)).length:Nat):Int)==0)=false:=by grind
   have I:=oU o h.pu t.sz J hf g;refine dO [2,16] W<|Mu (aw W W a W)<|dR [23] W ?_
   first|refine Mu (aE W W) ?_|(refine Mu (aB W) ?_;refine Mu (aw W W a W) ?_)
   refine dR [31] W ?_
   first|refine Mu (aE W W) ?_|(refine Mu (aB W) ?_;refine Mu (aw W W a W) ?_)
   refine dR [33] W ?_
   first|refine Mu (aE W W) ?_|(refine Mu (aB W) ?_;refine Mu (aN G W W W W) ?_)
   refine dR [0,2,40] W<|Mu (aw W W a W)<|dR [41] W<|Mu (aK W W W (by decide) (r:=[.str g]) W W)<|dR [43] W<|Mu (ap I W W)<|dL [] W ?_;cases k:c.find J g with
   |none=>
    have w:X.fU c J g= .d .bQ:=by unfold aq.fU;rw[k]
    rw[w];refine dC [] W ?_;apply Mz bT
    ·intro L M;refine fR 1 W<|ou (by kernel_rfl) W W W W W<|fR 14 W<|TF.nil ⟨by kernel_rfl,rfl⟩
    refine DC.ret ⟨_,rfl,false,rfl,⟨λe=>(by cases e),λe=> ?_⟩,X,cM.same o h.pu⟩;have:=e z;rw[p]at this;obtain⟨f,i,_⟩:=this;rw[k]at i;cases i
   |some f=>
    have w:X.fU c J g= .ref (X.A (.ce f.1 f.2)) 0:=by unfold aq.fU;rw[k]
    rw[w];obtain⟨A,v,N,eq,B,RO,O,C,_⟩:=k9 h hf k;have D:=Pu.ok t h.pu A;have x:=V.cell f.1 f.2 v N D B O (ac g (by grind) f k);have s:c.sb f.1 f.2<=c.eV:=by have:=x.sr;have:=x.tp;omega
    have Q:k7 c X (c.sb f.1 f.2):=⟨λJ F e=>aq1 s (y.c1 J F e),λj J e=>aq1 s (y.f1 j J e),y.c4,s⟩;obtain⟨m2,K2,⟨rfl,R,S⟩,T⟩:=sj t (Z _ s) (t.cl _ _ v D B) x.pr h hT Q A;refine dC [] W ?_;apply Mz bT
    ·intro L M;refine fR 1 W<|ou (by kernel_rfl) W W W W W<|fR 5 W ?_
     first|refine bg W W W W ?_|refine bh W W W ?_|(refine aU W W ?_;(refine av W W C W ?_))
     refine fR 4 W ?_
     first|refine bg W W W W ?_|refine bh W W W ?_|(refine aU W W ?_;(refine av W W C W ?_))
     first|refine bg W W W W ?_|refine bh W W W ?_|(refine aU W W ?_;(refine bm T W W ?_))
     refine fR 2 W<|TF.nil ⟨by kernel_rfl,rfl⟩
    refine DC.ret ⟨_,rfl,(c.val f.1 f.2).isSome,rfl,⟨λe _=>by grind,λe=> ?_⟩,R,S⟩;have:=e z;rw[p]at this;obtain⟨τ,i,U⟩:=this;rw[k]at i;injection i with i
    subst i;exact U
 ·rw[l]at a;have z:q.kd=1\/q.kd=2:=by omega
  cases p:q.lhs with
  |nil=>
   rw[p]at a;refine dO [2,16] W<|Mu (aw W W a W)<|dR [23] W ?_
   first|refine Mu (aE W W) ?_|(refine Mu (aB W) ?_;refine Mu (aw W W a W) ?_)
   refine dR [31] W ?_
   first|refine Mu (aE W W) ?_|(refine Mu (aB W) ?_;refine Mu (aw W W a W) ?_)
   refine dL [1,2] W<|DC.ret ⟨_,rfl,true,rfl,⟨λ_ _=>by grind,λ_=>rfl⟩,X,cM.same o h.pu⟩
  |cons g E=>
   rw[p]at a;have G:((((dq (g::E)).length:Nat):Int)==0)=false:=by grind
   have I:=oU o h.pu t.sz J hf g;refine dO [2,16] W<|Mu (aw W W a W)<|dR [23] W ?_
   first|refine Mu (aE W W) ?_|(refine Mu (aB W) ?_;refine Mu (aw W W a W) ?_)
   refine dR [31] W ?_
   first|refine Mu (aE W W) ?_|(refine Mu (aB W) ?_;refine Mu (aw W W a W) ?_)
   refine dR [33] W ?_
   first|refine Mu (aE W W) ?_|(refine Mu (aB W) ?_;refine Mu (aN G W W W W) ?_)
   refine dR [0,2,40] W<|Mu (aw W W a W)<|dR [41] W<|Mu (aK W W W (by decide) (r:=[.str g]) W W)<|dR [43] W<|Mu (ap I W W)<|dL [] W ?_;cases k:c.find J g with
   |none=>
    have w:X.fU c J g= .d .bQ:=by unfold aq.fU;rw[k]
    rw[w];refine dC [] W ?_;apply Mz bT
    ·intro L M;refine fR 1 W<|ou (by kernel_rfl) W W W W W<|fR 14 W<|TF.nil ⟨by kernel_rfl,rfl⟩
    refine DC.ret ⟨_,rfl,false,rfl,⟨λe=>(by cases e),λe=> ?_⟩,X,cM.same o h.pu⟩;have:=e z;rw[p]at this;obtain⟨f,i,_⟩:=this;rw[k]at i;cases i
   |some f=>
    have w:X.fU c J g= .ref (X.A (.ce f.1 f.2)) 0:=by unfold aq.fU;rw[k]
    rw[w];obtain⟨A,v,N,eq,B,RO,O,C,_⟩:=k9 h hf k;have D:=Pu.ok t h.pu A;have x:=V.cell f.1 f.2 v N D B O (ac g (by grind) f k);have s:c.sb f.1 f.2<=c.eV:=by have:=x.sr;have:=x.tp;omega
    have Q:k7 c X (c.sb f.1 f.2):=⟨λJ F e=>aq1 s (y.c1 J F e),λj J e=>aq1 s (y.f1 j J e),y.c4,s⟩;obtain⟨m2,K2,⟨rfl,R,S⟩,T⟩:=sj t (Z _ s) (t.cl _ _ v D B) x.pr h hT Q A;refine dC [] W ?_;apply Mz bT
    ·intro L M;refine fR 1 W<|ou (by kernel_rfl) W W W W W<|fR 5 W ?_
     first|refine bg W W W W ?_|refine bh W W W ?_|(refine aU W W ?_;(refine av W W C W ?_))
     refine fR 4 W ?_
     first|refine bg W W W W ?_|refine bh W W W ?_|(refine aU W W ?_;(refine av W W C W ?_))
     first|refine bg W W W W ?_|refine bh W W W ?_|(refine aU W W ?_;(refine bm T W W ?_))
     refine fR 2 W<|TF.nil ⟨by kernel_rfl,rfl⟩
    refine DC.ret ⟨_,rfl,(c.val f.1 f.2).isSome,rfl,⟨λe _=>by grind,λe=> ?_⟩,R,S⟩;have:=e z;rw[p]at this;obtain⟨τ,i,U⟩:=this;rw[k]at i;injection i with i
    subst i;exact U
 ·rw[l]at a;refine dO [2,16] W<|Mu (aw W W a W)<|dR [23] W ?_
  first|refine Mu (aE W W) ?_|(refine Mu (aB W) ?_;refine Mu (aw W W a W) ?_)
  refine dL [1,2] W<|DC.ret ⟨_,rfl,true,rfl,⟨λ_ e=>by omega,λ_=>rfl⟩,X,cM.same o h.pu⟩
 ·rw[l]at a;refine dO [2,16] W<|Mu (aw W W a W)<|dR [23] W ?_
  first|refine Mu (aE W W) ?_|(refine Mu (aB W) ?_;refine Mu (aw W W a W) ?_)
  refine dL [1,2] W<|DC.ret ⟨_,rfl,true,rfl,⟨λ_ e=>by omega,λ_=>rfl⟩,X,cM.same o h.pu⟩
 ·rw[l]at a;refine dO [2,16] W<|Mu (aw W W a W)<|dR [23] W ?_
  first|refine Mu (aE W W) ?_|(refine Mu (aB W) ?_;refine Mu (aw W W a W) ?_)
  refine dL [1,2] W<|DC.ret ⟨_,rfl,true,rfl,⟨λ_ e=>by omega,λ_=>rfl⟩,X,cM.same o h.pu⟩
end
end Go.Proofs.Sz
namespace Go.Mt
theorem CF{f:Type}(l:List (Nat×f)){t u:Nat}(h:u≠t):get (del l t) u=get l u:=by
 induction l with
 |nil=>rfl
 |cons g l d=>
  obtain⟨b,v⟩:=g;simp only[del,get];by_cases e:b=t
  ·subst e;have a:=asD b;have i:Nat.beq b u=false:=by rw[<-arp];intro c;exact h (aqr c).symm
   simp[a,i,d]
  ·have a:Nat.beq b t=false:=by rw[<-arp];intro c;exact e (aqr c)
   simp only[a,arS,get,d]
end Go.Mt
namespace Go.Proofs.Sz
open Go.Mt Go.Sm Go.Proofs
section
variable{P:Pg}{n:Nat}{c:aH}{d:Nd}{u:US}{X:aq}{H:Hp}
def aq.jv(X:aq)(J:Path)(j:Nat):aq:= {X with lv:= λa b=>if(a,b)=(J,j)then true else X.lv a b}
theorem cx.jv(h:cx P n c d X H)(J:Path)(j:Nat):cx P n c d (X.jv J j) H:=by
 refine⟨λa e=>h.own a (by cases a<;>exact e),h.lt,λa e=> ?_,h.sub,λb f=> ?_,λb f=>h.af b f⟩
 ·obtain⟨g,i,k⟩:=h.ob a (by cases a<;>exact e);exact⟨g,i,by cases a<;>exact k⟩
 ·have:=h.nx b f
  revert this
  generalize b.1=l;intro this;cases l<;>exact this
theorem Pu.jv(h:Pu P c d u X){J:Path}{j:Nat}(l: ∃a∈X.N,a.1=NI.aL J j):Pu P c d u (X.jv J j):=by
 refine{f0:=h.f0,fp:=h.fp,f2:=h.f2,c6:=h.c6,ci:=h.ci,cv:=h.cv,ca:=h.ca,xm:=h.xm,xp:=h.xp,xd:=h.xd,xs:=h.xs,s1:=h.s1,s2:=h.s2,s3:=h.s3,s4:=h.s4,s5:= ?_,dl:=h.dl,dz:=h.dz,cz:=h.cz,nk:= ?_,fk:= λa f=>⟨(h.fk a f).ev,(h.fk a f).fs,(h.fk a f).lt,(h.fk a f).wr,(h.fk a f).sm,(h.fk a f).own,(h.fk a f).sz⟩,fl:=h.fl,fn:=h.fn,g0:=h.g0}
 ·intro g b k;by_cases e:(g,b)=(J,j)
  ·injection e with m n
   subst m;subst n;exact l
  ·have:(X.jv J j).lv g b=X.lv g b:=aqo e;rw[this]at k;exact h.s5 g b k
 ·intro a f;have i:=h.nk a f
  revert i
  generalize a.1=o;intro i;cases o<;>exact i
theorem GK{ins outs:List Int}{u':US}(F:mX P n c d u)(hC:gX P (fT P n) c d u ins outs u')(hV:et P n c d u c.eV)(hI:cL P n c d u X H)(hT:X.T c<=1000000000000)(hP:k7 c X c.eV){J:Path}{j:Nat}{q:ay}{p:Nat}(hf:X.fs J=2)(X7:X.fs (j::J)=2)(x:(c.fr J).au[j]?=some q)(T:q.kd=4)(hp:(c.fr J).pos[j]?=some p)(Vx:X.lv J j=false):
  DT Tryz.prog 64 [.ref (X.A .it) 0,.ref (X.A (.fr J)) 0,.ref (X.A (.pl J j)) 0,.ref (X.A (.fr (j::J))) 0] H λ_ K=> ∃Y,cL P n c d u Y K/\a_ c (λ_=>False) (X.jv J j) H Y K/\Y.T c<=X.T c:=by
 have f:=hI.lay;have U:=Pu.ok F hI.pu hf;have OO:j<(c.fr J).au.length:=by
  rcases aqh j (c.fr J).au.length with f|f
  ·exact f
  ·rw[aqj f]at x;cases x
 have N7:=F.Bu J j q U x;have QQ:=(hC.wq J j q U x).2.2 T;have TP:=(hC.eq J j q p U x hp).1;have M9:=qg f;have NX:(H++ [Ob.box [.ref (X.A .it) 0]]++ [Ob.box [.ref (X.A (.pl J j)) 0]])[H.length]?=some (Ob.box [.ref (X.A .it) 0]):=by simp
 have D:(H++ [Ob.box [.ref (X.A .it) 0]]++ [Ob.box [.ref (X.A (.pl J j)) 0]])[(H++ [Ob.box [M.ref (X.A .it) 0]]).length]?=some (Ob.box [.ref (X.A (.pl J j)) 0]):=by simp
 have G:=(f.grow [Ob.box [.ref (X.A .it) 0]]).grow [Ob.box [.ref (X.A (.pl J j)) 0]];have OG:=(a_.grow c (λ_=>False) X H [Ob.box [.ref (X.A .it) 0]]).trans (a_.grow c (λ_=>False) X _ [Ob.box [.ref (X.A (.pl J j)) 0]]);obtain⟨k,Qi⟩: ∃b,b=H.length:=⟨_,rfl⟩;obtain⟨t,co⟩: ∃b,b=(H++ [Ob.box [M.ref (X.A .it) 0]]).length:=⟨_,rfl⟩;refine DT.ob Tryz.func64 W Tryz.ntmps64 W ?_;cases TP with
 |df Nw=>omega
 |call Nw=>omega
 |sw Nw=>omega
 |reset Nw=>omega
 |aL T M3 d6 a0 hs h0 f8 hu ht a ha t' Sd V9 gc=>
  have OQ:c.bN J j<q.ah.length:=by
   rcases aqh (c.bN J j) q.ah.length with f|f
   ·exact f
   ·have:=ha.ha;rw[aqj f]at this;cases this
  have Vy:=aqk ha.ha;have ge:=(N7.2.2.2.2.1 a Vy).2.2;refine dO [2,8] W<|Mu (cA W W W)<|dR [10] W<|Mu (cA W W W)<|dL [] W<|MG [nR 4 k,nR 6 t,nR 1 (X.A (.fr J)),nR 3 (X.A (.fr (j::J)))] _ (kc (by rw[Qi];rfl) (kc (by rw[co];rfl) W)) W ?_;rw[<-Qi]at NX;rw[<-co]at D;generalize hK:H++ [Ob.box [M.ref (X.A .it) 0]]++ [Ob.box [M.ref (X.A (.pl J j)) 0]]=K at NX D G OG⊢;have Pf:X.box K k (.ref (X.A .it) 0):=⟨(M9 _ (by omega)),NX⟩;have d7:X.box K t (.ref (X.A (.pl J j)) 0):=⟨(M9 _ (by rw[co];simp)),D⟩;obtain⟨p1,_,V⟩:=G.fe hf x;unfold dr at V;rw[T]at V;obtain⟨ob,U4,d9⟩:=G.ob (.tk J) (by show 1<=X.fs J;omega);obtain⟨es,rfl,TS,P7⟩:=d9;have P7:=P7 hf j X7;refine dO [2,17] W<|Mu (aw W W D W)<|dR [21] W<|Mu (aw W W V W)<|dL [0] W ?_;apply Mz bT
  ·intro s0 Oo;refine fR 3 W<|av W W (G.frame hf) W<|av W W D W<|DY W W W W W U4 TS ?_;rw[P7];refine fR 1 W<|TF.nil ⟨by kernel_rfl,rfl⟩
  refine dO [2,2,30] W<|Mu (aw W W D W)<|dR [34] W<|Mu (aw W W V W)<|dR [36] W<|Mu (aK W W W (aqe _) (sn ha.ha) W)<|dR [39] W<|Mu (bH W W W) ?_;rw[show(eC a.eU).length=a.eU.length by simp[eC]];refine dL [] W<|MG [nN 36 0,nN 35 a.eU.length,nD 34 (.sl (eC a.eU)),nR 3 (X.A (.fr (j::J))),nR 4 k,nR 6 t,(9,.loc 9 0),(10,.loc 10 0)] K W W<|dC [] W<|Ny (λMJ=> ∃Y v w,cM P n c d u X K 0 [] Y v/\get w 9=some [dN (c.pJ J j)]/\get w 10=some [.d (.bool (c.nan J j))]/\MJ=⟨[nR 4 k,nR 6 t,(9,.loc 9 0),(10,.loc 10 0)],w,v⟩) ?_ ?_
  ·refine dC [3] W<|DC.lp (λZ s'=> ∃(h:Nat) (Y:aq) (v:Hp) (w:List (Nat×List M)),s'=⟨[nN 36 h,nN 35 a.eU.length,nD 34 (.sl (eC a.eU)),nR 3 (X.A (.fr (j::J))),nR 4 k,nR 6 t,(9,.loc 9 0),(10,.loc 10 0)],w,v⟩/\h<=a.eU.length/\Z=a.eU.length-h/\p_ P.aI c (j::J) c.eV (a.eU.drop h) t'/\cM P n c d u X K 0 [] Y v/\get w 9=some [dN (c.bN J j)]/\get w 10=some [.d (.bool false)]) a.eU.length _
    ⟨0,X,K,_,rfl,by omega,rfl,Sd,cM.same G hI.pu,rfl,rfl⟩ W ?_
   rintro Z s1 ⟨h,Y0,K0,w,rfl,A,rfl,I,L,N,O⟩;have Q:=L.2.1;refine dC [2] W<|DC.cond W (λhc=> ?_) (λhc=> ?_);rotate_left
   ·refine DC.exit ?_;have e:h=a.eU.length:=by have:=aqA hc;omega
    rw[e,arO]at I;cases I;obtain⟨X4,Vp⟩:=V9;exact⟨_,⟨Y0,K0,w,L,by rw[X4];exact N,by rw[Vp];exact O,rfl⟩,cF W W⟩
   have M7:h<a.eU.length:=by have:=aqv hc;omega
   refine dC [] W ?_;have MC:=Ac M7;have d8:=aqz M7;rw[arb M7]at I;generalize a.eU[h]=R at I MC d8;obtain⟨f4,i6⟩:=F.iZ J j q U x a Vy R (.inr d8);have i7:=L.2.2.1;obtain⟨B,OC,X5⟩: ∃B,gT P.aI c (j::J) c.eV R.e 0 B []/\((B≠0/\t'=some R)\/(B=0/\p_ P.aI c (j::J) c.eV (a.eU.drop (h+1)) t')):=by
    cases I with
    |Co l y=>exact⟨_,l,.inl ⟨y,rfl⟩⟩
    |no l y=>exact⟨0,l,.inr ⟨rfl,y⟩⟩
   obtain⟨m2,K2,⟨rfl,Y,m⟩,Nz⟩:=dt F hV (j::J) R.e f4 0 B [] OC Y0 K0 L.1 (by simp only[aqS];omega) (hP.next Q) (Q.f2 _ X7) (by omega) (λZ l y=>by omega) (λf9 hw=>by cases hw);rw[Xp.aA,(Q.A .it trivial).2,(Q.A (.fr (j::J)) (by show 1<=X.fs (j::J);omega)).2]at Nz;have E:=L.trans m;have o:=Q.box Pf;obtain⟨p3,_,OZ⟩:=E.1.lay.fe (E.2.1.f2 J hf) x;rw[(E.2.1.A (.pl J j) ⟨hf,OO⟩).2]at OZ;refine dO [3,2,42] W<|Mu (aK W W W (aqe h) MC W)<|dL [] W ?_;rcases X5 with⟨l,y⟩|⟨l,y⟩
   ·have hb:(B !=0)=true:=by simpa using l
    subst y;obtain⟨X4,Vp⟩:=V9;have Xc:=Ff q.ah R.to (by omega);rw[X4]at Xc;refine dO [2,44] W<|Mu (aw W W o.2 W)<|dR [48] W<|Mu (ap Nz W W)<|dR [49] W<|Mu (aN hb W W W W)<|dL [1] W ?_;apply Mz bT
    ·intro s0 Oo;refine av W W (E.2.1.box d7).2 W<|fR 3 W<|av W W OZ W<|fR 2 W<|aS Xc W W<|fR 3 W<|iH W W N W W W<|iH W W O W W W<|TF.nil ⟨by kernel_rfl,rfl⟩
    refine DC.exit<|⟨_,⟨Y,K2,_,E,rfl,by rw[Vp];rfl,rfl⟩,cF W W⟩
   ·have hb:(B !=0)=false:=by rw[l];rfl
    refine dO [2,44] W<|Mu (aw W W o.2 W)<|dR [48] W<|Mu (ap Nz W W)<|dR [49] W<|Mu (aN hb W W W W)<|dR [0,2,61] W<|Mu (ax W W W (by omega))<|dL [] W<|bE (k':=a.eU.length-(h+1)) (by omega) ⟨h+1,Y,K2,_,rfl,by omega,rfl,y,E,N,O⟩ W W
  ·rintro _ ⟨Y,v,w,m,N,O,rfl⟩;refine DC.freeze 9 (ds:=[iN (c.pJ J j)]) N W<|DC.freeze 10 (ds:=[.bool (c.nan J j)]) (by rw[CF _ (by decide)];exact O) W ?_;have z:=m.2.1;have o:=z.box Pf;have S:=(z.A .it trivial).2;have s:=m.1.lay.inst;rw[S]at s;have Ri:Y.ry c v (.fn 95 [.d (.aZ [iN (c.pJ J j)] 0),.d (.aZ [.bool (c.nan J j)] 0),.ref k 0,.ref t 0]) (.aL J j):=⟨⟨z.f2 _ hf,OO⟩,k,t,rfl,by rw[S];exact o,by rw[(z.A (.pl J j) ⟨hf,OO⟩).2];exact(z.box d7)⟩;have f7:NI.ok c d Y (.aL J j):=⟨z.f2 _ X7,q,p,x,T,hp,(by rw[<-F.zq];exact M3)⟩;obtain⟨XZ,Vw⟩:=oV m.1.lay Ri;obtain⟨W9,i8,i9⟩:=qf m.1.pu (p:=(.aL J j,.fn 95 [.d (.aZ [iN (c.pJ J j)] 0),.d (.aZ [.bool (c.nan J j)] 0),.ref k 0,.ref t 0])) f7 (H:=v);have g:=OG.trans (z.trans Vw);have NC: ∀i,Y.cY v (.fn 95 [.d (.aZ [iN (c.pJ J j)] 0),.d (.aZ [.bool (c.nan J j)] 0),.ref k 0,.ref t 0])=i-> ∃ac,cL P n c d u ac i/\a_ c (λ_=>False) (X.jv J j) H ac i/\ac.T c<=X.T c:=by
    rintro i rfl;refine⟨_,⟨XZ.jv J j,W9.jv ⟨_,aqt _ (aru _),rfl⟩⟩,?_,?_⟩
    ·exact⟨g.c0,g.f0,g.len,g.gU,λr hr=>by have:=g.A r (by cases r<;>exact hr);exact⟨by have l:=this.1;revert l;cases r<;>exact id,this.2⟩,g.aG,g.f2,g.f1,g.c1,g.c2,g.c3,g.c4,g.dn,g.qT,by unfold aq.jv;simp only;rw[g.lv],g.S,g.fi,g.ph,g.F⟩
    ·have l:=uN (c:=c) (X:=Y) (Y:=(Y.c7 v (.aL J j,.fn 95 [.d (.aZ [iN (c.pJ J j)] 0),.d (.aZ [.bool (c.nan J j)] 0),.ref k 0,.ref t 0])).jv J j) (i0:= .lv J j) (a:=1) (b:=0) (λh A=>by
      cases h with
      |lv a b=>
       simp only[aq.cu,arn]at A⊢;by_cases e:(a,b)=(J,j)
       ·simp only[aq.jv,aqy e]at A;cases A
       ·simp only[aq.jv,aqo e]at A;exact A
      |_=>exact A) QQ.1 (by simp only[aq.cu];rw[z.lv,Vx];rfl) (by simp[aq.cu,aq.jv]) (by simp[aq.jv,aq.c7]) (aqd _)
     have h3:=m.2.2.1;omega
   let Iv:M->Hp->Prop:= λd6 i=>i[k]?=some (Ob.box [.ref (X.A .it) 0])/\i[X.A .it]?=some (Ob.box [.ref (Y.A .un) 0,.ref (Y.A (.fr [])) 0,.d (.bool false),bG (Y.A .af) Y.vF Y.F.length,d6])
   by_cases C:Y.N= []
   ·have e0:bG (Y.A .nx) Y.vN Y.N.length= .d (.sl []):=by simp[C,bG]
    rw[e0]at s;refine dC [] W ?_;apply NT (Iv (.d (.sl []))) (⟨o.2,s⟩) bT
    ·intro s0 Oo;refine MK W W (λi f=>⟨_,f.1,rfl⟩)<|MK W W (λi f=>⟨_,f.1,rfl⟩)<|iR 2 W<|MK W W (λi f=>⟨_,f.2,rfl⟩) ?_;apply MF
     ·skip
      refine eD W W<|TF.nil ⟨rfl,rfl⟩
     apply MF
     ·skip
      refine dJ (cs:=[_]) W W W W W W<|TF.nil ⟨rfl,rfl⟩
     apply MF
     ·skip
      refine oJ true W W W (lu _ _) W W (by decide) (by decide)<|TF.nil ⟨rfl,rfl⟩
     refine iR 2 W ?_;apply MF
     ·skip
      refine fh W W (bp (bp s)) W W W<|TF.nil ⟨rfl,rfl⟩
     exact iT.nil ⟨by kernel_rfl,by repeat' first|exact trivial|exact .inl ((by first|exact⟨bp o.2,bp s⟩|exact⟨bp (bp o.2),bp (bp s)⟩))|exact .inr (by kernel_rfl)|refine⟨?_,?_⟩,rfl⟩
    refine⟨_,rfl,NC _ ?_⟩;simp only[aq.cY,aqy C,aqg,aqH,S];rfl
   ·have e0:bG (Y.A .nx) Y.vN Y.N.length= .bB (Y.A .nx) Y.vN Y.N.length:=by unfold bG;rw[aqo];intro e;exact C (aq4 e)
    rw[e0]at s;have mt:=yd (c:=c) (X:=Y) (by have:=m.2.2.1;omega);have MW:Y.A .nx≠X.A .it:=by rw[<-S];exact m.1.lay.ne (r:= .nx) (r':= .it) C trivial (by simp)
    refine dC [] W ?_;apply NT (Iv (.bB (Y.A .nx) Y.vN Y.N.length)) (⟨o.2,s⟩) bT
    ·intro s0 Oo;refine MK W W (λi f=>⟨_,f.1,rfl⟩)<|MK W W (λi f=>⟨_,f.1,rfl⟩)<|iR 2 W<|MK W W (λi f=>⟨_,f.2,rfl⟩) ?_;apply MF
     ·skip
      refine eD W W<|TF.nil ⟨rfl,rfl⟩
     apply MF
     ·skip
      refine dJ (cs:=[_]) W W W W W W<|TF.nil ⟨rfl,rfl⟩
     apply MF
     ·skip
      refine oK W W W (lu _ _) (bp (uP m.1.lay C)) W (by omega) (by omega)<|TF.nil ⟨rfl,rfl⟩
     refine iR 2 W ?_;apply MF
     ·skip
      refine fh W W (fB (bp s) MW) W W W<|TF.nil ⟨rfl,rfl⟩
     exact iT.nil ⟨by kernel_rfl,by repeat' first|exact trivial|exact .inl ((by first|exact⟨bp o.2,bp s⟩|exact⟨fB (bp o.2) (by intro e;have:=m.1.lay.own .nx C;rw[e,o.1]at this;cases this),fB (bp s) MW⟩))|exact .inr (by kernel_rfl)|refine⟨?_,?_⟩,rfl⟩
    refine⟨_,rfl,NC _ ?_⟩;simp only[aq.cY,aqo C,S];rfl
end
section
variable{P:Pg}{n:Nat}{c:aH}{d:Nd}{u:US}{X:aq}{H:Hp}
theorem cx.free(h:cx P n c d X H){a:Nat}{t:Ob}(ob:Ob)(p:X.own a=none)(j:H[a]?=some t)(T: ∀m,t≠ .box [m]):cx P n c d X (H.set a ob):=by
 have i: ∀b m,X.box H b m->X.box (H.set a ob) b m:=by
  rintro b m ⟨g,f⟩;refine⟨g,?_⟩;rw[aqn (by rintro rfl;rw[j]at f;injection f with f;exact T m f)];exact f
 refine⟨h.own,λb l q=>by simpa using h.lt b l q,λl u=> ?_,λw z A B=> ?_,λo r=> ?_,λo r=> ?_⟩
 ·obtain⟨x,g,f⟩:=h.ob l u;exact⟨x,by rw[aqn (by rintro rfl;rw[h.own l u]at p;cases p)];exact g,f⟩
 ·exact(h.sub w z A B).frame (λb q=>aqn (by rintro rfl;rw[q]at p;cases p)) (by simp)
 ·have:=h.nx o r
  revert this
  generalize o.1=C;intro this;cases C with
  |cell ac V=>obtain⟨j,b,s,g,f,k⟩:=this;exact⟨j,b,s,g,i _ _ f,i _ _ k⟩
  |aL Y Z=>obtain⟨j,b,s,g,f,k⟩:=this;exact⟨j,b,s,g,i _ _ f,i _ _ k⟩
  |arrow U=>obtain⟨b,g,f⟩:=this;exact⟨b,g,i _ _ f⟩
  |put U v=>obtain⟨b,g,f⟩:=this;exact⟨b,g,i _ _ f⟩
 ·obtain⟨D,E,F,G,e,y,I,g,f,k,J,K,L⟩:=h.af o r;obtain⟨M,N,O,Q,R,S⟩:=K;exact⟨D,E,F,G,e,y,I,g,i _ _ f,i _ _ k,i _ _ J,⟨M,N,O,Q,i _ _ R,i _ _ S⟩,L⟩
theorem a_.free{E:Path×Nat->Prop}{d:aq}{H0:Hp}(h:a_ c E d H0 X H){a:Nat}(g:H0.length<=a)(ob:Ob):a_ c E d H0 X (H.set a ob):=
 {h with len:=by simpa using h.len,gU:= λb e f=>⟨(h.gU b e f).1,(aqn (by omega)).trans (h.gU b e f).2⟩}
theorem cx.Bv(h:cx P n c d X H){σ:Path×Nat}(hf:X.fs σ.1≠2)(s:Nat)(r:X.cs σ.1 σ.2≠3)(w:s≠3):cx P n c d (X.cH σ s) H:=by
 refine⟨λf i=>h.own f (by cases f<;>exact i),h.lt,λf i=> ?_,h.sub,λg j=> ?_,λg j=>h.af g j⟩
 ·obtain⟨x,y,k⟩:=h.ob f (by cases f<;>exact i);refine⟨x,y,?_⟩;cases f with
  |ce a u=>
   obtain⟨z,A,B,v,l,m,C,o,p⟩:=k;have t:(a,u)≠σ:=by rintro rfl;exact hf i.1
   exact⟨z,A,B,v,l,m,by rw[bC X t];exact C,by rw[bC X t];exact o,p⟩
  |am a=>
   obtain⟨D,l,m,o,p⟩:=k;refine⟨D,l,m,λE b F=> ?_,p⟩;rw[show(X.cH σ s).A=X.A from rfl,o E b F];unfold aq.nz;by_cases e:(b::a,0)=σ
   ·subst e;rw[b8 X (b::a,0) s];simp only at r;rw[aqo (λq:X.dn a b=true/\X.cs (b::a) 0=3=>r q.2),aqo (λq:(X.cH (b::a,0) s).dn a b=true/\s=3=>w q.2)];rfl
   ·rw[bC X e];rfl
  |_=>exact k
 ·have:=h.nx g j
  revert this
  generalize g.1=G;intro this;cases G<;>exact this
theorem a_.Bv{σ:Path×Nat}{s:Nat}(h:X.cs σ.1 σ.2=2->s=2)(i:X.cs σ.1 σ.2=3->s=3)(j:s≠0):a_ c (·=σ) X H (X.cH σ s) H:=by
 refine{c0:= ?_,f0:= λ_ f=>f,len:=aqd _,gU:= λ_ _ k=>⟨k,rfl⟩,A:= λg l=>⟨by cases g<;>exact l,rfl⟩,aG:= λ_ _=>⟨rfl,rfl⟩,f2:= λ_ f=>f,f1:= λ_=>ari,c1:= ?_,c2:= ?_,c3:= ?_,c4:= ?_,dn:= λ_ _ f=>f,qT:= λ_ _ _ _=>rfl,lv:=rfl,S:= λ_ _ f=>f,fi:=rfl,ph:=rfl,F:=⟨[],by simp[aq.cH]⟩}
 ·intro a b e;by_cases d:(a,b)=σ
  ·subst d;rw[b8 X (a,b) s]at e;exact absurd e j
  ·rw[bC X d]at e;exact e
 ·intro a b e;rw[bC X e]
 ·intro a b e;by_cases d:(a,b)=σ
  ·subst d;rw[b8 X (a,b) s];exact h e
  ·rw[bC X d];exact e
 ·intro a b e;by_cases d:(a,b)=σ
  ·subst d;rw[b8 X (a,b) s];exact i e
  ·rw[bC X d];exact e
 ·intro a b m e _;rw[bC X e]
theorem CG{ins outs:List Int}{u':US}(s:gX P (fT P n) c d u ins outs u')(i:cL P n c d u X H){J:Path}{j:Nat}{q:ay}(l:(c.fr J).au[j]?=some q)(t:q.kd=2)(v:X.dn J j=false)(g:X.cs (j::J) 0=0)(w:It.call J j∈c.an):
  X.fs (j::J)≠2/\cL P n c d u (X.cH (j::J,0) 1) H/\a_ c (·=(j::J,0)) X H (X.cH (j::J,0) 1) H/\(X.cH (j::J,0) 1).T c+c.wt (.call J j)<=X.T c:=by
 have m:X.fs (j::J)≠2:= λe=>by
  obtain⟨_,y,h,z⟩:=s.iG j J (i.pu.fp j J (by omega)).2;rw[l]at h;injection h with h;subst h;omega
 refine⟨m,⟨i.lay.Bv (σ:=(j::J,0)) m 1 (by grind) (by decide),i.pu.cH (σ:=(j::J,0)) (by omega) (λe=>by cases e) (λe=>by cases e) (λe=>by cases e) (λe=>by simp only[g]at e;cases e) (λe=>by grind) (λe=>by cases e) (λe=>by omega) (λ_ _ _ _ _ _=>rfl) (.inr ⟨rfl,j,J,q,rfl,l,t⟩)⟩,a_.Bv (σ:=(j::J,0)) (λe=>by simp only[g]at e;cases e) (λe=>by simp only[g]at e;cases e) (by decide),?_⟩
 ·refine uN (a:=0) (b:=0) (λp f=> ?_) w (by simp[aq.cu,g,v]) (by have:=b8 X (j::J,0) 1;simp only at this;simp[aq.cu,this]) (aqd _) (aqd _);cases p with
  |cell k r=>
   simp only[aq.cu,ar6]at f⊢;by_cases e:(k,r)=(j::J,0)
   ·grind
   ·rw[bC X e]at f;exact f
  |call k x=>
   simp only[aq.cu,aqB,ar6]at f⊢;refine⟨f.1,?_⟩;have o:=f.2;by_cases e:(x::k,0)=(j::J,0)
   ·grind
   ·rw[bC X e]at o;exact o
  |_=>exact f
end
end Go.Proofs.Sz
namespace Go.Sm
open Go.Mt
def bI(l:List Int):List (List D):=l.map λz=>[.int .i32 z]
end Go.Sm
namespace Go.Proofs.Sz
open Go.Mt Go.Sm Go.Proofs
def qh(P:Pg)(n:Nat):Prop:= ∀(u:US) (ins outs:List Int) (u':US) (iu:Nat) (F:Nat->Prop) (H:Hp),fT P n u ins outs u'->iq P n u iu F H->
 DT Tryz.prog 27 [.ref iu 0,.d (.sl (bI ins))] H λm K=>m= .cZ [.d (.sl (bI outs)),.d (.bool true)]/\ ∃F',iq P n u' iu F' K/\(∀a,F' a->F a\/H.length<=a)/\H.length<=K.length/\ ∀a,a<H.length-> ¬F a->K[a]?=H[a]?
section
variable{P:Pg}{n:Nat}{c:aH}{d:Nd}{u:US}{X:aq}{H K:Hp}
open Classical in
noncomputable def aq.fX(X:aq)(p:Nat)(u':US)(iu:Nat)(F:Nat->Prop):aq:= {X with
 own:= λa=>if F a then some (.sb p)else if X.own a=some (.sb p)then none else X.own a
 x:=⟨X.x.m,X.x.p,bY X.x.s p (some u')⟩
 ad:=bY X.ad p iu}
theorem vH(X:aq){p:Nat}{u':US}{iu:Nat}{F:Nat->Prop}{a:Nat}(c: ∀a,F a->X.own a=some (.sb p)\/H.length<=a)(d: ∀a r,X.own a=some r->a<H.length){r:Ro}(e:r≠ .sb p):(X.fX p u' iu F).own a=some r↔X.own a=some r:=by
 unfold aq.fX;simp only;by_cases b:F a
 ·grind
 ·grind
theorem CH(X:aq){p:Nat}{u':US}{iu:Nat}{F:Nat->Prop}{a:Nat} :(X.fX p u' iu F).own a=some (.sb p)↔F a:=by
 unfold aq.fX;simp only;by_cases b:F a
 ·grind
 ·grind
theorem Ea(X:aq){p:Nat}{u':US}{iu:Nat}{F:Nat->Prop}(d: ∀a,F a->X.own a=some (.sb p)\/H.length<=a){a:Nat}(e:a<H.length)(b:X.own a=none):(X.fX p u' iu F).own a=none:=by
 unfold aq.fX;simp only;rw[aqo (λc=>by
  grind),aqo (by rw[b];simp)]
 exact b
theorem cx.fX(h:cx P n c d X H){p:Nat}{u':US}{iu:Nat}{F:Nat->Prop}(f:iq P n u' iu F K)(l: ∀b,F b->X.own b=some (.sb p)\/H.length<=b)(y:H.length<=K.length)
  (s: ∀b,b<H.length->X.own b≠some (.sb p)->b≠X.A .su->K[b]?=H[b]?) (E:K[X.A .su]?=some (.row false 1 0 (bz (bW d) (eG (bY X.x.s p (some u')) (bY X.ad p iu))))):
  cx P n c d (X.fX p u' iu F) K/\a_ c (λ_=>False) X H (X.fX p u' iu F) K:=by
 have lt:=h.lt;have m: ∀b,b<H.length->X.own b=none->(X.fX p u' iu F).own b=none/\K[b]?=H[b]?:= λb j i=>⟨Ea (H:=H) X l j i,s b j (by rw[i];simp) (by rintro rfl;rw[h.own .su trivial]at i;cases i)⟩
 have o: ∀a,X.live c a->(X.fX p u' iu F).live c a/\(X.fX p u' iu F).A a=X.A a:= λa f=>⟨by cases a<;>exact f,rfl⟩
 have q: ∀a,(X.fX p u' iu F).live c a->X.live c a:= λa f=>by cases a<;>exact f
 have G: ∀a,X.live c a->a≠ .sb p:=by rintro a f rfl;exact f
 refine⟨⟨λa f=>(vH (H:=H) X l lt (G a (q a f))).2 (h.own a (q a f)),λb a i=> ?_,λa I=> ?_,λg A J k=> ?_,λr t=>(h.nx r t).up m o,λr t=>(h.af r t).up m o⟩,?_⟩
 ·by_cases z:a= .sb p
  ·subst z;exact f.lt b (CH X|>.1 i)
  ·have:=lt b a ((vH (H:=H) X l lt z).1 i);omega
 ·have x:=q a I;by_cases u:a= .su
  ·subst u;exact⟨_,E,rfl⟩
  ·obtain⟨B,C,D⟩:=h.ob a x;have i:=h.own a x;refine⟨B,(s _ (lt _ _ i) (by grind) (h.ne x trivial u)).trans C,?_⟩;cases a with
   |su=>exact absurd W u
   |_=>exact D
 ·by_cases e:g=p
  ·subst e;have v:(X.fX g u' iu F).x.s g=some u':=by simp[aq.fX,bY]
   rw[v]at k;injection k with k
   subst k;have w:(X.fX g u' iu F).ad g=iu:=by simp[aq.fX,bY]
   rw[w];exact f.congr λb=>(CH X).symm
  ·have v:(X.fX p u' iu F).x.s g=X.x.s g:=by simp[aq.fX,bY,e]
   rw[v]at k;have w:(X.fX p u' iu F).ad g=X.ad g:=by simp[aq.fX,bY,e]
   rw[w];refine((h.sub g A J k).frame (λb j=>s b (lt b _ j) (by grind) (by rintro rfl;rw[h.own .su trivial]at j;cases j)) y).congr λb=>(vH (H:=H) X l lt (by grind)).symm
 ·exact{c0:= λ_ _ h=>h,f0:= λ_ h=>h,len:=y,gU:=m,A:=o,aG:= λ_ _=>⟨rfl,rfl⟩,f2:= λ_ h=>h,f1:= λ_=>ari,c1:= λ_ _ _=>ari,c2:= λ_ _ h=>h,c3:= λ_ _ h=>h,c4:= λ_ _ _ _ _=>ari,dn:= λ_ _ h=>h,qT:= λ_ _ _ _=>rfl,lv:=rfl,S:= λ_ _ h=>h,fi:=rfl,ph:=rfl,F:=⟨[],by simp[aq.fX]⟩}
def aq.kD(X:aq)(J:Path)(j:Nat):aq:= {X with dn:= λa b=>if(a,b)=(J,j)then true else X.dn a b}
theorem yf(X:aq)(J:Path)(j:Nat):(X.kD J j).dn J j=true:=aqy W
theorem mY(X:aq){J:Path}{j:Nat}{a:Path}{b:Nat}(h:(a,b)≠(J,j)):(X.kD J j).dn a b=X.dn a b:=aqo h
theorem uR(X:aq){J:Path}{j:Nat}{a:Path}{b:Nat}(h:X.dn a b=true):(X.kD J j).dn a b=true:=by
 by_cases e:(a,b)=(J,j)
 ·injection e with c d;subst c;subst d;exact yf X _ _
 ·rw[mY X e];exact h
theorem cx.kD(h:cx P n c d X H){J:Path}{j:Nat}(p:X.cs (j::J) 0≠3):cx P n c d (X.kD J j) H:=by
 refine⟨λf i=>h.own f (by cases f<;>exact i),h.lt,λf i=> ?_,h.sub,λg k=> ?_,λg k=>h.af g k⟩
 ·obtain⟨r,s,q⟩:=h.ob f (by cases f<;>exact i);refine⟨r,s,?_⟩;cases f with
  |am b=>
   obtain⟨t,l,m,u,v⟩:=q;refine⟨t,l,m,λw a x=> ?_,v⟩;rw[show(X.kD J j).A=X.A from rfl,u w a x];unfold aq.nz;by_cases e:(b,a)=(J,j)
   ·injection e with l m
    subst l;subst m;rw[aqo (λo:X.dn b a=true/\X.cs (a::b) 0=3=>p o.2),aqo (λo:(X.kD b a).dn b a=true/\(X.kD b a).cs (a::b) 0=3=>p o.2)];rfl
   ·rw[mY X e];rfl
  |_=>exact q
 ·have:=h.nx g k
  revert this
  generalize g.1=y;intro this;cases y<;>exact this
theorem a_.kD{J:Path}{j:Nat}(h:X.cs (j::J) 0=1):a_ c (·=(j::J,0)) X H (X.kD J j) H:=
 {
  c0:= λ_ _ a=>a,f0:= λ_ a=>a,len:=aqd _,gU:= λ_ _ e=>⟨e,rfl⟩,A:= λd f=>⟨by cases d<;>exact f,rfl⟩,aG:= λ_ _=>⟨rfl,rfl⟩,f2:= λ_ a=>a,f1:= λ_=>ari,c1:= λ_ _ _=>ari,c2:= λ_ _ a=>a,c3:= λ_ _ a=>a,c4:= λ_ _ _ _ _=>ari,dn:= λ_ _ a=>uR X a,
  qT:= λg b i _=>mY X (by grind),lv:=rfl,S:= λ_ _ a=>a,fi:=rfl,ph:=rfl,F:=⟨[],by simp[aq.kD]⟩}
theorem Pu.called(z:mX P n c d u)(h:Pu P c d u X){J:Path}{j:Nat}{q:ay}{p:Nat}{iu:Nat}{F:Nat->Prop}(hf:X.fs J=2)(A:(c.fr J).au[j]?=some q)(w:q.kd=2)(i:(c.fr J).pos[j]?=some p)(L:X.cs (j::J) 0=1)(hd:X.dn J j=false)(ht:c.nu J q)(M: ∀E∈c.ew J j,X.SS c E.1 E.2):
  Pu P c d u ((X.fX p (c.ln J j) iu F).kD J j):=by
 have ac: ∀g a f,X.DC c g a f->((X.fX p (c.ln J j) iu F).kD J j).DC c g a f:= λg a f k=>⟨k.1,uR _ k.2.1,k.2.2⟩
 have d6:((X.fX p (c.ln J j) iu F).kD J j).DC c p J j:=⟨hf,yf _ _ _,q,A,w,i⟩;have co: ∀g a f,((X.fX p (c.ln J j) iu F).kD J j).DC c g a f-> ¬(a,f)=(J,j)->X.DC c g a f:= λg a f k x=>⟨k.1,by have:=k.2.1;rw[mY _ x]at this;exact this,k.2.2⟩
 have G: ∀g,((X.fX p (c.ln J j) iu F).kD J j).x.s g=bY X.x.s p (some (c.ln J j)) g:= λ_=>rfl
 refine{f0:=h.f0,fp:=h.fp,f2:=h.f2,c6:=h.c6,ci:=h.ci,cv:=h.cv,ca:=h.ca,xm:=h.xm,xp:=h.xp,xd:= ?_,xs:= ?_,s1:=h.s1,s2:= ?_,s3:= ?_,s4:=h.s4,s5:=h.s5,dl:= ?_,nk:= ?_,fk:= λp i=>⟨(h.fk p i).ev,(h.fk p i).fs,(h.fk p i).lt,(h.fk p i).wr,(h.fk p i).sm,(h.fk p i).own,(h.fk p i).sz⟩,fl:=h.fl,fn:=h.fn,g0:= ?_,dz:= ?_,cz:=h.cz}
 ·intro g B a f k;rw[G];by_cases e:(a,f)=(J,j)
  ·injection e with l m
   subst l;subst m;obtain⟨_,_,o,y,_,t⟩:=k;rw[i]at t;injection t with t
   subst t;simp[bY]
  ·have r:=co g a f k e;obtain⟨N,_,o,y,C,t⟩:=id r;have x:g≠p:=by
    rintro rfl;obtain⟨l,m⟩:=z.inj J j q a f o g (Pu.ok z h hf) (Pu.ok z h N) A y w C i t;exact e (by rw[l,m])
   simp only[bY,aqo x];exact h.xd g B a f r
 ·intro g B O;have x:g≠p:=by grind
  rw[G];simp only[bY,aqo x];exact h.xs g B λa f k=>O a f (ac g a f k)
 ·intro I Q v a f o r R S T U V Y;obtain⟨K,b,e⟩:=h.s2 I Q v a f o r R S T U V Y;exact⟨K,b,λw=>uR _ (e w)⟩
 ·intro a f D s;by_cases e:(a,f)=(J,j)
  ·injection e with l m
   subst l;subst m;exact⟨⟨q,A,w,ht⟩,M⟩
  ·rw[mY _ e]at s;exact h.s3 a f D s
 ·intro a f o D s H;by_cases e:(a,f)=(J,j)
  ·injection e with l m
   subst l;subst m;have:X.cs (f::a) 0=3:=H;omega
  ·rw[mY _ e]at s;exact h.dl a f o D s H
 ·intro p i;have r:=h.nk p i
  revert r
  generalize p.1=Z;intro r;cases Z<;>exact r
 ·intro a f o y C;by_cases e:(a,f)=(J,j)
  ·injection e with l m
   subst l;subst m;exact .inr (.inl L)
  ·rw[mY _ e];exact h.g0 a f o y C
 ·intro a f s;by_cases e:(a,f)=(J,j)
  ·injection e with l m
   subst l;subst m;exact hf
  ·rw[mY _ e]at s;exact h.dz a f s
theorem GM{J:Path}{j:Nat}{p iu:Nat}{u':US}{F:Nat->Prop} :((X.fX p u' iu F).kD J j).T c<=X.T c:=by
 refine Bs (a:=0) (b:=0) (λg d=> ?_) (aqd _) (aqd _);cases g with
 |call a b=>
  simp only[aq.cu,aqB,arn,ar6]at d⊢;refine⟨?_,d.2⟩;cases e:X.dn a b with
  |false=>rfl
  |true=>have f:=d.1;rw[uR (X.fX p u' iu F) e]at f;cases f
 |_=>exact d
theorem cx.yg(h:cx P n c d X H){J:Path}{j:Nat}(hf:X.fs J=2)(x:X.fs (j::J)=0)(y:X.dn J j=true){q:ay}(O:(c.fr J).au[j]?=some q){es:List (D×M)}(z:H[X.A (.am J)]?=some (.map es)):
  cx P n c d (X.cH (j::J,0) 3) (H.set (X.A (.am J)) (.map (iJ (X.A (.pl J j)) 0 (.ref (X.A (.fr J)) 0) es))):=by
 have A:j<(c.fr J).au.length:=by
  grind
 obtain⟨B,f,Q,rfl,t,C,R⟩:=h.ob (.am J) (by show 1<=X.fs J;omega);rw[z]at f;injection f with f
 injection f with f
 subst f;have u: ∀b a,a<(c.fr b).au.length->(a::b,0)≠(j::J,0)->(X.cH (j::J,0) 3).nz b a=X.nz b a:= λb a _ g=>by unfold aq.nz;rw[bC X g];rfl
 refine h.yb (.am J) (by show 1<=X.fs J;omega) _ W W W W W W (λr=>by cases r<;>exact ari) ⟨_,rfl,nS _ _ _ t,λ_ a i=> ?_,λe=>by have:X.fs J=1:=e;omega⟩ (λr B S E l=> ?_)
 ·rw[oL _ _ _ _ _ t];by_cases e:a=j
  ·subst e;rw[aqy ⟨rfl,rfl⟩];unfold aq.nz;rw[aqo (show ¬(X.cH (a::J,0) 3).fs (a::J)≠0 fromλm=>m x),aqy ⟨y,b8 X (a::J,0) 3⟩];rfl
  ·rw[aqo (λm=>h.ne (r:= .pl J a) (r':= .pl J j) ⟨hf,i⟩ ⟨hf,A⟩ (by grind) m.1),u J a i (by grind)];exact C hf a i
 ·cases r with
  |ce b v=>
   obtain⟨F,G,I,w,k,o,p,s,K⟩:=l;have g:(b,v)≠(j::J,0):=by
    intro e;injection e with k _
    subst k;have:X.fs (j::J)=2:=E.1;omega
   exact⟨F,G,I,w,k,o,by rw[bC X g];exact p,by rw[bC X g];exact s,K⟩
  |am b=>
   obtain⟨N,k,o,p,s⟩:=l;refine⟨N,k,o,λL a i=> ?_,s⟩;have g:(a::b,0)≠(j::J,0):=by grind
   rw[u b a i g];exact p L a i
  |_=>exact l
theorem Pu.yg(h:Pu P c d u X){J:Path}{j:Nat}{q:ay}(D:(c.fr J).au[j]?=some q)(R:q.kd=2)(S:c.val (j::J) 0=none)(T:X.fs (j::J)=0)(E:X.dn J j=true)(U:X.cs (j::J) 0=1)(F: ∀z∈q.lhs,∀w,c.find J z=some w->X.cs w.1 w.2=2\/X.cs w.1 w.2=4):Pu P c d u (X.cH (j::J,0) 3):=by
 refine{f0:=h.f0,fp:=h.fp,f2:=h.f2,xm:=h.xm,xp:=h.xp,xd:=h.xd,xs:=h.xs,s3:=h.s3,s4:=h.s4,s5:=h.s5,fl:=h.fl,fn:=h.fn,dz:=h.dz,fk:= λi k=>⟨(h.fk i k).ev,(h.fk i k).fs,(h.fk i k).lt,(h.fk i k).wr,(h.fk i k).sm,(h.fk i k).own,(h.fk i k).sz⟩,c6:= ?_,ci:= ?_,cv:= ?_,ca:= ?_,s1:= ?_,s2:= ?_,dl:= ?_,nk:= ?_,g0:= ?_,cz:= ?_}
 ·intro f a;by_cases e:(f,a)=(j::J,0)
  ·injection e with b p;subst b;subst p;rw[b8 X (j::J,0) 3];omega
  ·rw[bC X e];exact h.c6 f a
 ·intro a G;rw[bC X (by grind)];exact h.ci a G
 ·intro f a r;by_cases e:(f,a)=(j::J,0)
  ·injection e with b p;subst b;subst p;rw[b8 X (j::J,0) 3]at r;cases r
  ·rw[bC X e]at r;exact h.cv f a r
 ·intro f a r;by_cases e:(f,a)=(j::J,0)
  ·grind
  ·rw[bC X e]at r;exact h.ca f a r
 ·intro f a i v n o;have e:(f,a)≠(j::J,0):=by intro e;injection e with b _;subst b;have:X.fs (j::J)=2:=n;omega
  rw[bC X e]at o;exact h.s1 f a i v n o
 ·intro g H v l m x n o;have e:(g.1,g.2)≠(j::J,0):=by intro e;injection e with b _;rw[b]at n;have:X.fs (j::J)=2:=n;omega
  rw[bC X e]at o;exact h.s2 g H v l m x n o
 ·intro l m x n I C s z A g B;by_cases e:(m::l,0)=(j::J,0)
  ·injection e with b _
   injection b with b p
   subst b;subst p;rw[D]at s;injection s with s
   subst s;have y:(g.1,g.2)≠(m::l,0):=by
    grind
   rw[bC X y];exact F z A g B
  ·rw[bC X e]at C;have t:=h.dl l m x n I C s z A g B;have y:(g.1,g.2)≠(j::J,0):=by
    grind
   rw[bC X y];exact t
 ·intro i k;have t:=h.nk i k
  revert t
  generalize i.1=K;intro t;cases K with
  |cell V g=>
   obtain⟨L,M,N,O⟩:=t;have y:(g.1,g.2)≠(j::J,0):=by grind
   exact⟨L,M,by rw[bC X y];exact N,O⟩
  |_=>exact t
 ·intro l m x s Q;by_cases e:(m::l,0)=(j::J,0)
  ·injection e with b _
   injection b with b p
   subst b;subst p;exact .inr (.inr ⟨b8 X (m::l,0) 3,E⟩)
  ·rw[bC X e];exact h.g0 l m x s Q
 ·intro f a o;by_cases e:(f,a)=(j::J,0)
  ·grind
  ·rw[bC X e]at o;exact h.cz f a o
theorem a_.yg(h:cx P n c d X H){J:Path}{j:Nat}(hf:X.fs J=2)(f:X.cs (j::J) 0=1)(ob:Ob):a_ c (·=(j::J,0)) X H (X.cH (j::J,0) 3) (H.set (X.A (.am J)) ob):=by
 exact{(a_.Bv (c:=c) (X:=X) (H:=H) (σ:=(j::J,0)) (s:=3) (λe=>by grind) (λ_=>rfl) (by decide))with len:=by simp,gU:= λb g a=>⟨a,aqn (by rintro rfl;rw[h.own (.am J) (by show 1<=X.fs J;omega)]at a;cases a)⟩}
theorem a_.If{E:Path×Nat->Prop}{Y:aq}{σ:Path×Nat}(h:a_ c (λg=>E g\/g=σ) X H Y K)(m:X.cs σ.1 σ.2=0)(n:Y.cs σ.1 σ.2=3):a_ c E X H Y K:=by
 refine{h with c1:= λa b d=> ?_,c4:= λa b i d k=> ?_,qT:= λa j d l=> ?_}
 ·by_cases e:(a,b)=σ
  ·grind
  ·exact h.c1 a b λf=>f.elim d e
 ·by_cases e:(a,b)=σ
  ·grind
  ·exact h.c4 a b i (λf=>f.elim d e) k
 ·exact h.qT a j (λf=>f.elim d (by grind)) l
end
section
variable{P:Pg}{n:Nat}{c:aH}{d:Nd}{u:US}{X:aq}{H K:Hp}
def zt(Y:aq)(b:Nat)(rs:List (List D))(m:M)(K:Hp):Prop:=
 (rs= []/\m= .d (.sl []))\/(rs≠ []/\ ∃a aG,m= .bB a aG rs.length/\K[a]?=some (.row true 1 aG (aX rs))/\Y.own a=none/\b<=a)
theorem zt.acc{Y:aq}{b:Nat}{rs:List (List D)}{m:M}(h:zt Y b rs m K): ∃a,Acc 1 a rs m K:=by
 rcases h with⟨c,d⟩|⟨c,a,e,d,f,_⟩
 ·exact⟨0,.inl ⟨c,d⟩⟩
 ·exact⟨a,.inr ⟨c,e,d,f⟩⟩
theorem zt.up{Y Z:aq}{L:Hp}{b:Nat}{rs:List (List D)}{m:M}(h:zt Y b rs m K)(g: ∀a,a<K.length->Y.own a=none->Z.own a=none/\L[a]?=K[a]?):zt Z b rs m L:=by
 rcases h with h|⟨d,a,e,f,c,i,j⟩
 ·exact .inl h
 ·obtain⟨k,l⟩:=g a (lr c) i;exact .inr ⟨d,a,e,f,l.trans c,k,j⟩
theorem zt.app{Y l:aq}{H0:Hp}{E:Path×Nat->Prop}{rs:List (List D)}{m:M}(h:zt Y H0.length rs m K)(f:cx P n c d Y K)(g:a_ c E l H0 Y K)(r:List D):
  zt Y H0.length (rs++ [r]) (ie m K [r]) (fW 1 m K [r])/\cx P n c d Y (fW 1 m K [r])/\a_ c E l H0 Y (fW 1 m K [r]):=by
 rcases h with⟨rfl,rfl⟩|⟨q,a,b,rfl,i,o,p⟩
 ·have j:fW 1 (.d (.sl [])) K [r]=K++ [.row true 1 0 (aX [r])]:=rfl;have k:ie (.d (.sl [])) K [r]= .bB K.length 0 1:=rfl;rw[j,k];refine⟨.inr ⟨by simp,K.length,0,rfl,by simp,?_,g.len⟩,f.grow _,g.trans (a_.grow c E Y K _)⟩;cases e:Y.own K.length with
  |none=>rfl
  |some r=>have:=f.lt _ r e;omega
 ·have j:fW 1 (.bB a b rs.length) K [r]=K.set a (.row true 1 (b+1) (aX rs++aX [r])):=by simp only[fW,i]
  have k:ie (.bB a b rs.length) K [r]= .bB a (b+1) (rs.length+1):=rfl;rw[j,k];refine⟨.inr ⟨by simp,a,b+1,by simp,?_,o,p⟩,f.free _ o i (λm e=>by cases e),g.free p _⟩;rw[ga i];simp[aX]
theorem iq.Ki{P:Pg}{n:Nat}{u:US}{iu:Nat}{F:Nat->Prop}(h:iq P 1 u iu F K)(b:1<=n):iq P n u iu F K:=by
 induction n with
 |zero=>omega
 |succ m a=>
  rcases aqJ m with e|e
  ·grind
  ·exact(a e).up
theorem ww{l:List Nd}{x:Nm}{i:Nat}(h:lK l x=some i): ∃d,l[i]?=some d/\d.name=x:=by
 unfold lK at h;rw[aq2]at h;obtain⟨a,b,_⟩:=h;exact⟨l[i],aqi a,by grind⟩
theorem GO{n:Nat}{f:Nat->Option US}{ad:Nat->Nat}{k iu:Nat}{uu:US}(h:k<n):dI (bz n (eG f ad)) (((k:Nat):Int).toNat*1) [.ref iu 0]=some (bz n (eG (bY f k (some uu)) (bY ad k iu))):=by
 rw[mH _ h];refine arI some (arI (bz n) (funext λa=> ?_));unfold rY eG bY;by_cases e:a=k
 ·subst e;simp
 ·simp[e]
theorem Eb{n:Nat}{f:Nat->Option US}{ad:Nat->Nat}{k iu:Nat}{uu b:US} :bz n (eG (bY f k (some uu)) (bY ad k iu))=bz n (eG (bY f k (some b)) (bY ad k iu)):=by
 refine arI (bz n) (funext λa=> ?_);unfold eG bY;by_cases e:a=k
 ·subst e;simp
 ·simp[e]
end
section
variable{P:Pg}{n:Nat}{c:aH}{d:Nd}{u:US}{X:aq}{H K:Hp}
theorem ss{ins outs:List Int}{u':US}(Y:mX P n c d u)(NG:pb P)(hC:gX P (fT P n) c d u ins outs u')(Wp:qh P n){r:Nat}(hV:et P n c d u r):Ab P n c d u r:=by
 intro X H hI hT J j a hf z hk hr Pv RR UZ Sn d9 hE;have o:=hI.lay;have MU:=Pu.ok Y hI.pu hf;obtain⟨p,hp,M4⟩:=o.fe hf z;have OO:j<(c.fr J).au.length:=by
  rcases aqh j (c.fr J).au.length with o|o
  ·exact o
  ·rw[aqj o]at z;cases z
 have YZ:=Y.pq J j a p MU z hp;have Wm:=jt a;have Oz:ij a.kd=1:=by rw[hk];rfl
 have Ok:=Y.H_;have N7:=Y.Bu J j a MU z;have hg:=Y.gh J j a z hk;have TP:=(hC.eq J j a p MU z hp).1;obtain⟨Ry,ci,f4,w0,w1,x,h0,q,hw,hs,rx,Wb⟩:p<c.sz/\ ∃ci,lK P.nodes a.f=some ci/\ ∃(w0 w1:List (Nat×Int)) (x:List Int),(if a.has then gT P.aI c J (c.ek J j) a.ex (p+1) (c.ev J j) w0 else c.ev J j=0/\w0= [])/\xU P.aI c J (c.ek J j) a.args (p+1+xP a.ex) x w1/\c.ew J j=w0++w1/\fT P n (((if c.ev J j=0 then c.rs p else none)).getD (US.init P ci)) x (c.outs J j) (c.ln J j)/\(∀u,c.rs p=some u->u.i=ci)/\a.lhs.length<=(c.outs J j).length:=by
  cases TP with
  |df Nw=>omega
  |sw Nw=>omega
  |aL Nw=>omega
  |reset Nw=>omega
  |call Nw Ry ci f4 w0 w1 x h0 q hw hs rx Wb=>exact⟨Ry,ci,f4,w0,w1,x,h0 Pv,q Pv,hw,hs Pv,rx Pv,Wb Pv⟩
 have VP:p<bW d:=by rw[<-Y.zq];exact Ry
 have QQ:=(hC.wq J j a MU z).1 hk Pv;obtain⟨O1,f8,OM,Mx⟩:=CG hC hI z hk RR UZ QQ.1;have Xf:k7 c (X.cH (j::J,0) 1) r:=by
  refine⟨λy k e=> ?_,Sn.f1,λy k=> ?_,Sn.tp⟩
  ·by_cases e':(y,k)=(j::J,0)
   ·injection e' with U e2;subst U;subst e2;rw[hg.1];omega
   ·rw[bC X e']at e;exact Sn.c1 _ _ e
  ·by_cases e':(y,k)=(j::J,0)
   ·injection e' with U e2;subst U;subst e2;rw[b8 X (j::J,0) 1];omega
   ·rw[bC X e'];exact Sn.c4 _ _
 rw[hr]at h0 q;have t1: ∀ac∈c.ew J j,nU c ac.1 ac.2:= λac hw=> .inl ⟨J,j,a,MU,z,Pv,hw⟩
 have TK:=Y.oq J j a p MU z hp;have Sv:(c.ew J j).length=w0.length+w1.length:=by rw[hw];simp
 obtain⟨X1,VQ⟩: ∃X1,X1=X.cH (j::J,0) 1:=⟨_,rfl⟩;have t2:X1.fs=X.fs:=by rw[VQ];rfl
 have d6:X1.A=X.A:=by rw[VQ];rfl
 have MA:X1.dn=X.dn:=by rw[VQ];rfl
 have t3:X1.cs (j::J) 0=1:=by rw[VQ];exact b8 X (j::J,0) 1
 have ME: ∀y k,(y,k)≠(j::J,0)->X1.cs y k=X.cs y k:= λy k e=>by rw[VQ];exact bC X e
 rw[<-VQ]at f8 OM Mx Xf;have Tb:X1.fs J=2:=by rw[t2];exact hf
 refine DT.ob Tryz.func62 W Tryz.ntmps62 W<|dO [2,23] W<|Mu (aw W W M4 W)<|dR [24] W<|Mu (ax W W W (by omega))<|dL [2] W<|Ny (λMJ=> ∃h t,cM P n c d u X1 H w0.length w0 h t/\MJ=⟨[nD 8 (.bool (c.ev J j !=0)),nN 6 (p+1),nD 7 (.sl []),nR 0 (X.A .it),nR 1 (X.A (.fr J)),nR 2 (X.A (.pl J j))],[],t⟩) ?_ ?_
 ·cases hh:a.has with
  |false=>
   rw[hh]at h0;simp only[are,arK]at h0;unfold dr at M4;rw[hh]at M4;refine dO [2,29] W<|Mu (aw W W M4 W)<|dL [] W<|⟨_,⟨X1,H,⟨f8,a_.refl ..,by omega,by rw[h0.2];intro p hp;cases hp⟩,rfl⟩,cF W (kc (by rw[h0.1];rfl) W)⟩
  |true=>
   rw[hh]at h0;simp only[arR]at h0;obtain⟨m2,K2,⟨rfl,h,NE⟩,Nz⟩:=dt Y hV J a.ex N7.1 (p+1) (c.ev J j) w0 h0 X1 H f8 (by omega) Xf Tb (by omega) (λk i b=>TK k (by omega) (by omega)) (λac QN=>t1 ac (by rw[hw];exact aqq _ QN));rw[Xp.aA,d6]at Nz;unfold dr at M4;rw[hh]at M4;refine dO [2,29] W<|Mu (aw W W M4 W)<|dR [37] W ?_
   first|refine Mu (aE W W) ?_|(refine Mu (aB W) ?_;refine Mu (jV W W M4 W W) ?_)
   refine dR [39] W ?_
   first|refine Mu (aE W W) ?_|(refine Mu (aB W) ?_;refine Mu (ap Nz W W) ?_)
   refine dL [] W<|⟨_,⟨h,K2,NE,rfl⟩,cF W W⟩
 rintro _ ⟨Y0,K0,Qc,rfl⟩;have Xb:K0[X.A (.pl J j)]?=some (.box (dr a p)):=by
  obtain⟨p',I,Q3⟩:=Qc.1.lay.fe (Qc.2.1.f2 J Tb) z;rw[hp]at I;injection I with I
  subst I;rw[(Qc.2.1.A (.pl J j) ⟨Tb,OO⟩).2,d6]at Q3;exact Q3
 have Wn:=jo a.ex N7.1 (by omega);rw[Xp.aA]at Wn;refine dO [2,47] W<|Mu (jV W W Xb W W)<|dR [48] W<|Mu (aJ Wn W W)<|dR [49] W<|Mu (ax W W W (by omega))<|dR [2,54] W<|Mu (aw W W Xb W)<|dR [55] W<|Mu (bH W W W) ?_;rw[aqE];refine dL [] W<|MG [nN 52 0,nN 51 a.args.length,nD 50 (.sl (a.args.map Xp.cells)),nD 7 (.sl []),nN 6 (p+1+xP a.ex),nD 8 (.bool (c.ev J j !=0)),nR 0 (X.A .it),nR 1 (X.A (.fr J)),nR 2 (X.A (.pl J j))] K0 (kc W (kc W (kc W (kc W (kc (by rw[show(((p+1+xP a.ex:Nat):Int))=((p+1:Nat):Int)+((xP a.ex:Nat):Int) by omega];rfl) W))))) W<|dC [] W<|Ny (λMJ=> ∃h t R,cM P n c d u X1 H (c.ew J j).length (c.ew J j) h t/\MJ=⟨[nD 7 (.sl (bI x)),nD 8 (.bool (c.ev J j !=0)),nR 0 (X.A .it),nR 1 (X.A (.fr J)),nR 2 (X.A (.pl J j))],R,t⟩) ?_ ?_
 ·refine dC [3] W<|DC.lp (λk s=> ∃(g:Nat) (h:aq) (t:Hp) (m:M) (i:Nat) (wi ws:List (Nat×Int)) (R:List (Nat×List M)),s=⟨[nN 52 g,nN 51 a.args.length,nD 50 (.sl (a.args.map Xp.cells)),(7,.m m),nN 6 i,nD 8 (.bool (c.ev J j !=0)),nR 0 (X.A .it),nR 1 (X.A (.fr J)),nR 2 (X.A (.pl J j))],R,t⟩/\g<=a.args.length/\k=a.args.length-g/\
    cM P n c d u X1 H (w0.length+wi.length) (w0++wi) h t/\w1=wi++ws/\xU P.aI c J r (a.args.drop g) i (x.drop g) ws/\i=p+1+xP a.ex+aP ((a.args.take g).map xP)/\zt h H.length (bI (x.take g)) m t/\g<=x.length) a.args.length _
   ⟨0,Y0,K0,_,p+1+xP a.ex,[],w1,_,rfl,by omega,rfl,by simpa using Qc,rfl,by simpa using q,by simp[aP],.inl ⟨rfl,rfl⟩,by omega⟩ W ?_
  rintro k s1 ⟨g,h,t,m,i,wi,ws,R,rfl,hi,rfl,C,Wc,OC,ha,hL,hiv⟩;refine dC [2] W<|DC.cond W (λhc=> ?_) (λhc=> ?_);rotate_left
  ·have e:g=a.args.length:=by have:=aqA hc;omega
   rw[e,arO]at OC;generalize Zl:x.drop a.args.length=vd at OC;cases OC;have e2:x.take g=x:=by
    have:=arw g x;rw[e,Zl,aqC]at this;rw[e];exact this
   rw[e2]at hL;obtain⟨a',Ps⟩:=hL.acc;rw[aqC]at Wc;rw[<-Wc,<-hw]at C;refine DC.b9 7 W (Ps.view (λr hr=>by unfold bI at hr;obtain⟨_,_,rfl⟩:=aqM.1 hr;rfl))<|DC.exit ?_;rw[<-Sv]at C;refine⟨_,⟨h,t,R,C,rfl⟩,?_⟩;exact cF W W
  have M7:g<a.args.length:=by have:=aqv hc;omega
  have Rk:=aqi M7;have U5:(a.args.map Xp.cells)[((g:Nat):Int).toNat]?=some (bO a.args[g].kd a.args[g].op a.args[g].num a.args[g].nm a.args[g].names (a.args[g].kids.map Xp.cells) a.args[g].ps):=by simp[M7,Xp.aA]
  have N1:=aqz M7;have Xd:=N7.2.2.1 _ N1;have PU:=fD xP (l:=a.args) M7;rw[arb M7]at OC;generalize Zl:x.drop g=vd at OC;generalize a.args[g]=e at Rk U5 N1 Xd OC PU;cases OC with
  |cons he Pi=>
   rename_i v ac Sx t4;have f9:g<x.length:=by
    rcases aqh g x.length with o|o
    ·exact o
    ·rw[asT o]at Zl;cases Zl
   have t5:x[g]?=some v:=by
    have:=arI (λl=>l[0]?) Zl;simpa using this
   have ST:x.drop (g+1)=Sx:=by
    have A:=arb f9;rw[Zl]at A;injection A with _ A
    exact A.symm
   have On:=C.2.1.f2 J Tb;have hlw:(c.ew J j).length=w0.length+wi.length+(ac.length+t4.length):=by rw[Sv,Wc];simp;omega
   have R2:=C.2.2.1;obtain⟨m2,K2,⟨rfl,Y2,NE⟩,Nz⟩:=dt Y hV J e Xd i v ac he h t C.1 (by omega) (Xf.next C.2.1) On (by omega) (λk i b=>TK k (by omega) (by omega)) (λw' QN=>t1 w' (by rw[hw,Wc];exact aqt _ (aqt _ (aqq _ QN))));rw[Xp.aA,(C.2.1.A .it trivial).2,(C.2.1.A (.fr J) (by show 1<=X1.fs J;omega)).2,d6]at Nz;have t6:=hL.up (Z:=Y2) (L:=K2) NE.2.1.gU;have N':=C.trans NE;obtain⟨R4,UP,Un⟩:=t6.app N'.1.lay N'.2.1 [.int .i32 v];obtain⟨a2,Ps⟩:=t6.acc;have t7:=jo e Xd (by omega);rw[Xp.aA]at t7;have htl:(bI (x.take g)).length<=1000000:=by simp[bI];omega
   have Nv:bI (x.take (g+1))=bI (x.take g)++ [[.int .i32 v]]:=by
    rw[aqu f9];have:x[g]=v:=by rw[aqi f9]at t5;injection t5
    simp[bI,this]
   refine dO [3,2,58] W<|Mu (aK W W W (aqe g) U5 W)<|dR [2,65] W<|Mu (ap Nz W W)<|dR [67] W<|Mu (mg Ps W W W W W (mQ W) (by simp only[aqH];omega) (by simp only[aqH];omega))<|dR [2,70] W<|Mu (aJ t7 W W)<|dR [71] W<|Mu (ax W W W (by omega))<|dR [2,72] W<|Mu (ax W W W (by omega))<|dL [] W<|bE (k':=a.args.length-(g+1)) (by omega) ⟨g+1,Y2,_,_,i+xP e,wi++ac,t4,_,rfl,by omega,rfl,⟨⟨UP,N'.1.pu⟩,Un,?_,?_⟩,by rw[Wc];simp,by rw[ST];exact Pi,by omega,by rw[Nv];exact R4,by omega⟩ W W
   ·have:=N'.2.2.1;simp only[aqg];omega
   ·intro p' I;rw[<-aqD]at I;exact N'.2.2.2 p' I
 rintro _ ⟨h,t,R,C,rfl⟩;have NF:=C.2.1;have On:=NF.f2 J Tb;have gc:=(NF.c1 _ _ (λo=>o)).1 t3;have ge:h.dn J j=false:=by rw[NF.qT J j (λo=>o) t3,MA];exact RR
 have t8:=Y.rs h C.1.pu J j a p On z hk hp ge;have i6:=((NF.A .it trivial).2).trans (by rw[d6]);have Td:=((NF.A (.pl J j) ⟨Tb,OO⟩).2).trans (by rw[d6]);have OZ:t[X.A (.pl J j)]?=some (.box (dr a p)):=by
  obtain⟨p',I,Q3⟩:=C.1.lay.fe On z;rw[hp]at I;injection I with I
  subst I;rw[Td]at Q3;exact Q3
 have SE:=C.1.lay;have Q2:=SE.inst;rw[i6]at Q2;have VR:=SE.unit;have YJ:=SE.aj;have ZP:=SE.own .su trivial;have X2:=aqe p;have Xg:((p:Nat):Int)<((bW d:Nat):Int):=by exact_mod_cast VP
 have Su: ∀(f:Nat->Option US),bY f p (f p)=f:= λf=>by funext k;unfold bY;split;rename_i e;rw[e];rfl
 refine dC [2] W<|Ny (λMJ=> ∃K1,K1[h.A .su]?=some (.row false 1 0 (bz (bW d) (eG (bY h.x.s p (if c.ev J j=0 then c.rs p else none)) h.ad)))/\K1.length=t.length/\(∀i,i≠h.A .su->K1[i]?=t[i]?)/\MJ=⟨[nD 7 (.sl (bI x)),nR 0 (X.A .it),nR 1 (X.A (.fr J)),nR 2 (X.A (.pl J j))],R,K1⟩) ?_ ?_
 ·refine DC.cond W (λhc=> ?_) (λhc=> ?_)
  ·have i7:c.ev J j≠0:=by simpa using hc
   rw[aqo i7];have Wq:=sf (n:=bW d) (f:=h.x.s) (ad:=h.ad) (k:=p) VP;refine dC [] W ?_;apply Mz bT
   ·intro s0 Oo;refine fR 3 W<|av W W Q2 W<|fR 2 W<|av W W VR W<|fR 3 W<|av W W OZ W<|cS W W W YJ X2 Xg<|fj W W YJ W W Wq<|TF.nil ⟨by kernel_rfl,rfl⟩
   exact⟨_,⟨_,ga YJ _,by simp,λi ha=>aqn (aq7 ha),rfl⟩,cF W W⟩
  ·have i7:c.ev J j=0:=by simpa using hc
   rw[aqy i7];refine dC [] W<|⟨_,⟨t,by rw[<-t8,Su];exact YJ,rfl,λ_ _=>rfl,rfl⟩,cF W W⟩
 rintro _ ⟨K1,Te,akY,P8,rfl⟩;generalize ho:(if c.ev J j=0 then c.rs p else none)=co at Te hs;have Ub:=(P8 _ (aq7 (by rw[<-i6];exact SE.ne (r:= .su) (r':= .it) trivial trivial (by simp)))).trans Q2;have Tf:=(P8 _ (aq7 (SE.ne (r:= .su) (r':= .un) trivial trivial (by simp)))).trans VR;have VS:=(P8 _ (aq7 (by rw[<-Td];exact SE.ne (r:= .su) (r':= .pl J j) trivial ⟨On,OO⟩ (by simp)))).trans OZ;have Ws:=il (n:=bW d) (f:=eG (bY h.x.s p co) h.ad) VP;refine dC [] W<|DC.E_ (λMJ=> ∃iu F K3,iq P n (co.getD (US.init P ci)) iu F K3/\K3[h.A .su]?=some (.row false 1 0 (bz (bW d) (eG (bY h.x.s p (some (co.getD (US.init P ci)))) (bY h.ad p iu))))/\(∀i,F i->h.own i=some (.sb p)\/t.length<=i)/\t.length<=K3.length/\(∀i,i<t.length->h.own i≠some (.sb p)->i≠h.A .su->K3[i]?=t[i]?)/\MJ=⟨[nD 7 (.sl (bI x)),nR 0 (X.A .it),nR 1 (X.A (.fr J)),nR 2 (X.A (.pl J j))],R,K3⟩) ?_ ?_
 ·have Se:1<=n:=by
   cases n with
   |zero=>exact hs.elim
   |succ n=>omega
  cases co with
  |none=>
   have U:eG (bY h.x.s p none) h.ad p= .d .bQ:=by simp[eG,bY]
   rw[U]at Ws;obtain⟨dc,UV,t9⟩:=ww f4;obtain⟨m2,K2,⟨iu,F,rfl,NZ,hF,afo,M'⟩,ND⟩:=z9 P NG a.f ci f4 dc UV K1;have i8:=(M' _ (lr Te)).trans Te;have Wq:=GO (n:=bW d) (f:=bY h.x.s p none) (ad:=h.ad) (k:=p) (iu:=iu) (uu:=US.init P ci) VP;have e3:bY (bY h.x.s p none) p (some (US.init P ci))=bY h.x.s p (some (US.init P ci)):=by funext k;unfold bY;split<;>rfl
   rw[e3]at Wq;refine dC [] W ?_;apply Mz bT
   ·intro s0 Oo;refine fR 3 W<|av W W Ub W<|fR 2 W<|av W W Tf W<|fR 3 W<|av W W VS W<|cS W W W Te X2 Xg<|jl W W Te Ws<|uQ (by kernel_rfl) W W W W W<|TF.nil ⟨by kernel_rfl,rfl⟩
   refine dC [1] W ?_;apply NT (λL=>L[X.A .it]?=t[X.A .it]?/\L[h.A .un]?=t[h.A .un]?/\L[X.A (.pl J j)]?=t[X.A (.pl J j)]?) (⟨Ub.trans Q2.symm,Tf.trans VR.symm,VS.trans OZ.symm⟩) bT
   ·intro s0 Oo;refine iR 3 W<|MK W W (λL o=>⟨_,o.1.trans Q2,rfl⟩)<|iR 2 W<|MK W W (λL o=>⟨_,o.2.1.trans VR,rfl⟩)<|iR 3 W<|MK W W (λL o=>⟨_,o.2.2.trans OZ,rfl⟩)<|iR 3 W ?_;apply MF
    ·skip
     refine av W W Ub W<|TF.nil ⟨rfl,rfl⟩
    refine iR 2 W ?_;apply MF
    ·skip
     refine fg W W Tf W W<|TF.nil ⟨rfl,rfl⟩
    refine iR 4 W ?_;apply MF
    ·skip
     refine av W W VS W<|TF.nil ⟨rfl,rfl⟩
    apply MF
    ·skip
     refine bm ND W W<|TF.nil ⟨rfl,rfl⟩
    apply MF
    ·skip
     refine cS W W W i8 X2 Xg<|TF.nil ⟨rfl,rfl⟩
    apply MF
    ·skip
     refine fj W W i8 W W Wq<|TF.nil ⟨rfl,rfl⟩
    exact iT.nil ⟨by kernel_rfl,by repeat' first|exact trivial|exact .inl ((by exact⟨((M' _ (lr Ub)).trans Ub).trans Q2.symm,((M' _ (lr Tf)).trans Tf).trans VR.symm,((M' _ (lr VS)).trans VS).trans OZ.symm⟩))|exact .inr (by kernel_rfl)|refine⟨?_,?_⟩,rfl⟩
   have Vj: ¬F (h.A .su):= λhh=>by have:=hF _ hh;have:=lr Te;omega
   exact⟨_,⟨iu,F,_,(iq.Ki NZ Se).frame (λi ha=>aqn (by rintro rfl;exact Vj ha)) (by simp),ga i8 _,λi ha=> .inr (by have:=hF i ha;omega),by simp;omega,λi ha q A=>((aqn (aq7 A)).trans (M' i (by omega))).trans (P8 i A),rfl⟩,cF W W⟩
  |some u0=>
   have U:eG (bY h.x.s p (some u0)) h.ad p= .ref (h.ad p) 0:=by simp[eG,bY]
   rw[U]at Ws;have Y8:h.x.s p=some u0:=by
    rw[t8];by_cases e:c.ev J j=0
    ·rw[aqy e]at ho;exact ho
    ·rw[aqo e]at ho;cases ho
   have NZ:=SE.sub p VP u0 Y8;refine dC [] W ?_;apply Mz bT
   ·intro s0 Oo;refine fR 3 W<|av W W Ub W<|fR 2 W<|av W W Tf W<|fR 3 W<|av W W VS W<|cS W W W Te X2 Xg<|jl W W Te Ws<|uQ (by kernel_rfl) W W W W W<|TF.nil ⟨by kernel_rfl,rfl⟩
   refine dC [0] W ?_;have e4:bY h.ad p (h.ad p)=h.ad:=by funext k;unfold bY;split;rename_i e;rw[e];rfl
   refine⟨_,⟨h.ad p,λi=>h.own i=some (.sb p),K1,NZ.frame (λi ha=>P8 i (by rintro rfl;rw[ZP]at ha;cases ha)) (by omega),?_,λi ha=> .inl ha,by omega,λi _ _ A=>P8 i A,rfl⟩,cF W W⟩;rw[e4];exact Te
 rintro _ ⟨iu,F,K3,NZ,YK,hF,afp,X_,rfl⟩;obtain⟨m4,K4,⟨rfl,F4,afq,hF4,Ya,SG⟩,ahZ⟩:=Wp _ x (c.outs J j) (c.ln J j) iu F K3 hs NZ;have ut: ∀i r,h.own i=some r->r≠ .sb p-> ¬F i:= λi r q A h3=>by
  rcases hF i h3 with K|K
  ·rw[q]at K;injection K with K;exact A K
  ·have:=SE.lt i r q;omega
 have cB: ∀i r,h.own i=some r->r≠ .sb p->r≠ .su-> ∀ob,t[i]?=some ob->K3[i]?=some ob/\K4[i]?=some ob:=by
  intro i r q A h3 ob K;have e3:=(X_ i (lr K) (by rw[q];intro e;injection e with e;exact A e) (by rintro rfl;rw[ZP]at q;injection q with q;exact h3 q.symm)).trans K;exact⟨e3,(SG i (lr e3) (ut i r q A)).trans e3⟩
 obtain⟨ah0,i9⟩:=cB _ _ (by rw[<-i6];exact SE.own .it trivial) (by simp) (by simp) _ Q2;obtain⟨aa6,ank⟩:=cB _ _ (SE.own .un trivial) (by simp) (by simp) _ VR;obtain⟨UX,ah1⟩:=cB _ _ (by rw[<-Td];exact SE.own _ ⟨On,OO⟩) (by simp) (by simp) _ OZ;have ah2:K4[h.A .su]?=some (.row false 1 0 (bz (bW d) (eG (bY h.x.s p (some (c.ln J j))) (bY h.ad p iu)))):=by
  rw[SG _ (lr YK) (ut _ _ ZP (by simp)),YK,Eb]
 have v6:=il (n:=bW d) (f:=eG (bY h.x.s p (some (co.getD (US.init P ci)))) (bY h.ad p iu)) VP;rw[show eG (bY h.x.s p (some (co.getD (US.init P ci)))) (bY h.ad p iu) p= .ref iu 0 by simp[eG,bY]]at v6;refine dC [] W ?_;apply Mz bT
 ·intro s0 Oo;refine fR 3 W<|av W W ah0 W<|fR 2 W<|av W W aa6 W<|fR 3 W<|av W W UX W<|cS W W W YK X2 Xg<|jl W W YK v6<|fR 1 W<|bm ahZ W W<|fR 5 W<|TF.nil ⟨by kernel_rfl,rfl⟩
 refine dO [2,147] W<|Mu (aw W W i9 W)<|dR [999] W<|Mu (bX W W i9 W W W)<|dL [] W ?_;obtain⟨wd,wn⟩:=SE.fX afq (λi ha=>by
  rcases hF4 i ha with q|q
  ·exact hF i q
  ·exact .inr (by omega)) (by omega) (λi q A h3=>(SG i (by omega) (λhh=>by
   rcases hF i hh with K|K
   ·exact A K
   ·omega)).trans (X_ i q A h3)) ah2
 have Do:(h.fX p (c.ln J j) iu F4).cs (j::J) 0=1:=gc;have Eq:=wd.kD (J:=J) (j:=j) (by rw[Do];decide);have Fd:=a_.kD (c:=c) (H:=K4) (X:=h.fX p (c.ln J j) iu F4) Do;have Fn:Pu P c d u ((h.fX p (c.ln J j) iu F4).kD J j):=Pu.called Y C.1.pu On z hk hp gc ge Pv (λac QN=> .inl (C.2.2.2 ac QN));have hTd:=GM (c:=c) (X:=h) (J:=J) (j:=j) (p:=p) (iu:=iu) (u':=c.ln J j) (F:=F4);have R2:=C.2.2.1;have Fr: ∀(g:Nat) (w:Nm) (σ:Path×Nat),a.lhs[g]?=some w->c.find J w=some σ->X.fs σ.1=2/\(X.cs σ.1 σ.2=0\/X.cs σ.1 σ.2=1)/\h.cs σ.1 σ.2=X.cs σ.1 σ.2:=by
  intro g w σ E Og;obtain⟨S,nv,q,A,h3,K,h5,h6,s,j0,h7,h8,h9,Pz,Rw⟩:=hC.lhs J j a MU z hk Pv g w E;rw[Og]at q;injection q with q
  subst q;have N:=(si hI.pu hf Og).1;have MW:(σ.1,σ.2)≠(j::J,0):=by intro e;injection e with U _;rw[U]at N;exact O1 N
  have FS: ∀(Z:aq) (L:Hp),cL P n c d u Z L->Z.fs σ.1=2->Z.dn J j=false->Z.cs σ.1 σ.2<=3->Z.cs σ.1 σ.2=0\/Z.cs σ.1 σ.2=1:=by
   intro Z L B Po Ur h3Z;have n3:Z.cs σ.1 σ.2≠3:= λe=>by have:=B.pu.ca _ _ e;rw[A]at this;cases this
   have n2:Z.cs σ.1 σ.2≠2:= λe=>by
    have:=(B.pu.s2 σ j0 s J j a Po (.inl e) Rw h9 h7 (by rw[h8];exact Pz) z).2.2 hk;rw[Ur]at this;cases this
   omega
  have a0:=FS X H hI N RR (Sn.c4 _ _);have a1:=FS h t C.1 (NF.f2 _ (by rw[t2];exact N)) ge ((Xf.next NF).c4 _ _);have a2:=NF.c1 σ.1 σ.2 (λo=>o);rw[ME _ _ MW]at a2;exact⟨N,a0,by omega⟩
 obtain⟨Z5,Yb⟩: ∃Z,Z=(h.fX p (c.ln J j) iu F4).kD J j:=⟨_,rfl⟩;have hI5:cL P n c d u Z5 K4:=Yb▸⟨Eq,Fn⟩;have Vz:a_ c (λQ=>d9 Q\/Q=(j::J,0)) X H Z5 K4:=by
  rw[Yb];exact((OM.mono λ_ o=> .inr o).trans (NF.mono λ_=>False.elim)).trans ((wn.mono λ_=>False.elim).trans (Fd.mono λ_ o=> .inr o))
 have hT5:Z5.T c<=X.T c:=by rw[Yb];omega
 have hD5:Z5.dn J j=true:=by rw[Yb];exact yf _ _ _
 have hG5:Z5.cs (j::J) 0=1:=by rw[Yb];exact gc
 have hC5:Z5.cs=h.cs:=by rw[Yb];rfl
 clear Yb Eq Fn hTd Fd wd wn;have anl:=N7.2.2.2.2.2.1;have mt:K4.set (X.A .it) (Ob.box [.ref (h.A .un) 0,.ref (h.A (.fr [])) 0,.d (.bool (!true)),bG (h.A .af) h.vF h.F.length,bG (h.A .nx) h.vN h.N.length])=K4:=Aa i9;refine dO [2,158] W<|Mu (aw W W (by rw[mt];exact ah1) W)<|dR [159] W<|Mu (bH W W W) ?_;rw[aqE];refine dL [] W<|MG [nN 156 0,nN 155 a.lhs.length,nD 154 (.sl (dq a.lhs)),nD 11 (.sl (bI (c.outs J j))),nR 0 (X.A .it),nR 1 (X.A (.fr J)),nR 2 (X.A (.pl J j))] K4 W mt ?_;clear mt;refine dC [] W<|Ny (λMJ=> ∃Z L R,cL P n c d u Z L/\a_ c (λQ=>d9 Q\/Q=(j::J,0)) X H Z L/\Z.T c<=X.T c/\Z.dn J j=true/\Z.cs (j::J) 0=1/\(∀(g:Nat) (w:Nm) (σ:Path×Nat),a.lhs[g]?=some w->c.find J w=some σ->Z.cs σ.1 σ.2=if X.cs σ.1 σ.2=1 then 4 else 2)/\MJ=⟨[nR 0 (X.A .it),nR 1 (X.A (.fr J)),nR 2 (X.A (.pl J j))],R,L⟩) ?_ ?_
 ·refine dC [3] W<|DC.lp (λk s=> ∃(g:Nat) (Z:aq) (L:Hp) (R:List (Nat×List M)),s=⟨[nN 156 g,nN 155 a.lhs.length,nD 154 (.sl (dq a.lhs)),nD 11 (.sl (bI (c.outs J j))),nR 0 (X.A .it),nR 1 (X.A (.fr J)),nR 2 (X.A (.pl J j))],R,L⟩/\g<=a.lhs.length/\k=a.lhs.length-g/\
    cL P n c d u Z L/\a_ c (λQ=>d9 Q\/Q=(j::J,0)) X H Z L/\Z.T c<=X.T c/\Z.dn J j=true/\Z.cs (j::J) 0=1/\ ∀(D:Nat) (w:Nm) (σ:Path×Nat),a.lhs[D]?=some w->c.find J w=some σ->(D<g->Z.cs σ.1 σ.2=if X.cs σ.1 σ.2=1 then 4 else 2)/\(g<=D->Z.cs σ.1 σ.2=X.cs σ.1 σ.2)) a.lhs.length _
   ⟨0,Z5,K4,_,rfl,by omega,rfl,hI5,Vz,hT5,hD5,hG5,λD w σ E Og=>⟨by omega,λ_=>by rw[hC5];exact(Fr D w σ E Og).2.2⟩⟩ W ?_
  rintro k s1 ⟨g,Z,L,R,rfl,hi,rfl,B,PO,U1,Wt,Yc,Yd⟩;refine dC [2] W<|DC.cond W (λhc=> ?_) (λhc=> ?_);rotate_left
  ·have e:g=a.lhs.length:=by have:=aqA hc;omega
   refine DC.exit<|⟨_,⟨Z,L,_,B,PO,U1,Wt,Yc,λD w σ E Og=>(Yd D w σ E Og).1 (by
    rcases aqh D a.lhs.length with o|o
    ·omega
    ·rw[aqj o]at E;cases E),rfl⟩,cF W W⟩
  have M7:g<a.lhs.length:=by have:=aqv hc;omega
  have E:=aqi M7;have Qz:=jZ M7;generalize a.lhs[g]=w at E Qz;obtain⟨σ,nv,Og,NO,VJ,ak7,ak8,afs,s,j0,Sk,Pa,SH,S7,U6⟩:=hC.lhs J j a MU z hk Pv g w E;obtain⟨pm,aia,_⟩:=Fr g w σ E Og;have GT:=(Yd g w σ E Og).2 (aqd _);have Po:=PO.f2 J hf;have N:=PO.f2 _ pm;have Uc:=(PO.A (.fr J) (by show 1<=X.fs J;omega)).2;have Sl:σ.2<(c.fr σ.1).vars.length:=by
   rcases aqh σ.2 (c.fr σ.1).vars.length with o|o
   ·exact o
   ·rw[aqj o]at SH;cases SH
  have NQ:=oU B.lay B.pu Y.sz J Po w;rw[Uc]at NQ;have Q5:Z.fU c J w= .ref (Z.A (.ce σ.1 σ.2)) 0:=by unfold aq.fU;rw[Og]
  rw[Q5]at NQ;obtain⟨lp,eq,Ng,Nz,RI⟩:=B.lay.cell N SH;have W2:c.get (σ.1,σ.2)=nv:=by unfold aH.get;rw[NO];rfl
  have Id:(bI (c.outs J j))[((g:Nat):Int).toNat]?=some [.int .i32 nv]:=by simp[bI,VJ]
  have hlo:(bI (c.outs J j)).length=(c.outs J j).length:=by simp[bI]
  have Pm:=Pu.ok Y B.pu N;have aic: ∀p',lp=some p'->p'<bW d:= λp' e=>by subst e;exact Y.KU _ _ _ Pm Ng
  have PE: ∀(O:Path) (T:Nat) (V:ay),σ=(T::O,0)->(c.fr O).au[T]?=some V->V.kd=2->False:= λO T V e MO M'=>by
   subst e;obtain⟨_,q2,Ul,Nw⟩:=hC.iG T O Pm;rw[MO]at Ul;injection Ul with Ul;subst Ul;omega
  have YL:(σ.1,σ.2)≠(j::J,0):=by intro e;injection e with U _;rw[U]at pm;exact O1 pm
  have In:=hC.wc σ.1 σ.2 s Pm SH U6;have Vv: ∀(G:aq),G.fs J=2->G.dn J j=true-> ∀j1 v1 O T V,(c.fr σ.1).vars[σ.2]?=some v1->jB (c.fr σ.1) σ.2 v1 j1->Src c (c.sb σ.1 σ.2) σ.1 j1 v1.name (some (O,T))->(c.fr O).au[T]?=some V->G.fs O=2/\(V.kd=1-> ∀ac∈c.ew O T,G.SS c ac.1 ac.2)/\(V.kd=2->G.dn O T=true):=by
   intro G hfW hdW j1 v1 O T V q A h3 K;rw[SH]at q;injection q with q
   subst q;obtain rfl:=Sk.tt A;rw[Pa]at h3;have e:=S7.tt h3;injection e with e
   injection e with U e2
   subst U;subst e2;rw[z]at K;injection K with K
   subst K;exact⟨hfW,λq=>by omega,λ_=>hdW⟩
  refine dO [3,2,163] W<|Mu (aK W W W (aqe g) Qz W)<|dR [2,167] W<|Mu (ap NQ W W)<|dR [2,169] W<|Mu (jY (by kernel_rfl) W W W W W)<|dR [173] W ?_
  first|refine Mu (aE W W) ?_|(refine Mu (aB W) ?_;refine Mu (bH W W W) ?_;rw[hlo])
  refine dR [174] W ?_
  first|refine Mu (aE W W) ?_|(refine Mu (aB W) ?_;refine Mu (aN (aqI (by omega)) W W W W) ?_)
  refine dL [1] W ?_;have IO: ∀(G:aq) (L':Hp),cL P n c d u G L'->a_ c (λQ=>d9 Q\/Q=(j::J,0)) X H G L'->G.T c<=X.T c->G.dn J j=true->G.cs (j::J) 0=1->(G.cs σ.1 σ.2=if X.cs σ.1 σ.2=1 then 4 else 2)->(∀y k,(y,k)≠(σ.1,σ.2)->G.cs y k=Z.cs y k)->
    ∀(D:Nat) (x':Nm) (S:Path×Nat),a.lhs[D]?=some x'->c.find J x'=some S->(D<g+1->G.cs S.1 S.2=if X.cs S.1 S.2=1 then 4 else 2)/\(g+1<=D->G.cs S.1 S.2=X.cs S.1 S.2):=by
   intro G L' Xh R5 hTW hDW hGW hcW LE D x' S NK PH;refine⟨λhl=> ?_,λhl=> ?_⟩
   ·by_cases e:S=σ
    ·subst e;exact hcW
    ·have hii:D<g:=by
      rcases aqh D g with o|o
      ·exact o
      ·have:D=g:=by omega
       subst this;rw[E]at NK;injection NK with NK;subst NK
       rw[Og]at PH;injection PH with PH
       exact absurd PH.symm e
     rw[LE _ _ (λe'=>e e')];exact(Yd D x' S NK PH).1 hii
   ·have e:S≠σ:=by
     rintro rfl;have:=afs D x' S NK PH W;omega
    rw[LE _ _ (λe'=>e e')];exact(Yd D x' S NK PH).2 (by omega)
  refine dC [] W ?_;rcases aia with Rq|qr
  ·have Wu:=GT.trans Rq;rw[Wu]at Nz;refine dO [2,179] W<|Mu (aK W W W (aqe g) Id W)<|dR [999] W<|Mu (bX W W Nz W W W)<|dL [] W ?_;have W3:=B.lay.cH (σ:=σ) 5 N SH Ng RI;have LT:=a_.cH B.lay (s:=5) (σ:=σ) ⟨N,Sl⟩ (Ob.box (cV s lp eq (Z.A (.fr σ.1)) (mW 5) (if zB 5 then c.get (σ.1,σ.2)else 0))) (λe=>by rw[Wu]at e;cases e) (λe=>by rw[Wu]at e;cases e) (by decide);have anm:=Ib (c:=c) (X:=Z) (σ:=σ) (s:=5) (by decide) Wu In.1;refine MG [nN 156 g,nN 155 a.lhs.length,nD 154 (.sl (dq a.lhs)),nD 11 (.sl (bI (c.outs J j))),nR 15 (Z.A (.ce σ.1 σ.2)),nR 0 (X.A .it),nR 1 (X.A (.fr J)),nR 2 (X.A (.pl J j))] (L.set (Z.A (.ce σ.1 σ.2)) (Ob.box (cV s lp eq (Z.A (.fr σ.1)) (mW 5) (if zB 5 then c.get (σ.1,σ.2)else 0)))) W (by rw[W2];rfl) ?_;have Xi:(L.set (Z.A (.ce σ.1 σ.2)) (Ob.box (cV s lp eq (Z.A (.fr σ.1)) (mW 5) (if zB 5 then c.get (σ.1,σ.2)else 0))))[Z.A (.ce σ.1 σ.2)]?=some (Ob.box (cV s lp eq (Z.A (.fr σ.1)) (mW 5) (if zB 5 then c.get (σ.1,σ.2)else 0))):=ga Nz _;generalize L.set (Z.A (.ce σ.1 σ.2)) (Ob.box (cV s lp eq (Z.A (.fr σ.1)) (mW 5) (if zB 5 then c.get (σ.1,σ.2)else 0)))=L1 at W3 LT Xi⊢;have Tg:=b8 Z σ 5;obtain⟨m7,L2,⟨Z2,f7,N3,M1,Mr,t9,ann,Zg,aie⟩,OB⟩:=H7 (X:=Z.cH σ 5) ⟨W3,(B.pu.cH (by omega) U6 (λ_=>by rw[NO];rfl) (λe=>by cases e) (λe=>by rw[Wu]at e;cases e) (λe=>by rw[Wu]at e;omega) (λe=>by cases e) (λe=>by omega) (λO T V e MO Nw=>(PE O T V e MO Nw).elim) (.inl N))⟩ (by omega) N SH Ng (by rw[Tg];rfl) aic U6
   rw[show(Z.cH σ 5).A=Z.A from rfl,(PO.A .it trivial).2]at OB;have YM:Z2.fs σ.1=2:=by rw[Mr];exact N
   obtain⟨lp2,XX,PD,Qa,YB⟩:=f7.lay.cell YM SH;rw[Ng]at PD;injection PD with PD
   subst PD;have Us:=(N3.A (.ce σ.1 σ.2) ⟨N,Sl⟩).2;have Ms:Z2.cs σ.1 σ.2=5:=by rw[M1];exact Tg
   rw[Us,Ms]at Qa;refine dO [2,186] W<|Mu (aw W W Xi W)<|dL [] W<|Ny (λMJ=>MJ=⟨[nN 156 g,nN 155 a.lhs.length,nD 154 (.sl (dq a.lhs)),nD 11 (.sl (bI (c.outs J j))),nR 15 (Z.A (.ce σ.1 σ.2)),nR 0 (X.A .it),nR 1 (X.A (.fr J)),nR 2 (X.A (.pl J j))],R,L2⟩) ?_ ?_
   ·refine dO [1,2,190] W<|Mu (ap OB W W)<|dL [] W<|⟨_,rfl,cF W W⟩
   rintro _ rfl;have R4:=f7.lay.cH (σ:=σ) 2 YM SH Ng YB;have Wi:Z2.dn J j=true:=by rw[t9];exact Wt
   have Xj:=f7.pu.cH (by omega) U6 (λ_=>by rw[NO];rfl) (λe=>by cases e) (λ_=>rfl) (λ_=> .inl W) (λ_ p' v' I OP=>by
    rw[Ng]at I;injection I with I
    exact .inl (aie p' I v' OP)) (λ_=>Vv Z2 (by rw[Mr];exact Po) Wi) (λO T V e MO Nw=>(PE O T V e MO Nw).elim) (.inl YM)
   have YN:=a_.cH f7.lay (s:=2) (σ:=σ) ⟨YM,Sl⟩ (Ob.box (cV s lp XX (Z2.A (.fr σ.1)) (mW 2) (if zB 2 then c.get (σ.1,σ.2)else 0))) (λ_=>rfl) (λe=>by rw[Ms]at e;cases e) (by decide);have aif:=qU (c:=c) (X:=Z2) (σ:=σ) (s:=2) (by decide);rw[Us]at R4 YN;have hEc:a_ c (λ_=>False) Z L (Z2.cH σ 2) (L2.set (Z.A (.ce σ.1 σ.2)) (Ob.box (cV s lp XX (Z2.A (.fr σ.1)) (mW 2) (if zB 2 then c.get (σ.1,σ.2)else 0)))):=
    a_.close ((LT.trans (N3.mono λ_=>False.elim)).trans YN) (by rw[Wu,b8];omega) (λs hs=>by rw[Wu,b8];omega) (by rw[Wu];decide)
   have d7: ∀y k,(y,k)≠(σ.1,σ.2)->(Z2.cH σ 2).cs y k=Z.cs y k:= λy k e=>by rw[bC Z2 e,M1];exact bC Z e
   have d8:(Z2.cH σ 2).cs (j::J) 0=1:=by rw[d7 _ _ (aq7 YL)];exact Yc
   have QT:=PO.trans (hEc.mono λ_=>False.elim);have NP:(Z2.cH σ 2).cs σ.1 σ.2=if X.cs σ.1 σ.2=1 then 4 else 2:=by rw[b8,Rq];rfl
   have TM:(Z2.cH σ 2).T c<=X.T c:=by have:=In.2.1;omega
   have Rn:=IO _ _ ⟨R4,Xj⟩ QT TM Wi d8 NP d7;refine dO [2,999] W<|Mu (bX W W Qa W W W)<|dR [2,194] W<|Mu (ax W W W (by omega))<|dL [] W<|bE (k':=a.lhs.length-(g+1)) (by omega) ⟨g+1,_,_,_,rfl,by omega,rfl,⟨R4,Xj⟩,QT,TM,Wi,d8,Rn⟩ (by rfl) W
  ·have rg:=GT.trans qr;rw[rg]at Nz;refine dO [2,179] W<|Mu (aK W W W (aqe g) Id W)<|dR [999] W<|Mu (bX W W Nz W W W)<|dL [] W ?_;have Xi:=ga Nz (Ob.box (cV s lp eq (Z.A (.fr σ.1)) 1 nv));refine dO [2,186] W<|Mu (aw W W Xi W)<|dL [] W<|Ny (λMJ=>MJ=⟨[nN 156 g,nN 155 a.lhs.length,nD 154 (.sl (dq a.lhs)),nD 11 (.sl (bI (c.outs J j))),nR 15 (Z.A (.ce σ.1 σ.2)),nR 0 (X.A .it),nR 1 (X.A (.fr J)),nR 2 (X.A (.pl J j))],R,L.set (Z.A (.ce σ.1 σ.2)) (Ob.box (cV s lp eq (Z.A (.fr σ.1)) 1 nv))⟩) ?_ ?_
   ·refine dC [0] W<|⟨_,rfl,cF W W⟩
   rintro _ rfl;have R4:=B.lay.cH (σ:=σ) 4 N SH Ng RI;have Xj:=B.pu.cH (by omega) U6 (λ_=>by rw[NO];rfl) (λe=>by cases e) (λ_=>rfl) (λ_=> .inr W) (λe=>by cases e) (λ_=>Vv Z Po Wt) (λO T V e MO Nw=>(PE O T V e MO Nw).elim) (.inl N);have YN:=a_.cH B.lay (s:=4) (σ:=σ) ⟨N,Sl⟩ (Ob.box (cV s lp eq (Z.A (.fr σ.1)) (mW 4) (if zB 4 then c.get (σ.1,σ.2)else 0))) (λe=>by rw[rg]at e;cases e) (λe=>by rw[rg]at e;cases e) (by decide);have aif:=qU (c:=c) (X:=Z) (σ:=σ) (s:=4) (by decide);have d7: ∀y k,(y,k)≠(σ.1,σ.2)->(Z.cH σ 4).cs y k=Z.cs y k:= λy k e=>bC Z e
   have d8:(Z.cH σ 4).cs (j::J) 0=1:=by rw[d7 _ _ (aq7 YL)];exact Yc
   have QT:=PO.trans (YN.mono (λQ e=> .inl (e▸(hE w (aqk E) σ Og qr))));have NP:(Z.cH σ 4).cs σ.1 σ.2=if X.cs σ.1 σ.2=1 then 4 else 2:=by rw[b8,qr];rfl
   have Rn:=IO _ _ ⟨R4,Xj⟩ QT (by omega) Wt d8 NP d7;refine dO [2,999] W<|Mu (bX W W Xi W W W)<|dR [2,194] W<|Mu (ax W W W (by omega))<|dL [] W<|bE (k':=a.lhs.length-(g+1)) (by omega) ⟨g+1,_,_,_,rfl,by omega,rfl,⟨R4,Xj⟩,QT,by omega,Wt,d8,Rn⟩ (by rw[List.set_set,W2];rfl) W
 rintro _ ⟨Z,L,R,B,PO,U1,Wt,Yc,Yd,rfl⟩;have Po:=PO.f2 J hf;have Uc:=(PO.A (.fr J) (by show 1<=X.fs J;omega)).2;have Xk:=(PO.A (.pl J j) ⟨hf,OO⟩).2;have Rp:Z.fs (j::J)=0:=by
  rcases aqJ (Z.fs (j::J))with e|e
  ·exact e
  ·obtain⟨_,V,MO,Nw⟩:=hC.iG j J (B.pu.fp j J (by omega)).2;rw[z]at MO;injection MO with MO;subst MO;omega
 have rt:=B.lay.frame Po;rw[Uc]at rt;obtain⟨ob,R6,es,rfl,TS,P7,_⟩:=B.lay.ob (.am J) (by show 1<=Z.fs J;omega);have P7:=P7 Po j OO;have Th:Z.nz J j=none:=by
  unfold aq.nz;rw[aqo (λhh=>hh Rp),aqo (by rw[Yc];simp)]
 rw[Th,Xk]at P7;have Zm:=B.lay.yg Po Rp Wt z R6;have hPf:=B.pu.yg z hk hg.2 Rp Wt Yc (λw E σ Px=>by
  obtain⟨g,hi⟩:=aqG.1 E;have:=Yd g w σ hi Px;split at this
  ·exact .inr this
  ·exact .inl this)
 have QT:=a_.yg B.lay Po Yc (.map (iJ (Z.A (.pl J j)) 0 (.ref (Z.A (.fr J)) 0) es));have hTf:=qU (c:=c) (X:=Z) (σ:=(j::J,0)) (s:=3) (by decide);rw[Uc,Xk]at Zm QT;refine dO [2,198] W<|Mu (aw W W rt W)<|dR [200] W<|Mu (oI W W W W W R6 TS) ?_;rw[P7];refine dR [201] W<|Mu (lG (by kernel_rfl) W W W W W)<|dR [1,2,205] W<|Mu (aw W W rt W)<|dR [999] W<|Mu (pI W W W W W R6 TS)<|dL [] W<|⟨_,rfl,Z.cH (j::J,0) 3,⟨Zm,hPf⟩,?_,by omega,Wt,λw E Q OX aih=> ?_⟩
 ·exact(PO.trans (QT.mono λ_ e=> .inr e)).If UZ (b8 Z (j::J,0) 3)
 ·obtain⟨g,hi⟩:=aqG.1 E;have q:=Yd g w Q hi OX;rw[aih,aqy W]at q;have Mw:=(si hI.pu hf OX).1;have YL:(Q.1,Q.2)≠(j::J,0):=by intro e;injection e with U _;rw[U]at Mw;exact O1 Mw
  rw[bC Z YL];exact q
end
structure Fl(g:zj)(st z:Nat->Int)(up:M)(X:aq)(J:Path)(k e:Nat)(L:Nat->Nm->Prop)(H:Hp):Prop where
 lt: ∀a r,X.own a=some r->a<H.length
 kE:X.own (X.A (.fr J))=some (.fr J)
 mr:0<k->X.own (X.A (.cr J))=some (.cr J)
 mZ:0<e->X.own (X.A (.er J))=some (.er J)
 nA: ∀x,x<k->X.own (X.A (.ce J x))=some (.ce J x)
 nB: ∀x,x<e->X.own (X.A (.pl J x))=some (.pl J x)
 fr:H[X.A (.fr J)]?=some (.box [up,bG (X.A (.cr J)) (X.vc J) k,bG (X.A (.er J)) (X.ve J) e,.mp (X.A (.am J)),.mp (X.A (.tk J))])
 cr:0<k->H[X.A (.cr J)]?=some (.row true 1 (X.vc J) ((List.range k).map λx=> .ref (X.A (.ce J x)) 0))
 er:0<e->H[X.A (.er J)]?=some (.row true 1 (X.ve J) ((List.range e).map λx=> .ref (X.A (.pl J x)) 0))
 ce: ∀x,x<k-> ∃v lp eq,g.vars[x]?=some v/\g.db[x]?=some lp/\H[X.A (.ce J x)]?=some (.box (cV v lp eq (X.A (.fr J)) (st x) (z x)))/\ ∀j,jB g x v j->L j v.name->eq= .ref (X.A (.pl J j)) 0
 pl: ∀x,x<e-> ∃q p,g.au[x]?=some q/\g.pos[x]?=some p/\H[X.A (.pl J x)]?=some (.box (dr q p))
def Ro.qj(J:Path):Ro->Prop
 | .cr ρ=>ρ=J| .er ρ=>ρ=J| .ce ρ _=>ρ=J| .pl ρ _=>ρ=J|_=>False
structure lQ(J:Path)(X:aq)(H:Hp)(Y:aq)(K:Hp):Prop where
 eq: ∃A own vc ve,Y= {X with A:=A,own:=own,vc:=vc,ve:=ve}
 len:H.length<=K.length
 A: ∀r,¬r.qj J->Y.A r=X.A r
 v: ∀ρ,ρ≠J->Y.vc ρ=X.vc ρ/\Y.ve ρ=X.ve ρ
 own: ∀a,a<H.length->Y.own a=X.own a
 new: ∀a r,Y.own a=some r->a<H.length\/r.qj J
 gU: ∀a,a<H.length->(∀r,X.own a=some r-> ¬r.qj J/\r≠ .fr J)->K[a]?=H[a]?
theorem lQ.refl{J:Path}{X:aq}{H:Hp}(lt: ∀a b,X.own a=some b->a<H.length):lQ J X H X H:=⟨⟨_,_,_,_,rfl⟩,aqd _,λ_ _=>rfl,λ_ _=>⟨rfl,rfl⟩,λ_ _=>rfl,λa b c=> .inl (lt a b c),λ_ _ _=>rfl⟩
theorem lQ.trans{J:Path}{X Y Z:aq}{H K L:Hp}(h:lQ J X H Y K)(k:lQ J Y K Z L):lQ J X H Z L:=by
 refine⟨?_,aq1 h.len k.len,λc b=>(k.A c b).trans (h.A c b),λg i=>⟨(k.v g i).1.trans (h.v g i).1,(k.v g i).2.trans (h.v g i).2⟩,λa d=>(k.own a (ard d h.len)).trans (h.own a d),λa c b=> ?_,λa d b=> ?_⟩
 ·obtain⟨o,p,v,e,rfl⟩:=h.eq;obtain⟨j,l,m,n,rfl⟩:=k.eq;exact⟨j,l,m,n,rfl⟩
 ·rcases k.new a c b with f|f
  ·rw[k.own a f]at b;exact h.new a c b
  ·exact .inr f
 ·exact(k.gU a (ard d h.len) (λc f=>b c (by rw[<-h.own a d];exact f))).trans (h.gU a d b)
section
variable{g:zj}{st z:Nat->Int}{up:M}{X:aq}{J:Path}{H K:Hp}{L:Nat->Nm->Prop}
theorem wx{a:Type}(f:Nat->a)(k:Nat):(List.range (k+1)).map f=(List.range k).map f++ [f k]:=by rw[List.range_succ];simp
def aq.eE(X:aq)(J:Path)(k:Nat)(H:Hp):aq:= {X with
 A:= λr=>if r= .ce J k then H.length else if r= .cr J/\k=0 then H.length+2 else X.A r
 own:= λa=>if a=H.length then some (.ce J k)else if a=H.length+2/\k=0 then some (.cr J)else X.own a
 vc:= λρ=>if ρ=J then(if k=0 then 0 else X.vc J+1)else X.vc ρ}
def aq.pM(X:aq)(J:Path)(k:Nat)(H:Hp)(C:List M)(a b c d:M):Hp:=
 if k=0 then(((H++ [Ob.box C])++ [Ob.row false 1 0 [M.ref H.length 0]])++ [Ob.row true 1 0 [M.ref H.length 0]]).set (X.A (.fr J)) (Ob.box ([a,.bB (H.length+2) 0 1,b,c,d]))
 else(((H++ [Ob.box C])++ [Ob.row false 1 0 [M.ref H.length 0]]).set (X.A (.cr J)) (Ob.row true 1 (X.vc J+1) (((List.range k).map λx=>M.ref (X.A (.ce J x)) 0)++ [M.ref H.length 0]))).set (X.A (.fr J)) (Ob.box ([a,.bB (X.A (.cr J)) (X.vc J+1) (k+1),b,c,d]))
theorem Fl.eE{k:Nat}{C:List M}{a b c d:M}(h:Fl g st z up X J k 0 (λ_ _=>False) H)(OE:a=up/\b= .d (.sl [])/\c= .mp (X.A (.am J))/\d= .mp (X.A (.tk J)))
  (RU: ∃v t eq,g.vars[k]?=some v/\g.db[k]?=some t/\C=cV v t eq (X.A (.fr J)) (st k) (z k)):
  Fl g st z up (X.eE J k H) J (k+1) 0 (λ_ _=>False) (X.pM J k H C a b c d)/\lQ J X H (X.eE J k H) (X.pM J k H C a b c d):=by
 obtain⟨rfl,rfl,rfl,rfl⟩:=OE;have hf:=h.lt _ _ h.kE;have I: ∀j,¬j.qj J->(X.eE J k H).A j=X.A j:= λj u=>by
  simp only[aq.eE];rw[aqo (by rintro rfl;exact u W),aqo (by rintro⟨rfl,_⟩;exact u W)]
 have w:(X.eE J k H).A (.fr J)=X.A (.fr J):=I _ id;have ac:(X.eE J k H).A (.am J)=X.A (.am J):=I _ id;have co:(X.eE J k H).A (.tk J)=X.A (.tk J):=I _ id;have D:(X.eE J k H).A (.er J)=X.A (.er J):=by simp[aq.eE]
 have E:(X.eE J k H).A (.ce J k)=H.length:=by simp[aq.eE]
 have U: ∀f,f≠k->(X.eE J k H).A (.ce J f)=X.A (.ce J f):= λf l=>by simp[aq.eE,l]
 have P: ∀f,(X.eE J k H).A (.pl J f)=X.A (.pl J f):= λf=>by simp[aq.eE]
 have Q:(X.eE J k H).ve=X.ve:=rfl;have s: ∀a,a<H.length->(X.eE J k H).own a=X.own a:= λa K=>by
  simp only[aq.eE];rw[aqo (by omega),aqo (by omega)]
 have R: ∀a,H.length<=a->X.own a=none:= λa K=>by
  cases e:X.own a with
  |none=>rfl
  |some j=>have:=h.lt a j e;omega
 have S:(X.eE J k H).own H.length=some (.ce J k):=by simp[aq.eE]
 rcases aqJ k with rfl|F
 ·have V:X.pM J 0 H C a (.d (.sl [])) (.mp (X.A (.am J))) (.mp (X.A (.tk J)))=(((H++ [Ob.box C])++ [Ob.row false 1 0 [M.ref H.length 0]])++ [Ob.row true 1 0 [M.ref H.length 0]]).set (X.A (.fr J)) (Ob.box ([a,.bB (H.length+2) 0 1,.d (.sl []),.mp (X.A (.am J)),.mp (X.A (.tk J))])):=aqy W;rw[V];have x:(X.eE J 0 H).A (.cr J)=H.length+2:=by simp[aq.eE]
  have L:(X.eE J 0 H).vc J=0:=by simp[aq.eE]
  have oR:(X.eE J 0 H).own (H.length+2)=some (.cr J):=by simp[aq.eE]
  generalize q:(((H++ [Ob.box C])++ [Ob.row false 1 0 [M.ref H.length 0]])++ [Ob.row true 1 0 [M.ref H.length 0]]).set (X.A (.fr J)) (Ob.box ([a,.bB (H.length+2) 0 1,.d (.sl []),.mp (X.A (.am J)),.mp (X.A (.tk J))]))=p;have Y:p.length=H.length+3:=by rw[<-q];simp
  have G: ∀a,a<H.length->a≠X.A (.fr J)->p[a]?=H[a]?:= λa o y=>by
   rw[<-q,aqn (aq7 y),aqf (by simp;omega),aqf (by simp;omega),aqf o]
  have Z:p[X.A (.fr J)]?=some (Ob.box ([a,.bB (H.length+2) 0 1,.d (.sl []),.mp (X.A (.am J)),.mp (X.A (.tk J))])):=by rw[<-q];exact aqZ (by simp;omega)
  have kN:p[H.length]?=some (Ob.box C):=by
   rw[<-q,aqn (by omega),aqf (by simp),aqf (by simp)];simp
  have kR:p[H.length+2]?=some (Ob.row true 1 0 [M.ref H.length 0]):=by
   rw[<-q,aqn (by omega),aqm (by simp)];simp
  have B: ∀{j},X.own (X.A j)=some j->j≠ .fr J->X.A j≠X.A (.fr J):= λ{j} o y e=>by rw[e,h.kE]at o;injection o with o;exact y o.symm
  constructor
  ·exact{
       lt:= λa j i=>by
        by_cases r:a<H.length
        ·omega
        ·rw[Y];by_cases m:a=H.length
         ·omega
         ·by_cases T:a=H.length+2
          ·omega
          ·simp only[aq.eE]at i;rw[aqo m,aqo (by omega),R a (by omega)]at i;cases i
       kE:=by rw[w,s _ hf];exact h.kE
       mr:= λ_=>by rw[x];exact oR
       mZ:= λn=>by rw[D,s _ (h.lt _ _ (h.mZ n))];exact h.mZ n
       nA:= λf l=>by
        obtain rfl:f=0:=by omega
        rw[E];exact S
       nB:= λf l=>by rw[P,s _ (h.lt _ _ (h.nB f l))];exact h.nB f l
       fr:=by rw[w,ac,co,D,Q,x,L];exact Z
       cr:= λ_=>by rw[x,L,kR];simp[E]
       er:= λn=>by
        rw[D,Q,G _ (h.lt _ _ (h.mZ n)) (B (h.mZ n) (by simp)),h.er n]
        congr 2
        try exact aq3 λf _=>by rw[P]
       ce:= λf l=>by
        obtain rfl:f=0:=by omega
        obtain⟨v,t,eq,r,m,rfl⟩:=RU;exact⟨v,t,eq,r,m,by rw[E,w];exact kN,λ_ _ N=>N.elim⟩
       pl:= λf l=>by omega}
  ·exact{
       eq:=⟨_,_,_,_,rfl⟩,len:=by omega,A:=I,v:= λρ O=>⟨by simp[aq.eE,O],by simp[aq.eE,O]⟩,own:=s,new:= λa j i=>by
        by_cases r:a<H.length
        ·exact .inl r
        ·by_cases m:a=H.length
         ·subst m;rw[S]at i;injection i with i;subst i;exact .inr W
         ·by_cases T:a=H.length+2
          ·subst T;rw[oR]at i;injection i with i;subst i;exact .inr W
          ·simp only[aq.eE]at i;rw[aqo m,aqo (by omega),R a (by omega)]at i;cases i
       gU:= λa K u=>G a K (by rintro rfl;exact(u _ h.kE).2 W)}
 ·have Uk:k≠0:=by omega
  have V:X.pM J k H C a (.d (.sl [])) (.mp (X.A (.am J))) (.mp (X.A (.tk J)))=(((H++ [Ob.box C])++ [Ob.row false 1 0 [M.ref H.length 0]]).set (X.A (.cr J)) (Ob.row true 1 (X.vc J+1) (((List.range k).map λf=>M.ref (X.A (.ce J f)) 0)++ [M.ref H.length 0]))).set (X.A (.fr J)) (Ob.box ([a,.bB (X.A (.cr J)) (X.vc J+1) (k+1),.d (.sl []),.mp (X.A (.am J)),.mp (X.A (.tk J))])):=aqo Uk;rw[V];have x:(X.eE J k H).A (.cr J)=X.A (.cr J):=by simp[aq.eE,Uk]
  have L:(X.eE J k H).vc J=X.vc J+1:=by simp[aq.eE,Uk]
  have N9:=h.lt _ _ (h.mr F);generalize q:(((H++ [Ob.box C])++ [Ob.row false 1 0 [M.ref H.length 0]]).set (X.A (.cr J)) (Ob.row true 1 (X.vc J+1) (((List.range k).map λf=>M.ref (X.A (.ce J f)) 0)++ [M.ref H.length 0]))).set (X.A (.fr J)) (Ob.box ([a,.bB (X.A (.cr J)) (X.vc J+1) (k+1),.d (.sl []),.mp (X.A (.am J)),.mp (X.A (.tk J))]))=p;have Y:p.length=H.length+2:=by rw[<-q];simp
  have B: ∀{j r'},X.own (X.A j)=some j->X.own (X.A r')=some r'->j≠r'->X.A j≠X.A r':= λ{j r'} o h3 y e=>by rw[e,h3]at o;injection o with o;exact y o.symm
  have G: ∀a,a<H.length->a≠X.A (.fr J)->a≠X.A (.cr J)->p[a]?=H[a]?:= λa o y h3=>by
   rw[<-q,aqn (aq7 y),aqn (aq7 h3),aqf (by simp;omega),aqf o]
  have Z:p[X.A (.fr J)]?=some (Ob.box ([a,.bB (X.A (.cr J)) (X.vc J+1) (k+1),.d (.sl []),.mp (X.A (.am J)),.mp (X.A (.tk J))])):=by rw[<-q];exact aqZ (by simp;omega)
  have kN:p[H.length]?=some (Ob.box C):=by
   rw[<-q,aqn (by omega),aqn (by omega),aqf (by simp)];simp
  have kR:p[X.A (.cr J)]?=some (Ob.row true 1 (X.vc J+1) (((List.range k).map λf=>M.ref (X.A (.ce J f)) 0)++ [M.ref H.length 0])):=by
   rw[<-q,aqn (aq7 (B (h.mr F) h.kE (by simp))),aqZ (by simp;omega)]
  constructor
  ·exact{
       lt:= λa j i=>by
        by_cases r:a<H.length
        ·omega
        ·rw[Y];by_cases m:a=H.length
         ·omega
         ·simp only[aq.eE]at i;rw[aqo m,aqo (by omega),R a (by omega)]at i;cases i
       kE:=by rw[w,s _ hf];exact h.kE
       mr:= λ_=>by rw[x,s _ N9];exact h.mr F
       mZ:= λn=>by rw[D,s _ (h.lt _ _ (h.mZ n))];exact h.mZ n
       nA:= λf l=>by
        by_cases e:f=k
        ·subst e;rw[E];exact S
        ·rw[U f e,s _ (h.lt _ _ (h.nA f (by omega)))];exact h.nA f (by omega)
       nB:= λf l=>by rw[P,s _ (h.lt _ _ (h.nB f l))];exact h.nB f l
       fr:=by rw[w,ac,co,D,Q,x,L];exact Z
       cr:= λ_=>by
        rw[x,L,kR,wx,E]
        congr 3
        exact aq3 λf l=>by rw[U f (by have:=arU.1 l;omega)]
       er:= λn=>by
        rw[D,Q,G _ (h.lt _ _ (h.mZ n)) (B (h.mZ n) h.kE (by simp)) (B (h.mZ n) (h.mr F) (by simp)),h.er n]
        congr 2
        try exact aq3 λf _=>by rw[P]
       ce:= λf l=>by
        by_cases e:f=k
        ·subst e;obtain⟨v,t,eq,r,m,rfl⟩:=RU;exact⟨v,t,eq,r,m,by rw[E,w];exact kN,λ_ _ N=>N.elim⟩
        ·obtain⟨v,t,eq,r,m,T,e4⟩:=h.ce f (by omega);exact⟨v,t,eq,r,m,by rw[U f e,w,G _ (h.lt _ _ (h.nA f (by omega))) (B (h.nA f (by omega)) h.kE (by simp)) (B (h.nA f (by omega)) (h.mr F) (by simp))];exact T,λ_ _ N=>N.elim⟩
       pl:= λf l=>by omega}
  ·exact{
       eq:=⟨_,_,_,_,rfl⟩,len:=by omega,A:=I,v:= λρ O=>⟨by simp[aq.eE,O],by simp[aq.eE,O]⟩,own:=s,new:= λa j i=>by
        by_cases r:a<H.length
        ·exact .inl r
        ·by_cases m:a=H.length
         ·subst m;rw[S]at i;injection i with i;subst i;exact .inr W
         ·simp only[aq.eE]at i;rw[aqo m,aqo (by omega),R a (by omega)]at i;cases i
       gU:= λa K u=>G a K (by rintro rfl;exact(u _ h.kE).2 W) (by rintro rfl;exact(u _ (h.mr F)).1 W)}
def aq.eZ(X:aq)(J:Path)(k:Nat)(H:Hp):aq:= {X with
 A:= λr=>if r= .pl J k then H.length else if r= .er J/\k=0 then H.length+2 else X.A r
 own:= λa=>if a=H.length then some (.pl J k)else if a=H.length+2/\k=0 then some (.er J)else X.own a
 ve:= λρ=>if ρ=J then(if k=0 then 0 else X.ve J+1)else X.ve ρ}
def aq.vI(X:aq)(J:Path)(k:Nat)(H:Hp)(C:List M)(a b c d:M):Hp:=
 if k=0 then(((H++ [Ob.box C])++ [Ob.row false 1 0 [M.ref H.length 0]])++ [Ob.row true 1 0 [M.ref H.length 0]]).set (X.A (.fr J)) (Ob.box ([a,b,.bB (H.length+2) 0 1,c,d]))
 else(((H++ [Ob.box C])++ [Ob.row false 1 0 [M.ref H.length 0]]).set (X.A (.er J)) (Ob.row true 1 (X.ve J+1) (((List.range k).map λx=>M.ref (X.A (.pl J x)) 0)++ [M.ref H.length 0]))).set (X.A (.fr J)) (Ob.box ([a,b,.bB (X.A (.er J)) (X.ve J+1) (k+1),c,d]))
theorem Fl.eZ{k e:Nat}{C:List M}{a b c d:M}(h:Fl g st z up X J e k (λ_ _=>False) H)(OE:a=up/\b=bG (X.A (.cr J)) (X.vc J) e/\c= .mp (X.A (.am J))/\d= .mp (X.A (.tk J)))
  (RU: ∃u w,g.au[k]?=some u/\g.pos[k]?=some w/\C=dr u w):
  Fl g st z up (X.eZ J k H) J e (k+1) (λ_ _=>False) (X.vI J k H C a b c d)/\lQ J X H (X.eZ J k H) (X.vI J k H C a b c d):=by
 obtain⟨rfl,rfl,rfl,rfl⟩:=OE;have hf:=h.lt _ _ h.kE;have N: ∀j,¬j.qj J->(X.eZ J k H).A j=X.A j:= λj B=>by
  simp only[aq.eZ];rw[aqo (by rintro rfl;exact B W),aqo (by rintro⟨rfl,_⟩;exact B W)]
 have G:(X.eZ J k H).A (.fr J)=X.A (.fr J):=N _ id;have ac:(X.eZ J k H).A (.am J)=X.A (.am J):=N _ id;have co:(X.eZ J k H).A (.tk J)=X.A (.tk J):=N _ id;have I:(X.eZ J k H).A (.cr J)=X.A (.cr J):=by simp[aq.eZ]
 have K:(X.eZ J k H).A (.pl J k)=H.length:=by simp[aq.eZ]
 have U: ∀f,f≠k->(X.eZ J k H).A (.pl J f)=X.A (.pl J f):= λf l=>by simp[aq.eZ,l]
 have L: ∀f,(X.eZ J k H).A (.ce J f)=X.A (.ce J f):= λf=>by simp[aq.eZ]
 have R:(X.eZ J k H).vc=X.vc:=rfl;have s: ∀a,a<H.length->(X.eZ J k H).own a=X.own a:= λa O=>by
  simp only[aq.eZ];rw[aqo (by omega),aqo (by omega)]
 have S: ∀a,H.length<=a->X.own a=none:= λa O=>by
  cases e:X.own a with
  |none=>rfl
  |some j=>have:=h.lt a j e;omega
 have T:(X.eZ J k H).own H.length=some (.pl J k):=by simp[aq.eZ]
 rcases aqJ k with rfl|D
 ·have V:X.vI J 0 H C a (bG (X.A (.cr J)) (X.vc J) e) (.mp (X.A (.am J))) (.mp (X.A (.tk J)))=(((H++ [Ob.box C])++ [Ob.row false 1 0 [M.ref H.length 0]])++ [Ob.row true 1 0 [M.ref H.length 0]]).set (X.A (.fr J)) (Ob.box ([a,bG (X.A (.cr J)) (X.vc J) e,.bB (H.length+2) 0 1,.mp (X.A (.am J)),.mp (X.A (.tk J))])):=aqy W;rw[V];have E:(X.eZ J 0 H).A (.er J)=H.length+2:=by simp[aq.eZ]
  have P:(X.eZ J 0 H).ve J=0:=by simp[aq.eZ]
  have oR:(X.eZ J 0 H).own (H.length+2)=some (.er J):=by simp[aq.eZ]
  generalize r:(((H++ [Ob.box C])++ [Ob.row false 1 0 [M.ref H.length 0]])++ [Ob.row true 1 0 [M.ref H.length 0]]).set (X.A (.fr J)) (Ob.box ([a,bG (X.A (.cr J)) (X.vc J) e,.bB (H.length+2) 0 1,.mp (X.A (.am J)),.mp (X.A (.tk J))]))=q;have Y:q.length=H.length+3:=by rw[<-r];simp
  have x: ∀a,a<H.length->a≠X.A (.fr J)->q[a]?=H[a]?:= λa p F=>by
   rw[<-r,aqn (aq7 F),aqf (by simp;omega),aqf (by simp;omega),aqf p]
  have Z:q[X.A (.fr J)]?=some (Ob.box ([a,bG (X.A (.cr J)) (X.vc J) e,.bB (H.length+2) 0 1,.mp (X.A (.am J)),.mp (X.A (.tk J))])):=by rw[<-r];exact aqZ (by simp;omega)
  have kN:q[H.length]?=some (Ob.box C):=by
   rw[<-r,aqn (by omega),aqf (by simp),aqf (by simp)];simp
  have kR:q[H.length+2]?=some (Ob.row true 1 0 [M.ref H.length 0]):=by
   rw[<-r,aqn (by omega),aqm (by simp)];simp
  have t: ∀{j},X.own (X.A j)=some j->j≠ .fr J->X.A j≠X.A (.fr J):= λ{j} p F e=>by rw[e,h.kE]at p;injection p with p;exact F p.symm
  constructor
  ·exact{
       lt:= λa j i=>by
        by_cases n:a<H.length
        ·omega
        ·rw[Y];by_cases m:a=H.length
         ·omega
         ·by_cases y:a=H.length+2
          ·omega
          ·simp only[aq.eZ]at i;rw[aqo m,aqo (by omega),S a (by omega)]at i;cases i
       kE:=by rw[G,s _ hf];exact h.kE
       mZ:= λ_=>by rw[E];exact oR
       mr:= λo=>by rw[I,s _ (h.lt _ _ (h.mr o))];exact h.mr o
       nB:= λf l=>by
        obtain rfl:f=0:=by omega
        rw[K];exact T
       nA:= λf l=>by rw[L,s _ (h.lt _ _ (h.nA f l))];exact h.nA f l
       fr:=by rw[G,ac,co,I,R,E,P];exact Z
       er:= λ_=>by rw[E,P,kR];simp[K]
       cr:= λo=>by
        rw[I,R,x _ (h.lt _ _ (h.mr o)) (t (h.mr o) (by simp)),h.cr o]
        congr 2
        try exact aq3 λf _=>by rw[L]
       pl:= λf l=>by
        obtain rfl:f=0:=by omega
        obtain⟨u,w,n,m,rfl⟩:=RU;exact⟨u,w,n,m,by rw[K];exact kN⟩
       ce:= λf l=>by obtain⟨v,lp,eq,n,m,y,e4⟩:=h.ce f l;exact⟨v,lp,eq,n,m,by rw[L,G,x _ (h.lt _ _ (h.nA f l)) (t (h.nA f l) (by simp))];exact y,λ_ _ hh=>hh.elim⟩}
  ·exact{
       eq:=⟨_,_,_,_,rfl⟩,len:=by omega,A:=N,v:= λρ Q=>⟨by simp[aq.eZ,Q],by simp[aq.eZ,Q]⟩,own:=s,new:= λa j i=>by
        by_cases n:a<H.length
        ·exact .inl n
        ·by_cases m:a=H.length
         ·subst m;rw[T]at i;injection i with i;subst i;exact .inr W
         ·by_cases y:a=H.length+2
          ·subst y;rw[oR]at i;injection i with i;subst i;exact .inr W
          ·simp only[aq.eZ]at i;rw[aqo m,aqo (by omega),S a (by omega)]at i;cases i
       gU:= λa O B=>x a O (by rintro rfl;exact(B _ h.kE).2 W)}
 ·have Uk:k≠0:=by omega
  have V:X.vI J k H C a (bG (X.A (.cr J)) (X.vc J) e) (.mp (X.A (.am J))) (.mp (X.A (.tk J)))=(((H++ [Ob.box C])++ [Ob.row false 1 0 [M.ref H.length 0]]).set (X.A (.er J)) (Ob.row true 1 (X.ve J+1) (((List.range k).map λf=>M.ref (X.A (.pl J f)) 0)++ [M.ref H.length 0]))).set (X.A (.fr J)) (Ob.box ([a,bG (X.A (.cr J)) (X.vc J) e,.bB (X.A (.er J)) (X.ve J+1) (k+1),.mp (X.A (.am J)),.mp (X.A (.tk J))])):=aqo Uk;rw[V];have E:(X.eZ J k H).A (.er J)=X.A (.er J):=by simp[aq.eZ,Uk]
  have P:(X.eZ J k H).ve J=X.ve J+1:=by simp[aq.eZ,Uk]
  have N9:=h.lt _ _ (h.mZ D);generalize r:(((H++ [Ob.box C])++ [Ob.row false 1 0 [M.ref H.length 0]]).set (X.A (.er J)) (Ob.row true 1 (X.ve J+1) (((List.range k).map λf=>M.ref (X.A (.pl J f)) 0)++ [M.ref H.length 0]))).set (X.A (.fr J)) (Ob.box ([a,bG (X.A (.cr J)) (X.vc J) e,.bB (X.A (.er J)) (X.ve J+1) (k+1),.mp (X.A (.am J)),.mp (X.A (.tk J))]))=q;have Y:q.length=H.length+2:=by rw[<-r];simp
  have t: ∀{j r'},X.own (X.A j)=some j->X.own (X.A r')=some r'->j≠r'->X.A j≠X.A r':= λ{j r'} p h3 F e=>by rw[e,h3]at p;injection p with p;exact F p.symm
  have x: ∀a,a<H.length->a≠X.A (.fr J)->a≠X.A (.er J)->q[a]?=H[a]?:= λa p F h3=>by
   rw[<-r,aqn (aq7 F),aqn (aq7 h3),aqf (by simp;omega),aqf p]
  have Z:q[X.A (.fr J)]?=some (Ob.box ([a,bG (X.A (.cr J)) (X.vc J) e,.bB (X.A (.er J)) (X.ve J+1) (k+1),.mp (X.A (.am J)),.mp (X.A (.tk J))])):=by rw[<-r];exact aqZ (by simp;omega)
  have kN:q[H.length]?=some (Ob.box C):=by
   rw[<-r,aqn (by omega),aqn (by omega),aqf (by simp)];simp
  have kR:q[X.A (.er J)]?=some (Ob.row true 1 (X.ve J+1) (((List.range k).map λf=>M.ref (X.A (.pl J f)) 0)++ [M.ref H.length 0])):=by
   rw[<-r,aqn (aq7 (t (h.mZ D) h.kE (by simp))),aqZ (by simp;omega)]
  constructor
  ·exact{
       lt:= λa j i=>by
        by_cases n:a<H.length
        ·omega
        ·rw[Y];by_cases m:a=H.length
         ·omega
         ·simp only[aq.eZ]at i;rw[aqo m,aqo (by omega),S a (by omega)]at i;cases i
       kE:=by rw[G,s _ hf];exact h.kE
       mZ:= λ_=>by rw[E,s _ N9];exact h.mZ D
       mr:= λo=>by rw[I,s _ (h.lt _ _ (h.mr o))];exact h.mr o
       nB:= λf l=>by
        by_cases e:f=k
        ·subst e;rw[K];exact T
        ·rw[U f e,s _ (h.lt _ _ (h.nB f (by omega)))];exact h.nB f (by omega)
       nA:= λf l=>by rw[L,s _ (h.lt _ _ (h.nA f l))];exact h.nA f l
       fr:=by rw[G,ac,co,I,R,E,P];exact Z
       er:= λ_=>by
        rw[E,P,kR,wx,K]
        congr 3
        exact aq3 λf l=>by rw[U f (by have:=arU.1 l;omega)]
       cr:= λo=>by
        rw[I,R,x _ (h.lt _ _ (h.mr o)) (t (h.mr o) h.kE (by simp)) (t (h.mr o) (h.mZ D) (by simp)),h.cr o]
        congr 2
        try exact aq3 λf _=>by rw[L]
       pl:= λf l=>by
        by_cases e:f=k
        ·subst e;obtain⟨u,w,n,m,rfl⟩:=RU;exact⟨u,w,n,m,by rw[K];exact kN⟩
        ·obtain⟨u,w,n,m,y⟩:=h.pl f (by omega);exact⟨u,w,n,m,by rw[U f e,x _ (h.lt _ _ (h.nB f (by omega))) (t (h.nB f (by omega)) h.kE (by simp)) (t (h.nB f (by omega)) (h.mZ D) (by simp))];exact y⟩
       ce:= λf l=>by obtain⟨v,lp,eq,n,m,y,e4⟩:=h.ce f l;exact⟨v,lp,eq,n,m,by rw[L,G,x _ (h.lt _ _ (h.nA f l)) (t (h.nA f l) h.kE (by simp)) (t (h.nA f l) (h.mZ D) (by simp))];exact y,λ_ _ hh=>hh.elim⟩}
  ·exact{
       eq:=⟨_,_,_,_,rfl⟩,len:=by omega,A:=N,v:= λρ Q=>⟨by simp[aq.eZ,Q],by simp[aq.eZ,Q]⟩,own:=s,new:= λa j i=>by
        by_cases n:a<H.length
        ·exact .inl n
        ·by_cases m:a=H.length
         ·subst m;rw[T]at i;injection i with i;subst i;exact .inr W
         ·simp only[aq.eZ]at i;rw[aqo m,aqo (by omega),S a (by omega)]at i;cases i
       gU:= λa O B=>x a O (by rintro rfl;exact(B _ h.kE).2 W) (by rintro rfl;exact(B _ (h.mZ D)).1 W)}
theorem Fl.link{k e:Nat}(h:Fl g st z up X J k e L H){x i:Nat}{v:Va}{f:Option Nat}{eq:M}(w:x<k)(C:g.vars[x]?=some v)(D:fS g.vars v.name=some x)(E:g.db[x]?=some f){q:ay}(F:g.au[i]?=some q)(G:v.name∈b_ q)(I: ∀j nm,L j nm->j<=i)(K:H[X.A (.ce J x)]?=some (.box (cV v f eq (X.A (.fr J)) (st x) (z x)))):
  Fl g st z up X J k e (λj nm=>L j nm\/(j=i/\nm=v.name)) (H.set (X.A (.ce J x)) (.box (cV v f (.ref (X.A (.pl J i)) 0) (X.A (.fr J)) (st x) (z x))))/\lQ J X H X (H.set (X.A (.ce J x)) (.box (cV v f (.ref (X.A (.pl J i)) 0) (X.A (.fr J)) (st x) (z x)))):=by
 have l: ∀{b},X.own (X.A b)=some b->b≠ .ce J x->(H.set (X.A (.ce J x)) (.box (cV v f (.ref (X.A (.pl J i)) 0) (X.A (.fr J)) (st x) (z x))))[X.A b]?=H[X.A b]?:= λ{b} c N=>
  aqn (by intro e;rw[<-e,h.nA x w]at c;injection c with c;exact N c.symm)
 constructor
 ·refine{h with lt:= λn b p=>by simpa using h.lt n b p,fr:=(l h.kE (by simp)).trans h.fr,cr:= λy=>(l (h.mr y) (by simp)).trans (h.cr y),er:= λA=>(l (h.mZ A) (by simp)).trans (h.er A),ce:= λd m=> ?_,pl:= λd m=> ?_}
  ·by_cases e:d=x
   ·subst e;refine⟨v,f,_,C,E,ga K _,λj o a=> ?_⟩;rcases a with a|a
    ·rcases aqh j i with O|V
     ·exact absurd G (o.2.2 i q O F)
     ·have:=I j _ a;obtain rfl:j=i:=by omega
      rfl
    ·rw[a.1]
   ·obtain⟨B,P,Q,r,s,t,R⟩:=h.ce d m;refine⟨B,P,Q,r,s,(l (h.nA d m) (by intro u;injection u with _ u;exact e u)).trans t,λj o a=> ?_⟩;rcases a with a|a
    ·exact R j o a
    ·have c:=o.1;rw[a.2,D]at c;injection c with c
     exact absurd c.symm e
  ·obtain⟨S,T,r,s,t⟩:=h.pl d m;exact⟨S,T,r,s,(l (h.nB d m) (by simp)).trans t⟩
 ·exact⟨⟨_,_,_,_,rfl⟩,by simp,λ_ _=>rfl,λ_ _=>⟨rfl,rfl⟩,λ_ _=>rfl,λn b p=> .inl (h.lt n b p),λn Y U=>aqn (by rintro rfl;exact(U _ (h.nA x w)).1 W)⟩
theorem Fl.skip{k e:Nat}(h:Fl g st z up X J k e L H){i:Nat}{nm:Nm}(f: ∀a v,a<k->g.vars[a]?=some v->fS g.vars v.name=some a->v.name≠nm):Fl g st z up X J k e (λj n=>L j n\/(j=i/\n=nm)) H:=
by
 refine{h with ce:= λa c=> ?_};obtain⟨v,l,eq,d,m,o,q⟩:=h.ce a c;refine⟨v,l,eq,d,m,o,λj p b=> ?_⟩;rcases b with b|b
 ·grind
 ·exact absurd b.2 (f a v c d p.1)
theorem Fl.mono{k e:Nat}{c:Nat->Nm->Prop}(h:Fl g st z up X J k e L H)(i: ∀a v,v∈g.vars-> ∀b,jB g b v a->c a v.name->L a v.name):Fl g st z up X J k e c H:=
by
 refine{h with ce:= λb j=> ?_};obtain⟨v,l,eq,d,m,n,o⟩:=h.ce b j;exact⟨v,l,eq,d,m,n,λa f p=>o a f (i a v (aqk d) b f p)⟩
end
end Go.Proofs.Sz
