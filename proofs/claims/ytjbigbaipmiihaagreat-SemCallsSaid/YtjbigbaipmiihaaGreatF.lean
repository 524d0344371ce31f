/- A part of the proof of the last text of this claim, without conditions. -/
import Derived.Test.YtjbigbaipmiihaaGreatE
set_option maxRecDepth 4000
set_option linter.all false
namespace Go.Proofs.Sz
open Go.Mt Go.Sm Go.Proofs
open Tryz
section
variable{P:Pg}{n:Nat}{c:aK}{d:Nd}{u:US}{X:aw}{H:Hp}
def Kv(c:aK)(σ:Path×Nat)(lp:Option Nat)(z:Int)(x:Nm):Option (Path×Nat)->Prop
 |none=> ∃p,lp=some p/\p<c.sz/\z=c.rd p
 |some τ=>c.find τ.1 x=some σ/\ ∃q,(c.fr τ.1).au[τ.2]?=some q/\(q.kd=1->q.lhs= [x]/\z=c.ev τ.1 τ.2)/\(q.kd=2->x∈q.lhs/\c.jg τ.1 q)
def ss(c:aK)(Y:aw)(s:Option (Path×Nat)):Prop:= ∀τ q,s=some τ->(c.fr τ.1).au[τ.2]?=some q->Y.fs τ.1=2/\(q.kd=1-> ∀w∈c.ew τ.1 τ.2,Y.SS c w.1 w.2)/\(q.kd=2->Y.dn τ.1 τ.2=true)
structure ye(c:aK)(X:aw)(r:Nat)(σ:Path×Nat):Prop where
 c1: ∀π k,X.cs π k=1->(π,k)=σ\/r<c.sb π k
 s1:r<=c.sb σ.1 σ.2
 f1: ∀j π,X.fs (j::π)=1->r<c.ek π j
 c4: ∀π k,X.cs π k<=3
 tp:r<c.eh
def Es(P:Pg)(n:Nat)(c:aK)(d:Nd)(u:US)(r:Nat):Prop:= ∀(X:aw) (H:Hp),cV P n c d u X H-> ∀B,X.T c+B<=1000000000000-> ∀(π:Path) (j:Nat) (q:aB) (x:Nm) (s:Option (Path×Nat)) (σ:Path×Nat) (v:Va) (lp:Option Nat) (z:Int),ye c X r σ->X.fs π=2->(c.fr π).au[j]?=some q->Src c r π j x s->X.fs σ.1=2->X.cs σ.1 σ.2=1->(σ.1= []->d.ins.length<=σ.2)->(c.fr σ.1).vars[σ.2]?=some v->v.name=x->(c.fr σ.1).cO[σ.2]?=some lp->c.val σ.1 σ.2=some z->Kv c σ lp z x s->(∀τ q,s=some τ->(c.fr τ.1).au[τ.2]?=some q->q.kd=1->(c.ew τ.1 τ.2).length<=B)->
 DT prog 66 [.ref (X.A .it) 0,.ref (X.A (.fr π)) 0,.ref (X.A (.pl π j)) 0,.ref (X.A (.ce σ.1 σ.2)) 0] H λm K=>m= .d (.int .i32 z)/\ ∃Y,cV P n c d u Y K/\br c (·=σ) X H Y K/\Y.T c<=X.T c+B/\(Y.cs σ.1 σ.2=1\/Y.cs σ.1 σ.2=4)/\ss c Y s
theorem br.HE{E:Path×Nat->Prop}{Y Z:aw}{K L:Hp}{s:Option (Path×Nat)}(h:br c E Y K Z L)(k:ss c Y s):ss c Z s:= λa b e d=>⟨h.f2 _ (k a b e d).1,λf g i=>h.SS _ _ ((k a b e d).2.1 f g i),λf=>h.dn _ _ ((k a b e d).2.2 f)⟩
theorem I2{ins outs:List Int}{u':US}(co:oF P n c d u)(hC:gy P (d_ P n) c d u ins outs u'){r:Nat}(hV: ∀r'<r,e_ P n c d u r')(hD: ∀r'<r,Es P n c d u r'):e_ P n c d u r:=by
 intro X H A hT J π v6 σ hf SA hr;have f:=A.lay;obtain⟨Qs,v,y,eq,l,VE,q,QA,VA⟩:=mu A hf SA;have m:σ.2<(c.fr σ.1).vars.length:=by
  rcases auM σ.2 (c.fr σ.1).vars.length with f|f
  ·exact f
  ·rw[auP f]at l;cases l
 have QT:X.live c (.ce σ.1 σ.2):=⟨Qs,m⟩;have R1:=Pu.ok co A.pu Qs;have Ts:=f.grow [Ob.box [.ref (X.A .it) 0]];have QU:=pZ Ts A.pu co.sz π hf v6;have UW:X.gS c π v6= .ref (X.A (.ce σ.1 σ.2)) 0:=by unfold aw.gS;rw[SA]
 rw[UW]at QU;have PU:=rz f;have T8:(H++ [Ob.box [.ref (X.A .it) 0]]++ [Ob.box [.ref (X.A (.ce σ.1 σ.2)) 0]])[H.length]?=some (Ob.box [.ref (X.A .it) 0]):=by simp
 have K:(H++ [Ob.box [.ref (X.A .it) 0]]++ [Ob.box [.ref (X.A (.ce σ.1 σ.2)) 0]])[(H++ [Ob.box [M.ref (X.A .it) 0]]).length]?=some (Ob.box [.ref (X.A (.ce σ.1 σ.2)) 0]):=by simp
 have P6:=Ts.grow [Ob.box [.ref (X.A (.ce σ.1 σ.2)) 0]];have RP:=(br.grow c (λ_=>False) X H [Ob.box [.ref (X.A .it) 0]]).trans (br.grow c (λ_=>False) X _ [Ob.box [.ref (X.A (.ce σ.1 σ.2)) 0]]);have G:=bB (T:=[Ob.box [.ref (X.A (.ce σ.1 σ.2)) 0]]) (bB (T:=[Ob.box [.ref (X.A .it) 0]]) QA);obtain⟨w,wn⟩: ∃b,b=H.length:=⟨_,rfl⟩;obtain⟨j,rx⟩: ∃b,b=(H++ [Ob.box [M.ref (X.A .it) 0]]).length:=⟨_,rfl⟩;refine DT.ob func45 W ntmps45 W<|dO [2,7] W<|Po (cH W W W)<|dR [2,16] W<|Po (aq QU W W)<|dR [12] W<|Po (xf W)<|dR [999] W<|Po (cc W W (vJ _ _) W W W)<|dL [] W ?_;have Z8: ∀(z:Hp) (ob QK:Ob),(z++ [ob]).set z.length QK=z++ [QK]:= λz ob QK=>by rw[avY _ _ (auK _),awV];rfl
 refine Pz [nR 3 w,nR 8 j] (H++ [Ob.box [.ref (X.A .it) 0]]++ [Ob.box [.ref (X.A (.ce σ.1 σ.2)) 0]]) (kc (by rw[wn];rfl) (kc (by rw[rx];rfl) W)) (Z8 _ _ _) ?_;rw[<-wn]at T8;rw[<-rx]at K;generalize hK:H++ [Ob.box [M.ref (X.A .it) 0]]++ [Ob.box [M.ref (X.A (.ce σ.1 σ.2)) 0]]=z at T8 K P6 RP G⊢;have Do:X.box z w (.ref (X.A .it) 0):=⟨(PU _ (by omega)),T8⟩;have Eq:X.box z j (.ref (X.A (.ce σ.1 σ.2)) 0):=⟨(PU _ (by rw[rx];simp)),K⟩;refine dO [2,17] W<|Po (aA W W K W)<|dR [18] W<|Po (kS (by kernel_rfl) W W W W W)<|dL [0] W ?_;have acK:=J.c4 σ.1 σ.2;have arw:X.cs σ.1 σ.2≠1:= λe=>by
  have B:=J.c1 _ _ e;have h2:σ.1= []->d.ins.length<=σ.2:= λY=>by
   rcases auM σ.2 d.ins.length with Z|Z
   ·have:=A.pu.ci _ Z;rw[<-Y,e]at this;cases this
   ·exact Z
  have h3:=(hC.cell σ.1 σ.2 v y R1 l q h2).sr;unfold aK.jX at hr;omega
 have T9:X.cs σ.1 σ.2=2\/X.cs σ.1 σ.2=3\/X.cs σ.1 σ.2=0:=by omega
 rcases T9 with h|h|h
 ·rw[h]at G;refine dO [2,22] W<|Po (aA W W K W)<|dR [25] W<|Po (aA W W G W)<|dR [3,2,0,2,1,2,33] W<|Po (aA W W K W)<|dR [36] W<|Po (aA W W G W)<|dL [] W<|DC.ret ⟨_,W,by rw[A.pu.cv σ.1 σ.2 (by rw[h];rfl)];rfl,X,cW.pre RP (cW.same P6 A.pu),.inl h⟩
 ·rw[h]at G;have Fd:=A.pu.ca σ.1 σ.2 h;have t3:c.get σ=0:=by unfold aK.get;rw[Fd];rfl
  refine dO [2,22] W<|Po (aA W W K W)<|dR [25] W<|Po (aA W W G W)<|dL [3,2,0,2,0,2,1,2] W<|DC.ret ⟨_,W,by rw[Fd,t3];rfl,X,cW.pre RP (cW.same P6 A.pu),.inr h⟩
 have L:σ.1= []->d.ins.length<=σ.2:= λY=>by
  rcases auM σ.2 d.ins.length with Z|Z
  ·have:=A.pu.ci _ Z;rw[<-Y,h]at this;cases this
  ·exact Z
 have YX:=hC.cell σ.1 σ.2 v y R1 l q L;have XL:c.sb σ.1 σ.2<r:=by have:=YX.sr;unfold aK.jX at hr;omega
 have FS:=hC.wc σ.1 σ.2 v R1 l L;rw[h]at G;refine dO [2,22] W<|Po (aA W W K W)<|dR [25] W<|Po (aA W W G W)<|dL [] W<|Qy (λPD=>PD=⟨[nR 3 w,nR 8 j],[],z⟩) ?_ ?_
 ·refine dC [3,2,0,2,0,2,0] W<|⟨_,W,cR W W⟩
 rintro _ rfl;have YW: ∀(π:Path) (o:Nat) (i:aB),σ=(o::π,0)->(c.fr π).au[o]?=some i->i.kd=2->False:= λπ o i e C P7=>by
  subst e;obtain⟨_,q',PJ,Qv⟩:=hC.i_ o π R1;rw[C]at PJ;injection PJ with PJ;subst PJ;omega
 have GT:=P6.cS (σ:=σ) 1 Qs l q VA;have R0:=br.cS P6 (s:=1) QT (Ob.box (dh v y eq (X.A (.fr σ.1)) (oE 1) (if zB 1 then c.get (σ.1,σ.2)else 0))) (λe=>by rw[h]at e;cases e) (λe=>by rw[h]at e;cases e) (by decide);have hT1:=Ku (c:=c) (X:=X) (σ:=σ) (s:=1) (by decide) h FS.1;refine dO [2,39] W<|Po (aA W W K W)<|dR [999] W<|Po (cc W W G W W W)<|dL [] W<|Pz [nR 3 w,nR 8 j] (z.set (X.A (.ce σ.1 σ.2)) (Ob.box (dh v y eq (X.A (.fr σ.1)) (oE 1) (if zB 1 then c.get (σ.1,σ.2)else 0)))) W W ?_;have d6:(z.set (X.A (.ce σ.1 σ.2)) (Ob.box (dh v y eq (X.A (.fr σ.1)) (oE 1) (if zB 1 then c.get (σ.1,σ.2)else 0))))[X.A (.ce σ.1 σ.2)]?=some (Ob.box (dh v y eq (X.A (.fr σ.1)) (oE 1) (if zB 1 then c.get (σ.1,σ.2)else 0))):=gC G _;have i6:=R0.box Do;have ac:=R0.box Eq;generalize z.set (X.A (.ce σ.1 σ.2)) (Ob.box (dh v y eq (X.A (.fr σ.1)) (oE 1) (if zB 1 then c.get (σ.1,σ.2)else 0)))=K1 at GT R0 i6 ac d6⊢;have Id:mq c (X.cS σ 1) (c.sb σ.1 σ.2):=by
  refine⟨λπ V e=> ?_,λo π e=> ?_,λπ V=> ?_,?_⟩
  ·by_cases N:(π,V)=σ
   ·subst N;exact auK _
   ·rw[bI X N]at e;have:=J.c1 _ _ e;omega
  ·have:=J.f1 o π e;omega
  ·by_cases N:(π,V)=σ
   ·subst N;rw[cp X (π,V) 1];omega
   ·rw[bI X N];exact J.c4 _ _
  ·have:=J.tp;omega
 obtain⟨m2,K2,⟨rfl,Y2,Rj⟩,TW⟩:=tT co (hV _ XL) (co.cl _ _ v R1 l) YX.pr ⟨GT,(A.pu.cS (by omega) L (λe=>by cases e) (λe=>by cases e) (λe=>by rw[h]at e;cases e) (λe=>by rw[h]at e;omega) (λe=>by cases e) (λe=>by omega) (λπ o i e C m=>(YW π o i e C m).elim) (.inl ‹_›))⟩ (by omega) Id Qs;have D:=Rj.2.1;have In:=R0.trans (D.mono λ_=>False.elim);have i7:=(D.A (.ce σ.1 σ.2) QT).2;have i8:=(D.A (.fr σ.1) (by show 1<=X.fs σ.1;omega)).2;have Sf:=D.f2 _ Qs;have d7:=(D.c1 σ.1 σ.2 (by simp)).1 (cp X σ 1);have d8:=D.box ac;obtain⟨lp2,Pt,SV,Yx,IO⟩:=Rj.1.lay.cell Sf l;rw[q]at SV;injection SV with SV
 subst SV;rw[i7,i8,d7]at Yx;have hT2:=Rj.2.2.1;cases x:c.val σ.1 σ.2 with
 |none=>
  rw[x]at TW;refine dC [] W ?_;apply Ps bN
  ·intro s0 Oo;refine ay W W i6.2 W<|ay W W ac.2 W<|fR 2 W<|ay W W d6 W<|ay W W ac.2 W<|fR 3 W<|ay W W d6 W<|bg TW W W<|fR 1 W<|TF.nil ⟨by kernel_rfl,rfl⟩
  refine dO [1,2,54] W<|Po (aA W W d8.2 W)<|dR [999] W<|Po (cc W W Yx W W W)<|dL [2] W ?_;have VW:=Rj.1.lay.cS (σ:=σ) 3 Sf l q IO;have O:=br.cS Rj.1.lay (s:=3) (σ:=σ) ⟨Sf,m⟩ (Ob.box (dh v y Pt (Y2.A (.fr σ.1)) (oE 3) (if zB 3 then c.get (σ.1,σ.2)else 0))) (λe=>by rw[d7]at e;cases e) (λe=>rfl) (by decide);rw[i7,i8]at VW O;have XK:=sn (c:=c) (X:=Y2) (σ:=σ) (s:=3) (by decide);have t3:c.get σ=0:=by unfold aK.get;rw[x];rfl
  refine DC.ret ⟨_,W,by rw[t3,x];rfl,Y2.cS σ 3,⟨⟨VW,(Rj.1.pu.cS (by omega) L (λe=>by cases e) (λ_=>x) (λe=>by rw[d7]at e;cases e) (λe=>by rw[d7]at e;omega) (λe=>by cases e) (λe=>by omega) (λπ o i e C m=>(YW π o i e C m).elim) (.inl ‹_›))⟩,?_,by omega,by intro p t;cases t⟩,.inr (cp _ _ _)⟩;exact RP.trans (br.close (In.trans O) (by rw[h,cp];omega) (λs hs=>by rw[h,cp];omega) (by rw[h];decide))
 |some ge=>
  rw[x]at TW;obtain⟨j0,s,Wi,W3,hs⟩:=YX.df ge x;obtain⟨hjx,⟨q0,RZ,hqd⟩,_⟩:=id Wi;have Px:=IO j0 Wi;subst Px;have W4:ye c Y2 (c.sb σ.1 σ.2) σ:=by
   have:=Id.next D;refine⟨λπ V e=> ?_,auK _,λo π e=> ?_,this.c4,by have:=J.tp;omega⟩
   ·by_cases N:(π,V)=σ
    ·exact .inl N
    ·have B:=(D.c1 π V (by simp)).2 e;rw[bI X N]at B;have:=J.c1 _ _ B;exact .inr (by omega)
   have:=J.f1 o π ((D.f1 _).2 e);omega
  obtain⟨m3,K3,⟨rfl,Y3,ah,O,XK,Wx,t4⟩,V9⟩:=hD _ XL Y2 K2 Rj.1 (c.wt (.cell σ.1 σ.2)-1) (by omega) σ.1 j0 q0 v.name s σ v y ge W4 Sf RZ W3 Sf d7 L l W q x (by cases s<;>exact hs) (λτ i e C Tw=>by
   subst e;have:=FS.2.2 j0 τ.1 τ.2 i Wi W3 C Tw;omega)
  rw[(D.A .it trivial).2,i8,i7]at V9;have LE:=In.trans O;have d9:=O.box d8;have t5:Y3.A (.ce σ.1 σ.2)=X.A (.ce σ.1 σ.2):=((O.A (.ce σ.1 σ.2) ⟨Sf,m⟩).2).trans i7;have LT:=((O.A (.fr σ.1) (by show 1<=Y2.fs σ.1;omega)).2).trans i8;have i9:=O.f2 _ Sf;obtain⟨lp3,Q6,mt,W5,ST⟩:=ah.lay.cell i9 l;rw[q]at mt;injection mt with mt
  subst mt;have V_:c.get (σ.1,σ.2)=ge:=by unfold aK.get;rw[x];rfl
  rw[t5,LT]at W5;refine dC [] W ?_;apply Ps bN
  ·intro s0 Oo;refine ay W W i6.2 W<|ay W W ac.2 W<|fR 2 W<|ay W W d6 W<|ay W W ac.2 W<|fR 3 W<|ay W W d6 W<|bg TW W W<|fR 1 W<|TF.nil ⟨by kernel_rfl,rfl⟩
  refine dC [0] W ?_;apply Ps bN
  ·intro s0 Oo;refine ay W W (D.box i6).2 W<|ay W W d8.2 W<|fR 2 W<|ay W W Yx W<|ay W W d8.2 W<|fR 2 W<|ay W W Yx W<|ay W W d8.2 W<|bg V9 W W<|fR 1 W<|TF.nil ⟨by kernel_rfl,rfl⟩
  have ZD: ∀(I:aw),ss c I s-> ∀j1 v1 PC j' i,(c.fr σ.1).vars[σ.2]?=some v1->gR (c.fr σ.1) σ.2 v1 j1->Src c (c.sb σ.1 σ.2) σ.1 j1 v1.name (some (PC,j'))->(c.fr PC).au[j']?=some i->I.fs PC=2/\(i.kd=1-> ∀wd∈c.ew PC j',I.SS c wd.1 wd.2)/\(i.kd=2->I.dn PC j'=true):=by
   intro I hY j1 v1 PC j' i B h2 h3 h4;rw[l]at B;injection B with B
   subst B;obtain rfl:=Wi.u5 h2;have e:=W3.u5 h3;exact hY (PC,j') i e h4
  refine dO [2,68] W<|Po (aA W W d9.2 W)<|dR [71] W<|Po (aA W W W5 W)<|dL [] W<|Qy (λPD=> ∃a g,cV P n c d u a g/\br c (·=σ) X z a g/\a.T c+1<=X.T c/\a.cs σ.1 σ.2=4/\ss c a s/\PD=⟨[nR 3 w,nR 8 j],[],g⟩) ?_ ?_
  ·rcases Wx with e|e
   ·rw[e]at W5;refine DC.cond W (λhc=> ?_) (λhc=>by rw[e]at hc;cases hc);have t6:X.A (.ce σ.1 σ.2)≠j:=by intro e8;have:=ah.lay.own (.ce σ.1 σ.2) ⟨i9,m⟩;rw[t5,e8,d9.1]at this;cases this
    refine dC [] W ?_;apply QZ (λg=>g[j]?=some (Ob.box [.ref (X.A (.ce σ.1 σ.2)) 0])) (d9.2) bN
    ·intro s0 Oo;refine PF W W (λg f=>⟨_,f,rfl⟩)<|PF W W (λg f=>⟨_,f,rfl⟩)<|iR 3 W ?_;apply Py
     ·skip
      refine fE W W W5 W W W<|TF.nil ⟨W,W⟩
     refine iR 2 W ?_;apply Py
     ·skip
      refine fE W W (gC W5 _) W W W<|TF.nil ⟨W,W⟩
     exact jJ.nil ⟨by kernel_rfl,by repeat' first|exact trivial|exact .inl ((by first|exact gu d9.2 t6|exact gu (gu d9.2 t6) t6))|exact .inr (by kernel_rfl)|refine⟨?_,?_⟩,rfl⟩
    have Yj:=ah.lay.cS (σ:=σ) 4 i9 l q ST;have t7:=br.cS ah.lay (s:=4) (σ:=σ) ⟨i9,m⟩ (Ob.box (dh v y Q6 (Y3.A (.fr σ.1)) (oE 4) (if zB 4 then c.get (σ.1,σ.2)else 0))) (λf=>by rw[e]at f;cases f) (λf=>by rw[e]at f;cases f) (by decide);rw[t5,LT]at Yj t7;have hT4:=sn (c:=c) (X:=Y3) (σ:=σ) (s:=4) (by decide);exact⟨_,⟨_,_,⟨Yj,(ah.pu.cS (by omega) L (λ_=>by rw[x];rfl) (λe=>by cases e) (λ_=>rfl) (λ_=> .inr W) (λe=>by cases e) (λ_=>ZD Y3 t4) (λπ o i e C m=>(YW π o i e C m).elim) (.inl ‹_›))⟩,LE.trans t7,by omega,cp _ _ _,t7.HE t4,rfl⟩,cR (by rw[List.set_set,<-V_];rfl) W⟩
   ·refine DC.cond W (λhc=>by rw[e]at hc;cases hc) (λhc=> ?_);refine dC [] W<|⟨_,⟨_,_,ah,LE,by omega,e,t4,rfl⟩,cR W W⟩
  ·rintro _ ⟨a,g,Q,R,YY,f9,Pi,rfl⟩;have U:=R.box Do;have gc:=R.box Eq;have t8:=(R.A (.ce σ.1 σ.2) QT).2;have W6:=(R.A .it trivial).2;have SE:=R.f2 _ Qs;obtain⟨lpZ,eqZ,pm,Yy,arx⟩:=Q.lay.cell SE l;rw[q]at pm;injection pm with pm
   subst pm;have Pm: ∀(k:aw) (E:Hp),br c (·=σ) X z k E->k.cs σ.1 σ.2=2->br c (λ_=>False) X H k E:= λk E hE e=>RP.trans (br.close hE (by rw[h,e];omega) (λs hs=>by rw[h,e];omega) (by rw[h];decide))
   have RS: ∀(k:aw) (E:Hp),cV P n c d u k E->k.cs σ.1 σ.2=4->k.fs σ.1=2->ss c k s->(∀p,y=some p->k.S c p ge)->cV P n c d u (k.cS σ 2) E/\br c (·=σ) k E (k.cS σ 2) E:=by
    intro k E qr e4 QO Us UT;obtain⟨ZA,ZC,UO,Pn,UV⟩:=qr.lay.cell QO l;rw[q]at UO;injection UO with UO
    subst UO;have B:=qr.lay.cS (σ:=σ) 2 QO l q UV;have h2:=br.cS qr.lay (s:=2) (σ:=σ) ⟨QO,m⟩ (Ob.box (dh v y ZC (k.A (.fr σ.1)) (oE 2) (if zB 2 then c.get (σ.1,σ.2)else 0))) (λ_=>rfl) (λf=>by rw[e4]at f;cases f) (by decide);rw[e4]at Pn;have h3:E.set (k.A (.ce σ.1 σ.2)) (Ob.box (dh v y ZC (k.A (.fr σ.1)) (oE 2) (if zB 2 then c.get (σ.1,σ.2)else 0)))=E:=BO Pn;rw[h3]at B h2;exact⟨⟨B,qr.pu.cS (by omega) L (λ_=>by rw[x];rfl) (λe=>by cases e) (λ_=>rfl) (λ_=> .inl W) (λ_ p v' t RT=>by rw[q]at t;injection t with t;rw[x]at RT;injection RT with RT;subst RT;exact .inl (UT p t)) (λ_=>ZD k Us) (λπ o i e C m=>(YW π o i e C m).elim) (.inl ‹_›)⟩,h2⟩
   rw[t8,(R.A (.fr σ.1) (by show 1<=X.fs σ.1;omega)).2,f9]at Yy;cases y with
   |none=>
    obtain⟨t9,UF⟩:=RS a g Q f9 SE Pi (λp t=>by cases t);have U0:=sn (c:=c) (X:=a) (σ:=σ) (s:=2) (by decide);refine dO [2,80] W<|Po (aA W W gc.2 W)<|dR [83] W<|Po (aA W W Yy W)<|dR [0,2,95] W<|Po (aA W W gc.2 W)<|dR [98] W<|Po (aA W W Yy W)<|dL [] W<|DC.ret ⟨_,W,by rw[x];rfl,_,⟨t9,Pm _ _ (R.trans UF) (cp _ _ _),by omega,by intro p t;cases t⟩,.inl (cp _ _ _)⟩
   |some p=>
    refine dO [2,80] W<|Po (aA W W gc.2 W)<|dR [83] W<|Po (aA W W Yy W)<|dR [84] W<|Po (aQ (au5 (auJ p)) W W W W)<|dL [1] W ?_;have TB:a.sY c g (.fn 67 [.ref j 0,.ref w 0]) (.cell false σ):=⟨⟨SE,m⟩,j,w,rfl,by rw[t8];exact gc,by rw[W6];exact U⟩;obtain⟨Pp,ZE⟩:=p5 Q.lay TB;obtain⟨U8,Vs,hTp⟩:=ry Q.pu (p:=(.cell false σ,.fn 67 [.ref j 0,.ref w 0])) (⟨SE,m,by rw[f9];rfl,⟨p,co.NM _ _ _ R1 q,q⟩,L⟩) (H:=g);obtain⟨t9,UF⟩:=RS _ _ ⟨Pp,U8⟩ f9 SE (ZE.HE Pi) (λp' t=>by injection t with t;subst t;exact Vs _ _ ⟨q,x⟩);have U0:=sn (c:=c) (X:=a.dv g (.cell false σ,.fn 67 [.ref j 0,.ref w 0])) (σ:=σ) (s:=2) (by decide);obtain⟨lpW,YO,rg,Pq,_⟩:=Pp.cell (π:=σ.1) SE l;rw[q]at rg;injection rg with rg
    subst rg;have ZV:(a.dv g (.cell false σ,.fn 67 [.ref j 0,.ref w 0])).cs σ.1 σ.2=4:=f9;rw[((ZE.A (.ce σ.1 σ.2) ⟨SE,m⟩).2).trans t8,ZV]at Pq;have ZX: ∀S,a.dr g (.fn 67 [.ref j 0,.ref w 0])=S->S[j]?=some (Ob.box [.ref (X.A (.ce σ.1 σ.2)) 0])/\(∃rt,S[X.A (.ce σ.1 σ.2)]?=some (.box (dh v (some p) YO rt (oE 4) (if zB 4 then c.get (σ.1,σ.2)else 0))))/\ ∃I,cW P n c d u X H 0 [] I S/\(I.cs σ.1 σ.2=2\/I.cs σ.1 σ.2=3):=by
     rintro S rfl;exact⟨(ZE.box gc).2,⟨_,Pq⟩,_,⟨t9,Pm _ _ ((R.trans (ZE.mono λ_=>False.elim)).trans UF) (cp _ _ _),by omega,by intro p t;cases t⟩,.inl (cp _ _ _)⟩
    have F:=Q.lay.inst;rw[W6]at F
    let Iv:M->Hp->Prop:= λs g=>g[w]?=some (Ob.box [.ref (X.A .it) 0])/\g[X.A .it]?=some (Ob.box [.ref (a.A .un) 0,.ref (a.A (.fr [])) 0,.d (.bool false),bM (a.A .af) a.vF a.F.length,s])
    have Wo: ∀S,a.dr g (.fn 67 [.ref j 0,.ref w 0])=S->S=a.dr g (.fn 67 [.ref j 0,.ref w 0]):= λ_ e=>e.symm
    by_cases hN:a.N= []
    ·have Y:bM (a.A .nx) a.vN a.N.length= .d (.sl []):=by simp[hN,bM]
     rw[Y]at F;refine dC [] W ?_;apply QZ (Iv (.d (.sl []))) (⟨U.2,F⟩) bN
     ·intro s0 Oo;refine PF W W (λg f=>⟨_,f.1,rfl⟩)<|PF W W (λg f=>⟨_,f.1,rfl⟩)<|iR 2 W<|PF W W (λg f=>⟨_,f.2,rfl⟩) ?_;apply Py
      ·skip
       refine ft W W<|TF.nil ⟨W,W⟩
      apply Py
      ·skip
       refine et (cs:=[_]) W W W W W W<|TF.nil ⟨W,W⟩
      apply Py
      ·skip
       refine pP true W W W (mI _ _) W W (by decide) (by decide)<|TF.nil ⟨rfl,rfl⟩
      refine iR 2 W ?_;apply Py
      ·skip
       refine fE W W (bB (bB F)) W W W<|TF.nil ⟨W,W⟩
      exact jJ.nil ⟨by kernel_rfl,by repeat' first|exact trivial|exact .inl ((by first|exact⟨bB U.2,bB F⟩|exact⟨bB (bB U.2),bB (bB F)⟩))|exact .inr (by kernel_rfl)|refine⟨?_,?_⟩,rfl⟩
     refine Pz [nR 8 j] _ W (Wo _ (by simp only[aw.dr,au2 hN,auN,avd,W6];rfl)) ?_;obtain⟨g1,⟨rt,g2⟩,g3⟩:=ZX _ W;refine dO [2,95] W<|Po (aA W W g1 W)<|dR [98] W<|Po (aA W W g2 W)<|dL [] W<|DC.ret ⟨_,W,by rw[x];rfl,g3⟩
    ·have Y:bM (a.A .nx) a.vN a.N.length= .bH (a.A .nx) a.vN a.N.length:=by unfold bM;rw[auU];intro e;exact hN (avA e)
     rw[Y]at F;have Wu:=wF Q.lay hN;have hlen:=z7 (c:=c) (X:=a) (by omega);have hnb:a.A .nx≠w:=by intro e;have:=Q.lay.own .nx hN;rw[e,U.1]at this;cases this
     have PS:a.A .nx≠X.A .it:=by rw[<-W6];exact Q.lay.ne (r:= .nx) (r':= .it) hN trivial (by simp)
     refine dC [] W ?_;apply QZ (Iv (.bH (a.A .nx) a.vN a.N.length)) (⟨U.2,F⟩) bN
     ·intro s0 Oo;refine PF W W (λg f=>⟨_,f.1,rfl⟩)<|PF W W (λg f=>⟨_,f.1,rfl⟩)<|iR 2 W<|PF W W (λg f=>⟨_,f.2,rfl⟩) ?_;apply Py
      ·skip
       refine ft W W<|TF.nil ⟨W,W⟩
      apply Py
      ·skip
       refine et (cs:=[_]) W W W W W W<|TF.nil ⟨W,W⟩
      apply Py
      ·skip
       refine pQ W W W (mI _ _) (bB Wu) W (by omega) (by omega)<|TF.nil ⟨rfl,rfl⟩
      refine iR 2 W ?_;apply Py
      ·skip
       refine fE W W (gu (bB F) PS) W W W<|TF.nil ⟨W,W⟩
      exact jJ.nil ⟨by kernel_rfl,by repeat' first|exact trivial|exact .inl ((by first|exact⟨bB U.2,bB F⟩|exact⟨gu (bB U.2) hnb,gu (bB F) PS⟩))|exact .inr (by kernel_rfl)|refine⟨?_,?_⟩,rfl⟩
     refine Pz [nR 8 j] _ W (Wo _ (by simp only[aw.dr,auU hN,W6];rfl)) ?_;obtain⟨g1,⟨rt,g2⟩,g3⟩:=ZX _ W;refine dO [2,95] W<|Po (aA W W g1 W)<|dR [98] W<|Po (aA W W g2 W)<|dL [] W<|DC.ret ⟨_,W,by rw[x];rfl,g3⟩
end
section
variable{P:Pg}{n:Nat}{c:aK}{d:Nd}{u:US}{X:aw}{H:Hp}
def BP(P:Pg)(n:Nat)(c:aK)(d:Nd)(u:US)(r:Nat):Prop:= ∀(X:aw) (H:Hp),cV P n c d u X H->X.T c<=1000000000000-> ∀(π:Path) (j:Nat) (q:aB),X.fs π=2->(c.fr π).au[j]?=some q->q.kd=2->c.ek π j=r->c.jg π q->X.dn π j=false->X.cs (j::π) 0=0->mq c X r-> ∀E:Path×Nat->Prop,(∀x∈q.lhs,∀τ,c.find π x=some τ->X.cs τ.1 τ.2=1->E τ)->
 DT prog 62 [.ref (X.A .it) 0,.ref (X.A (.fr π)) 0,.ref (X.A (.pl π j)) 0] H λm K=> ∃Y,cV P n c d u Y K/\br c E X H Y K/\Y.T c<=X.T c/\Y.dn π j=true/\ ∀x∈q.lhs,∀τ,c.find π x=some τ->X.cs τ.1 τ.2=1->Y.cs τ.1 τ.2=4
def z8(P:Pg)(n:Nat)(c:aK)(d:Nd)(u:US)(r:Nat):Prop:= ∀(X:aw) (H:Hp),cV P n c d u X H->X.T c<=1000000000000-> ∀(π:Path) (j:Nat) (q:aB),X.fs π=2->(c.fr π).au[j]?=some q->(q.kd=3\/q.kd=4\/q.kd=5)->c.ek π j=r->X.fs (j::π)≠1->mq c X r->
 DT prog 63 [.ref (X.A .it) 0,.ref (X.A (.fr π)) 0,.ref (X.A (.pl π j)) 0] H λm K=> ∃Y,m= .ref (Y.A (.fr (j::π))) 0/\cW P n c d u X H 0 [] Y K/\Y.fs (j::π)=2
theorem ye.pre{r e:Nat}{σ:Path×Nat}(h:ye c X r σ)(j:e<=r):mq c X e:=⟨λa d g=>by
 rcases h.c1 a d g with b|b
 ·subst b;have:=h.s1;simp only at this;omega
 ·omega,λf a i=>by have:=h.f1 f a i;omega,h.c4,by have:=h.tp;omega⟩
theorem ye.next{Y:aw}{K:Hp}{r:Nat}{σ:Path×Nat}(h:ye c X r σ)(k:br c (λ_=>False) X H Y K):ye c Y r σ:=by
 refine⟨λa b f=>h.c1 a b ((k.c1 a b (by simp)).2 f),h.s1,λe a g=>h.f1 e a ((k.f1 _).2 g),λa b=> ?_,h.tp⟩;rcases auM 3 (Y.cs a b)with d|d
 ·have:=(k.c4 a b (Y.cs a b) (by simp) d).2 W;have:=h.c4 a b;omega
 ·exact d
theorem Gj{ins outs:List Int}{u':US}(l:oF P n c d u)(hC:gy P (d_ P n) c d u ins outs u'){r:Nat}{π:Path}{j:Nat}{x:Nm}{s:Option (Path×Nat)}(W7:Src c r π j x s):(∀r'≤r,e_ P n c d u r')->(∀r'≤r,BP P n c d u r')->(∀r'≤r,z8 P n c d u r')->
  ∀(X:aw) (H:Hp),cV P n c d u X H-> ∀U,X.T c+U<=1000000000000-> ∀(q:aB) (σ:Path×Nat) (v:Va) (lp:Option Nat) (z:Int),ye c X r σ->X.fs π=2->(c.fr π).au[j]?=some q->X.fs σ.1=2->X.cs σ.1 σ.2=1->(σ.1= []->d.ins.length<=σ.2)->(c.fr σ.1).vars[σ.2]?=some v->v.name=x->(c.fr σ.1).cO[σ.2]?=some lp->c.val σ.1 σ.2=some z->Kv c σ lp z x s->(∀τ q,s=some τ->(c.fr τ.1).au[τ.2]?=some q->q.kd=1->(c.ew τ.1 τ.2).length<=U)->
  DT prog 66 [.ref (X.A .it) 0,.ref (X.A (.fr π)) 0,.ref (X.A (.pl π j)) 0,.ref (X.A (.ce σ.1 σ.2)) 0] H λm K=>m= .d (.int .i32 z)/\ ∃Y,cV P n c d u Y K/\br c (·=σ) X H Y K/\Y.T c<=X.T c+U/\(Y.cs σ.1 σ.2=1\/Y.cs σ.1 σ.2=4)/\ss c Y s:=by
 have RC: ∀(o:Int),(o=3\/o=4\/o=5)->(o==1)=false/\(o==2)=false:=by rintro o (rfl|rfl|rfl)<;>exact⟨W,W⟩
 induction W7 with
 | @leaf π j x k h p Q=>
  intro hV ah ac X H w U hT q σ v lp z I y g J X6 du C VE Qc hz hs hB;rw[h]at g;injection g with g
  subst g;have i:=w.lay;have V:=Pu.ok l w.pu y;obtain⟨A,hp,E⟩:=i.fW y h;obtain⟨Ru,q',L,V8,Wn⟩:=hs;simp only at Ru L V8 Wn;rw[h]at L;injection L with L
  subst L;have i7:=I.pre Q;refine DT.ob func66 W ntmps66 W<|dO [2,2,17] W<|Po (kS (by kernel_rfl) W W W W W)<|dL [0] W ?_;rcases p with p|p
  ·obtain⟨hl,d8⟩:=V8 p;have SM:c.jg π k:=by
    intro _;rw[hl];exact⟨σ,Ru,by rw[hz];rfl⟩
   have XM:=(hC.eq π j k A V h hp).1;have Ri:gP P.aJ c π (c.ek π j) k.ex A (c.ev π j) (c.ew π j):=by
    cases XM with
    |df _ x' _ he=>exact he SM
    |call Qv=>omega
    |sw Qv=>omega
    |aP Qv=>omega
    |reset Qv=>omega
   have t6:=l.pq π j k A V h hp;have t7:=jD k;have Qt:=l.Ks;have qr:=hB (π,j) k W h p;simp only at qr;obtain⟨m2,T,⟨rfl,Y,b⟩,QA⟩:=dM l (hV _ Q) π k.ex (l.Dc π j k V h).1 A (c.ev π j) (c.ew π j) Ri X H w (by omega) i7 y (by omega) (λo Z h2=>l.oq π j k A V h hp o Z (by omega)) (λi6 hw=> .inl ⟨π,j,k,V,h,SM,hw⟩);rw[Xp.aC]at QA;unfold dK at E;rw[p]at E;refine dO [2,25] W<|Po (aA W W E W)<|dL [3,2,1] W ?_;apply Ps bN
   ·intro s0 Oo;refine fR 6 W<|eQ W W E W W<|fR 3 W<|ay W W E W<|bg QA W W<|fR 1 W<|TF.nil ⟨by kernel_rfl,rfl⟩
   have t8:=b.2.2.1;refine DC.ret ⟨_,W,by rw[d8];rfl,Y,b.1,b.2.1.mono λ_=>False.elim,by omega,.inl ((b.2.1.c1 σ.1 σ.2 (by simp)).1 X6),λτ q e g=> ?_⟩;injection e with e
   subst e;simp only at g⊢;rw[h]at g;injection g with g
   subst g;exact⟨b.2.1.f2 π y,λ_ i6 hw=> .inl (b.2.2.2 i6 hw),λh2=>by omega⟩
  ·obtain⟨i8,SM⟩:=Wn p;have TO:X.cs (j::π) 0=0/\X.dn π j=false:=by
    have hg:=l.gh π j k h p;rcases w.pu.g0 π j k h p with e|e|⟨e',e⟩
    ·exact e
    ·rcases I.c1 _ _ e with e'|e'
     ·subst e';obtain⟨_,q',L,Qv⟩:=hC.i_ j π (w.pu.fp j π (by simp only at J;omega)).2;rw[h]at L;injection L with L;subst L;omega
     ·omega
    ·have:=w.pu.dl π j k y e e' h x i8 σ Ru;omega
   obtain⟨m2,T,⟨Y,RX,QI,VU,rg,Wy⟩,Yh⟩:=ah _ Q X H w (by omega) π j k y h p W SM TO.2 TO.1 i7 (·=σ) (λx' QM τ Sa e=>by
    obtain⟨a,hi⟩:=ave.1 QM;obtain⟨Tc,n',Z,h2,h3,h4,_⟩:=hC.lhs π j k V h p SM a x' hi;rw[Sa]at Z;injection Z with Z
    subst Z;rcases I.c1 _ _ e with e'|e'
    ·exact e'
    ·omega)
   have TY:=Wy x i8 σ Ru X6;obtain⟨i9,mt,N,G,_⟩:=RX.lay.cell (QI.f2 _ J) C;have Wj:σ.2<(c.fr σ.1).vars.length:=by
    rcases auM σ.2 (c.fr σ.1).vars.length with i|i
    ·exact i
    ·rw[auP i]at C;cases C
   rw[TY,(QI.A (.ce σ.1 σ.2) ⟨J,Wj⟩).2]at G;unfold dK at E;rw[p]at E;refine dO [2,25] W<|Po (aA W W E W)<|dR [3,2,0,2,1,2,45] W<|Po (aq Yh W W)<|dR [2,49] W<|Po (aA W W G W)<|dL [] W ?_;have V_:c.get (σ.1,σ.2)=z:=by unfold aK.get;rw[hz];rfl
   refine DC.ret ⟨_,W,by rw[<-V_];rfl,Y,RX,QI,by omega,.inr TY,λτ q e g=> ?_⟩;injection e with e
   subst e;simp only at g⊢;rw[h]at g;injection g with g
   subst g;exact⟨QI.f2 π y,λZ=>by omega,λ_=>rg⟩
 | @bA π j x k j' q' s h p Q Tm hd rt h2 ih=>
  intro hV ah ac X H w U hT q σ v lp z I y g J X6 du C VE Qc hz hs hB;rw[h]at g;injection g with g
  subst g;have i:=w.lay;have V:=Pu.ok l w.pu y;obtain⟨p0,W8,E⟩:=i.fW y h;have d9:X.fs (j::π)≠1:= λe=>by have:=I.f1 j π e;omega
  obtain⟨m2,T,⟨Y,rfl,b,O⟩,QA⟩:=ac _ Q X H w (by omega) π j k y h p W d9 (I.pre Q);have F:=b.2.1;have Wj:σ.2<(c.fr σ.1).vars.length:=by
   rcases auM σ.2 (c.fr σ.1).vars.length with i|i
   ·exact i
   ·rw[auP i]at C;cases C
  have Tl:=(F.A .it trivial).2;have co:=(F.A (.ce σ.1 σ.2) ⟨J,Wj⟩).2;have RO:=b.1.lay.frame O;have f9:=Pu.ok l b.1.pu O;have t5:=l.Mf (j::π);have VU:=b.2.2.1;have YZ:=F.f2 _ J;have gc:=(F.c1 σ.1 σ.2 (by simp)).1 X6;obtain⟨i9,mt,N,G,_⟩:=b.1.lay.cell YZ C;rw[co]at G;rw[Qc]at N;injection N with N
  subst N;obtain⟨m3,K3,⟨rfl,Y3,rx,Yi,XK,QN,t3⟩,V9⟩:=ih hV ah ac Y T b.1 U (by omega) q' σ v lp z (I.next F) O Tm YZ gc du C VE Qc hz hs hB;rw[Tl,co]at V9;have QE:j'<(c.fr (j::π)).au.length:=by
   rcases auM j' (c.fr (j::π)).au.length with i|i
   ·exact i
   ·rw[auP i]at Tm;cases Tm
  refine DT.ob func66 W ntmps66 W<|dO [2,2,17] W<|Po (kS (by kernel_rfl) W W W W W)<|dL [0] W ?_;obtain⟨Tw,P7⟩:=RC _ p;refine dO [2,25] W<|Po (aA W W E W)<|dR [3,2,27] W<|Po (dY W W W (r:= .bool false) (by show some (D.bool (_==_))=_;rw[<-Tw]))<|dR [0,2,41] W<|Po (dY W W W (r:= .bool false) (by show some (D.bool (_==_))=_;rw[<-P7]))<|dR [0,2,53] W<|Po (aq QA W W)<|dR [2,57] W<|Po (aA W W RO W)<|dR [58] W<|Po (pY W W)<|dL [] W<|Pz [nN 55 0,nN 54 ((c.fr (j::π)).au.length),nM 53 (bM (Y.A (.er (j::π))) (Y.ve (j::π)) (c.fr (j::π)).au.length),nR 9 (Y.A (.fr (j::π))),nR 0 (X.A .it),nR 3 (X.A (.ce σ.1 σ.2))] T W W<|dC [3] W<|DC.lp (λo s=> ∃(a:Nat) (bx:List (Nat×List M)),s=⟨[nN 55 a,nN 54 ((c.fr (j::π)).au.length),nM 53 (bM (Y.A (.er (j::π))) (Y.ve (j::π)) (c.fr (j::π)).au.length),nR 9 (Y.A (.fr (j::π))),nR 0 (X.A .it),nR 3 (X.A (.ce σ.1 σ.2))],bx,T⟩/\a<=j'/\o=(c.fr (j::π)).au.length-a) (c.fr (j::π)).au.length _
   ⟨0,_,rfl,by omega,rfl⟩ W ?_
  rintro o s1 ⟨a,bx,rfl,hi,rfl⟩;have R:a<(c.fr (j::π)).au.length:=by omega
  refine dO [2,60] W<|Po (aQ (au5 (by omega)) W W W W)<|dL [1] W ?_;have W9:=b.1.lay.Kj O (by intro e;rw[e]at R;simp at R);have Pv:((List.range (c.fr (j::π)).au.length).map λo=>M.ref (Y.A (.pl (j::π) o)) 0)[((a:Nat):Int).toNat*1]?=some (.ref (Y.A (.pl (j::π) a)) 0):=by simp[R]
  have B:=auO R;generalize (c.fr (j::π)).au[a]=t at B;obtain⟨pi,_,d6⟩:=b.1.lay.fW O B;have S:=l.Dc _ _ _ f9 B;have SF:=wC t S.2.2.2.1 (λd7 ha=>(S.2.2.2.2.1 d7 ha).1) S.2.2.2.2.2.2;rw[t.aC,t.ex.aC]at SF;have Rq:=pb (cd t) v.name (avD (nK t) S.2.2.2.2.2.2);refine dO [3,2,61] W<|Po (mr W W W W9 (auJ a) (by omega))<|dR [62] W<|Po (ny W W W9 Pv)<|dL [] W ?_;rcases auM a j' with Xz|Xz
  ·have hb:mV (cd t) v.name=false:=by
    have:=rt a t Xz B;cases e:mV (cd t) v.name with
    |false=>rfl
    |true=>rw[py,VE]at e;exact absurd e this
   rw[hb]at Rq;refine dC [] W ?_;apply Ps bN
   ·intro s0 Oo;refine fR 3 W<|eQ W W d6 W W<|aW SF W W<|fR 4 W<|ay W W G W<|aW Rq W W<|TF.nil ⟨by kernel_rfl,rfl⟩
   refine dO [0,2,79] W<|Po (az W W W (by omega))<|dL [] W<|bK (k':=(c.fr (j::π)).au.length-(a+1)) (by omega) ⟨a+1,_,rfl,by omega,rfl⟩ W W
  ·obtain rfl:a=j':=by omega
   rw[Tm]at B;injection B with B
   subst B;have hb:mV (cd q') v.name=true:=by rw[py,VE];exact hd
   rw[hb]at Rq;refine dC [] W ?_;apply Ps bN
   ·intro s0 Oo;refine fR 3 W<|eQ W W d6 W W<|aW SF W W<|fR 4 W<|ay W W G W<|aW Rq W W<|TF.nil ⟨by kernel_rfl,rfl⟩
   refine dO [1,2,78] W<|Po (aq V9 W W)<|dL [] W<|DC.ret ⟨_,W,W,Y3,rx,(F.mono λ_=>False.elim).trans Yi,by omega,QN,t3⟩
 | @last π j x k h p Q PU=>
  intro hV ah ac X H w U hT q σ v lp z I y g J X6 du C VE Qc hz hs hB;rw[h]at g;injection g with g
  subst g;have i:=w.lay;obtain⟨p0,W8,E⟩:=i.fW y h;have d9:X.fs (j::π)≠1:= λe=>by have:=I.f1 j π e;omega
  obtain⟨m2,T,⟨Y,rfl,b,O⟩,QA⟩:=ac _ Q X H w (by omega) π j k y h p W d9 (I.pre Q);have F:=b.2.1;have Wj:σ.2<(c.fr σ.1).vars.length:=by
   rcases auM σ.2 (c.fr σ.1).vars.length with i|i
   ·exact i
   ·rw[auP i]at C;cases C
  have Tl:=(F.A .it trivial).2;have co:=(F.A (.ce σ.1 σ.2) ⟨J,Wj⟩).2;have RO:=b.1.lay.frame O;have f9:=Pu.ok l b.1.pu O;have t5:=l.Mf (j::π);have VU:=b.2.2.1;have YZ:=F.f2 _ J;have gc:=(F.c1 σ.1 σ.2 (by simp)).1 X6;obtain⟨i9,mt,N,G,_⟩:=b.1.lay.cell YZ C;rw[co]at G;rw[Qc]at N;injection N with N
  subst N;obtain⟨A,rfl,t4,d8⟩:=hs;have ge:A<bW d:=by rw[<-l.Bh];exact t4
  have UP:=b.1.lay.inst;rw[Tl]at UP;have pm:=b.1.lay.mem;have U1:=l.rd Y b.1.pu σ.1 A YZ (l.lo σ.1 σ.2 A (Pu.ok l w.pu J) Qc) ge;have UY:=jh (n:=bW d) (f:=ji Y.x.m) ge;rw[show ji Y.x.m A= .d (.int .i32 (c.rd A)) by rw[<-U1]]at UY;refine DT.ob func66 W ntmps66 W<|dO [2,2,17] W<|Po (kS (by kernel_rfl) W W W W W)<|dL [0] W ?_;obtain⟨Tw,P7⟩:=RC _ p;refine dO [2,25] W<|Po (aA W W E W)<|dR [3,2,27] W<|Po (dY W W W (r:= .bool false) (by show some (D.bool (_==_))=_;rw[<-Tw]))<|dR [0,2,41] W<|Po (dY W W W (r:= .bool false) (by show some (D.bool (_==_))=_;rw[<-P7]))<|dR [0,2,53] W<|Po (aq QA W W)<|dR [2,57] W<|Po (aA W W RO W)<|dR [58] W<|Po (pY W W)<|dL [] W<|Pz [nN 55 0,nN 54 ((c.fr (j::π)).au.length),nM 53 (bM (Y.A (.er (j::π))) (Y.ve (j::π)) (c.fr (j::π)).au.length),nR 9 (Y.A (.fr (j::π))),nR 0 (X.A .it),nR 3 (X.A (.ce σ.1 σ.2))] T W W<|dC [3] W<|DC.lp (λo s=> ∃(a:Nat) (bx:List (Nat×List M)),s=⟨[nN 55 a,nN 54 ((c.fr (j::π)).au.length),nM 53 (bM (Y.A (.er (j::π))) (Y.ve (j::π)) (c.fr (j::π)).au.length),nR 9 (Y.A (.fr (j::π))),nR 0 (X.A .it),nR 3 (X.A (.ce σ.1 σ.2))],bx,T⟩/\a<=(c.fr (j::π)).au.length/\o=(c.fr (j::π)).au.length-a) (c.fr (j::π)).au.length _
   ⟨0,_,rfl,by omega,rfl⟩ W ?_
  rintro o s1 ⟨a,bx,rfl,hi,rfl⟩;refine dC [2] W<|DC.cond W (λhc=> ?_) (λhc=> ?_)
  ·have R:a<(c.fr (j::π)).au.length:=by have:=auV hc;omega
   have W9:=b.1.lay.Kj O (by intro e;rw[e]at R;simp at R);have Pv:((List.range (c.fr (j::π)).au.length).map λo=>M.ref (Y.A (.pl (j::π) o)) 0)[((a:Nat):Int).toNat*1]?=some (.ref (Y.A (.pl (j::π) a)) 0):=by simp[R]
   have B:=auO R;generalize (c.fr (j::π)).au[a]=t at B;obtain⟨pi,_,d6⟩:=b.1.lay.fW O B;have S:=l.Dc _ _ _ f9 B;have SF:=wC t S.2.2.2.1 (λd7 ha=>(S.2.2.2.2.1 d7 ha).1) S.2.2.2.2.2.2;rw[t.aC,t.ex.aC]at SF;have Rq:=pb (cd t) v.name (avD (nK t) S.2.2.2.2.2.2);refine dO [3,2,61] W<|Po (mr W W W W9 (auJ a) (by omega))<|dR [62] W<|Po (ny W W W9 Pv)<|dL [] W ?_;have hb:mV (cd t) v.name=false:=by
    have:=PU t (auQ B);cases e:mV (cd t) v.name with
    |false=>rfl
    |true=>rw[py,VE]at e;exact absurd e this
   rw[hb]at Rq;refine dC [] W ?_;apply Ps bN
   ·intro s0 Oo;refine fR 3 W<|eQ W W d6 W W<|aW SF W W<|fR 4 W<|ay W W G W<|aW Rq W W<|TF.nil ⟨by kernel_rfl,rfl⟩
   refine dO [0,2,79] W<|Po (az W W W (by omega))<|dL [] W<|bK (k':=(c.fr (j::π)).au.length-(a+1)) (by omega) ⟨a+1,_,rfl,by omega,rfl⟩ W W
  ·refine DC.exit ?_;refine dO [2,83] W<|Po (aA W W G W)<|dR [84] W<|Po (aQ (avc (by show ¬((A:Int)<0);omega)) W W W W)<|dL [0] W ?_;apply Ps bN
   ·intro s0 Oo;refine fR 3 W<|ay W W UP W<|fR 2 W<|ay W W b.1.lay.unit W<|fR 3 W<|ay W W G W<|c_ W W W pm (auJ A) (by exact awd.2 ge)<|j_ W W pm UY<|fR 1 W<|TF.nil ⟨by kernel_rfl,rfl⟩
   exact DC.ret ⟨_,W,by rw[d8];rfl,Y,b.1,F.mono λ_=>False.elim,by omega,.inl gc,λτ q e=>by cases e⟩
end
section
variable{P:Pg}{n:Nat}{c:aK}{d:Nd}{u:US}{X:aw}{H:Hp}
theorem Kw(f:oF P n c d u)(h:cF P n c d X H)(g:M)(x:Nm):DT prog 128 [.ref (X.A .it) 0,g,.d (.str x)] H λm K=>m= .d (.int .i32 (io P.aJ x))/\K=H:=by
 refine DT.ob func128 W ntmps128 W<|dC [2,2,3,2] W<|DC.cond W (λa=> ?_) (λa=> ?_)
 ·have e:=auV a;refine dC [2] W<|DC.ret ⟨_,W,by unfold io;rw[au2 e];rfl,rfl⟩
 have b:=au9 a;refine dC [2] W<|DC.cond W (λa=> ?_) (λa=> ?_)
 ·have e:=auV a;refine dC [2] W<|DC.ret ⟨_,W,by unfold io;rw[auU b,au2 e];rfl,rfl⟩
 have i:=au9 a;refine dC [] W ?_;have j:CT prog 86 [.d (.sl (P.aJ.map En.cells)),.d (.agg (zS x).cells)] H λk l=>k= .dq [.d (.int .i32 (pT P.aJ (zS x))),.d (.bool (isConst P.aJ (zS x)))]/\l=H:=(Sy (xo f.en (zS x))).mono (by rintro _ _ ⟨⟨_,rfl,rfl⟩,rfl⟩;exact⟨W,W⟩)
 apply Ps bN
 ·intro o p;refine fR 3 W<|ay W W h.inst W<|fR 3 W<|ay W W h.unit W<|fR 1 W<|aW (IU x) W W<|la j W W<|fR 5 W<|TF.nil ⟨by kernel_rfl,rfl⟩
 refine dC [2] W<|DC.ret ⟨_,W,?_,W⟩;unfold io;rw[auU b,auU i];rfl
theorem BQ{l:List Tr}{i:Nat}(h:i<l.length):(fo l)[((i:Nat):Int).toNat]?=some (bU l[i].e.kd l[i].e.op l[i].e.num l[i].e.nm l[i].e.names (l[i].e.kids.map Xp.cells) l[i].e.ps++ [.str l[i].to,.bool l[i].fV,.int .i64 l[i].ps.1,.int .i64 l[i].ps.2]):=by simp[fo,h,Tr.cells,Xp.aC]
theorem tU{l:List bh}{i:Nat}{a:bh}(h:l[i]?=some a):(l.map bh.cells)[((i:Nat):Int).toNat]?=some [.str a.name,.sl (aI a.cy.vars),.sl (a.cy.au.map aB.cells),.sl (fo a.fG),.sl (fo a.fH),.int .i64 a.ps.1,.int .i64 a.ps.2]:=by simp[h,bh.aC]
theorem Gk{ins outs:List Int}{u':US}(i:oF P n c d u)(hC:gy P (d_ P n) c d u ins outs u'){π:Path}{j:Nat}{q:aB}{p:Nat}(hV:e_ P n c d u (c.ek π j))(E:cV P n c d u X H)(hT:X.T c+(c.ew π j).length<=1000000000000)(hP:mq c X (c.ek π j))(hf:X.fs π=2)(k:(c.fr π).au[j]?=some q)(w:q.kd=3\/q.kd=4\/q.kd=5)(B:(c.fr π).pos[j]?=some p):
  DT prog 93 [.ref (X.A .it) 0,.ref (X.A (.fr π)) 0,.ref (X.A (.pl π j)) 0] H λm K=>m= .dq [dN (c.bA π j),dN (gQ q p),.d (.bool (c.iO π j))]/\ ∃Y,cW P n c d u X H (c.ew π j).length (c.ew π j) Y K:=by
 have g:=E.lay;have F:=Pu.ok i E.pu hf;obtain⟨p',J,b⟩:=g.fW hf k;rw[B]at J;injection J with J
 subst J;have RN:j<(c.fr π).au.length:=by
  rcases auM j (c.fr π).au.length with g|g
  ·exact g
  ·rw[auP g]at k;cases k
 have rg:=i.pq π j q p F k B;have rt:=jD q;have Qt:=i.Ks;have R:=i.Dc π j q F k;have co:=ki q.ex R.1 (by omega);rw[Xp.aC]at co;have Rc:((p:Nat):Int)+((xP q.ex:Nat):Int)=((p+xP q.ex:Nat):Int):=by omega
 have L: ∀ah∈c.ew π j,nJ c ah.1 ah.2:= λah L=> .inl ⟨π,j,q,F,k,(by intro e;omega),L⟩
 have d9: ∀l,p<=l->l<p+xP q.ex->yn c π l:= λl o x=>i.oq π j q p F k B l o (by omega)
 have XM:=(hC.eq π j q p F k B).1;refine DT.ob func93 W ntmps93 W ?_;cases XM with
 |df Qv=>omega
 |call Qv=>omega
 |reset w he d7 ha N hn=>
  obtain⟨m2,S,⟨rfl,Y,s⟩,y⟩:=dM i hV π q.ex R.1 p (c.ev π j) (c.ew π j) he X H E hT hP hf (by omega) d9 L;rw[Xp.aC]at y;have Q:gQ q p=p+xP q.ex:=by unfold gQ;rw[auU (by omega)]
  have z:decide (c.ev π j≠0)=(c.ev π j !=0):=by rw[aw4];simp
  unfold dK at b;rw[w]at b;refine dC [2] W ?_;apply Ps bN
  ·intro t v;refine fR 3 W<|ay W W b W<|fR 4 W<|eQ W W b W W<|aW co W W<|pL W W W (by omega) ?_;rw[Rc];refine fR 1 W<|TF.nil ⟨by kernel_rfl,rfl⟩
  refine dO [2,36] W<|Po (aA W W b W)<|dL [3,2,1] W ?_;apply Ps bN
  ·intro t v;refine fR 7 W<|eQ W W b W W<|fR 3 W<|ay W W b W<|bg y W W<|fR 4 W<|TF.nil ⟨by kernel_rfl,rfl⟩
  exact DC.ret ⟨_,W,by rw[N,hn,Q,z];rfl,Y,s⟩
 |sw w he d7 ha hv mt hn=>
  obtain⟨m2,S,⟨rfl,Y,s⟩,y⟩:=dM i hV π q.ex R.1 p (c.ev π j) (c.ew π j) he X H E hT hP hf (by omega) d9 L;rw[Xp.aC]at y;have Q:gQ q p=p+xP q.ex:=by unfold gQ;rw[auU (by omega)]
  have RB:=s.2.1.f2 π hf;obtain⟨p2,_,C⟩:=s.1.lay.fW RB k;rw[(s.2.1.A (.pl π j) ⟨hf,RN⟩).2]at C;have R3:c.bA π j<q.aj.length:=by
   rcases auM (c.bA π j) q.aj.length with g|g
   ·exact g
   ·have:=ha.ha;rw[auP g]at this;cases this
  have rx:=R.2.2.2.1;unfold dK at b;rw[w]at b;refine dC [2] W ?_;apply Ps bN
  ·intro t v;refine fR 3 W<|ay W W b W<|fR 4 W<|eQ W W b W W<|aW co W W<|pL W W W (by omega) ?_;rw[Rc];refine fR 1 W<|TF.nil ⟨by kernel_rfl,rfl⟩
  refine dO [2,36] W<|Po (aA W W b W)<|dL [3,2,0,2,1] W ?_;apply Ps bN
  ·intro t v;refine fR 6 W<|eQ W W b W W<|fR 3 W<|ay W W b W<|bg y W W<|fR 1 W<|TF.nil ⟨by kernel_rfl,rfl⟩
  refine dO [2,71] W<|Po (aA W W C W)<|dR [72] W<|Po (bp W W W) ?_;rw[au8];refine dL [] W<|Pz [nN 69 0,nN 68 q.aj.length,nD 67 (.sl (q.aj.map bh.cells)),nD 10 (.int .i32 (c.ev π j)),nN 9 (p+xP q.ex),nR 0 (X.A .it),nR 2 (X.A (.pl π j))] S W W<|dC [3] W<|DC.lp (λl A=> ∃(a:Nat) (T:List (Nat×List M)),A=⟨[nN 69 a,nN 68 q.aj.length,nD 67 (.sl (q.aj.map bh.cells)),nD 10 (.int .i32 (c.ev π j)),nN 9 (p+xP q.ex),nR 0 (X.A .it),nR 2 (X.A (.pl π j))],T,S⟩/\a<=c.bA π j/\l=q.aj.length-a) q.aj.length _
   ⟨0,_,rfl,by omega,rfl⟩ W ?_
  rintro l s1 ⟨a,T,rfl,hi,rfl⟩;refine dO [2,74] W<|Po (aQ (au5 (by omega)) W W W W)<|dL [1] W ?_;have U:a<q.aj.length:=by omega
  have G:=auO U;generalize q.aj[a]=ai at G;have V:=tU G;have Z:=Kw i s.1.lay (.d (.sl (q.aj.map bh.cells))) ai.name;rw[(s.2.1.A .it trivial).2]at Z;obtain⟨_,_,⟨rfl,rfl⟩,Z⟩:=Z;refine dC [3] W ?_;rcases auM a (c.bA π j)with Xz|Xz
  ·have z:=avs.2 (mt a ai Xz G);refine dO [2,76] W<|Po (aG W W W (auJ a) V W)<|dL [] W ?_;apply Ps bN
   ·intro t v;refine fR 5 W<|ay W W C W<|fR 2 W<|la Z W W<|fR 1 W<|kq W W W (r:= .bool false) (by show some (D.bool (_==_))=_;rw[z])<|TF.nil ⟨by kernel_rfl,rfl⟩
   refine dO [0,2,91] W<|Po (az W W W (by omega))<|dL [] W<|bK (k':=q.aj.length-(a+1)) (by omega) ⟨a+1,_,rfl,by omega,rfl⟩ W W
  ·obtain rfl:a=c.bA π j:=by omega
   rw[ha.ha]at G;injection G with G
   subst G;have z:(io P.aJ d7.name==c.ev π j)=true:=by rw[hv];simp
   refine dO [2,76] W<|Po (aG W W W (auJ _) V W)<|dL [] W ?_;apply Ps bN
   ·intro t v;refine fR 5 W<|ay W W C W<|fR 2 W<|la Z W W<|fR 1 W<|kq W W W (r:= .bool true) (by show some (D.bool (_==_))=_;rw[z])<|TF.nil ⟨by kernel_rfl,rfl⟩
   refine dC [1,2] W<|DC.ret ⟨_,W,by rw[hn,Q];rfl,Y,s⟩
 |aP w J A h hs N d8 hu ht d7 ha t' U6 WY f9=>
  have V8:A<q.aj.length:=by
   rcases auM A q.aj.length with g|g
   ·exact g
   ·rw[auP g]at N;cases N
  have Q:gQ q p=p+1:=by unfold gQ;rw[au2 w]
  have gc:((p:Nat):Int)+1=((p+1:Nat):Int):=by omega
  have ac:p<bW d:=by rw[<-i.Bh];exact J
  have du:=g.inst;have RY:=g.unit;have SP:=g.mem;have ge:=g.cu;have UY:=jh (n:=bW d) (f:=ji X.x.m) ac;rw[show ji X.x.m p= .d (.int .i32 (A:Int)) by rw[<-hs,<-i.rd X E.pu π p hf (i.oq π j q p F k B p (auK _) (by rw[w];unfold h_;rw[au2 (.inr W)];omega)) ac]]at UY;have RU:=jh (n:=bW d) (f:=kA X.x.p) ac;rw[show kA X.x.p p= .d (.bool (c.rp p)) by rw[<-i.rp X E.pu π j q p hf k w B]]at RU;have i6:=auQ N;have t3:=(R.2.2.2.2.1 h i6).2.1;unfold dK at b;rw[w]at b;refine dC [2] W ?_;apply Ps bN
  ·intro t v;refine fR 3 W<|ay W W b W<|fR 4 W<|eQ W W b W W<|aW co W W<|pL W W W (by omega) ?_;rw[Rc];refine fR 1 W<|TF.nil ⟨by kernel_rfl,rfl⟩
  refine dO [2,36] W<|Po (aA W W b W)<|dL [3,2,0,2,0] W ?_;apply Ps bN
  ·intro t v;refine fR 3 W<|ay W W du W<|fR 2 W<|ay W W RY W<|fR 3 W<|ay W W b W<|c_ W W W SP (auJ p) (by exact awd.2 ac)<|j_ W W SP UY<|rc W W ?_;rw[yC ⟨by omega,by omega⟩];refine fR 1 W<|TF.nil ⟨by kernel_rfl,rfl⟩
  refine dC [] W ?_;apply Ps bN
  ·intro t v;refine fR 3 W<|ay W W du W<|fR 2 W<|ay W W RY W<|fR 3 W<|ay W W b W<|c_ W W W ge (auJ p) (by exact awd.2 ac)<|j_ W W ge RU<|fR 1 W<|TF.nil ⟨by kernel_rfl,rfl⟩
  refine dO [2,127] W<|Po (aA W W b W)<|dR [129] W<|Po (aG W W W (auJ A) (tU N) W)<|dR [132] W<|Po (bp W W W) ?_;rw[show(fo h.fG).length=h.fG.length by simp[fo]];refine dL [] W<|Pz [nN 129 0,nN 128 h.fG.length,nD 127 (.sl (fo h.fG)),nN 13 A,nD 14 (.bool (c.rp p)),nR 0 (X.A .it),nR 1 (X.A (.fr π)),nR 2 (X.A (.pl π j))] H W W<|dC [3] W<|DC.lp (λl s'=> ∃(a:Nat) (Y:aw) (K:Hp) (T:List (Nat×List M)),s'=⟨[nN 129 a,nN 128 h.fG.length,nD 127 (.sl (fo h.fG)),nN 13 A,nD 14 (.bool (c.rp p)),nR 0 (X.A .it),nR 1 (X.A (.fr π)),nR 2 (X.A (.pl π j))],T,K⟩/\a<=h.fG.length/\l=h.fG.length-a/\pU P.aJ c π (c.ek π j) (h.fG.drop a) d8/\cW P n c d u X H 0 [] Y K) h.fG.length _
   ⟨0,X,H,_,rfl,by omega,rfl,hu,cW.same g E.pu⟩ W ?_
  rintro l s1 ⟨a,Y0,K0,T,rfl,hi,rfl,Y8,O⟩;have XN:=O.2.1;have UG:=XN.f2 π hf;obtain⟨p2,Wz,i7⟩:=O.1.lay.fW UG k;rw[B]at Wz;injection Wz with Wz
  subst Wz;rw[(XN.A (.pl π j) ⟨hf,RN⟩).2]at i7;refine dC [2] W<|DC.cond W (λhc=> ?_) (λhc=> ?_);rotate_left
  ·refine DC.exit ?_;have e:a=h.fG.length:=by have:=au9 hc;omega
   rw[e,awn]at Y8;cases Y8;obtain⟨ZF,XF⟩:=ht;refine dC [] W ?_;apply Ps bN
   ·intro t v;refine fR 4 W<|ay W W i7 W<|pL W W W (by omega) ?_;rw[gc];refine fR 4 W<|TF.nil ⟨by kernel_rfl,rfl⟩
   exact DC.ret ⟨_,W,by rw[ZF,XF,Q];rfl,Y0,by rw[f9];exact O⟩
  have U:a<h.fG.length:=by have:=auV hc;omega
  refine dC [] W ?_;have V:=BQ U;have i8:=avb U;rw[avQ U]at Y8;generalize h.fG[a]=ti at Y8 V i8;obtain⟨pm,t4⟩:=i.jv π j q F k h i6 ti (.inl i8);have t5:=O.2.2.1;obtain⟨I,Ri,qr⟩: ∃I,gP P.aJ c π (c.ek π j) ti.e 0 I []/\((I≠0/\d8=some ti)\/(I=0/\pU P.aJ c π (c.ek π j) (h.fG.drop (a+1)) d8)):=by
   cases Y8 with
   |ym o x=>exact⟨_,o,.inl ⟨x,W⟩⟩
   |no o x=>exact⟨0,o,.inr ⟨W,x⟩⟩
  obtain⟨m2,S,⟨rfl,Y,s⟩,y⟩:=dM i hV π ti.e pm 0 I [] Ri Y0 K0 O.1 (by simp only[avt];omega) (hP.next XN) UG (by omega) (λl o x=>by omega) (λah L=>by cases L);rw[Xp.aC,(XN.A .it trivial).2,(XN.A (.fr π) (by show 1<=X.fs π;omega)).2]at y;have VV:=O.trans s;have RB:=VV.2.1.f2 π hf;obtain⟨p3,d6,C⟩:=VV.1.lay.fW RB k;rw[B]at d6;injection d6 with d6
  subst d6;rw[(VV.2.1.A (.pl π j) ⟨hf,RN⟩).2]at C;refine dO [3,2,135] W<|Po (aG W W W (auJ a) V W)<|dL [] W ?_;rcases qr with⟨o,x⟩|⟨o,x⟩
  ·have z:(I !=0)=true:=by simpa using o
   subst x;obtain⟨ZF,XF⟩:=ht;have i9:=HA q.aj ti.to (by omega);rw[ZF]at i9;refine dO [2,141] W<|Po (aq y W W)<|dR [142] W<|Po (aQ z W W W W)<|dL [1] W ?_;apply Ps bN
   ·intro t v;refine fR 4 W<|ay W W C W<|fR 2 W<|aW i9 W W<|fR 3 W<|ay W W C W<|pL W W W (by omega) ?_;rw[gc];refine fR 6 W<|TF.nil ⟨by kernel_rfl,rfl⟩
   exact DC.ret ⟨_,W,by rw[XF,Q];rfl,Y,by rw[f9];exact VV⟩
  ·have z:(I !=0)=false:=by rw[o];rfl
   refine dO [2,141] W<|Po (aq y W W)<|dR [142] W<|Po (aQ z W W W W)<|dR [0,2,159] W<|Po (az W W W (by omega))<|dL [] W<|bK (k':=h.fG.length-(a+1)) (by omega) ⟨a+1,Y,S,_,rfl,by omega,rfl,x,VV⟩ W W
end
section
variable{P:Pg}{n:Nat}{c:aK}{d:Nd}{u:US}{X:aw}{H:Hp}
def aw.kG(X:aw)(f:Nat->Int):aw:= {X with x:=⟨f,X.x.p,X.x.s⟩}
def aw.sx(X:aw)(g:Nat->Bool):aw:= {X with x:=⟨X.x.m,g,X.x.s⟩}
theorem cF.kG(h:cF P n c d X H)(f:Nat->Int):cF P n c d (X.kG f) (H.set (X.A .me) (.row false 1 0 (bE (bW d) (ji f)))):=by
 refine h.zZ .me trivial _ W W W W W W (λa=>by cases a<;>exact avU) W (λa g b i e=> ?_);cases a with
 |me=>exact absurd W b
 |_=>exact e
theorem cF.sx(h:cF P n c d X H)(f:Nat->Bool):cF P n c d (X.sx f) (H.set (X.A .pe) (.row false 1 0 (bE (bW d) (kA f)))):=by
 refine h.zZ .pe trivial _ W W W W W W (λa=>by cases a<;>exact avU) W (λa g b i e=> ?_);cases a with
 |pe=>exact absurd W b
 |_=>exact e
def aw.sy(c:aK)(X:aw):NI->aw
 | .cell _ σ=>match(c.fr σ.1).cO[σ.2]? with
  |some (some k)=>X.kG (cg X.x.m k (c.get σ))
  |_=>X
 | .aP π j=>match(c.fr π).pos[j]? with
  |some k=>(X.kG (cg X.x.m k (c.lg π j:Int))).sx (cg X.x.p k (c.nan π j))
  |none=>X
 | .arrow own=>X.kG (cg X.x.m own 0)
 | .put own v=>X.kG (cg X.x.m own v)
def Gl(P:Pg)(n:Nat)(c:aK)(d:Nd)(X:aw)(H:Hp)(Y:aw)(K:Hp):Prop:=cF P n c d Y K/\K.length=H.length/\ ∀a:Nat,X.own a=none->K[a]?=H[a]?
theorem cF.off(h:cF P n c d X H){r:Ro}(e:X.live c r){a:Nat}(b:X.own a=none)(ob:Ob):(H.set (X.A r) ob)[a]?=H[a]?:=auT (by rintro rfl;rw[h.own r e]at b;cases b)
theorem Gl.kG(h:cF P n c d X H)(f:Nat->Int):Gl P n c d X H (X.kG f) (H.set (X.A .me) (.row false 1 0 (bE (bW d) (ji f)))):=⟨h.kG f,by simp,λb a=>h.off (r:= .me) trivial a _⟩
theorem Mh(h:cF P n c d X H){m:M}{B:NI}(C:X.sY c H m B)(D:NI.ok c d X B)(QG: ∀b g,c.lg b g<=1000): ∃f T,m= .fn f T/\bz prog f/\DT prog f T H λ_ K=>Gl P n c d X H (X.sy c B) K:=by
 have s:=h.inst;have t:=h.unit;have o:=h.mem;cases B with
 |cell ah y=>
  obtain⟨hf,S1,hz,⟨k,j,U⟩,_⟩:=D;obtain⟨_,bc,bt,rfl,N,E⟩:=C;have hv:=auO S1;obtain⟨lp,eq,F,z,_⟩:=h.cell hf hv;rw[U]at F;injection F with F
  subst F;rw[au2 hz]at z;have u:=mo (n:=bW d) (f:=X.x.m) (k:=k) (c.get (y.1,y.2)) j;have w:=Gl.kG h (cg X.x.m k (c.get y));have O:X.sy c (.cell ah y)=X.kG (cg X.x.m k (c.get y)):=by simp only[aw.sy,U]
  rw[O];cases ah with
  |true=>
   refine⟨127,_,W,inferInstance,?_⟩;refine DT.ob func127 W ntmps127 W<|dC [] W ?_;apply Ps bN
   ·intro G I;refine ay W W E.2 W<|fR 2 W<|ay W W s W<|fR 2 W<|ay W W t W<|ay W W N.2 W<|fR 2 W<|ay W W z W<|ay W W N.2 W<|fR 2 W<|ay W W z W<|c_ W W W o (auJ k) (by exact awd.2 j)<|fY W W o W W u<|TF.nil ⟨by kernel_rfl,rfl⟩
   exact⟨_,W,w⟩
  |false=>
   refine⟨67,_,W,inferInstance,?_⟩;refine DT.ob func67 W ntmps67 W<|dC [] W ?_;apply Ps bN
   ·intro G I;refine ay W W E.2 W<|fR 2 W<|ay W W s W<|fR 2 W<|ay W W t W<|ay W W N.2 W<|fR 2 W<|ay W W z W<|ay W W N.2 W<|fR 2 W<|ay W W z W<|c_ W W W o (auJ k) (by exact awd.2 j)<|fY W W o W W u<|TF.nil ⟨by kernel_rfl,rfl⟩
   exact⟨_,W,w⟩
 |arrow q=>
  obtain⟨j,_⟩:=D;obtain⟨V,rfl,x⟩:=C;have u:=mo (n:=bW d) (f:=X.x.m) (k:=q) 0 j;have w:=Gl.kG h (cg X.x.m q 0);refine⟨_,_,W,inferInstance,?_⟩;refine DT.ob func125 W ntmps125 W<|dC [] W ?_;apply Ps bN
  ·intro G I;refine ay W W x.2 W<|fR 2 W<|ay W W s W<|fR 2 W<|ay W W t W<|fR 1 W<|c_ W W W o (auJ q) (by exact awd.2 j)<|fY W W o W W u<|TF.nil ⟨by kernel_rfl,rfl⟩
  exact⟨_,W,w⟩
 |put q v=>
  obtain⟨j,_⟩:=D;obtain⟨bt,rfl,E⟩:=C;have u:=mo (n:=bW d) (f:=X.x.m) (k:=q) v j;have w:=Gl.kG h (cg X.x.m q v);refine⟨_,_,W,inferInstance,?_⟩;refine DT.ob func143 W ntmps143 W<|dC [] W ?_;apply Ps bN
  ·intro G I;refine ay W W E.2 W<|fR 2 W<|ay W W s W<|fR 2 W<|ay W W t W<|fR 2 W<|c_ W W W o (auJ q) (by exact awd.2 j)<|fY W W o W W u<|TF.nil ⟨by kernel_rfl,rfl⟩
  exact⟨_,W,w⟩
 |aP b g=>
  obtain⟨W_,co,l,hq,d6,Y,j⟩:=D;obtain⟨Q,V,b6,rfl,x,J⟩:=C;obtain⟨p',L,Z⟩:=h.fW Q.1 hq;rw[Y]at L;injection L with L
  subst L;have O:X.sy c (.aP b g)=(X.kG (cg X.x.m l (c.lg b g:Int))).sx (cg X.x.p l (c.nan b g)):=by simp only[aw.sy,Y]
  have S:=Gl.kG h (cg X.x.m l (c.lg b g:Int));have ac:=gu (QK:=Ob.row false 1 0 (bE (bW d) (ji (cg X.x.m l (c.lg b g:Int))))) h.cu (h.ne (r:= .me) (r':= .pe) trivial trivial (by simp));rw[O];refine⟨_,_,W,inferInstance,?_⟩;refine DT.ob func95 W ntmps95 W ?_
  let R:Hp->Prop:= λi=>i[V]?=some (Ob.box [.ref (X.A .it) 0])/\i[b6]?=some (Ob.box [.ref (X.A (.pl b g)) 0])/\i[X.A .it]?=some (.box [.ref (X.A .un) 0,.ref (X.A (.fr [])) 0,.d (.bool false),bM (X.A .af) X.vF X.F.length,bM (X.A .nx) X.vN X.N.length])/\i[X.A .un]?=some (.box (pW P d (X.A .me) (X.A .pe) (X.A .su)))/\i[X.A (.pl b g)]?=some (.box (dK co l))
  have A: ∀p,R (H.set (X.A .me) p):= λp=>⟨gu x.2 (by intro e;have:=h.own .me trivial;rw[e,x.1]at this;cases this),gu J.2 (by intro e;have:=h.own .me trivial;rw[e,J.1]at this;cases this),gu s (h.ne (r:= .me) (r':= .it) trivial trivial (by simp)),gu t (h.ne (r:= .me) (r':= .un) trivial trivial (by simp)),gu Z (h.ne (r:= .me) (r':= .pl b g) trivial Q (by simp))⟩
  have ZD: ∀p QK,R ((H.set (X.A .me) p).set (X.A .pe) QK):= λp QK=>⟨gu (A p).1 (by intro e;have:=h.own .pe trivial;rw[e,x.1]at this;cases this),gu (A p).2.1 (by intro e;have:=h.own .pe trivial;rw[e,J.1]at this;cases this),gu (A p).2.2.1 (h.ne (r:= .pe) (r':= .it) trivial trivial (by simp)),gu (A p).2.2.2.1 (h.ne (r:= .pe) (r':= .un) trivial trivial (by simp)),gu (A p).2.2.2.2 (h.ne (r:= .pe) (r':= .pl b g) trivial Q (by simp))⟩
  refine dC [] W ?_;apply QZ R ((⟨x.2,J.2,s,t,Z⟩)) bN
  ·intro G I;refine PF W W (λi h=>⟨_,h.1,rfl⟩)<|iR 2 W<|PF W W (λi h=>⟨_,h.2.2.1,rfl⟩)<|iR 2 W<|PF W W (λi h=>⟨_,h.2.2.2.1,rfl⟩)<|PF W W (λi h=>⟨_,h.2.1,rfl⟩)<|iR 2 W<|PF W W (λi h=>⟨_,h.2.2.2.2,rfl⟩)<|PF W W (λi h=>⟨_,h.1,rfl⟩)<|iR 2 W<|PF W W (λi h=>⟨_,h.2.2.1,rfl⟩)<|iR 2 W<|PF W W (λi h=>⟨_,h.2.2.2.1,rfl⟩)<|PF W W (λi h=>⟨_,h.2.1,rfl⟩)<|iR 2 W<|PF W W (λi h=>⟨_,h.2.2.2.2,rfl⟩)<|iR 1 W ?_;apply Py
   ·skip
    refine rc W W ?_;rw[C6 (by grind)];exact TF.nil ⟨W,W⟩
   refine iR 1 W ?_;apply Py
   ·skip
    refine c_ W W W o (auJ l) (by exact awd.2 j)<|TF.nil ⟨W,W⟩
   apply Py
   ·skip
    refine fY W W o W W (mo (n:=bW d) (f:=X.x.m) (k:=l) (c.lg b g:Int) j)<|TF.nil ⟨W,W⟩
   apply Py
   ·skip
    refine c_ W W W ac (auJ l) (by exact awd.2 j)<|TF.nil ⟨W,W⟩
   apply Py
   ·skip
    refine fY W W ac W W (tN (n:=bW d) (f:=X.x.p) (k:=l) (c.nan b g) j)<|TF.nil ⟨W,W⟩
   exact jJ.nil ⟨by kernel_rfl,by repeat' first|exact trivial|exact .inl ((by simp_all))|exact .inr (by kernel_rfl)|refine⟨?_,?_⟩,rfl⟩
  exact⟨_,W,(S.1.sx (cg X.x.p l (c.nan b g))),by simp,λa ha=>by
   exact(S.1.off (r:= .pe) trivial (a:=a) ha (.row false 1 0 (bE (bW d) (kA (cg X.x.p l (c.nan b g)))))).trans (S.2.2 a ha)⟩
end
section
variable{P:Pg}{n:Nat}{c:aK}{d:Nd}{u:US}{X:aw}{H:Hp}
theorem I3{a i:Nat}{f:Nat}{b:List M}[hf:bz prog f](c:H[a]?=some (.box [.fn f b])){post:M->Hp->Prop}(d:DT prog f (dN i::b) H post):
  DT prog 124 [.ref a 0,.d (.bm [iN i] 0)] H post:=by
 obtain⟨h,j,e,g⟩:=d;refine DT.ob func124 W ntmps124 W<|dO [2,2,7] W<|Po (aA W W c W)<|dR [9] W<|Po (mF (ms:=[_]) g W W W)<|dL [] W<|DC.ret ⟨_,W,e⟩
def aw.go(X:aw)(own:Nat)(v:Int)(w:List (Nat×Int)):aw:= {X with fi:=X.fi+1,ph:= λk z=>(k,z)=(own,v)\/(k,z)∈w}
theorem cF.fp(h:cF P n c d X H)(a:Nat)(b:Nat->Int->Prop):cF P n c d {X with fi:=a,ph:=b} H:=by
 refine⟨λe g=>h.own e (by cases e<;>exact g),h.lt,λe g=> ?_,h.sub,λf i=> ?_,λf i=>h.af f i⟩
 ·obtain⟨j,k,l⟩:=h.ob e (by cases e<;>exact g);exact⟨j,k,by cases e<;>exact l⟩
 ·have:=h.nx f i
  revert this
  generalize f.1=m;intro this;cases m<;>exact this
theorem Mi{l:List (AI×M)}{i:Nat}{p:AI×M}(h:l[i]?=some p):aS ((l.drop i).map λp=>1+p.1.w.length)=(1+p.1.w.length)+aS ((l.drop (i+1)).map λp=>1+p.1.w.length):=by
 have a:i<l.length:=by
  grind
 rw[avQ a];rw[auO a]at h;injection h with h
 rw[h,avm,iM]
theorem OJ{ai:AI}{m:M}(h:X.F[X.fi]?=some (ai,m)):(X.go ai.own ai.v ai.w).T c+(1+ai.w.length)=X.T c:=by
 unfold aw.T;have b:(X.go ai.own ai.v ai.w).N=X.N:=rfl;have d:(X.go ai.own ai.v ai.w).F=X.F:=rfl;have e:(X.go ai.own ai.v ai.w).fi=X.fi+1:=rfl;have f:(X.go ai.own ai.v ai.w).cu=X.cu:=by funext a;cases a<;>rfl
 rw[b,d,e,f,Mi h];simp only;omega
theorem NN(h:Pu P c d u X){ai:AI}{m:M}(l:X.F[X.fi]?=some (ai,m))(p:X.fi<=X.N.length)(q: ∀i v,¬X.ph i v):Pu P c d u (X.go ai.own ai.v ai.w):=by
 have n:X.fi<X.F.length:=by
  grind
 refine h.Db W W W W W (λi v o=> ?_) (λe a=>a) (λe a=> .inl a) (λe a=> .inl a) n (by show X.fi+1<=X.N.length+1;omega);rcases o with(g|⟨f,e,g,b,j⟩)|g
 ·exact .inl (.inl g)
 ·rcases auM X.fi f with k|k
  ·exact .inl (.inr ⟨f,e,k,b,j⟩)
  ·obtain rfl:f=X.fi:=by omega
   rw[l]at b;injection b with b
   subst b;exact .inr j
 ·grind
theorem I4(d7:oF P n c d u)(hV:e_ P n c d u c.eh)(C:cV P n c d u X H)(hT:X.T c<=1000000000000)(D:mq c X c.eh)(ac: ∀k v,¬X.ph k v)(hn:X.fi<=X.N.length){ai:AI}{m:M}(J:X.F[X.fi]?=some (ai,m)):
  ∃f O,m= .fn f O/\bz prog f/\DT prog f O H λ_ K=> ∃W,cV P n c d u W K/\br c (λ_=>False) {X with fi:=X.fi+1} H W K/\W.T c<=X.T c/\(∀k v,¬W.ph k v)/\W.fi<=W.N.length:=by
 have Q:=auQ J;have s:=C.pu.fk _ Q;obtain⟨bn,y,bk,km,e,i,a0,R,d9,YG,ZG,YQ,f9,E,S1,S⟩:=C.lay.af _ Q;obtain⟨ZH,b4,b5,rfl,T,U⟩:=YQ;simp only at R ZH T U E S s;subst R;have gc:=OJ (c:=c) J;have hb:a0+aS (e.kids.map xP)<=1000000000:=by
  have t:=(gx xP (l:=e.kids) (i:=i) (by omega)).1;rw[avK (by omega)]at t;have z:e.kids[i]=ai.e:=by rw[auO (by omega)]at E;injection E
  rw[z]at t;have:=s.sz;omega
 have hx:=dM d7 hV ai.π ai.e s.sm ai.a ai.v ai.w s.ev (X.go ai.own ai.v ai.w) H (⟨C.lay.fp _ _,NN C.pu J hn ac⟩) (by omega) (⟨D.c1,D.f1,D.c4,D.tp⟩) s.fs s.sz s.own s.wr.2;obtain⟨r1,F,⟨rfl,a,o⟩,PX⟩:=I3 YG.2 (HD f9 hb E T.2 U.2 (by rw[<-S];exact hx));have G:=o.2.1;have w:=G.box (X:=X.go ai.own ai.v ai.w) ZG;have A:a.A .it=X.A .it:=(G.A .it trivial).2;have q:=o.1.lay.inst;rw[A]at q;have TB:a.sY c F (.fn 143 [.d (.bm [.int .i32 ai.v] 0),.ref y 0,.d (.bm [.int .i64 (ai.own:Int)] 0)]) (.put ai.own ai.v):=⟨y,rfl,by rw[A];exact w⟩;obtain⟨ah,L⟩:=p5 o.1.lay TB;obtain⟨I,co,d6⟩:=ry o.1.pu (p:=(.put ai.own ai.v,.fn 143 [.d (.bm [.int .i32 ai.v] 0),.ref y 0,.d (.bm [.int .i64 (ai.own:Int)] 0)])) (⟨s.lt,s.wr.1⟩) (H:=F);have b:=G.trans L;have V: ∀g,a.dr F (.fn 143 [.d (.bm [.int .i32 ai.v] 0),.ref y 0,.d (.bm [.int .i64 (ai.own:Int)] 0)])=g-> ∃W,cV P n c d u W g/\br c (λ_=>False) {X with fi:=X.fi+1} H W g/\W.T c<=X.T c/\(∀k v,¬W.ph k v)/\W.fi<=W.N.length:=by
  rintro g rfl;generalize hZ:a.dv F (.put ai.own ai.v,.fn 143 [.d (.bm [.int .i32 ai.v] 0),.ref y 0,.d (.bm [.int .i64 (ai.own:Int)] 0)])=h at ah L I co d6 b;have ge:=b.fi;have i6:h.N.length=a.N.length+1:=by rw[<-hZ];simp[aw.dv]
  have Td:=G.fi;refine⟨{h with fi:=h.fi,ph:=X.ph},⟨ah.fp _ _,?_⟩,?_,?_,ac,?_⟩
  ·refine I.Db rfl rfl rfl rfl rfl (λk v hs=> ?_) (λp B=>B) (λp B=> .inl B) (λp B=> .inl B) I.fl I.fn;rcases hs with t|t
   ·exact .inl t
   ·rw[b.ph]at t;rcases t with z|z
    ·injection z with e1 e2
     subst e1;subst e2;exact .inl (co _ _ ⟨rfl,rfl⟩)
    ·exact .inl (L.S _ _ (o.2.2.2 _ z))
  ·exact⟨b.c0,b.f0,b.len,b.iY,λr hr=>by have:=b.A r (by cases r<;>exact hr);exact⟨by have t:=this.1;revert t;cases r<;>exact id,this.2⟩,b.aL,b.f2,b.f1,b.c1,b.c2,b.c3,b.c4,b.dn,b.sj,b.lv,b.S,b.fi,rfl,b.F⟩
  ·have e4:({h with fi:=h.fi,ph:=X.ph} :aw).cu=h.cu:=by funext i;cases i<;>rfl
   have e5:({h with fi:=h.fi,ph:=X.ph} :aw).T c=h.T c:=by unfold aw.T;rw[e4]
   rw[e5,d6];have:=o.2.2.1;omega
  ·have:=o.1.pu.fn;show h.fi<=h.N.length;omega
 refine⟨_,_,rfl,inferInstance,?_⟩;refine DT.ob func142 rfl ntmps142 rfl<|dO [2,8] rfl<|Po (aA rfl rfl d9.2 rfl)<|dR [9] rfl<|Po (mF (ms:=[]) PX rfl rfl rfl)<|dL [] rfl<|DC.freeze 3 (ds:=[.int .i32 ai.v]) rfl rfl ?_
 let Y:M->Hp->Prop:= λd8 g=>g[y]?=some (Ob.box [.ref (X.A .it) 0])/\g[X.A .it]?=some (Ob.box [.ref (a.A .un) 0,.ref (a.A (.fr [])) 0,.d (.bool false),bM (a.A .af) a.vF a.F.length,d8])
 by_cases x:a.N= []
 ·have N:bM (a.A .nx) a.vN a.N.length= .d (.sl []):=by simp[x,bM]
  rw[N]at q;refine dC [] rfl ?_;apply QZ (Y (.d (.sl []))) (⟨w.2,q⟩) bN
  ·intro s0 Oo;refine PF rfl rfl (λg j=>⟨_,j.1,rfl⟩)<|PF rfl rfl (λg j=>⟨_,j.1,rfl⟩)<|iR 2 rfl<|PF rfl rfl (λg j=>⟨_,j.2,rfl⟩) ?_;apply Py
   ·skip
    refine ft rfl rfl<|TF.nil ⟨rfl,rfl⟩
   apply Py
   ·skip
    refine et (cs:=[_]) rfl rfl rfl rfl rfl rfl<|TF.nil ⟨rfl,rfl⟩
   apply Py
   ·skip
    refine pP true rfl rfl rfl (mI _ _) rfl rfl (by decide) (by decide)<|TF.nil ⟨rfl,rfl⟩
   refine iR 2 rfl ?_;apply Py
   ·skip
    refine fE rfl rfl (bB (bB q)) rfl rfl rfl<|TF.nil ⟨rfl,rfl⟩
   exact jJ.nil ⟨by kernel_rfl,by repeat' first|exact trivial|exact .inl ((by first|exact⟨bB w.2,bB q⟩|exact⟨bB (bB w.2),bB (bB q)⟩))|exact .inr (by kernel_rfl)|refine⟨?_,?_⟩,rfl⟩
  refine⟨_,rfl,V _ ?_⟩;simp only[aw.dr,au2 x,auN,avd,A];rfl
 ·have N:bM (a.A .nx) a.vN a.N.length= .bH (a.A .nx) a.vN a.N.length:=by unfold bM;rw[auU];intro e;exact x (avA e)
  rw[N]at q;have i7:=z7 (c:=c) (X:=a) (by have:=o.2.2.1;omega);have Z:a.A .nx≠X.A .it:=by rw[<-A];exact o.1.lay.ne (r:= .nx) (r':= .it) x trivial (by simp)
  refine dC [] rfl ?_;apply QZ (Y (.bH (a.A .nx) a.vN a.N.length)) (⟨w.2,q⟩) bN
  ·intro s0 Oo;refine PF rfl rfl (λg j=>⟨_,j.1,rfl⟩)<|PF rfl rfl (λg j=>⟨_,j.1,rfl⟩)<|iR 2 rfl<|PF rfl rfl (λg j=>⟨_,j.2,rfl⟩) ?_;apply Py
   ·skip
    refine ft rfl rfl<|TF.nil ⟨rfl,rfl⟩
   apply Py
   ·skip
    refine et (cs:=[_]) rfl rfl rfl rfl rfl rfl<|TF.nil ⟨rfl,rfl⟩
   apply Py
   ·skip
    refine pQ rfl rfl rfl (mI _ _) (bB (wF o.1.lay x)) rfl (by omega) (by omega)<|TF.nil ⟨rfl,rfl⟩
   refine iR 2 rfl ?_;apply Py
   ·skip
    refine fE rfl rfl (gu (bB q) Z) rfl rfl rfl<|TF.nil ⟨rfl,rfl⟩
   exact jJ.nil ⟨by kernel_rfl,by repeat' first|exact trivial|exact .inl ((by first|exact⟨bB w.2,bB q⟩|exact⟨gu (bB w.2) (by intro e;have:=o.1.lay.own .nx x;rw[e,w.1]at this;cases this),gu (bB q) Z⟩))|exact .inr (by kernel_rfl)|refine⟨?_,?_⟩,rfl⟩
  refine⟨_,rfl,V _ ?_⟩;simp only[aw.dr,auU x,A];rfl
end
section
variable{P:Pg}{n:Nat}{c:aK}{d:Nd}{u:US}{X:aw}{H:Hp}
theorem I5{ins outs:List Int}{u':US}(t:oF P n c d u)(U:gy P (d_ P n) c d u ins outs u')(V: ∀r≤c.eh,e_ P n c d u r)(h:cV P n c d u X H)(Z:X.T c<=1000000000000)(y:mq c X c.eh){π:Path}{j:Nat}{q:aB}(hf:X.fs π=2)(hq:(c.fr π).au[j]?=some q)(l:q.kd=1\/q.kd=2\/q.kd=3\/q.kd=4\/q.kd=5)
  (ac: ∀g∈q.lhs,∀f,c.find π g=some f->f.1= []->d.ins.length<=f.2):
  DT prog 61 [.ref (X.A .it) 0,.ref (X.A (.fr π)) 0,.ref (X.A (.pl π j)) 0] H λm K=> ∃b,m= .d (.bool b)/\(b=true↔c.jg π q)/\ ∃Y,cW P n c d u X H 0 [] Y K:=by
 have o:=h.lay;obtain⟨ah,hp,a⟩:=o.fW hf hq;refine DT.ob func61 W ntmps61 W ?_;unfold dK at a;refine dC [2] W ?_;rcases l with l|l|l|l|l
 ·rw[l]at a;have z:q.kd=1\/q.kd=2:=by omega
  cases p:q.lhs with
  |nil=>
   rw[p]at a;refine dO [2,16] W<|Po (aA W W a W)<|dR [23] W ?_
   first|refine Po (ax W W) ?_|(refine Po (av W) ?_;refine Po (aA W W a W) ?_)
   refine dR [31] W ?_
   first|refine Po (ax W W) ?_|(refine Po (av W) ?_;refine Po (aA W W a W) ?_)
   refine dL [1,2] W<|DC.ret ⟨_,W,true,W,⟨λ_ _=>by grind,λ_=>rfl⟩,X,cW.same o h.pu⟩
  |cons g E=>
   rw[p]at a;have G:((((dJ (g::E)).length:Nat):Int)==0)=false:=by grind
   have I:=pZ o h.pu t.sz π hf g;refine dO [2,16] W<|Po (aA W W a W)<|dR [23] W ?_
   first|refine Po (ax W W) ?_|(refine Po (av W) ?_;refine Po (aA W W a W) ?_)
   refine dR [31] W ?_
   first|refine Po (ax W W) ?_|(refine Po (av W) ?_;refine Po (aA W W a W) ?_)
   refine dR [33] W ?_
   first|refine Po (ax W W) ?_|(refine Po (av W) ?_;refine Po (aQ G W W W W) ?_)
   refine dR [0,2,40] W<|Po (aA W W a W)<|dR [41] W<|Po (aG W W W (by decide) (r:=[.str g]) W W)<|dR [43] W<|Po (aq I W W)<|dL [] W ?_;cases k:c.find π g with
   |none=>
    have w:X.gS c π g= .d .bX:=by unfold aw.gS;rw[k]
    rw[w];refine dC [] W ?_;apply Ps bN
    ·intro J L;refine fR 1 W<|pC (by kernel_rfl) W W W W W<|fR 14 W<|TF.nil ⟨by kernel_rfl,rfl⟩
    refine DC.ret ⟨_,W,false,W,⟨λe=>(by cases e),λe=> ?_⟩,X,cW.same o h.pu⟩;have:=e z;rw[p]at this;obtain⟨f,i,_⟩:=this;rw[k]at i;cases i
   |some f=>
    have w:X.gS c π g= .ref (X.A (.ce f.1 f.2)) 0:=by unfold aw.gS;rw[k]
    rw[w];obtain⟨A,v,M,eq,B,VE,N,C,_⟩:=mu h hf k;have D:=Pu.ok t h.pu A;have x:=U.cell f.1 f.2 v M D B N (ac g (by grind) f k);have s:c.sb f.1 f.2<=c.eh:=by have:=x.sr;have:=x.tp;omega
    have T:mq c X (c.sb f.1 f.2):=⟨λπ F e=>avD s (y.c1 π F e),λj π e=>avD s (y.f1 j π e),y.c4,s⟩;obtain⟨m2,K2,⟨rfl,O,Q⟩,R⟩:=tT t (V _ s) (t.cl _ _ v D B) x.pr h Z T A;refine dC [] W ?_;apply Ps bN
    ·intro J L;refine fR 1 W<|pC (by kernel_rfl) W W W W W<|fR 5 W ?_
     first|refine aX W W W W ?_|refine aY W W W ?_|(refine aR W W ?_;(refine ay W W C W ?_))
     refine fR 4 W ?_
     first|refine aX W W W W ?_|refine aY W W W ?_|(refine aR W W ?_;(refine ay W W C W ?_))
     first|refine aX W W W W ?_|refine aY W W W ?_|(refine aR W W ?_;(refine bg R W W ?_))
     refine fR 2 W<|TF.nil ⟨by kernel_rfl,rfl⟩
    refine DC.ret ⟨_,W,(c.val f.1 f.2).isSome,W,⟨λe _=>by grind,λe=> ?_⟩,O,Q⟩;have:=e z;rw[p]at this;obtain⟨τ,i,S⟩:=this;rw[k]at i;injection i with i
    subst i;exact S
 ·rw[l]at a;have z:q.kd=1\/q.kd=2:=by omega
  cases p:q.lhs with
  |nil=>
   rw[p]at a;refine dO [2,16] W<|Po (aA W W a W)<|dR [23] W ?_
   first|refine Po (ax W W) ?_|(refine Po (av W) ?_;refine Po (aA W W a W) ?_)
   refine dR [31] W ?_
   first|refine Po (ax W W) ?_|(refine Po (av W) ?_;refine Po (aA W W a W) ?_)
   refine dL [1,2] W<|DC.ret ⟨_,W,true,W,⟨λ_ _=>by grind,λ_=>rfl⟩,X,cW.same o h.pu⟩
  |cons g E=>
   rw[p]at a;have G:((((dJ (g::E)).length:Nat):Int)==0)=false:=by grind
   have I:=pZ o h.pu t.sz π hf g;refine dO [2,16] W<|Po (aA W W a W)<|dR [23] W ?_
   first|refine Po (ax W W) ?_|(refine Po (av W) ?_;refine Po (aA W W a W) ?_)
   refine dR [31] W ?_
   first|refine Po (ax W W) ?_|(refine Po (av W) ?_;refine Po (aA W W a W) ?_)
   refine dR [33] W ?_
   first|refine Po (ax W W) ?_|(refine Po (av W) ?_;refine Po (aQ G W W W W) ?_)
   refine dR [0,2,40] W<|Po (aA W W a W)<|dR [41] W<|Po (aG W W W (by decide) (r:=[.str g]) W W)<|dR [43] W<|Po (aq I W W)<|dL [] W ?_;cases k:c.find π g with
   |none=>
    have w:X.gS c π g= .d .bX:=by unfold aw.gS;rw[k]
    rw[w];refine dC [] W ?_;apply Ps bN
    ·intro J L;refine fR 1 W<|pC (by kernel_rfl) W W W W W<|fR 14 W<|TF.nil ⟨by kernel_rfl,rfl⟩
    refine DC.ret ⟨_,W,false,W,⟨λe=>(by cases e),λe=> ?_⟩,X,cW.same o h.pu⟩;have:=e z;rw[p]at this;obtain⟨f,i,_⟩:=this;rw[k]at i;cases i
   |some f=>
    have w:X.gS c π g= .ref (X.A (.ce f.1 f.2)) 0:=by unfold aw.gS;rw[k]
    rw[w];obtain⟨A,v,M,eq,B,VE,N,C,_⟩:=mu h hf k;have D:=Pu.ok t h.pu A;have x:=U.cell f.1 f.2 v M D B N (ac g (by grind) f k);have s:c.sb f.1 f.2<=c.eh:=by have:=x.sr;have:=x.tp;omega
    have T:mq c X (c.sb f.1 f.2):=⟨λπ F e=>avD s (y.c1 π F e),λj π e=>avD s (y.f1 j π e),y.c4,s⟩;obtain⟨m2,K2,⟨rfl,O,Q⟩,R⟩:=tT t (V _ s) (t.cl _ _ v D B) x.pr h Z T A;refine dC [] W ?_;apply Ps bN
    ·intro J L;refine fR 1 W<|pC (by kernel_rfl) W W W W W<|fR 5 W ?_
     first|refine aX W W W W ?_|refine aY W W W ?_|(refine aR W W ?_;(refine ay W W C W ?_))
     refine fR 4 W ?_
     first|refine aX W W W W ?_|refine aY W W W ?_|(refine aR W W ?_;(refine ay W W C W ?_))
     first|refine aX W W W W ?_|refine aY W W W ?_|(refine aR W W ?_;(refine bg R W W ?_))
     refine fR 2 W<|TF.nil ⟨by kernel_rfl,rfl⟩
    refine DC.ret ⟨_,W,(c.val f.1 f.2).isSome,W,⟨λe _=>by grind,λe=> ?_⟩,O,Q⟩;have:=e z;rw[p]at this;obtain⟨τ,i,S⟩:=this;rw[k]at i;injection i with i
    subst i;exact S
 ·rw[l]at a;refine dO [2,16] W<|Po (aA W W a W)<|dR [23] W ?_
  first|refine Po (ax W W) ?_|(refine Po (av W) ?_;refine Po (aA W W a W) ?_)
  refine dL [1,2] W<|DC.ret ⟨_,W,true,W,⟨λ_ e=>by omega,λ_=>rfl⟩,X,cW.same o h.pu⟩
 ·rw[l]at a;refine dO [2,16] W<|Po (aA W W a W)<|dR [23] W ?_
  first|refine Po (ax W W) ?_|(refine Po (av W) ?_;refine Po (aA W W a W) ?_)
  refine dL [1,2] W<|DC.ret ⟨_,W,true,W,⟨λ_ e=>by omega,λ_=>rfl⟩,X,cW.same o h.pu⟩
 ·rw[l]at a;refine dO [2,16] W<|Po (aA W W a W)<|dR [23] W ?_
  first|refine Po (ax W W) ?_|(refine Po (av W) ?_;refine Po (aA W W a W) ?_)
  refine dL [1,2] W<|DC.ret ⟨_,W,true,W,⟨λ_ e=>by omega,λ_=>rfl⟩,X,cW.same o h.pu⟩
end
end Go.Proofs.Sz
namespace Go.Mt
theorem Et{f:Type}(l:List (Nat×f)){t u:Nat}(h:u≠t):get (del l t) u=get l u:=by
 induction l with
 |nil=>rfl
 |cons g l d=>
  obtain⟨b,v⟩:=g;simp only[del,get];by_cases e:b=t
  ·subst e;have a:=aw9 b;have i:Nat.beq b u=false:=by rw[<-avX];intro c;exact h (auZ c).symm
   simp[a,i,d]
  ·have a:Nat.beq b t=false:=by rw[<-avX];intro c;exact e (auZ c)
   simp only[a,aws,get,d]
end Go.Mt
namespace Go.Proofs.Sz
open Go.Mt Go.Sm Go.Proofs
open Tryz
section
variable{P:Pg}{n:Nat}{c:aK}{d:Nd}{u:US}{X:aw}{H:Hp}
def aw.kC(X:aw)(π:Path)(j:Nat):aw:= {X with lv:= λa b=>if(a,b)=(π,j)then true else X.lv a b}
theorem cF.kC(h:cF P n c d X H)(π:Path)(j:Nat):cF P n c d (X.kC π j) H:=by
 refine⟨λa e=>h.own a (by cases a<;>exact e),h.lt,λa e=> ?_,h.sub,λb f=> ?_,λb f=>h.af b f⟩
 ·obtain⟨g,i,k⟩:=h.ob a (by cases a<;>exact e);exact⟨g,i,by cases a<;>exact k⟩
 ·have:=h.nx b f
  revert this
  generalize b.1=l;intro this;cases l<;>exact this
theorem Pu.kC(h:Pu P c d u X){π:Path}{j:Nat}(l: ∃a∈X.N,a.1=NI.aP π j):Pu P c d u (X.kC π j):=by
 refine{f0:=h.f0,fp:=h.fp,f2:=h.f2,c6:=h.c6,ci:=h.ci,cv:=h.cv,ca:=h.ca,xm:=h.xm,xp:=h.xp,xd:=h.xd,xs:=h.xs,s1:=h.s1,s2:=h.s2,s3:=h.s3,s4:=h.s4,s5:= ?_,dl:=h.dl,dz:=h.dz,cz:=h.cz,nk:= ?_,fk:= λa f=>⟨(h.fk a f).ev,(h.fk a f).fs,(h.fk a f).lt,(h.fk a f).wr,(h.fk a f).sm,(h.fk a f).own,(h.fk a f).sz⟩,fl:=h.fl,fn:=h.fn,g0:=h.g0}
 ·intro g b k;by_cases e:(g,b)=(π,j)
  ·injection e with m n
   subst m;subst n;exact l
  ·have:(X.kC π j).lv g b=X.lv g b:=auU e;rw[this]at k;exact h.s5 g b k
 ·intro a f;have i:=h.nk a f
  revert i
  generalize a.1=o;intro i;cases o<;>exact i
theorem I6{ins outs:List Int}{u':US}(F:oF P n c d u)(hC:gy P (d_ P n) c d u ins outs u')(hV:e_ P n c d u c.eh)(hI:cV P n c d u X H)(hT:X.T c<=1000000000000)(hP:mq c X c.eh){π:Path}{j:Nat}{q:aB}{p:Nat}(hf:X.fs π=2)(ac:X.fs (j::π)=2)(x:(c.fr π).au[j]?=some q)(S:q.kd=4)(hp:(c.fr π).pos[j]?=some p)(ZH:X.lv π j=false):
  DT prog 64 [.ref (X.A .it) 0,.ref (X.A (.fr π)) 0,.ref (X.A (.pl π j)) 0,.ref (X.A (.fr (j::π))) 0] H λ_ K=> ∃Y,cV P n c d u Y K/\br c (λ_=>False) (X.kC π j) H Y K/\Y.T c<=X.T c:=by
 have f:=hI.lay;have T:=Pu.ok F hI.pu hf;have RN:j<(c.fr π).au.length:=by
  rcases auM j (c.fr π).au.length with f|f
  ·exact f
  ·rw[auP f]at x;cases x
 have QG:=F.Dc π j q T x;have S':=(hC.wq π j q T x).2.2 S;have XM:=(hC.eq π j q p T x hp).1;have PU:=rz f;have Q3:(H++ [Ob.box [.ref (X.A .it) 0]]++ [Ob.box [.ref (X.A (.pl π j)) 0]])[H.length]?=some (Ob.box [.ref (X.A .it) 0]):=by simp
 have D:(H++ [Ob.box [.ref (X.A .it) 0]]++ [Ob.box [.ref (X.A (.pl π j)) 0]])[(H++ [Ob.box [M.ref (X.A .it) 0]]).length]?=some (Ob.box [.ref (X.A (.pl π j)) 0]):=by simp
 have G:=(f.grow [Ob.box [.ref (X.A .it) 0]]).grow [Ob.box [.ref (X.A (.pl π j)) 0]];have RP:=(br.grow c (λ_=>False) X H [Ob.box [.ref (X.A .it) 0]]).trans (br.grow c (λ_=>False) X _ [Ob.box [.ref (X.A (.pl π j)) 0]]);obtain⟨k,TX⟩: ∃b,b=H.length:=⟨_,rfl⟩;obtain⟨t,ah⟩: ∃b,b=(H++ [Ob.box [M.ref (X.A .it) 0]]).length:=⟨_,rfl⟩;refine DT.ob func64 W ntmps64 W ?_;cases XM with
 |df Qv=>omega
 |call Qv=>omega
 |sw Qv=>omega
 |reset Qv=>omega
 |aP S P2 co a0 hs h0 i8 hu ht a ha t' U6 WY mt=>
  have R3:c.bA π j<q.aj.length:=by
   rcases auM (c.bA π j) q.aj.length with f|f
   ·exact f
   ·have:=ha.ha;rw[auP f]at this;cases this
  have XO:=auQ ha.ha;have pm:=(QG.2.2.2.2.1 a XO).2.2;refine dO [2,8] W<|Po (cH W W W)<|dR [10] W<|Po (cH W W W)<|dL [] W<|Pz [nR 4 k,nR 6 t,nR 1 (X.A (.fr π)),nR 3 (X.A (.fr (j::π)))] _ (kc (by rw[TX];rfl) (kc (by rw[ah];rfl) W)) W ?_;rw[<-TX]at Q3;rw[<-ah]at D;generalize hK:H++ [Ob.box [M.ref (X.A .it) 0]]++ [Ob.box [M.ref (X.A (.pl π j)) 0]]=K at Q3 D G RP⊢;have SB:X.box K k (.ref (X.A .it) 0):=⟨(PU _ (by omega)),Q3⟩;have d6:X.box K t (.ref (X.A (.pl π j)) 0):=⟨(PU _ (by rw[ah];simp)),D⟩;obtain⟨p1,_,U⟩:=G.fW hf x;unfold dK at U;rw[S]at U;obtain⟨ob,Y9,d9⟩:=G.ob (.tk π) (by show 1<=X.fs π;omega);obtain⟨es,rfl,XP,Tv⟩:=d9;have Tv:=Tv hf j ac;refine dO [2,17] W<|Po (aA W W D W)<|dR [21] W<|Po (aA W W U W)<|dL [0] W ?_;apply Ps bN
  ·intro s0 Oo;refine fR 3 W<|ay W W (G.frame hf) W<|ay W W D W<|F7 W W W W W Y9 XP ?_;rw[Tv];refine fR 1 W<|TF.nil ⟨by kernel_rfl,rfl⟩
  refine dO [2,2,30] W<|Po (aA W W D W)<|dR [34] W<|Po (aA W W U W)<|dR [36] W<|Po (aG W W W (auJ _) (tU ha.ha) W)<|dR [39] W<|Po (bp W W W) ?_;rw[show(fo a.fH).length=a.fH.length by simp[fo]];refine dL [] W<|Pz [nN 36 0,nN 35 a.fH.length,nD 34 (.sl (fo a.fH)),nR 3 (X.A (.fr (j::π))),nR 4 k,nR 6 t,(9,.loc 9 0),(10,.loc 10 0)] K W W<|dC [] W<|Qy (λPD=> ∃Y v w,cW P n c d u X K 0 [] Y v/\get w 9=some [dN (c.lg π j)]/\get w 10=some [.d (.bool (c.nan π j))]/\PD=⟨[nR 4 k,nR 6 t,(9,.loc 9 0),(10,.loc 10 0)],w,v⟩) ?_ ?_
  ·refine dC [3] W<|DC.lp (λV s'=> ∃(h:Nat) (Y:aw) (v:Hp) (w:List (Nat×List M)),s'=⟨[nN 36 h,nN 35 a.fH.length,nD 34 (.sl (fo a.fH)),nR 3 (X.A (.fr (j::π))),nR 4 k,nR 6 t,(9,.loc 9 0),(10,.loc 10 0)],w,v⟩/\h<=a.fH.length/\V=a.fH.length-h/\pU P.aJ c (j::π) c.eh (a.fH.drop h) t'/\cW P n c d u X K 0 [] Y v/\get w 9=some [dN (c.bA π j)]/\get w 10=some [.d (.bool false)]) a.fH.length _
    ⟨0,X,K,_,rfl,by omega,rfl,U6,cW.same G hI.pu,rfl,rfl⟩ W ?_
   rintro V s1 ⟨h,Y0,K0,w,rfl,A,rfl,I,J,L,N⟩;have O:=J.2.1;refine dC [2] W<|DC.cond W (λhc=> ?_) (λhc=> ?_);rotate_left
   ·refine DC.exit ?_;have e:h=a.fH.length:=by have:=au9 hc;omega
    rw[e,awn]at I;cases I;obtain⟨ZF,XF⟩:=WY;exact⟨_,⟨Y0,K0,w,J,by rw[ZF];exact L,by rw[XF];exact N,W⟩,cR W W⟩
   have P0:h<a.fH.length:=by have:=auV hc;omega
   refine dC [] W ?_;have Pv:=BQ P0;have d7:=avb P0;rw[avQ P0]at I;generalize a.fH[h]=Q at I Pv d7;obtain⟨f9,qr⟩:=F.jv π j q T x a XO Q (.inr d7);have rg:=J.2.2.1;obtain⟨B,Ri,gc⟩: ∃B,gP P.aJ c (j::π) c.eh Q.e 0 B []/\((B≠0/\t'=some Q)\/(B=0/\pU P.aJ c (j::π) c.eh (a.fH.drop (h+1)) t')):=by
    cases I with
    |ym l y=>exact⟨_,l,.inl ⟨y,W⟩⟩
    |no l y=>exact⟨0,l,.inr ⟨W,y⟩⟩
   obtain⟨m2,K2,⟨rfl,Y,m⟩,QA⟩:=dM F hV (j::π) Q.e f9 0 B [] Ri Y0 K0 J.1 (by simp only[avt];omega) (hP.next O) (O.f2 _ ac) (by omega) (λV l y=>by omega) (λi9 hw=>by cases hw);rw[Xp.aC,(O.A .it trivial).2,(O.A (.fr (j::π)) (by show 1<=X.fs (j::π);omega)).2]at QA;have E:=J.trans m;have o:=O.box SB;obtain⟨p3,_,Sd⟩:=E.1.lay.fW (E.2.1.f2 π hf) x;rw[(E.2.1.A (.pl π j) ⟨hf,RN⟩).2]at Sd;refine dO [3,2,42] W<|Po (aG W W W (auJ h) Pv W)<|dL [] W ?_;rcases gc with⟨l,y⟩|⟨l,y⟩
   ·have hb:(B !=0)=true:=by simpa using l
    subst y;obtain⟨ZF,XF⟩:=WY;have d8:=HA q.aj Q.to (by omega);rw[ZF]at d8;refine dO [2,44] W<|Po (aA W W o.2 W)<|dR [48] W<|Po (aq QA W W)<|dR [49] W<|Po (aQ hb W W W W)<|dL [1] W ?_;apply Ps bN
    ·intro s0 Oo;refine ay W W (E.2.1.box d6).2 W<|fR 3 W<|ay W W Sd W<|fR 2 W<|aW d8 W W<|fR 3 W<|jc W W L W W W<|jc W W N W W W<|TF.nil ⟨by kernel_rfl,rfl⟩
    refine DC.exit<|⟨_,⟨Y,K2,_,E,W,by rw[XF];rfl,rfl⟩,cR W W⟩
   ·have hb:(B !=0)=false:=by rw[l];rfl
    refine dO [2,44] W<|Po (aA W W o.2 W)<|dR [48] W<|Po (aq QA W W)<|dR [49] W<|Po (aQ hb W W W W)<|dR [0,2,61] W<|Po (az W W W (by omega))<|dL [] W<|bK (k':=a.fH.length-(h+1)) (by omega) ⟨h+1,Y,K2,_,rfl,by omega,rfl,y,E,L,N⟩ W W
  ·rintro _ ⟨Y,v,w,m,L,N,rfl⟩;refine DC.freeze 9 (ds:=[iN (c.lg π j)]) L W<|DC.freeze 10 (ds:=[.bool (c.nan π j)]) (by rw[Et _ (by decide)];exact N) W ?_;have z:=m.2.1;have o:=z.box SB;have R:=(z.A .it trivial).2;have s:=m.1.lay.inst;rw[R]at s;have TB:Y.sY c v (.fn 95 [.d (.bm [iN (c.lg π j)] 0),.d (.bm [.bool (c.nan π j)] 0),.ref k 0,.ref t 0]) (.aP π j):=⟨⟨z.f2 _ hf,RN⟩,k,t,rfl,by rw[R];exact o,by rw[(z.A (.pl π j) ⟨hf,RN⟩).2];exact(z.box d6)⟩;have ge:NI.ok c d Y (.aP π j):=⟨z.f2 _ ac,q,p,x,S,hp,(by rw[<-F.Bh];exact P2)⟩;obtain⟨i6,ZE⟩:=p5 m.1.lay TB;obtain⟨i7,rt,rx⟩:=ry m.1.pu (p:=(.aP π j,.fn 95 [.d (.bm [iN (c.lg π j)] 0),.d (.bm [.bool (c.nan π j)] 0),.ref k 0,.ref t 0])) ge (H:=v);have g:=RP.trans (z.trans ZE);have QF: ∀i,Y.dr v (.fn 95 [.d (.bm [iN (c.lg π j)] 0),.d (.bm [.bool (c.nan π j)] 0),.ref k 0,.ref t 0])=i-> ∃Z,cV P n c d u Z i/\br c (λ_=>False) (X.kC π j) H Z i/\Z.T c<=X.T c:=by
    rintro i rfl;refine⟨_,⟨i6.kC π j,i7.kC ⟨_,au0 _ (av1 _),W⟩⟩,?_,?_⟩
    ·exact⟨g.c0,g.f0,g.len,g.iY,λr hr=>by have:=g.A r (by cases r<;>exact hr);exact⟨by have l:=this.1;revert l;cases r<;>exact id,this.2⟩,g.aL,g.f2,g.f1,g.c1,g.c2,g.c3,g.c4,g.dn,g.sj,by unfold aw.kC;simp only;rw[g.lv],g.S,g.fi,g.ph,g.F⟩
    ·have l:=wD (c:=c) (X:=Y) (Y:=(Y.dv v (.aP π j,.fn 95 [.d (.bm [iN (c.lg π j)] 0),.d (.bm [.bool (c.nan π j)] 0),.ref k 0,.ref t 0])).kC π j) (i0:= .lv π j) (a:=1) (b:=0) (λh A=>by
      cases h with
      |lv a b=>
       simp only[aw.cu,avW]at A⊢;by_cases e:(a,b)=(π,j)
       ·simp only[aw.kC,au2 e]at A;cases A
       ·simp only[aw.kC,auU e]at A;exact A
      |_=>exact A) S'.1 (by simp only[aw.cu];rw[z.lv,ZH];rfl) (by simp[aw.cu,aw.kC]) (by simp[aw.kC,aw.dv]) (auK _)
     have h3:=m.2.2.1;omega
   let Iv:M->Hp->Prop:= λco i=>i[k]?=some (Ob.box [.ref (X.A .it) 0])/\i[X.A .it]?=some (Ob.box [.ref (Y.A .un) 0,.ref (Y.A (.fr [])) 0,.d (.bool false),bM (Y.A .af) Y.vF Y.F.length,co])
   by_cases C:Y.N= []
   ·have e0:bM (Y.A .nx) Y.vN Y.N.length= .d (.sl []):=by simp[C,bM]
    rw[e0]at s;refine dC [] W ?_;apply QZ (Iv (.d (.sl []))) (⟨o.2,s⟩) bN
    ·intro s0 Oo;refine PF W W (λi f=>⟨_,f.1,rfl⟩)<|PF W W (λi f=>⟨_,f.1,rfl⟩)<|iR 2 W<|PF W W (λi f=>⟨_,f.2,rfl⟩) ?_;apply Py
     ·skip
      refine ft W W<|TF.nil ⟨W,W⟩
     apply Py
     ·skip
      refine et (cs:=[_]) W W W W W W<|TF.nil ⟨W,W⟩
     apply Py
     ·skip
      refine pP true W W W (mI _ _) W W (by decide) (by decide)<|TF.nil ⟨rfl,rfl⟩
     refine iR 2 W ?_;apply Py
     ·skip
      refine fE W W (bB (bB s)) W W W<|TF.nil ⟨W,W⟩
     exact jJ.nil ⟨by kernel_rfl,by repeat' first|exact trivial|exact .inl ((by first|exact⟨bB o.2,bB s⟩|exact⟨bB (bB o.2),bB (bB s)⟩))|exact .inr (by kernel_rfl)|refine⟨?_,?_⟩,rfl⟩
    refine⟨_,W,QF _ ?_⟩;simp only[aw.dr,au2 C,auN,avd,R];rfl
   ·have e0:bM (Y.A .nx) Y.vN Y.N.length= .bH (Y.A .nx) Y.vN Y.N.length:=by unfold bM;rw[auU];intro e;exact C (avA e)
    rw[e0]at s;have t3:=z7 (c:=c) (X:=Y) (by have:=m.2.2.1;omega);have PS:Y.A .nx≠X.A .it:=by rw[<-R];exact m.1.lay.ne (r:= .nx) (r':= .it) C trivial (by simp)
    refine dC [] W ?_;apply QZ (Iv (.bH (Y.A .nx) Y.vN Y.N.length)) (⟨o.2,s⟩) bN
    ·intro s0 Oo;refine PF W W (λi f=>⟨_,f.1,rfl⟩)<|PF W W (λi f=>⟨_,f.1,rfl⟩)<|iR 2 W<|PF W W (λi f=>⟨_,f.2,rfl⟩) ?_;apply Py
     ·skip
      refine ft W W<|TF.nil ⟨W,W⟩
     apply Py
     ·skip
      refine et (cs:=[_]) W W W W W W<|TF.nil ⟨W,W⟩
     apply Py
     ·skip
      refine pQ W W W (mI _ _) (bB (wF m.1.lay C)) W (by omega) (by omega)<|TF.nil ⟨rfl,rfl⟩
     refine iR 2 W ?_;apply Py
     ·skip
      refine fE W W (gu (bB s) PS) W W W<|TF.nil ⟨W,W⟩
     exact jJ.nil ⟨by kernel_rfl,by repeat' first|exact trivial|exact .inl ((by first|exact⟨bB o.2,bB s⟩|exact⟨gu (bB o.2) (by intro e;have:=m.1.lay.own .nx C;rw[e,o.1]at this;cases this),gu (bB s) PS⟩))|exact .inr (by kernel_rfl)|refine⟨?_,?_⟩,rfl⟩
    refine⟨_,W,QF _ ?_⟩;simp only[aw.dr,auU C,R];rfl
end
section
variable{P:Pg}{n:Nat}{c:aK}{d:Nd}{u:US}{X:aw}{H:Hp}
theorem cF.free(h:cF P n c d X H){a:Nat}{t:Ob}(ob:Ob)(p:X.own a=none)(j:H[a]?=some t)(T: ∀m,t≠ .box [m]):cF P n c d X (H.set a ob):=by
 have i: ∀b m,X.box H b m->X.box (H.set a ob) b m:=by
  rintro b m ⟨g,f⟩;refine⟨g,?_⟩;rw[auT (by rintro rfl;rw[j]at f;injection f with f;exact T m f)];exact f
 refine⟨h.own,λb l q=>by simpa using h.lt b l q,λl u=> ?_,λw z A B=> ?_,λo r=> ?_,λo r=> ?_⟩
 ·obtain⟨x,g,f⟩:=h.ob l u;exact⟨x,by rw[auT (by rintro rfl;rw[h.own l u]at p;cases p)];exact g,f⟩
 ·exact(h.sub w z A B).frame (λb q=>auT (by rintro rfl;rw[q]at p;cases p)) (by simp)
 ·have:=h.nx o r
  revert this
  generalize o.1=C;intro this;cases C with
  |cell ac V=>obtain⟨j,b,s,g,f,k⟩:=this;exact⟨j,b,s,g,i _ _ f,i _ _ k⟩
  |aP Y Z=>obtain⟨j,b,s,g,f,k⟩:=this;exact⟨j,b,s,g,i _ _ f,i _ _ k⟩
  |arrow U=>obtain⟨b,g,f⟩:=this;exact⟨b,g,i _ _ f⟩
  |put U v=>obtain⟨b,g,f⟩:=this;exact⟨b,g,i _ _ f⟩
 ·obtain⟨D,E,F,G,e,y,I,g,f,k,J,K,L⟩:=h.af o r;obtain⟨M,N,O,Q,R,S⟩:=K;exact⟨D,E,F,G,e,y,I,g,i _ _ f,i _ _ k,i _ _ J,⟨M,N,O,Q,i _ _ R,i _ _ S⟩,L⟩
theorem br.free{E:Path×Nat->Prop}{d:aw}{H0:Hp}(h:br c E d H0 X H){a:Nat}(g:H0.length<=a)(ob:Ob):br c E d H0 X (H.set a ob):=
 {h with len:=by simpa using h.len,iY:= λb e f=>⟨(h.iY b e f).1,(auT (by omega)).trans (h.iY b e f).2⟩}
theorem cF.Dd(h:cF P n c d X H){σ:Path×Nat}(hf:X.fs σ.1≠2)(s:Nat)(r:X.cs σ.1 σ.2≠3)(w:s≠3):cF P n c d (X.cS σ s) H:=by
 refine⟨λf i=>h.own f (by cases f<;>exact i),h.lt,λf i=> ?_,h.sub,λg j=> ?_,λg j=>h.af g j⟩
 ·obtain⟨x,y,k⟩:=h.ob f (by cases f<;>exact i);refine⟨x,y,?_⟩;cases f with
  |ce a u=>
   obtain⟨z,A,B,v,l,m,C,o,p⟩:=k;have t:(a,u)≠σ:=by rintro rfl;exact hf i.1
   exact⟨z,A,B,v,l,m,by rw[bI X t];exact C,by rw[bI X t];exact o,p⟩
  |am a=>
   obtain⟨D,l,m,o,p⟩:=k;refine⟨D,l,m,λE b F=> ?_,p⟩;rw[show(X.cS σ s).A=X.A from rfl,o E b F];unfold aw.oS;by_cases e:(b::a,0)=σ
   ·subst e;rw[cp X (b::a,0) s];simp only at r;rw[auU (λq:X.dn a b=true/\X.cs (b::a) 0=3=>r q.2),auU (λq:(X.cS (b::a,0) s).dn a b=true/\s=3=>w q.2)];rfl
   ·rw[bI X e];rfl
  |_=>exact k
 ·have:=h.nx g j
  revert this
  generalize g.1=G;intro this;cases G<;>exact this
theorem br.Dd{σ:Path×Nat}{s:Nat}(h:X.cs σ.1 σ.2=2->s=2)(i:X.cs σ.1 σ.2=3->s=3)(j:s≠0):br c (·=σ) X H (X.cS σ s) H:=by
 refine{c0:= ?_,f0:= λ_ f=>f,len:=auK _,iY:= λ_ _ k=>⟨k,rfl⟩,A:= λg l=>⟨by cases g<;>exact l,W⟩,aL:= λ_ _=>⟨rfl,rfl⟩,f2:= λ_ f=>f,f1:= λ_=>avU,c1:= ?_,c2:= ?_,c3:= ?_,c4:= ?_,dn:= λ_ _ f=>f,sj:= λ_ _ _ _=>rfl,lv:=rfl,S:= λ_ _ f=>f,fi:=rfl,ph:=rfl,F:=⟨[],by simp[aw.cS]⟩}
 ·intro a b e;by_cases d:(a,b)=σ
  ·subst d;rw[cp X (a,b) s]at e;exact absurd e j
  ·rw[bI X d]at e;exact e
 ·intro a b e;rw[bI X e]
 ·intro a b e;by_cases d:(a,b)=σ
  ·subst d;rw[cp X (a,b) s];exact h e
  ·rw[bI X d];exact e
 ·intro a b e;by_cases d:(a,b)=σ
  ·subst d;rw[cp X (a,b) s];exact i e
  ·rw[bI X d];exact e
 ·intro a b m e _;rw[bI X e]
theorem Eu{ins outs:List Int}{u':US}(s:gy P (d_ P n) c d u ins outs u')(i:cV P n c d u X H){π:Path}{j:Nat}{q:aB}(l:(c.fr π).au[j]?=some q)(t:q.kd=2)(v:X.dn π j=false)(g:X.cs (j::π) 0=0)(w:It.call π j∈c.ap):
  X.fs (j::π)≠2/\cV P n c d u (X.cS (j::π,0) 1) H/\br c (·=(j::π,0)) X H (X.cS (j::π,0) 1) H/\(X.cS (j::π,0) 1).T c+c.wt (.call π j)<=X.T c:=by
 have m:X.fs (j::π)≠2:= λe=>by
  obtain⟨_,y,h,z⟩:=s.i_ j π (i.pu.fp j π (by omega)).2;rw[l]at h;injection h with h;subst h;omega
 refine⟨m,⟨i.lay.Dd (σ:=(j::π,0)) m 1 (by grind) (by decide),i.pu.cS (σ:=(j::π,0)) (by omega) (λe=>by cases e) (λe=>by cases e) (λe=>by cases e) (λe=>by simp only[g]at e;cases e) (λe=>by grind) (λe=>by cases e) (λe=>by omega) (λ_ _ _ _ _ _=>rfl) (.inr ⟨rfl,j,π,q,rfl,l,t⟩)⟩,br.Dd (σ:=(j::π,0)) (λe=>by simp only[g]at e;cases e) (λe=>by simp only[g]at e;cases e) (by decide),?_⟩
 ·refine wD (a:=0) (b:=0) (λp f=> ?_) w (by simp[aw.cu,g,v]) (by have:=cp X (j::π,0) 1;simp only at this;simp[aw.cu,this]) (auK _) (auK _);cases p with
  |cell k r=>
   simp only[aw.cu,awF]at f⊢;by_cases e:(k,r)=(j::π,0)
   ·grind
   ·rw[bI X e]at f;exact f
  |call k x=>
   simp only[aw.cu,avf,awF]at f⊢;refine⟨f.1,?_⟩;have o:=f.2;by_cases e:(x::k,0)=(j::π,0)
   ·grind
   ·rw[bI X e]at o;exact o
  |_=>exact f
end
end Go.Proofs.Sz
namespace Go.Sm
open Go.Mt
def bF(l:List Int):List (List D):=l.map λz=>[.int .i32 z]
end Go.Sm
namespace Go.Proofs.Sz
open Go.Mt Go.Sm Go.Proofs
open Tryz
def rA(P:Pg)(n:Nat):Prop:= ∀(u:US) (ins outs:List Int) (u':US) (iu:Nat) (F:Nat->Prop) (H:Hp),d_ P n u ins outs u'->iZ P n u iu F H->
 DT prog 27 [.ref iu 0,.d (.sl (bF ins))] H λm K=>m= .dq [.d (.sl (bF outs)),.d (.bool true)]/\ ∃F',iZ P n u' iu F' K/\(∀a,F' a->F a\/H.length<=a)/\H.length<=K.length/\ ∀a,a<H.length-> ¬F a->K[a]?=H[a]?
section
variable{P:Pg}{n:Nat}{c:aK}{d:Nd}{u:US}{X:aw}{H K:Hp}
open Classical in
noncomputable def aw.gV(X:aw)(p:Nat)(u':US)(iu:Nat)(F:Nat->Prop):aw:= {X with
 own:= λa=>if F a then some (.sb p)else if X.own a=some (.sb p)then none else X.own a
 x:=⟨X.x.m,X.x.p,cg X.x.s p (some u')⟩
 ad:=cg X.ad p iu}
theorem xu(X:aw){p:Nat}{u':US}{iu:Nat}{F:Nat->Prop}{a:Nat}(c: ∀a,F a->X.own a=some (.sb p)\/H.length<=a)(d: ∀a r,X.own a=some r->a<H.length){r:Ro}(e:r≠ .sb p):(X.gV p u' iu F).own a=some r↔X.own a=some r:=by
 unfold aw.gV;simp only;by_cases b:F a
 ·grind
 ·grind
theorem Ev(X:aw){p:Nat}{u':US}{iu:Nat}{F:Nat->Prop}{a:Nat} :(X.gV p u' iu F).own a=some (.sb p)↔F a:=by
 unfold aw.gV;simp only;by_cases b:F a
 ·grind
 ·grind
theorem Gm(X:aw){p:Nat}{u':US}{iu:Nat}{F:Nat->Prop}(d: ∀a,F a->X.own a=some (.sb p)\/H.length<=a){a:Nat}(e:a<H.length)(b:X.own a=none):(X.gV p u' iu F).own a=none:=by
 unfold aw.gV;simp only;rw[auU (λc=>by
  grind),auU (by rw[b];simp)]
 exact b
theorem cF.gV(h:cF P n c d X H){p:Nat}{u':US}{iu:Nat}{F:Nat->Prop}(f:iZ P n u' iu F K)(l: ∀b,F b->X.own b=some (.sb p)\/H.length<=b)(y:H.length<=K.length)
  (s: ∀b,b<H.length->X.own b≠some (.sb p)->b≠X.A .su->K[b]?=H[b]?) (E:K[X.A .su]?=some (.row false 1 0 (bE (bW d) (fA (cg X.x.s p (some u')) (cg X.ad p iu))))):
  cF P n c d (X.gV p u' iu F) K/\br c (λ_=>False) X H (X.gV p u' iu F) K:=by
 have lt:=h.lt;have m: ∀b,b<H.length->X.own b=none->(X.gV p u' iu F).own b=none/\K[b]?=H[b]?:= λb j i=>⟨Gm (H:=H) X l j i,s b j (by rw[i];simp) (by rintro rfl;rw[h.own .su trivial]at i;cases i)⟩
 have o: ∀a,X.live c a->(X.gV p u' iu F).live c a/\(X.gV p u' iu F).A a=X.A a:= λa f=>⟨by cases a<;>exact f,W⟩
 have q: ∀a,(X.gV p u' iu F).live c a->X.live c a:= λa f=>by cases a<;>exact f
 have G: ∀a,X.live c a->a≠ .sb p:=by rintro a f rfl;exact f
 refine⟨⟨λa f=>(xu (H:=H) X l lt (G a (q a f))).2 (h.own a (q a f)),λb a i=> ?_,λa I=> ?_,λg A J k=> ?_,λr t=>(h.nx r t).up m o,λr t=>(h.af r t).up m o⟩,?_⟩
 ·by_cases z:a= .sb p
  ·subst z;exact f.lt b (Ev X|>.1 i)
  ·have:=lt b a ((xu (H:=H) X l lt z).1 i);omega
 ·have x:=q a I;by_cases u:a= .su
  ·subst u;exact⟨_,E,W⟩
  ·obtain⟨B,C,D⟩:=h.ob a x;have i:=h.own a x;refine⟨B,(s _ (lt _ _ i) (by grind) (h.ne x trivial u)).trans C,?_⟩;cases a with
   |su=>exact absurd W u
   |_=>exact D
 ·by_cases e:g=p
  ·subst e;have v:(X.gV g u' iu F).x.s g=some u':=by simp[aw.gV,cg]
   rw[v]at k;injection k with k
   subst k;have w:(X.gV g u' iu F).ad g=iu:=by simp[aw.gV,cg]
   rw[w];exact f.congr λb=>(Ev X).symm
  ·have v:(X.gV p u' iu F).x.s g=X.x.s g:=by simp[aw.gV,cg,e]
   rw[v]at k;have w:(X.gV p u' iu F).ad g=X.ad g:=by simp[aw.gV,cg,e]
   rw[w];refine((h.sub g A J k).frame (λb j=>s b (lt b _ j) (by grind) (by rintro rfl;rw[h.own .su trivial]at j;cases j)) y).congr λb=>(xu (H:=H) X l lt (by grind)).symm
 ·exact{c0:= λ_ _ h=>h,f0:= λ_ h=>h,len:=y,iY:=m,A:=o,aL:= λ_ _=>⟨rfl,rfl⟩,f2:= λ_ h=>h,f1:= λ_=>avU,c1:= λ_ _ _=>avU,c2:= λ_ _ h=>h,c3:= λ_ _ h=>h,c4:= λ_ _ _ _ _=>avU,dn:= λ_ _ h=>h,sj:= λ_ _ _ _=>rfl,lv:=rfl,S:= λ_ _ h=>h,fi:=rfl,ph:=rfl,F:=⟨[],by simp[aw.gV]⟩}
def aw.lM(X:aw)(π:Path)(j:Nat):aw:= {X with dn:= λa b=>if(a,b)=(π,j)then true else X.dn a b}
theorem z9(X:aw)(π:Path)(j:Nat):(X.lM π j).dn π j=true:=au2 W
theorem oG(X:aw){π:Path}{j:Nat}{a:Path}{b:Nat}(h:(a,b)≠(π,j)):(X.lM π j).dn a b=X.dn a b:=auU h
theorem wH(X:aw){π:Path}{j:Nat}{a:Path}{b:Nat}(h:X.dn a b=true):(X.lM π j).dn a b=true:=by
 by_cases e:(a,b)=(π,j)
 ·injection e with c d;subst c;subst d;exact z9 X _ _
 ·rw[oG X e];exact h
theorem cF.lM(h:cF P n c d X H){π:Path}{j:Nat}(p:X.cs (j::π) 0≠3):cF P n c d (X.lM π j) H:=by
 refine⟨λf i=>h.own f (by cases f<;>exact i),h.lt,λf i=> ?_,h.sub,λg k=> ?_,λg k=>h.af g k⟩
 ·obtain⟨r,s,q⟩:=h.ob f (by cases f<;>exact i);refine⟨r,s,?_⟩;cases f with
  |am b=>
   obtain⟨t,l,m,u,v⟩:=q;refine⟨t,l,m,λw a x=> ?_,v⟩;rw[show(X.lM π j).A=X.A from rfl,u w a x];unfold aw.oS;by_cases e:(b,a)=(π,j)
   ·injection e with l m
    subst l;subst m;rw[auU (λo:X.dn b a=true/\X.cs (a::b) 0=3=>p o.2),auU (λo:(X.lM b a).dn b a=true/\(X.lM b a).cs (a::b) 0=3=>p o.2)];rfl
   ·rw[oG X e];rfl
  |_=>exact q
 ·have:=h.nx g k
  revert this
  generalize g.1=y;intro this;cases y<;>exact this
theorem br.lM{π:Path}{j:Nat}(h:X.cs (j::π) 0=1):br c (·=(j::π,0)) X H (X.lM π j) H:=
 {
  c0:= λ_ _ a=>a,f0:= λ_ a=>a,len:=auK _,iY:= λ_ _ e=>⟨e,rfl⟩,A:= λd f=>⟨by cases d<;>exact f,W⟩,aL:= λ_ _=>⟨rfl,rfl⟩,f2:= λ_ a=>a,f1:= λ_=>avU,c1:= λ_ _ _=>avU,c2:= λ_ _ a=>a,c3:= λ_ _ a=>a,c4:= λ_ _ _ _ _=>avU,dn:= λ_ _ a=>wH X a,
  sj:= λg b i _=>oG X (by grind),lv:=rfl,S:= λ_ _ a=>a,fi:=rfl,ph:=rfl,F:=⟨[],by simp[aw.lM]⟩}
theorem Pu.called(z:oF P n c d u)(h:Pu P c d u X){π:Path}{j:Nat}{q:aB}{p:Nat}{iu:Nat}{F:Nat->Prop}(hf:X.fs π=2)(A:(c.fr π).au[j]?=some q)(w:q.kd=2)(i:(c.fr π).pos[j]?=some p)(K:X.cs (j::π) 0=1)(hd:X.dn π j=false)(ht:c.jg π q)(L: ∀E∈c.ew π j,X.SS c E.1 E.2):
  Pu P c d u ((X.gV p (c.iP π j) iu F).lM π j):=by
 have Z: ∀g a f,X.DC c g a f->((X.gV p (c.iP π j) iu F).lM π j).DC c g a f:= λg a f k=>⟨k.1,wH _ k.2.1,k.2.2⟩
 have ah:((X.gV p (c.iP π j) iu F).lM π j).DC c p π j:=⟨hf,z9 _ _ _,q,A,w,i⟩;have ac: ∀g a f,((X.gV p (c.iP π j) iu F).lM π j).DC c g a f-> ¬(a,f)=(π,j)->X.DC c g a f:= λg a f k x=>⟨k.1,by have:=k.2.1;rw[oG _ x]at this;exact this,k.2.2⟩
 have G: ∀g,((X.gV p (c.iP π j) iu F).lM π j).x.s g=cg X.x.s p (some (c.iP π j)) g:= λ_=>rfl
 refine{f0:=h.f0,fp:=h.fp,f2:=h.f2,c6:=h.c6,ci:=h.ci,cv:=h.cv,ca:=h.ca,xm:=h.xm,xp:=h.xp,xd:= ?_,xs:= ?_,s1:=h.s1,s2:= ?_,s3:= ?_,s4:=h.s4,s5:=h.s5,dl:= ?_,nk:= ?_,fk:= λp i=>⟨(h.fk p i).ev,(h.fk p i).fs,(h.fk p i).lt,(h.fk p i).wr,(h.fk p i).sm,(h.fk p i).own,(h.fk p i).sz⟩,fl:=h.fl,fn:=h.fn,g0:= ?_,dz:= ?_,cz:=h.cz}
 ·intro g B a f k;rw[G];by_cases e:(a,f)=(π,j)
  ·injection e with l m
   subst l;subst m;obtain⟨_,_,o,y,_,t⟩:=k;rw[i]at t;injection t with t
   subst t;simp[cg]
  ·have r:=ac g a f k e;obtain⟨M,_,o,y,C,t⟩:=id r;have x:g≠p:=by
    rintro rfl;obtain⟨l,m⟩:=z.inj π j q a f o g (Pu.ok z h hf) (Pu.ok z h M) A y w C i t;exact e (by rw[l,m])
   simp only[cg,auU x];exact h.xd g B a f r
 ·intro g B N;have x:g≠p:=by grind
  rw[G];simp only[cg,auU x];exact h.xs g B λa f k=>N a f (Z g a f k)
 ·intro I O v a f o r Q R S T U V;obtain⟨J,b,e⟩:=h.s2 I O v a f o r Q R S T U V;exact⟨J,b,λw=>wH _ (e w)⟩
 ·intro a f D s;by_cases e:(a,f)=(π,j)
  ·injection e with l m
   subst l;subst m;exact⟨⟨q,A,w,ht⟩,L⟩
  ·rw[oG _ e]at s;exact h.s3 a f D s
 ·intro a f o D s H;by_cases e:(a,f)=(π,j)
  ·injection e with l m
   subst l;subst m;have:X.cs (f::a) 0=3:=H;omega
  ·rw[oG _ e]at s;exact h.dl a f o D s H
 ·intro p i;have r:=h.nk p i
  revert r
  generalize p.1=Y;intro r;cases Y<;>exact r
 ·intro a f o y C;by_cases e:(a,f)=(π,j)
  ·injection e with l m
   subst l;subst m;exact .inr (.inl K)
  ·rw[oG _ e];exact h.g0 a f o y C
 ·intro a f s;by_cases e:(a,f)=(π,j)
  ·injection e with l m
   subst l;subst m;exact hf
  ·rw[oG _ e]at s;exact h.dz a f s
theorem I7{π:Path}{j:Nat}{p iu:Nat}{u':US}{F:Nat->Prop} :((X.gV p u' iu F).lM π j).T c<=X.T c:=by
 refine Da (a:=0) (b:=0) (λg d=> ?_) (auK _) (auK _);cases g with
 |call a b=>
  simp only[aw.cu,avf,avW,awF]at d⊢;refine⟨?_,d.2⟩;cases e:X.dn a b with
  |false=>rfl
  |true=>have f:=d.1;rw[wH (X.gV p u' iu F) e]at f;cases f
 |_=>exact d
theorem cF.z_(h:cF P n c d X H){π:Path}{j:Nat}(hf:X.fs π=2)(x:X.fs (j::π)=0)(y:X.dn π j=true){q:aB}(N:(c.fr π).au[j]?=some q){es:List (D×M)}(K:H[X.A (.am π)]?=some (.map es)):
  cF P n c d (X.cS (j::π,0) 3) (H.set (X.A (.am π)) (.map (jz (X.A (.pl π j)) 0 (.ref (X.A (.fr π)) 0) es))):=by
 have z:j<(c.fr π).au.length:=by
  grind
 obtain⟨A,f,O,rfl,t,B,Q⟩:=h.ob (.am π) (by show 1<=X.fs π;omega);rw[K]at f;injection f with f
 injection f with f
 subst f;have u: ∀b a,a<(c.fr b).au.length->(a::b,0)≠(j::π,0)->(X.cS (j::π,0) 3).oS b a=X.oS b a:= λb a _ g=>by unfold aw.oS;rw[bI X g];rfl
 refine h.zZ (.am π) (by show 1<=X.fs π;omega) _ W W W W W W (λr=>by cases r<;>exact avU) ⟨_,W,o_ _ _ _ t,λ_ a i=> ?_,λe=>by have:X.fs π=1:=e;omega⟩ (λr A R C l=> ?_)
 ·rw[pR _ _ _ _ _ t];by_cases e:a=j
  ·subst e;rw[au2 ⟨rfl,rfl⟩];unfold aw.oS;rw[auU (show ¬(X.cS (a::π,0) 3).fs (a::π)≠0 fromλm=>m x),au2 ⟨y,cp X (a::π,0) 3⟩];rfl
  ·rw[auU (λm=>h.ne (r:= .pl π a) (r':= .pl π j) ⟨hf,i⟩ ⟨hf,z⟩ (by grind) m.1),u π a i (by grind)];exact B hf a i
 ·cases r with
  |ce b v=>
   obtain⟨E,F,G,w,k,o,p,s,I⟩:=l;have g:(b,v)≠(j::π,0):=by
    intro e;injection e with k _
    subst k;have:X.fs (j::π)=2:=C.1;omega
   exact⟨E,F,G,w,k,o,by rw[bI X g];exact p,by rw[bI X g];exact s,I⟩
  |am b=>
   obtain⟨L,k,o,p,s⟩:=l;refine⟨L,k,o,λJ a i=> ?_,s⟩;have g:(a::b,0)≠(j::π,0):=by grind
   rw[u b a i g];exact p J a i
  |_=>exact l
theorem Pu.z_(h:Pu P c d u X){π:Path}{j:Nat}{q:aB}(D:(c.fr π).au[j]?=some q)(Q:q.kd=2)(R:c.val (j::π) 0=none)(S:X.fs (j::π)=0)(E:X.dn π j=true)(T:X.cs (j::π) 0=1)(F: ∀z∈q.lhs,∀w,c.find π z=some w->X.cs w.1 w.2=2\/X.cs w.1 w.2=4):Pu P c d u (X.cS (j::π,0) 3):=by
 refine{f0:=h.f0,fp:=h.fp,f2:=h.f2,xm:=h.xm,xp:=h.xp,xd:=h.xd,xs:=h.xs,s3:=h.s3,s4:=h.s4,s5:=h.s5,fl:=h.fl,fn:=h.fn,dz:=h.dz,fk:= λi k=>⟨(h.fk i k).ev,(h.fk i k).fs,(h.fk i k).lt,(h.fk i k).wr,(h.fk i k).sm,(h.fk i k).own,(h.fk i k).sz⟩,c6:= ?_,ci:= ?_,cv:= ?_,ca:= ?_,s1:= ?_,s2:= ?_,dl:= ?_,nk:= ?_,g0:= ?_,cz:= ?_}
 ·intro f a;by_cases e:(f,a)=(j::π,0)
  ·injection e with b p;subst b;subst p;rw[cp X (j::π,0) 3];omega
  ·rw[bI X e];exact h.c6 f a
 ·intro a G;rw[bI X (by grind)];exact h.ci a G
 ·intro f a r;by_cases e:(f,a)=(j::π,0)
  ·injection e with b p;subst b;subst p;rw[cp X (j::π,0) 3]at r;cases r
  ·rw[bI X e]at r;exact h.cv f a r
 ·intro f a r;by_cases e:(f,a)=(j::π,0)
  ·grind
  ·rw[bI X e]at r;exact h.ca f a r
 ·intro f a i v n o;have e:(f,a)≠(j::π,0):=by intro e;injection e with b _;subst b;have:X.fs (j::π)=2:=n;omega
  rw[bI X e]at o;exact h.s1 f a i v n o
 ·intro g H v l m x n o;have e:(g.1,g.2)≠(j::π,0):=by intro e;injection e with b _;rw[b]at n;have:X.fs (j::π)=2:=n;omega
  rw[bI X e]at o;exact h.s2 g H v l m x n o
 ·intro l m x n I C s z A g B;by_cases e:(m::l,0)=(j::π,0)
  ·injection e with b _
   injection b with b p
   subst b;subst p;rw[D]at s;injection s with s
   subst s;have y:(g.1,g.2)≠(m::l,0):=by
    grind
   rw[bI X y];exact F z A g B
  ·rw[bI X e]at C;have t:=h.dl l m x n I C s z A g B;have y:(g.1,g.2)≠(j::π,0):=by
    grind
   rw[bI X y];exact t
 ·intro i k;have t:=h.nk i k
  revert t
  generalize i.1=J;intro t;cases J with
  |cell U g=>
   obtain⟨K,L,M,N⟩:=t;have y:(g.1,g.2)≠(j::π,0):=by grind
   exact⟨K,L,by rw[bI X y];exact M,N⟩
  |_=>exact t
 ·intro l m x s O;by_cases e:(m::l,0)=(j::π,0)
  ·injection e with b _
   injection b with b p
   subst b;subst p;exact .inr (.inr ⟨cp X (m::l,0) 3,E⟩)
  ·rw[bI X e];exact h.g0 l m x s O
 ·intro f a o;by_cases e:(f,a)=(j::π,0)
  ·grind
  ·rw[bI X e]at o;exact h.cz f a o
theorem br.z_(h:cF P n c d X H){π:Path}{j:Nat}(hf:X.fs π=2)(f:X.cs (j::π) 0=1)(ob:Ob):br c (·=(j::π,0)) X H (X.cS (j::π,0) 3) (H.set (X.A (.am π)) ob):=by
 exact{(br.Dd (c:=c) (X:=X) (H:=H) (σ:=(j::π,0)) (s:=3) (λe=>by grind) (λ_=>rfl) (by decide))with len:=by simp,iY:= λb g a=>⟨a,auT (by rintro rfl;rw[h.own (.am π) (by show 1<=X.fs π;omega)]at a;cases a)⟩}
theorem br.Kx{E:Path×Nat->Prop}{Y:aw}{σ:Path×Nat}(h:br c (λg=>E g\/g=σ) X H Y K)(m:X.cs σ.1 σ.2=0)(n:Y.cs σ.1 σ.2=3):br c E X H Y K:=by
 refine{h with c1:= λa b d=> ?_,c4:= λa b i d k=> ?_,sj:= λa j d l=> ?_}
 ·by_cases e:(a,b)=σ
  ·grind
  ·exact h.c1 a b λf=>f.elim d e
 ·by_cases e:(a,b)=σ
  ·grind
  ·exact h.c4 a b i (λf=>f.elim d e) k
 ·exact h.sj a j (λf=>f.elim d (by grind)) l
end
section
variable{P:Pg}{n:Nat}{c:aK}{d:Nd}{u:US}{X:aw}{H K:Hp}
def Bi(Y:aw)(b:Nat)(rs:List (List D))(m:M)(K:Hp):Prop:=
 (rs= []/\m= .d (.sl []))\/(rs≠ []/\ ∃a aL,m= .bH a aL rs.length/\K[a]?=some (.row true 1 aL (bf rs))/\Y.own a=none/\b<=a)
theorem Bi.acc{Y:aw}{b:Nat}{rs:List (List D)}{m:M}(h:Bi Y b rs m K): ∃a,Acc 1 a rs m K:=by
 rcases h with⟨c,d⟩|⟨c,a,e,d,f,_⟩
 ·exact⟨0,.inl ⟨c,d⟩⟩
 ·exact⟨a,.inr ⟨c,e,d,f⟩⟩
theorem Bi.up{Y Z:aw}{L:Hp}{b:Nat}{rs:List (List D)}{m:M}(h:Bi Y b rs m K)(g: ∀a,a<K.length->Y.own a=none->Z.own a=none/\L[a]?=K[a]?):Bi Z b rs m L:=by
 rcases h with h|⟨d,a,e,f,c,i,j⟩
 ·exact .inl h
 ·obtain⟨k,l⟩:=g a (lr c) i;exact .inr ⟨d,a,e,f,l.trans c,k,j⟩
theorem Bi.app{Y l:aw}{H0:Hp}{E:Path×Nat->Prop}{rs:List (List D)}{m:M}(h:Bi Y H0.length rs m K)(f:cF P n c d Y K)(g:br c E l H0 Y K)(r:List D):
  Bi Y H0.length (rs++ [r]) (iA m K [r]) (fm 1 m K [r])/\cF P n c d Y (fm 1 m K [r])/\br c E l H0 Y (fm 1 m K [r]):=by
 rcases h with⟨rfl,rfl⟩|⟨q,a,b,rfl,i,o,p⟩
 ·have j:fm 1 (.d (.sl [])) K [r]=K++ [.row true 1 0 (bf [r])]:=rfl;have k:iA (.d (.sl [])) K [r]= .bH K.length 0 1:=rfl;rw[j,k];refine⟨.inr ⟨by simp,K.length,0,rfl,by simp,?_,g.len⟩,f.grow _,g.trans (br.grow c E Y K _)⟩;cases e:Y.own K.length with
  |none=>rfl
  |some r=>have:=f.lt _ r e;omega
 ·have j:fm 1 (.bH a b rs.length) K [r]=K.set a (.row true 1 (b+1) (bf rs++bf [r])):=by simp only[fm,i]
  have k:iA (.bH a b rs.length) K [r]= .bH a (b+1) (rs.length+1):=rfl;rw[j,k];refine⟨.inr ⟨by simp,a,b+1,by simp,?_,o,p⟩,f.free _ o i (λm e=>by cases e),g.free p _⟩;rw[gC i];simp[bf]
theorem iZ.Ky{P:Pg}{n:Nat}{u:US}{iu:Nat}{F:Nat->Prop}(h:iZ P 1 u iu F K)(b:1<=n):iZ P n u iu F K:=by
 induction n with
 |zero=>omega
 |succ m a=>
  rcases avl m with e|e
  ·grind
  ·exact(a e).up
theorem tV{l:List Nd}{x:Nm}{i:Nat}(h:cZ l x=some i): ∃d,l[i]?=some d/\d.name=x:=by
 unfold cZ at h;rw[avq]at h;obtain⟨a,b,_⟩:=h;exact⟨l[i],auO a,by grind⟩
theorem I8{n:Nat}{f:Nat->Option US}{ad:Nat->Nat}{k iu:Nat}{uu:US}(h:k<n):ep (bE n (fA f ad)) (((k:Nat):Int).toNat*1) [.ref iu 0]=some (bE n (fA (cg f k (some uu)) (cg ad k iu))):=by
 rw[oe _ h];refine av3 some (av3 (bE n) (funext λa=> ?_));unfold tH fA cg;by_cases e:a=k
 ·subst e;simp
 ·simp[e]
theorem Gn{n:Nat}{f:Nat->Option US}{ad:Nat->Nat}{k iu:Nat}{uu b:US} :bE n (fA (cg f k (some uu)) (cg ad k iu))=bE n (fA (cg f k (some b)) (cg ad k iu)):=by
 refine av3 (bE n) (funext λa=> ?_);unfold fA cg;by_cases e:a=k
 ·subst e;simp
 ·simp[e]
end
section
variable{P:Pg}{n:Nat}{c:aK}{d:Nd}{u:US}{X:aw}{H K:Hp}
theorem tX{ins outs:List Int}{u':US}(V:oF P n c d u)(Qo:lL P)(hC:gy P (d_ P n) c d u ins outs u')(hSt:rA P n){r:Nat}(hV:e_ P n c d u r):BP P n c d u r:=by
 intro X H hI hT π j a hf z hk hr SM TJ YW Wk mt hE;have o:=hI.lay;have PG:=Pu.ok V hI.pu hf;obtain⟨p,hp,P4⟩:=o.fW hf z;have RN:j<(c.fr π).au.length:=by
  rcases auM j (c.fr π).au.length with o|o
  ·exact o
  ·rw[auP o]at z;cases z
 have hpq:=V.pq π j a p PG z hp;have hqe:=jD a;have RJ:h_ a.kd=1:=by rw[hk];rfl
 have Qt:=V.Ks;have QG:=V.Dc π j a PG z;have hg:=V.gh π j a z hk;have XM:=(hC.eq π j a p PG z hp).1;obtain⟨Vm,ci,pm,w0,w1,x,h0,q,hw,hs,Pm,Pn⟩:p<c.sz/\ ∃ci,cZ P.nodes a.f=some ci/\ ∃(w0 w1:List (Nat×Int)) (x:List Int),(if a.has then gP P.aJ c π (c.ek π j) a.ex (p+1) (c.ev π j) w0 else c.ev π j=0/\w0= [])/\uY P.aJ c π (c.ek π j) a.args (p+1+xP a.ex) x w1/\c.ew π j=w0++w1/\d_ P n (((if c.ev π j=0 then c.rs p else none)).getD (US.init P ci)) x (c.outs π j) (c.iP π j)/\(∀u,c.rs p=some u->u.i=ci)/\a.lhs.length<=(c.outs π j).length:=by
  cases XM with
  |df Qv=>omega
  |sw Qv=>omega
  |aP Qv=>omega
  |reset Qv=>omega
  |call Qv Vm ci pm w0 w1 x h0 q hw hs Pm Pn=>exact⟨Vm,ci,pm,w0,w1,x,h0 SM,q SM,hw,hs SM,Pm SM,Pn SM⟩
 have ZY:p<bW d:=by rw[<-V.Bh];exact Vm
 have S':=(hC.wq π j a PG z).1 hk SM;obtain⟨Sf,t8,R0,hT1⟩:=Eu hC hI z hk TJ YW S'.1;have qr:mq c (X.cS (j::π,0) 1) r:=by
  refine⟨λy k e=> ?_,Wk.f1,λy k=> ?_,Wk.tp⟩
  ·by_cases e':(y,k)=(j::π,0)
   ·injection e' with T e2;subst T;subst e2;rw[hg.1];omega
   ·rw[bI X e']at e;exact Wk.c1 _ _ e
  ·by_cases e':(y,k)=(j::π,0)
   ·injection e' with T e2;subst T;subst e2;rw[cp X (j::π,0) 1];omega
   ·rw[bI X e'];exact Wk.c4 _ _
 rw[hr]at h0 q;have Pp: ∀Y∈c.ew π j,nJ c Y.1 Y.2:= λY hw=> .inl ⟨π,j,a,PG,z,SM,hw⟩
 have XJ:=V.oq π j a p PG z hp;have Wq:(c.ew π j).length=w0.length+w1.length:=by rw[hw];simp
 obtain⟨X1,ZZ⟩: ∃X1,X1=X.cS (j::π,0) 1:=⟨_,rfl⟩;have Pq:X1.fs=X.fs:=by rw[ZZ];rfl
 have f9:X1.A=X.A:=by rw[ZZ];rfl
 have hXd:X1.dn=X.dn:=by rw[ZZ];rfl
 have Pt:X1.cs (j::π) 0=1:=by rw[ZZ];exact cp X (j::π,0) 1
 have hXc: ∀y k,(y,k)≠(j::π,0)->X1.cs y k=X.cs y k:= λy k e=>by rw[ZZ];exact bI X e
 rw[<-ZZ]at t8 R0 hT1 qr;have W_:X1.fs π=2:=by rw[Pq];exact hf
 refine DT.ob func62 W ntmps62 W<|dO [2,23] W<|Po (aA W W P4 W)<|dR [24] W<|Po (az W W W (by omega))<|dL [2] W<|Qy (λPD=> ∃h t,cW P n c d u X1 H w0.length w0 h t/\PD=⟨[nD 8 (.bool (c.ev π j !=0)),nN 6 (p+1),nD 7 (.sl []),nR 0 (X.A .it),nR 1 (X.A (.fr π)),nR 2 (X.A (.pl π j))],[],t⟩) ?_ ?_
 ·cases hh:a.has with
  |false=>
   rw[hh]at h0;simp only[avS,awi]at h0;unfold dK at P4;rw[hh]at P4;refine dO [2,29] W<|Po (aA W W P4 W)<|dL [] W<|⟨_,⟨X1,H,⟨t8,br.refl ..,by omega,by rw[h0.2];intro p hp;cases hp⟩,rfl⟩,cR W (kc (by rw[h0.1];rfl) W)⟩
  |true=>
   rw[hh]at h0;simp only[awr]at h0;obtain⟨m2,K2,⟨rfl,h,QH⟩,QA⟩:=dM V hV π a.ex QG.1 (p+1) (c.ev π j) w0 h0 X1 H t8 (by omega) qr W_ (by omega) (λk i b=>XJ k (by omega) (by omega)) (λY Uy=>Pp Y (by rw[hw];exact auY _ Uy));rw[Xp.aC,f9]at QA;unfold dK at P4;rw[hh]at P4;refine dO [2,29] W<|Po (aA W W P4 W)<|dR [37] W ?_
   first|refine Po (ax W W) ?_|(refine Po (av W) ?_;refine Po (k_ W W P4 W W) ?_)
   refine dR [39] W ?_
   first|refine Po (ax W W) ?_|(refine Po (av W) ?_;refine Po (aq QA W W) ?_)
   refine dL [] W<|⟨_,⟨h,K2,QH,W⟩,cR W W⟩
 rintro _ ⟨Y0,K0,TH,rfl⟩;have Px:K0[X.A (.pl π j)]?=some (.box (dK a p)):=by
  obtain⟨p',I,UQ⟩:=TH.1.lay.fW (TH.2.1.f2 π W_) z;rw[hp]at I;injection I with I
  subst I;rw[(TH.2.1.A (.pl π j) ⟨W_,RN⟩).2,f9]at UQ;exact UQ
 have Q6:=ki a.ex QG.1 (by omega);rw[Xp.aC]at Q6;refine dO [2,47] W<|Po (k_ W W Px W W)<|dR [48] W<|Po (aE Q6 W W)<|dR [49] W<|Po (az W W W (by omega))<|dR [2,54] W<|Po (aA W W Px W)<|dR [55] W<|Po (bp W W W) ?_;rw[au8];refine dL [] W<|Pz [nN 52 0,nN 51 a.args.length,nD 50 (.sl (a.args.map Xp.cells)),nD 7 (.sl []),nN 6 (p+1+xP a.ex),nD 8 (.bool (c.ev π j !=0)),nR 0 (X.A .it),nR 1 (X.A (.fr π)),nR 2 (X.A (.pl π j))] K0 (kc W (kc W (kc W (kc W (kc (by rw[show(((p+1+xP a.ex:Nat):Int))=((p+1:Nat):Int)+((xP a.ex:Nat):Int) by omega];rfl) W))))) W<|dC [] W<|Qy (λPD=> ∃h t Q,cW P n c d u X1 H (c.ew π j).length (c.ew π j) h t/\PD=⟨[nD 7 (.sl (bF x)),nD 8 (.bool (c.ev π j !=0)),nR 0 (X.A .it),nR 1 (X.A (.fr π)),nR 2 (X.A (.pl π j))],Q,t⟩) ?_ ?_
 ·refine dC [3] W<|DC.lp (λk s=> ∃(g:Nat) (h:aw) (t:Hp) (m:M) (i:Nat) (wi ws:List (Nat×Int)) (Q:List (Nat×List M)),s=⟨[nN 52 g,nN 51 a.args.length,nD 50 (.sl (a.args.map Xp.cells)),(7,.m m),nN 6 i,nD 8 (.bool (c.ev π j !=0)),nR 0 (X.A .it),nR 1 (X.A (.fr π)),nR 2 (X.A (.pl π j))],Q,t⟩/\g<=a.args.length/\k=a.args.length-g/\
    cW P n c d u X1 H (w0.length+wi.length) (w0++wi) h t/\w1=wi++ws/\uY P.aJ c π r (a.args.drop g) i (x.drop g) ws/\i=p+1+xP a.ex+aS ((a.args.take g).map xP)/\Bi h H.length (bF (x.take g)) m t/\g<=x.length) a.args.length _
   ⟨0,Y0,K0,_,p+1+xP a.ex,[],w1,_,rfl,by omega,rfl,by simpa using TH,rfl,by simpa using q,by simp[aS],.inl ⟨rfl,rfl⟩,by omega⟩ W ?_
  rintro k s1 ⟨g,h,t,m,i,wi,ws,Q,rfl,hi,rfl,C,gc,Ri,ha,hL,hiv⟩;refine dC [2] W<|DC.cond W (λhc=> ?_) (λhc=> ?_);rotate_left
  ·have e:g=a.args.length:=by have:=au9 hc;omega
   rw[e,awn]at Ri;generalize d9:x.drop a.args.length=vd at Ri;cases Ri;have e2:x.take g=x:=by
    have:=avC g x;rw[e,d9,avg]at this;rw[e];exact this
   rw[e2]at hL;obtain⟨a',Rk⟩:=hL.acc;rw[avg]at gc;rw[<-gc,<-hw]at C;refine DC.cw 7 W (Rk.view (λr hr=>by unfold bF at hr;obtain⟨_,_,rfl⟩:=ava.1 hr;rfl))<|DC.exit ?_;rw[<-Wq]at C;refine⟨_,⟨h,t,Q,C,W⟩,?_⟩;exact cR W W
  have P0:g<a.args.length:=by have:=auV hc;omega
  have U_:=auO P0;have Y_:(a.args.map Xp.cells)[((g:Nat):Int).toNat]?=some (bU a.args[g].kd a.args[g].op a.args[g].num a.args[g].nm a.args[g].names (a.args[g].kids.map Xp.cells) a.args[g].ps):=by simp[P0,Xp.aC]
  have Q8:=avb P0;have t9:=QG.2.2.1 _ Q8;have Ra:=gx xP (l:=a.args) P0;rw[avQ P0]at Ri;generalize d9:x.drop g=vd at Ri;generalize a.args[g]=e at U_ Y_ Q8 t9 Ri Ra;cases Ri with
  |cons he ajr=>
   rename_i v Y vs' ST;have v6:g<x.length:=by
    rcases auM g x.length with o|o
    ·exact o
    ·rw[axo o]at d9;cases d9
   have Us:x[g]?=some v:=by
    have:=av3 (λl=>l[0]?) d9;simpa using this
   have hvt:x.drop (g+1)=vs':=by
    have A:=avQ v6;rw[d9]at A;injection A with _ A
    exact A.symm
   have RB:=C.2.1.f2 π W_;have hlw:(c.ew π j).length=w0.length+wi.length+(Y.length+ST.length):=by rw[Wq,gc];simp;omega
   have VU:=C.2.2.1;obtain⟨m2,K2,⟨rfl,Y2,QH⟩,QA⟩:=dM V hV π e t9 i v Y he h t C.1 (by omega) (qr.next C.2.1) RB (by omega) (λk i b=>XJ k (by omega) (by omega)) (λw' Uy=>Pp w' (by rw[hw,gc];exact au0 _ (au0 _ (auY _ Uy))));rw[Xp.aC,(C.2.1.A .it trivial).2,(C.2.1.A (.fr π) (by show 1<=X1.fs π;omega)).2,f9]at QA;have UT:=hL.up (Z:=Y2) (L:=K2) QH.2.1.iY;have Rj:=C.trans QH;obtain⟨VW,ajs,Yi⟩:=UT.app Rj.1.lay Rj.2.1 [.int .i32 v];obtain⟨a2,Rk⟩:=UT.acc;have UV:=ki e t9 (by omega);rw[Xp.aC]at UV;have htl:(bF (x.take g)).length<=1000000:=by simp[bF];omega
   have Qu:bF (x.take (g+1))=bF (x.take g)++ [[.int .i32 v]]:=by
    rw[au1 v6];have:x[g]=v:=by rw[auO v6]at Us;injection Us
    simp[bF,this]
   refine dO [3,2,58] W<|Po (aG W W W (auJ g) Y_ W)<|dR [2,65] W<|Po (aq QA W W)<|dR [67] W<|Po (mS Rk W W W W W (mR W) (by simp only[avd];omega) (by simp only[avd];omega))<|dR [2,70] W<|Po (aE UV W W)<|dR [71] W<|Po (az W W W (by omega))<|dR [2,72] W<|Po (az W W W (by omega))<|dL [] W<|bK (k':=a.args.length-(g+1)) (by omega) ⟨g+1,Y2,_,_,i+xP e,wi++Y,ST,_,rfl,by omega,rfl,⟨⟨ajs,Rj.1.pu⟩,Yi,?_,?_⟩,by rw[gc];simp,by rw[hvt];exact ajr,by omega,by rw[Qu];exact VW,by omega⟩ W W
   ·have:=Rj.2.2.1;simp only[auN];omega
   ·intro p' I;rw[<-avh]at I;exact Rj.2.2.2 p' I
 rintro _ ⟨h,t,Q,C,rfl⟩;have QI:=C.2.1;have RB:=QI.f2 π W_;have wd:=(QI.c1 _ _ (λo=>o)).1 Pt;have wn:h.dn π j=false:=by rw[QI.sj π j (λo=>o) Pt,hXd];exact TJ
 have U0:=V.rs h C.1.pu π j a p RB z hk hp wn;have Do:=((QI.A .it trivial).2).trans (by rw[f9]);have Xb:=((QI.A (.pl π j) ⟨W_,RN⟩).2).trans (by rw[f9]);have Sd:t[X.A (.pl π j)]?=some (.box (dK a p)):=by
  obtain⟨p',I,UQ⟩:=C.1.lay.fW RB z;rw[hp]at I;injection I with I
  subst I;rw[Xb]at UQ;exact UQ
 have Wy:=C.1.lay;have UP:=Wy.inst;rw[Do]at UP;have Z0:=Wy.unit;have rg:=Wy.an;have Eq:=Wy.own .su trivial;have W8:=auJ p;have ge:((p:Nat):Int)<((bW d:Nat):Int):=by exact_mod_cast ZY
 have Wp: ∀(f:Nat->Option US),cg f p (f p)=f:= λf=>by funext k;unfold cg;split;rename_i e;rw[e];rfl
 refine dC [2] W<|Qy (λPD=> ∃K1,K1[h.A .su]?=some (.row false 1 0 (bE (bW d) (fA (cg h.x.s p (if c.ev π j=0 then c.rs p else none)) h.ad)))/\K1.length=t.length/\(∀i,i≠h.A .su->K1[i]?=t[i]?)/\PD=⟨[nD 7 (.sl (bF x)),nR 0 (X.A .it),nR 1 (X.A (.fr π)),nR 2 (X.A (.pl π j))],Q,K1⟩) ?_ ?_
 ·refine DC.cond W (λhc=> ?_) (λhc=> ?_)
  ·have Fd:c.ev π j≠0:=by simpa using hc
   rw[auU Fd];have rt:=tP (n:=bW d) (f:=h.x.s) (ad:=h.ad) (k:=p) ZY;refine dC [] W ?_;apply Ps bN
   ·intro s0 Oo;refine fR 3 W<|ay W W UP W<|fR 2 W<|ay W W Z0 W<|fR 3 W<|ay W W Sd W<|c_ W W W rg W8 ge<|fY W W rg W W rt<|TF.nil ⟨by kernel_rfl,rfl⟩
   exact⟨_,⟨_,gC rg _,by simp,λi ha=>auT (avH ha),rfl⟩,cR W W⟩
  ·have Fd:c.ev π j=0:=by simpa using hc
   rw[au2 Fd];refine dC [] W<|⟨_,⟨t,by rw[<-U0,Wp];exact rg,W,λ_ _=>rfl,rfl⟩,cR W W⟩
 rintro _ ⟨K1,Xc,api,Tw,rfl⟩;generalize ho:(if c.ev π j=0 then c.rs p else none)=d8 at Xc hs;have T4:=(Tw _ (avH (by rw[<-Do];exact Wy.ne (r:= .su) (r':= .it) trivial trivial (by simp)))).trans UP;have Xd:=(Tw _ (avH (Wy.ne (r:= .su) (r':= .un) trivial trivial (by simp)))).trans Z0;have Z1:=(Tw _ (avH (by rw[<-Xb];exact Wy.ne (r:= .su) (r':= .pl π j) trivial ⟨RB,RN⟩ (by simp)))).trans Sd;have rx:=jh (n:=bW d) (f:=fA (cg h.x.s p d8) h.ad) ZY;refine dC [] W<|DC.Hz (λPD=> ∃iu F K3,iZ P n (d8.getD (US.init P ci)) iu F K3/\K3[h.A .su]?=some (.row false 1 0 (bE (bW d) (fA (cg h.x.s p (some (d8.getD (US.init P ci)))) (cg h.ad p iu))))/\(∀i,F i->h.own i=some (.sb p)\/t.length<=i)/\t.length<=K3.length/\(∀i,i<t.length->h.own i≠some (.sb p)->i≠h.A .su->K3[i]?=t[i]?)/\PD=⟨[nD 7 (.sl (bF x)),nR 0 (X.A .it),nR 1 (X.A (.fr π)),nR 2 (X.A (.pl π j))],Q,K3⟩) ?_ ?_
 ·have S3:1<=n:=by
   cases n with
   |zero=>exact hs.elim
   |succ n=>omega
  cases d8 with
  |none=>
   have T:fA (cg h.x.s p none) h.ad p= .d .bX:=by simp[fA,cg]
   rw[T]at rx;obtain⟨dc,hdc,U8⟩:=tV pm;obtain⟨m2,K2,⟨iu,F,rfl,QV,hF,acf,P7⟩,PY⟩:=xr P Qo a.f ci pm dc hdc K1;have FS:=(P7 _ (lr Xc)).trans Xc;have rt:=I8 (n:=bW d) (f:=cg h.x.s p none) (ad:=h.ad) (k:=p) (iu:=iu) (uu:=US.init P ci) ZY;have e3:cg (cg h.x.s p none) p (some (US.init P ci))=cg h.x.s p (some (US.init P ci)):=by funext k;unfold cg;split<;>rfl
   rw[e3]at rt;refine dC [] W ?_;apply Ps bN
   ·intro s0 Oo;refine fR 3 W<|ay W W T4 W<|fR 2 W<|ay W W Xd W<|fR 3 W<|ay W W Z1 W<|c_ W W W Xc W8 ge<|j_ W W Xc rx<|wG (by kernel_rfl) W W W W W<|TF.nil ⟨by kernel_rfl,rfl⟩
   refine dC [1] W ?_;apply QZ (λL=>L[X.A .it]?=t[X.A .it]?/\L[h.A .un]?=t[h.A .un]?/\L[X.A (.pl π j)]?=t[X.A (.pl π j)]?) (⟨T4.trans UP.symm,Xd.trans Z0.symm,Z1.trans Sd.symm⟩) bN
   ·intro s0 Oo;refine iR 3 W<|PF W W (λL o=>⟨_,o.1.trans UP,rfl⟩)<|iR 2 W<|PF W W (λL o=>⟨_,o.2.1.trans Z0,rfl⟩)<|iR 3 W<|PF W W (λL o=>⟨_,o.2.2.trans Sd,rfl⟩)<|iR 3 W ?_;apply Py
    ·skip
     refine ay W W T4 W<|TF.nil ⟨W,W⟩
    refine iR 2 W ?_;apply Py
    ·skip
     refine eQ W W Xd W W<|TF.nil ⟨W,W⟩
    refine iR 4 W ?_;apply Py
    ·skip
     refine ay W W Z1 W<|TF.nil ⟨W,W⟩
    apply Py
    ·skip
     refine bg PY W W<|TF.nil ⟨W,W⟩
    apply Py
    ·skip
     refine c_ W W W FS W8 ge<|TF.nil ⟨W,W⟩
    apply Py
    ·skip
     refine fY W W FS W W rt<|TF.nil ⟨W,W⟩
    exact jJ.nil ⟨by kernel_rfl,by repeat' first|exact trivial|exact .inl ((by exact⟨((P7 _ (lr T4)).trans T4).trans UP.symm,((P7 _ (lr Xd)).trans Xd).trans Z0.symm,((P7 _ (lr Z1)).trans Z1).trans Sd.symm⟩))|exact .inr (by kernel_rfl)|refine⟨?_,?_⟩,rfl⟩
   have hFs: ¬F (h.A .su):= λhh=>by have:=hF _ hh;have:=lr Xc;omega
   exact⟨_,⟨iu,F,_,(iZ.Ky QV S3).frame (λi ha=>auT (by rintro rfl;exact hFs ha)) (by simp),gC FS _,λi ha=> .inr (by have:=hF i ha;omega),by simp;omega,λi ha q A=>((auT (avH A)).trans (P7 i (by omega))).trans (Tw i A),rfl⟩,cR W W⟩
  |some u0=>
   have T:fA (cg h.x.s p (some u0)) h.ad p= .ref (h.ad p) 0:=by simp[fA,cg]
   rw[T]at rx;have hY0:h.x.s p=some u0:=by
    rw[U0];by_cases e:c.ev π j=0
    ·rw[au2 e]at ho;exact ho
    ·rw[auU e]at ho;cases ho
   have QV:=Wy.sub p ZY u0 hY0;refine dC [] W ?_;apply Ps bN
   ·intro s0 Oo;refine fR 3 W<|ay W W T4 W<|fR 2 W<|ay W W Xd W<|fR 3 W<|ay W W Z1 W<|c_ W W W Xc W8 ge<|j_ W W Xc rx<|wG (by kernel_rfl) W W W W W<|TF.nil ⟨by kernel_rfl,rfl⟩
   refine dC [0] W ?_;have e4:cg h.ad p (h.ad p)=h.ad:=by funext k;unfold cg;split;rename_i e;rw[e];rfl
   refine⟨_,⟨h.ad p,λi=>h.own i=some (.sb p),K1,QV.frame (λi ha=>Tw i (by rintro rfl;rw[Eq]at ha;cases ha)) (by omega),?_,λi ha=> .inl ha,by omega,λi _ _ A=>Tw i A,rfl⟩,cR W W⟩;rw[e4];exact Xc
 rintro _ ⟨iu,F,K3,QV,t3,hF,ajv,Vs,rfl⟩;obtain⟨m4,K4,⟨rfl,F4,ajw,hF4,ach,WA⟩,al1⟩:=hSt _ x (c.outs π j) (c.iP π j) iu F K3 hs QV;have YO: ∀i r,h.own i=some r->r≠ .sb p-> ¬F i:= λi r q A h3=>by
  rcases hF i h3 with J|J
  ·rw[q]at J;injection J with J;exact A J
  ·have:=Wy.lt i r q;omega
 have cK: ∀i r,h.own i=some r->r≠ .sb p->r≠ .su-> ∀ob,t[i]?=some ob->K3[i]?=some ob/\K4[i]?=some ob:=by
  intro i r q A h3 ob J;have e3:=(Vs i (lr J) (by rw[q];intro e;injection e with e;exact A e) (by rintro rfl;rw[Eq]at q;injection q with q;exact h3 q.symm)).trans J;exact⟨e3,(WA i (lr e3) (YO i r q A)).trans e3⟩
 obtain⟨al2,GT⟩:=cK _ _ (by rw[<-Do];exact Wy.own .it trivial) (by simp) (by simp) _ UP;obtain⟨afa,arK⟩:=cK _ _ (Wy.own .un trivial) (by simp) (by simp) _ Z0;obtain⟨YU,al3⟩:=cK _ _ (by rw[<-Xb];exact Wy.own _ ⟨RB,RN⟩) (by simp) (by simp) _ Sd;have al4:K4[h.A .su]?=some (.row false 1 0 (bE (bW d) (fA (cg h.x.s p (some (c.iP π j))) (cg h.ad p iu)))):=by
  rw[WA _ (lr t3) (YO _ _ Eq (by simp)),t3,Gn]
 have ZV:=jh (n:=bW d) (f:=fA (cg h.x.s p (some (d8.getD (US.init P ci)))) (cg h.ad p iu)) ZY;rw[show fA (cg h.x.s p (some (d8.getD (US.init P ci)))) (cg h.ad p iu) p= .ref iu 0 by simp[fA,cg]]at ZV;refine dC [] W ?_;apply Ps bN
 ·intro s0 Oo;refine fR 3 W<|ay W W al2 W<|fR 2 W<|ay W W afa W<|fR 3 W<|ay W W YU W<|c_ W W W t3 W8 ge<|j_ W W t3 ZV<|fR 1 W<|bg al1 W W<|fR 5 W<|TF.nil ⟨by kernel_rfl,rfl⟩
 refine dO [2,147] W<|Po (aA W W GT W)<|dR [999] W<|Po (cc W W GT W W W)<|dL [] W ?_;obtain⟨hLs,hEs⟩:=Wy.gV ajw (λi ha=>by
  rcases hF4 i ha with q|q
  ·exact hF i q
  ·exact .inr (by omega)) (by omega) (λi q A h3=>(WA i (by omega) (λhh=>by
   rcases hF i hh with J|J
   ·exact A J
   ·omega)).trans (Vs i q A h3)) al4
 have hgs:(h.gV p (c.iP π j) iu F4).cs (j::π) 0=1:=wd;have hLd:=hLs.lM (π:=π) (j:=j) (by rw[hgs];decide);have hEd:=br.lM (c:=c) (H:=K4) (X:=h.gV p (c.iP π j) iu F4) hgs;have hPd:Pu P c d u ((h.gV p (c.iP π j) iu F4).lM π j):=Pu.called V C.1.pu RB z hk hp wd wn SM (λY Uy=> .inl (C.2.2.2 Y Uy));have hTd:=I7 (c:=c) (X:=h) (π:=π) (j:=j) (p:=p) (iu:=iu) (u':=c.iP π j) (F:=F4);have VU:=C.2.2.1;have hcY: ∀(g:Nat) (w:Nm) (σ:Path×Nat),a.lhs[g]?=some w->c.find π w=some σ->X.fs σ.1=2/\(X.cs σ.1 σ.2=0\/X.cs σ.1 σ.2=1)/\h.cs σ.1 σ.2=X.cs σ.1 σ.2:=by
  intro g w σ E Ru;obtain⟨R,nv,q,A,h3,J,h5,h6,s,j0,h7,h8,h9,SK,Vh⟩:=hC.lhs π j a PG z hk SM g w E;rw[Ru]at q;injection q with q
  subst q;have K:=(tS hI.pu hf Ru).1;have PS:(σ.1,σ.2)≠(j::π,0):=by intro e;injection e with T _;rw[T]at K;exact Sf K
  have two: ∀(Z:aw) (L:Hp),cV P n c d u Z L->Z.fs σ.1=2->Z.dn π j=false->Z.cs σ.1 σ.2<=3->Z.cs σ.1 σ.2=0\/Z.cs σ.1 σ.2=1:=by
   intro Z L B SE Yl h3Z;have n3:Z.cs σ.1 σ.2≠3:= λe=>by have:=B.pu.ca _ _ e;rw[A]at this;cases this
   have n2:Z.cs σ.1 σ.2≠2:= λe=>by
    have:=(B.pu.s2 σ j0 s π j a SE (.inl e) Vh h9 h7 (by rw[h8];exact SK) z).2.2 hk;rw[Yl]at this;cases this
   omega
  have a0:=two X H hI K TJ (Wk.c4 _ _);have a1:=two h t C.1 (QI.f2 _ (by rw[Pq];exact K)) wn ((qr.next QI).c4 _ _);have a2:=QI.c1 σ.1 σ.2 (λo=>o);rw[hXc _ _ PS]at a2;exact⟨K,a0,by omega⟩
 obtain⟨Z5,co⟩: ∃Z,Z=(h.gV p (c.iP π j) iu F4).lM π j:=⟨_,rfl⟩;have hI5:cV P n c d u Z5 K4:=co▸⟨hLd,hPd⟩;have ZI:br c (λO=>mt O\/O=(j::π,0)) X H Z5 K4:=by
  rw[co];exact((R0.mono λ_ o=> .inr o).trans (QI.mono λ_=>False.elim)).trans ((hEs.mono λ_=>False.elim).trans (hEd.mono λ_ o=> .inr o))
 have hT5:Z5.T c<=X.T c:=by rw[co];omega
 have hD5:Z5.dn π j=true:=by rw[co];exact z9 _ _ _
 have hG5:Z5.cs (j::π) 0=1:=by rw[co];exact wd
 have hC5:Z5.cs=h.cs:=by rw[co];rfl
 clear co hLd hPd hTd hEd hLs hEs;have arL:=QG.2.2.2.2.2.1;have Id:K4.set (X.A .it) (Ob.box [.ref (h.A .un) 0,.ref (h.A (.fr [])) 0,.d (.bool (!true)),bM (h.A .af) h.vF h.F.length,bM (h.A .nx) h.vN h.N.length])=K4:=BO GT;refine dO [2,158] W<|Po (aA W W (by rw[Id];exact al3) W)<|dR [159] W<|Po (bp W W W) ?_;rw[au8];refine dL [] W<|Pz [nN 156 0,nN 155 a.lhs.length,nD 154 (.sl (dJ a.lhs)),nD 11 (.sl (bF (c.outs π j))),nR 0 (X.A .it),nR 1 (X.A (.fr π)),nR 2 (X.A (.pl π j))] K4 W Id ?_;clear Id;refine dC [] W<|Qy (λPD=> ∃Z L Q,cV P n c d u Z L/\br c (λO=>mt O\/O=(j::π,0)) X H Z L/\Z.T c<=X.T c/\Z.dn π j=true/\Z.cs (j::π) 0=1/\(∀(g:Nat) (w:Nm) (σ:Path×Nat),a.lhs[g]?=some w->c.find π w=some σ->Z.cs σ.1 σ.2=if X.cs σ.1 σ.2=1 then 4 else 2)/\PD=⟨[nR 0 (X.A .it),nR 1 (X.A (.fr π)),nR 2 (X.A (.pl π j))],Q,L⟩) ?_ ?_
 ·refine dC [3] W<|DC.lp (λk s=> ∃(g:Nat) (Z:aw) (L:Hp) (Q:List (Nat×List M)),s=⟨[nN 156 g,nN 155 a.lhs.length,nD 154 (.sl (dJ a.lhs)),nD 11 (.sl (bF (c.outs π j))),nR 0 (X.A .it),nR 1 (X.A (.fr π)),nR 2 (X.A (.pl π j))],Q,L⟩/\g<=a.lhs.length/\k=a.lhs.length-g/\
    cV P n c d u Z L/\br c (λO=>mt O\/O=(j::π,0)) X H Z L/\Z.T c<=X.T c/\Z.dn π j=true/\Z.cs (j::π) 0=1/\ ∀(D:Nat) (w:Nm) (σ:Path×Nat),a.lhs[D]?=some w->c.find π w=some σ->(D<g->Z.cs σ.1 σ.2=if X.cs σ.1 σ.2=1 then 4 else 2)/\(g<=D->Z.cs σ.1 σ.2=X.cs σ.1 σ.2)) a.lhs.length _
   ⟨0,Z5,K4,_,rfl,by omega,rfl,hI5,ZI,hT5,hD5,hG5,λD w σ E Ru=>⟨by omega,λ_=>by rw[hC5];exact(hcY D w σ E Ru).2.2⟩⟩ W ?_
  rintro k s1 ⟨g,Z,L,Q,rfl,hi,rfl,B,Tb,YY,ac,d6,d7⟩;refine dC [2] W<|DC.cond W (λhc=> ?_) (λhc=> ?_);rotate_left
  ·have e:g=a.lhs.length:=by have:=au9 hc;omega
   refine DC.exit<|⟨_,⟨Z,L,_,B,Tb,YY,ac,d6,λD w σ E Ru=>(d7 D w σ E Ru).1 (by
    rcases auM D a.lhs.length with o|o
    ·omega
    ·rw[auP o]at E;cases E),rfl⟩,cR W W⟩
  have P0:g<a.lhs.length:=by have:=auV hc;omega
  have E:=auO P0;have Uk:=li P0;generalize a.lhs[g]=w at E Uk;obtain⟨σ,nv,Ru,Qf,ZS,aps,apt,ajy,s,j0,Wi,Su,WB,W3,Za⟩:=hC.lhs π j a PG z hk SM g w E;obtain⟨In,amc,_⟩:=hcY g w σ E Ru;have hZX:=(d7 g w σ E Ru).2 (auK _);have SE:=Tb.f2 π hf;have K:=Tb.f2 _ In;have X_:=(Tb.A (.fr π) (by show 1<=X.fs π;omega)).2;have Wj:σ.2<(c.fr σ.1).vars.length:=by
   rcases auM σ.2 (c.fr σ.1).vars.length with o|o
   ·exact o
   ·rw[auP o]at WB;cases WB
  have QU:=pZ B.lay B.pu V.sz π SE w;rw[X_]at QU;have UW:Z.gS c π w= .ref (Z.A (.ce σ.1 σ.2)) 0:=by unfold aw.gS;rw[Ru]
  rw[UW]at QU;obtain⟨lp,eq,Qc,QA,VA⟩:=B.lay.cell K WB;have V_:c.get (σ.1,σ.2)=nv:=by unfold aK.get;rw[Qf];rfl
  have afd:(bF (c.outs π j))[((g:Nat):Int).toNat]?=some [.int .i32 nv]:=by simp[bF,ZS]
  have hlo:(bF (c.outs π j)).length=(c.outs π j).length:=by simp[bF]
  have R1:=Pu.ok V B.pu K;have ame: ∀p',lp=some p'->p'<bW d:= λp' e=>by subst e;exact V.NM _ _ _ R1 Qc
  have SG: ∀(N:Path) (S:Nat) (U:aB),σ=(S::N,0)->(c.fr N).au[S]?=some U->U.kd=2->False:= λN S U e PJ P7=>by
   subst e;obtain⟨_,q2,Yg,Qv⟩:=hC.i_ S N R1;rw[PJ]at Yg;injection Yg with Yg;subst Yg;omega
  have t4:(σ.1,σ.2)≠(j::π,0):=by intro e;injection e with T _;rw[T]at In;exact Sf In
  have hwc:=hC.wc σ.1 σ.2 s R1 WB Za;have ZD: ∀(G:aw),G.fs π=2->G.dn π j=true-> ∀j1 v1 N S U,(c.fr σ.1).vars[σ.2]?=some v1->gR (c.fr σ.1) σ.2 v1 j1->Src c (c.sb σ.1 σ.2) σ.1 j1 v1.name (some (N,S))->(c.fr N).au[S]?=some U->G.fs N=2/\(U.kd=1-> ∀Y∈c.ew N S,G.SS c Y.1 Y.2)/\(U.kd=2->G.dn N S=true):=by
   intro G hfW hdW j1 v1 N S U q A h3 J;rw[WB]at q;injection q with q
   subst q;obtain rfl:=Wi.u5 A;rw[Su]at h3;have e:=W3.u5 h3;injection e with e
   injection e with T e2
   subst T;subst e2;rw[z]at J;injection J with J
   subst J;exact⟨hfW,λq=>by omega,λ_=>hdW⟩
  refine dO [3,2,163] W<|Po (aG W W W (auJ g) Uk W)<|dR [2,167] W<|Po (aq QU W W)<|dR [2,169] W<|Po (jC (by kernel_rfl) W W W W W)<|dR [173] W ?_
  first|refine Po (ax W W) ?_|(refine Po (av W) ?_;refine Po (bp W W W) ?_;rw[hlo])
  refine dR [174] W ?_
  first|refine Po (ax W W) ?_|(refine Po (av W) ?_;refine Po (aQ (au5 (by omega)) W W W W) ?_)
  refine dL [1] W ?_;have afe: ∀(G:aw) (L':Hp),cV P n c d u G L'->br c (λO=>mt O\/O=(j::π,0)) X H G L'->G.T c<=X.T c->G.dn π j=true->G.cs (j::π) 0=1->(G.cs σ.1 σ.2=if X.cs σ.1 σ.2=1 then 4 else 2)->(∀y k,(y,k)≠(σ.1,σ.2)->G.cs y k=Z.cs y k)->
    ∀(D:Nat) (x':Nm) (R:Path×Nat),a.lhs[D]?=some x'->c.find π x'=some R->(D<g+1->G.cs R.1 R.2=if X.cs R.1 R.2=1 then 4 else 2)/\(g+1<=D->G.cs R.1 R.2=X.cs R.1 R.2):=by
   intro G L' hIW VX hTW hDW hGW hcW hoW D x' R QM S6;refine⟨λhl=> ?_,λhl=> ?_⟩
   ·by_cases e:R=σ
    ·subst e;exact hcW
    ·have hii:D<g:=by
      rcases auM D g with o|o
      ·exact o
      ·have:D=g:=by omega
       subst this;rw[E]at QM;injection QM with QM;subst QM
       rw[Ru]at S6;injection S6 with S6
       exact absurd S6.symm e
     rw[hoW _ _ (λe'=>e e')];exact(d7 D x' R QM S6).1 hii
   ·have e:R≠σ:=by
     rintro rfl;have:=ajy D x' R QM S6 W;omega
    rw[hoW _ _ (λe'=>e e')];exact(d7 D x' R QM S6).2 (by omega)
  refine dC [] W ?_;rcases amc with Vb|IO
  ·have ah:=hZX.trans Vb;rw[ah]at QA;refine dO [2,179] W<|Po (aG W W W (auJ g) afd W)<|dR [999] W<|Po (cc W W QA W W W)<|dL [] W ?_;have hL1:=B.lay.cS (σ:=σ) 5 K WB Qc VA;have ahJ:=br.cS B.lay (s:=5) (σ:=σ) ⟨K,Wj⟩ (Ob.box (dh s lp eq (Z.A (.fr σ.1)) (oE 5) (if zB 5 then c.get (σ.1,σ.2)else 0))) (λe=>by rw[ah]at e;cases e) (λe=>by rw[ah]at e;cases e) (by decide);have arM:=Ku (c:=c) (X:=Z) (σ:=σ) (s:=5) (by decide) ah hwc.1;refine Pz [nN 156 g,nN 155 a.lhs.length,nD 154 (.sl (dJ a.lhs)),nD 11 (.sl (bF (c.outs π j))),nR 15 (Z.A (.ce σ.1 σ.2)),nR 0 (X.A .it),nR 1 (X.A (.fr π)),nR 2 (X.A (.pl π j))] (L.set (Z.A (.ce σ.1 σ.2)) (Ob.box (dh s lp eq (Z.A (.fr σ.1)) (oE 5) (if zB 5 then c.get (σ.1,σ.2)else 0)))) W (by rw[V_];rfl) ?_;have i6:(L.set (Z.A (.ce σ.1 σ.2)) (Ob.box (dh s lp eq (Z.A (.fr σ.1)) (oE 5) (if zB 5 then c.get (σ.1,σ.2)else 0))))[Z.A (.ce σ.1 σ.2)]?=some (Ob.box (dh s lp eq (Z.A (.fr σ.1)) (oE 5) (if zB 5 then c.get (σ.1,σ.2)else 0))):=gC QA _;generalize L.set (Z.A (.ce σ.1 σ.2)) (Ob.box (dh s lp eq (Z.A (.fr σ.1)) (oE 5) (if zB 5 then c.get (σ.1,σ.2)else 0)))=L1 at hL1 ahJ i6⊢;have Xe:=cp Z σ 5;obtain⟨m7,L2,⟨Z2,t5,Q_,PX,ahK,U8,arN,hT2,amg⟩,Rq⟩:=Km (X:=Z.cS σ 5) ⟨hL1,(B.pu.cS (by omega) Za (λ_=>by rw[Qf];rfl) (λe=>by cases e) (λe=>by rw[ah]at e;cases e) (λe=>by rw[ah]at e;omega) (λe=>by cases e) (λe=>by omega) (λN S U e PJ Qv=>(SG N S U e PJ Qv).elim) (.inl K))⟩ (by omega) K WB Qc (by rw[Xe];rfl) ame Za
   rw[show(Z.cS σ 5).A=Z.A from rfl,(Tb.A .it trivial).2]at Rq;have t6:Z2.fs σ.1=2:=by rw[ahK];exact K
   obtain⟨lp2,eq2,SV,TD,acN⟩:=t5.lay.cell t6 WB;rw[Qc]at SV;injection SV with SV
   subst SV;have Ym:=(Q_.A (.ce σ.1 σ.2) ⟨K,Wj⟩).2;have ahL:Z2.cs σ.1 σ.2=5:=by rw[PX];exact Xe
   rw[Ym,ahL]at TD;refine dO [2,186] W<|Po (aA W W i6 W)<|dL [] W<|Qy (λPD=>PD=⟨[nN 156 g,nN 155 a.lhs.length,nD 154 (.sl (dJ a.lhs)),nD 11 (.sl (bF (c.outs π j))),nR 15 (Z.A (.ce σ.1 σ.2)),nR 0 (X.A .it),nR 1 (X.A (.fr π)),nR 2 (X.A (.pl π j))],Q,L2⟩) ?_ ?_
   ·refine dO [1,2,190] W<|Po (aq Rq W W)<|dL [] W<|⟨_,W,cR W W⟩
   rintro _ rfl;have VW:=t5.lay.cS (σ:=σ) 2 t6 WB Qc acN;have LE:Z2.dn π j=true:=by rw[U8];exact ac
   have i7:=t5.pu.cS (by omega) Za (λ_=>by rw[Qf];rfl) (λe=>by cases e) (λ_=>rfl) (λ_=> .inl W) (λ_ p' v' I RT=>by
    rw[Qc]at I;injection I with I
    exact .inl (amg p' I v' RT)) (λ_=>ZD Z2 (by rw[ahK];exact SE) LE) (λN S U e PJ Qv=>(SG N S U e PJ Qv).elim) (.inl t6)
   have t7:=br.cS t5.lay (s:=2) (σ:=σ) ⟨t6,Wj⟩ (Ob.box (dh s lp eq2 (Z2.A (.fr σ.1)) (oE 2) (if zB 2 then c.get (σ.1,σ.2)else 0))) (λ_=>rfl) (λe=>by rw[ahL]at e;cases e) (by decide);have amh:=sn (c:=c) (X:=Z2) (σ:=σ) (s:=2) (by decide);rw[Ym]at VW t7;have hEc:br c (λ_=>False) Z L (Z2.cS σ 2) (L2.set (Z.A (.ce σ.1 σ.2)) (Ob.box (dh s lp eq2 (Z2.A (.fr σ.1)) (oE 2) (if zB 2 then c.get (σ.1,σ.2)else 0)))):=
    br.close ((ahJ.trans (Q_.mono λ_=>False.elim)).trans t7) (by rw[ah,cp];omega) (λs hs=>by rw[ah,cp];omega) (by rw[ah];decide)
   have i8: ∀y k,(y,k)≠(σ.1,σ.2)->(Z2.cS σ 2).cs y k=Z.cs y k:= λy k e=>by rw[bI Z2 e,PX];exact bI Z e
   have i9:(Z2.cS σ 2).cs (j::π) 0=1:=by rw[i8 _ _ (avH t4)];exact d6
   have UF:=Tb.trans (hEc.mono λ_=>False.elim);have QN:(Z2.cS σ 2).cs σ.1 σ.2=if X.cs σ.1 σ.2=1 then 4 else 2:=by rw[cp,Vb];rfl
   have XK:(Z2.cS σ 2).T c<=X.T c:=by have:=hwc.2.1;omega
   have UD:=afe _ _ ⟨VW,i7⟩ UF XK LE i9 QN i8;refine dO [2,999] W<|Po (cc W W TD W W W)<|dR [2,194] W<|Po (az W W W (by omega))<|dL [] W<|bK (k':=a.lhs.length-(g+1)) (by omega) ⟨g+1,_,_,_,rfl,by omega,rfl,⟨VW,i7⟩,UF,XK,LE,i9,UD⟩ (by rfl) W
  ·have LT:=hZX.trans IO;rw[LT]at QA;refine dO [2,179] W<|Po (aG W W W (auJ g) afd W)<|dR [999] W<|Po (cc W W QA W W W)<|dL [] W ?_;have i6:=gC QA (Ob.box (dh s lp eq (Z.A (.fr σ.1)) 1 nv));refine dO [2,186] W<|Po (aA W W i6 W)<|dL [] W<|Qy (λPD=>PD=⟨[nN 156 g,nN 155 a.lhs.length,nD 154 (.sl (dJ a.lhs)),nD 11 (.sl (bF (c.outs π j))),nR 15 (Z.A (.ce σ.1 σ.2)),nR 0 (X.A .it),nR 1 (X.A (.fr π)),nR 2 (X.A (.pl π j))],Q,L.set (Z.A (.ce σ.1 σ.2)) (Ob.box (dh s lp eq (Z.A (.fr σ.1)) 1 nv))⟩) ?_ ?_
   ·refine dC [0] W<|⟨_,W,cR W W⟩
   rintro _ rfl;have VW:=B.lay.cS (σ:=σ) 4 K WB Qc VA;have i7:=B.pu.cS (by omega) Za (λ_=>by rw[Qf];rfl) (λe=>by cases e) (λ_=>rfl) (λ_=> .inr W) (λe=>by cases e) (λ_=>ZD Z SE ac) (λN S U e PJ Qv=>(SG N S U e PJ Qv).elim) (.inl K);have t7:=br.cS B.lay (s:=4) (σ:=σ) ⟨K,Wj⟩ (Ob.box (dh s lp eq (Z.A (.fr σ.1)) (oE 4) (if zB 4 then c.get (σ.1,σ.2)else 0))) (λe=>by rw[LT]at e;cases e) (λe=>by rw[LT]at e;cases e) (by decide);have amh:=sn (c:=c) (X:=Z) (σ:=σ) (s:=4) (by decide);have i8: ∀y k,(y,k)≠(σ.1,σ.2)->(Z.cS σ 4).cs y k=Z.cs y k:= λy k e=>bI Z e
   have i9:(Z.cS σ 4).cs (j::π) 0=1:=by rw[i8 _ _ (avH t4)];exact d6
   have UF:=Tb.trans (t7.mono (λO e=> .inl (e▸(hE w (auQ E) σ Ru IO))));have QN:(Z.cS σ 4).cs σ.1 σ.2=if X.cs σ.1 σ.2=1 then 4 else 2:=by rw[cp,IO];rfl
   have UD:=afe _ _ ⟨VW,i7⟩ UF (by omega) ac i9 QN i8;refine dO [2,999] W<|Po (cc W W i6 W W W)<|dR [2,194] W<|Po (az W W W (by omega))<|dL [] W<|bK (k':=a.lhs.length-(g+1)) (by omega) ⟨g+1,_,_,_,rfl,by omega,rfl,⟨VW,i7⟩,UF,by omega,ac,i9,UD⟩ (by rw[List.set_set,V_];rfl) W
 rintro _ ⟨Z,L,Q,B,Tb,YY,ac,d6,d7,rfl⟩;have SE:=Tb.f2 π hf;have X_:=(Tb.A (.fr π) (by show 1<=X.fs π;omega)).2;have aby:=(Tb.A (.pl π j) ⟨hf,RN⟩).2;have UG:Z.fs (j::π)=0:=by
  rcases avl (Z.fs (j::π))with e|e
  ·exact e
  ·obtain⟨_,U,PJ,Qv⟩:=hC.i_ j π (B.pu.fp j π (by omega)).2;rw[z]at PJ;injection PJ with PJ;subst PJ;omega
 have Pi:=B.lay.frame SE;rw[X_]at Pi;obtain⟨ob,VY,es,rfl,XP,Tv,_⟩:=B.lay.ob (.am π) (by show 1<=Z.fs π;omega);have Tv:=Tv SE j RN;have Xf:Z.oS π j=none:=by
  unfold aw.oS;rw[auU (λhh=>hh UG),auU (by rw[d6];simp)]
 rw[Xf,aby]at Tv;have hLf:=B.lay.z_ SE UG ac z VY;have hPf:=B.pu.z_ z hk hg.2 UG ac d6 (λw E σ RW=>by
  obtain⟨g,hi⟩:=ave.1 E;have:=d7 g w σ hi RW;split at this
  ·exact .inr this
  ·exact .inl this)
 have UF:=br.z_ B.lay SE d6 (.map (jz (Z.A (.pl π j)) 0 (.ref (Z.A (.fr π)) 0) es));have hTf:=sn (c:=c) (X:=Z) (σ:=(j::π,0)) (s:=3) (by decide);rw[X_,aby]at hLf UF;refine dO [2,198] W<|Po (aA W W Pi W)<|dR [200] W<|Po (pO W W W W W VY XP) ?_;rw[Tv];refine dR [201] W<|Po (kS (by kernel_rfl) W W W W W)<|dR [1,2,205] W<|Po (aA W W Pi W)<|dR [999] W<|Po (qJ W W W W W VY XP)<|dL [] W<|⟨_,rfl,Z.cS (j::π,0) 3,⟨hLf,hPf⟩,?_,by omega,ac,λw E O Sa ami=> ?_⟩
 ·exact(Tb.trans (UF.mono λ_ e=> .inr e)).Kx YW (cp Z (j::π,0) 3)
 ·obtain⟨g,hi⟩:=ave.1 E;have q:=d7 g w O hi Sa;rw[ami,au2 W]at q;have ahM:=(tS hI.pu hf Sa).1;have t4:(O.1,O.2)≠(j::π,0):=by intro e;injection e with T _;rw[T]at ahM;exact Sf ahM
  rw[bI Z t4];exact q
end
structure Fl(g:xi)(st z:Nat->Int)(up:M)(X:aw)(π:Path)(k e:Nat)(L:Nat->Nm->Prop)(H:Hp):Prop where
 lt: ∀a r,X.own a=some r->a<H.length
 lN:X.own (X.A (.fr π))=some (.fr π)
 nL:0<k->X.own (X.A (.cr π))=some (.cr π)
 oH:0<e->X.own (X.A (.er π))=some (.er π)
 oT: ∀x,x<k->X.own (X.A (.ce π x))=some (.ce π x)
 oU: ∀x,x<e->X.own (X.A (.pl π x))=some (.pl π x)
 fr:H[X.A (.fr π)]?=some (.box [up,bM (X.A (.cr π)) (X.vc π) k,bM (X.A (.er π)) (X.ve π) e,.mp (X.A (.am π)),.mp (X.A (.tk π))])
 cr:0<k->H[X.A (.cr π)]?=some (.row true 1 (X.vc π) ((List.range k).map λx=> .ref (X.A (.ce π x)) 0))
 er:0<e->H[X.A (.er π)]?=some (.row true 1 (X.ve π) ((List.range e).map λx=> .ref (X.A (.pl π x)) 0))
 ce: ∀x,x<k-> ∃v lp eq,g.vars[x]?=some v/\g.cO[x]?=some lp/\H[X.A (.ce π x)]?=some (.box (dh v lp eq (X.A (.fr π)) (st x) (z x)))/\ ∀j,gR g x v j->L j v.name->eq= .ref (X.A (.pl π j)) 0
 pl: ∀x,x<e-> ∃q p,g.au[x]?=some q/\g.pos[x]?=some p/\H[X.A (.pl π x)]?=some (.box (dK q p))
def Ro.rB(π:Path):Ro->Prop
 | .cr ρ=>ρ=π| .er ρ=>ρ=π| .ce ρ _=>ρ=π| .pl ρ _=>ρ=π|_=>False
structure m_(π:Path)(X:aw)(H:Hp)(Y:aw)(K:Hp):Prop where
 eq: ∃A own vc ve,Y= {X with A:=A,own:=own,vc:=vc,ve:=ve}
 len:H.length<=K.length
 A: ∀r,¬r.rB π->Y.A r=X.A r
 v: ∀ρ,ρ≠π->Y.vc ρ=X.vc ρ/\Y.ve ρ=X.ve ρ
 own: ∀a,a<H.length->Y.own a=X.own a
 new: ∀a r,Y.own a=some r->a<H.length\/r.rB π
 iY: ∀a,a<H.length->(∀r,X.own a=some r-> ¬r.rB π/\r≠ .fr π)->K[a]?=H[a]?
theorem m_.refl{π:Path}{X:aw}{H:Hp}(lt: ∀a b,X.own a=some b->a<H.length):m_ π X H X H:=⟨⟨_,_,_,_,rfl⟩,auK _,λ_ _=>rfl,λ_ _=>⟨rfl,rfl⟩,λ_ _=>rfl,λa b c=> .inl (lt a b c),λ_ _ _=>rfl⟩
theorem m_.trans{π:Path}{X Y Z:aw}{H K L:Hp}(h:m_ π X H Y K)(k:m_ π Y K Z L):m_ π X H Z L:=by
 refine⟨?_,avD h.len k.len,λc b=>(k.A c b).trans (h.A c b),λg i=>⟨(k.v g i).1.trans (h.v g i).1,(k.v g i).2.trans (h.v g i).2⟩,λa d=>(k.own a (avR d h.len)).trans (h.own a d),λa c b=> ?_,λa d b=> ?_⟩
 ·obtain⟨o,p,v,e,rfl⟩:=h.eq;obtain⟨j,l,m,n,rfl⟩:=k.eq;exact⟨j,l,m,n,W⟩
 ·rcases k.new a c b with f|f
  ·rw[k.own a f]at b;exact h.new a c b
  ·exact .inr f
 ·exact(k.iY a (avR d h.len) (λc f=>b c (by rw[<-h.own a d];exact f))).trans (h.iY a d b)
section
variable{g:xi}{st z:Nat->Int}{up:M}{X:aw}{π:Path}{H K:Hp}{L:Nat->Nm->Prop}
theorem yf{a:Type}(f:Nat->a)(k:Nat):(List.range (k+1)).map f=(List.range k).map f++ [f k]:=by rw[List.range_succ];simp
def aw.fw(X:aw)(π:Path)(k:Nat)(H:Hp):aw:= {X with
 A:= λr=>if r= .ce π k then H.length else if r= .cr π/\k=0 then H.length+2 else X.A r
 own:= λa=>if a=H.length then some (.ce π k)else if a=H.length+2/\k=0 then some (.cr π)else X.own a
 vc:= λρ=>if ρ=π then(if k=0 then 0 else X.vc π+1)else X.vc ρ}
def aw.qO(X:aw)(π:Path)(k:Nat)(H:Hp)(C:List M)(a b c d:M):Hp:=
 if k=0 then(((H++ [Ob.box C])++ [Ob.row false 1 0 [M.ref H.length 0]])++ [Ob.row true 1 0 [M.ref H.length 0]]).set (X.A (.fr π)) (Ob.box ([a,.bH (H.length+2) 0 1,b,c,d]))
 else(((H++ [Ob.box C])++ [Ob.row false 1 0 [M.ref H.length 0]]).set (X.A (.cr π)) (Ob.row true 1 (X.vc π+1) (((List.range k).map λx=>M.ref (X.A (.ce π x)) 0)++ [M.ref H.length 0]))).set (X.A (.fr π)) (Ob.box ([a,.bH (X.A (.cr π)) (X.vc π+1) (k+1),b,c,d]))
theorem Fl.fw{k:Nat}{C:List M}{a b c d:M}(h:Fl g st z up X π k 0 (λ_ _=>False) H)(RO:a=up/\b= .d (.sl [])/\c= .mp (X.A (.am π))/\d= .mp (X.A (.tk π)))
  (VL: ∃v t eq,g.vars[k]?=some v/\g.cO[k]?=some t/\C=dh v t eq (X.A (.fr π)) (st k) (z k)):
  Fl g st z up (X.fw π k H) π (k+1) 0 (λ_ _=>False) (X.qO π k H C a b c d)/\m_ π X H (X.fw π k H) (X.qO π k H C a b c d):=by
 obtain⟨rfl,rfl,rfl,rfl⟩:=RO;have hf:=h.lt _ _ h.lN;have I: ∀j,¬j.rB π->(X.fw π k H).A j=X.A j:= λj u=>by
  simp only[aw.fw];rw[auU (by rintro rfl;exact u W),auU (by rintro⟨rfl,_⟩;exact u W)]
 have w:(X.fw π k H).A (.fr π)=X.A (.fr π):=I _ id;have ac:(X.fw π k H).A (.am π)=X.A (.am π):=I _ id;have ah:(X.fw π k H).A (.tk π)=X.A (.tk π):=I _ id;have D:(X.fw π k H).A (.er π)=X.A (.er π):=by simp[aw.fw]
 have E:(X.fw π k H).A (.ce π k)=H.length:=by simp[aw.fw]
 have T: ∀f,f≠k->(X.fw π k H).A (.ce π f)=X.A (.ce π f):= λf l=>by simp[aw.fw,l]
 have O: ∀f,(X.fw π k H).A (.pl π f)=X.A (.pl π f):= λf=>by simp[aw.fw]
 have S:(X.fw π k H).ve=X.ve:=rfl;have s: ∀a,a<H.length->(X.fw π k H).own a=X.own a:= λa J=>by
  simp only[aw.fw];rw[auU (by omega),auU (by omega)]
 have P: ∀a,H.length<=a->X.own a=none:= λa J=>by
  cases e:X.own a with
  |none=>rfl
  |some j=>have:=h.lt a j e;omega
 have Q:(X.fw π k H).own H.length=some (.ce π k):=by simp[aw.fw]
 rcases avl k with rfl|F
 ·have U:X.qO π 0 H C a (.d (.sl [])) (.mp (X.A (.am π))) (.mp (X.A (.tk π)))=(((H++ [Ob.box C])++ [Ob.row false 1 0 [M.ref H.length 0]])++ [Ob.row true 1 0 [M.ref H.length 0]]).set (X.A (.fr π)) (Ob.box ([a,.bH (H.length+2) 0 1,.d (.sl []),.mp (X.A (.am π)),.mp (X.A (.tk π))])):=au2 W;rw[U];have x:(X.fw π 0 H).A (.cr π)=H.length+2:=by simp[aw.fw]
  have K:(X.fw π 0 H).vc π=0:=by simp[aw.fw]
  have oR:(X.fw π 0 H).own (H.length+2)=some (.cr π):=by simp[aw.fw]
  generalize q:(((H++ [Ob.box C])++ [Ob.row false 1 0 [M.ref H.length 0]])++ [Ob.row true 1 0 [M.ref H.length 0]]).set (X.A (.fr π)) (Ob.box ([a,.bH (H.length+2) 0 1,.d (.sl []),.mp (X.A (.am π)),.mp (X.A (.tk π))]))=p;have V:p.length=H.length+3:=by rw[<-q];simp
  have G: ∀a,a<H.length->a≠X.A (.fr π)->p[a]?=H[a]?:= λa o y=>by
   rw[<-q,auT (avH y),auL (by simp;omega),auL (by simp;omega),auL o]
  have Y:p[X.A (.fr π)]?=some (Ob.box ([a,.bH (H.length+2) 0 1,.d (.sl []),.mp (X.A (.am π)),.mp (X.A (.tk π))])):=by rw[<-q];exact avz (by simp;omega)
  have Z:p[H.length]?=some (Ob.box C):=by
   rw[<-q,auT (by omega),auL (by simp),auL (by simp)];simp
  have kR:p[H.length+2]?=some (Ob.row true 1 0 [M.ref H.length 0]):=by
   rw[<-q,auT (by omega),auR (by simp)];simp
  have B: ∀{j},X.own (X.A j)=some j->j≠ .fr π->X.A j≠X.A (.fr π):= λ{j} o y e=>by rw[e,h.lN]at o;injection o with o;exact y o.symm
  constructor
  ·exact{
       lt:= λa j i=>by
        by_cases r:a<H.length
        ·omega
        ·rw[V];by_cases m:a=H.length
         ·omega
         ·by_cases R:a=H.length+2
          ·omega
          ·simp only[aw.fw]at i;rw[auU m,auU (by omega),P a (by omega)]at i;cases i
       lN:=by rw[w,s _ hf];exact h.lN
       nL:= λ_=>by rw[x];exact oR
       oH:= λn=>by rw[D,s _ (h.lt _ _ (h.oH n))];exact h.oH n
       oT:= λf l=>by
        obtain rfl:f=0:=by omega
        rw[E];exact Q
       oU:= λf l=>by rw[O,s _ (h.lt _ _ (h.oU f l))];exact h.oU f l
       fr:=by rw[w,ac,ah,D,S,x,K];exact Y
       cr:= λ_=>by rw[x,K,kR];simp[E]
       er:= λn=>by
        rw[D,S,G _ (h.lt _ _ (h.oH n)) (B (h.oH n) (by simp)),h.er n]
        congr 2
        try exact avy λf _=>by rw[O]
       ce:= λf l=>by
        obtain rfl:f=0:=by omega
        obtain⟨v,t,eq,r,m,rfl⟩:=VL;exact⟨v,t,eq,r,m,by rw[E,w];exact Z,λ_ _ L=>L.elim⟩
       pl:= λf l=>by omega}
  ·exact{
       eq:=⟨_,_,_,_,rfl⟩,len:=by omega,A:=I,v:= λρ N=>⟨by simp[aw.fw,N],by simp[aw.fw,N]⟩,own:=s,new:= λa j i=>by
        by_cases r:a<H.length
        ·exact .inl r
        ·by_cases m:a=H.length
         ·subst m;rw[Q]at i;injection i with i;subst i;exact .inr W
         ·by_cases R:a=H.length+2
          ·subst R;rw[oR]at i;injection i with i;subst i;exact .inr W
          ·simp only[aw.fw]at i;rw[auU m,auU (by omega),P a (by omega)]at i;cases i
       iY:= λa J u=>G a J (by rintro rfl;exact(u _ h.lN).2 W)}
 ·have XD:k≠0:=by omega
  have U:X.qO π k H C a (.d (.sl [])) (.mp (X.A (.am π))) (.mp (X.A (.tk π)))=(((H++ [Ob.box C])++ [Ob.row false 1 0 [M.ref H.length 0]]).set (X.A (.cr π)) (Ob.row true 1 (X.vc π+1) (((List.range k).map λf=>M.ref (X.A (.ce π f)) 0)++ [M.ref H.length 0]))).set (X.A (.fr π)) (Ob.box ([a,.bH (X.A (.cr π)) (X.vc π+1) (k+1),.d (.sl []),.mp (X.A (.am π)),.mp (X.A (.tk π))])):=auU XD;rw[U];have x:(X.fw π k H).A (.cr π)=X.A (.cr π):=by simp[aw.fw,XD]
  have K:(X.fw π k H).vc π=X.vc π+1:=by simp[aw.fw,XD]
  have QT:=h.lt _ _ (h.nL F);generalize q:(((H++ [Ob.box C])++ [Ob.row false 1 0 [M.ref H.length 0]]).set (X.A (.cr π)) (Ob.row true 1 (X.vc π+1) (((List.range k).map λf=>M.ref (X.A (.ce π f)) 0)++ [M.ref H.length 0]))).set (X.A (.fr π)) (Ob.box ([a,.bH (X.A (.cr π)) (X.vc π+1) (k+1),.d (.sl []),.mp (X.A (.am π)),.mp (X.A (.tk π))]))=p;have V:p.length=H.length+2:=by rw[<-q];simp
  have B: ∀{j r'},X.own (X.A j)=some j->X.own (X.A r')=some r'->j≠r'->X.A j≠X.A r':= λ{j r'} o h3 y e=>by rw[e,h3]at o;injection o with o;exact y o.symm
  have G: ∀a,a<H.length->a≠X.A (.fr π)->a≠X.A (.cr π)->p[a]?=H[a]?:= λa o y h3=>by
   rw[<-q,auT (avH y),auT (avH h3),auL (by simp;omega),auL o]
  have Y:p[X.A (.fr π)]?=some (Ob.box ([a,.bH (X.A (.cr π)) (X.vc π+1) (k+1),.d (.sl []),.mp (X.A (.am π)),.mp (X.A (.tk π))])):=by rw[<-q];exact avz (by simp;omega)
  have Z:p[H.length]?=some (Ob.box C):=by
   rw[<-q,auT (by omega),auT (by omega),auL (by simp)];simp
  have kR:p[X.A (.cr π)]?=some (Ob.row true 1 (X.vc π+1) (((List.range k).map λf=>M.ref (X.A (.ce π f)) 0)++ [M.ref H.length 0])):=by
   rw[<-q,auT (avH (B (h.nL F) h.lN (by simp))),avz (by simp;omega)]
  constructor
  ·exact{
       lt:= λa j i=>by
        by_cases r:a<H.length
        ·omega
        ·rw[V];by_cases m:a=H.length
         ·omega
         ·simp only[aw.fw]at i;rw[auU m,auU (by omega),P a (by omega)]at i;cases i
       lN:=by rw[w,s _ hf];exact h.lN
       nL:= λ_=>by rw[x,s _ QT];exact h.nL F
       oH:= λn=>by rw[D,s _ (h.lt _ _ (h.oH n))];exact h.oH n
       oT:= λf l=>by
        by_cases e:f=k
        ·subst e;rw[E];exact Q
        ·rw[T f e,s _ (h.lt _ _ (h.oT f (by omega)))];exact h.oT f (by omega)
       oU:= λf l=>by rw[O,s _ (h.lt _ _ (h.oU f l))];exact h.oU f l
       fr:=by rw[w,ac,ah,D,S,x,K];exact Y
       cr:= λ_=>by
        rw[x,K,kR,yf,E]
        congr 3
        exact avy λf l=>by rw[T f (by have:=awp.1 l;omega)]
       er:= λn=>by
        rw[D,S,G _ (h.lt _ _ (h.oH n)) (B (h.oH n) h.lN (by simp)) (B (h.oH n) (h.nL F) (by simp)),h.er n]
        congr 2
        try exact avy λf _=>by rw[O]
       ce:= λf l=>by
        by_cases e:f=k
        ·subst e;obtain⟨v,t,eq,r,m,rfl⟩:=VL;exact⟨v,t,eq,r,m,by rw[E,w];exact Z,λ_ _ L=>L.elim⟩
        ·obtain⟨v,t,eq,r,m,R,e4⟩:=h.ce f (by omega);exact⟨v,t,eq,r,m,by rw[T f e,w,G _ (h.lt _ _ (h.oT f (by omega))) (B (h.oT f (by omega)) h.lN (by simp)) (B (h.oT f (by omega)) (h.nL F) (by simp))];exact R,λ_ _ L=>L.elim⟩
       pl:= λf l=>by omega}
  ·exact{
       eq:=⟨_,_,_,_,rfl⟩,len:=by omega,A:=I,v:= λρ N=>⟨by simp[aw.fw,N],by simp[aw.fw,N]⟩,own:=s,new:= λa j i=>by
        by_cases r:a<H.length
        ·exact .inl r
        ·by_cases m:a=H.length
         ·subst m;rw[Q]at i;injection i with i;subst i;exact .inr W
         ·simp only[aw.fw]at i;rw[auU m,auU (by omega),P a (by omega)]at i;cases i
       iY:= λa J u=>G a J (by rintro rfl;exact(u _ h.lN).2 W) (by rintro rfl;exact(u _ (h.nL F)).1 W)}
def aw.fS(X:aw)(π:Path)(k:Nat)(H:Hp):aw:= {X with
 A:= λr=>if r= .pl π k then H.length else if r= .er π/\k=0 then H.length+2 else X.A r
 own:= λa=>if a=H.length then some (.pl π k)else if a=H.length+2/\k=0 then some (.er π)else X.own a
 ve:= λρ=>if ρ=π then(if k=0 then 0 else X.ve π+1)else X.ve ρ}
def aw.xv(X:aw)(π:Path)(k:Nat)(H:Hp)(C:List M)(a b c d:M):Hp:=
 if k=0 then(((H++ [Ob.box C])++ [Ob.row false 1 0 [M.ref H.length 0]])++ [Ob.row true 1 0 [M.ref H.length 0]]).set (X.A (.fr π)) (Ob.box ([a,b,.bH (H.length+2) 0 1,c,d]))
 else(((H++ [Ob.box C])++ [Ob.row false 1 0 [M.ref H.length 0]]).set (X.A (.er π)) (Ob.row true 1 (X.ve π+1) (((List.range k).map λx=>M.ref (X.A (.pl π x)) 0)++ [M.ref H.length 0]))).set (X.A (.fr π)) (Ob.box ([a,b,.bH (X.A (.er π)) (X.ve π+1) (k+1),c,d]))
theorem Fl.fS{k e:Nat}{C:List M}{a b c d:M}(h:Fl g st z up X π e k (λ_ _=>False) H)(RO:a=up/\b=bM (X.A (.cr π)) (X.vc π) e/\c= .mp (X.A (.am π))/\d= .mp (X.A (.tk π)))
  (VL: ∃u w,g.au[k]?=some u/\g.pos[k]?=some w/\C=dK u w):
  Fl g st z up (X.fS π k H) π e (k+1) (λ_ _=>False) (X.xv π k H C a b c d)/\m_ π X H (X.fS π k H) (X.xv π k H C a b c d):=by
 obtain⟨rfl,rfl,rfl,rfl⟩:=RO;have hf:=h.lt _ _ h.lN;have L: ∀j,¬j.rB π->(X.fS π k H).A j=X.A j:= λj B=>by
  simp only[aw.fS];rw[auU (by rintro rfl;exact B W),auU (by rintro⟨rfl,_⟩;exact B W)]
 have G:(X.fS π k H).A (.fr π)=X.A (.fr π):=L _ id;have ac:(X.fS π k H).A (.am π)=X.A (.am π):=L _ id;have ah:(X.fS π k H).A (.tk π)=X.A (.tk π):=L _ id;have I:(X.fS π k H).A (.cr π)=X.A (.cr π):=by simp[aw.fS]
 have J:(X.fS π k H).A (.pl π k)=H.length:=by simp[aw.fS]
 have T: ∀f,f≠k->(X.fS π k H).A (.pl π f)=X.A (.pl π f):= λf l=>by simp[aw.fS,l]
 have K: ∀f,(X.fS π k H).A (.ce π f)=X.A (.ce π f):= λf=>by simp[aw.fS]
 have S:(X.fS π k H).vc=X.vc:=rfl;have s: ∀a,a<H.length->(X.fS π k H).own a=X.own a:= λa N=>by
  simp only[aw.fS];rw[auU (by omega),auU (by omega)]
 have Q: ∀a,H.length<=a->X.own a=none:= λa N=>by
  cases e:X.own a with
  |none=>rfl
  |some j=>have:=h.lt a j e;omega
 have R:(X.fS π k H).own H.length=some (.pl π k):=by simp[aw.fS]
 rcases avl k with rfl|D
 ·have U:X.xv π 0 H C a (bM (X.A (.cr π)) (X.vc π) e) (.mp (X.A (.am π))) (.mp (X.A (.tk π)))=(((H++ [Ob.box C])++ [Ob.row false 1 0 [M.ref H.length 0]])++ [Ob.row true 1 0 [M.ref H.length 0]]).set (X.A (.fr π)) (Ob.box ([a,bM (X.A (.cr π)) (X.vc π) e,.bH (H.length+2) 0 1,.mp (X.A (.am π)),.mp (X.A (.tk π))])):=au2 W;rw[U];have E:(X.fS π 0 H).A (.er π)=H.length+2:=by simp[aw.fS]
  have O:(X.fS π 0 H).ve π=0:=by simp[aw.fS]
  have oR:(X.fS π 0 H).own (H.length+2)=some (.er π):=by simp[aw.fS]
  generalize r:(((H++ [Ob.box C])++ [Ob.row false 1 0 [M.ref H.length 0]])++ [Ob.row true 1 0 [M.ref H.length 0]]).set (X.A (.fr π)) (Ob.box ([a,bM (X.A (.cr π)) (X.vc π) e,.bH (H.length+2) 0 1,.mp (X.A (.am π)),.mp (X.A (.tk π))]))=q;have V:q.length=H.length+3:=by rw[<-r];simp
  have x: ∀a,a<H.length->a≠X.A (.fr π)->q[a]?=H[a]?:= λa p F=>by
   rw[<-r,auT (avH F),auL (by simp;omega),auL (by simp;omega),auL p]
  have Y:q[X.A (.fr π)]?=some (Ob.box ([a,bM (X.A (.cr π)) (X.vc π) e,.bH (H.length+2) 0 1,.mp (X.A (.am π)),.mp (X.A (.tk π))])):=by rw[<-r];exact avz (by simp;omega)
  have Z:q[H.length]?=some (Ob.box C):=by
   rw[<-r,auT (by omega),auL (by simp),auL (by simp)];simp
  have kR:q[H.length+2]?=some (Ob.row true 1 0 [M.ref H.length 0]):=by
   rw[<-r,auT (by omega),auR (by simp)];simp
  have t: ∀{j},X.own (X.A j)=some j->j≠ .fr π->X.A j≠X.A (.fr π):= λ{j} p F e=>by rw[e,h.lN]at p;injection p with p;exact F p.symm
  constructor
  ·exact{
       lt:= λa j i=>by
        by_cases n:a<H.length
        ·omega
        ·rw[V];by_cases m:a=H.length
         ·omega
         ·by_cases y:a=H.length+2
          ·omega
          ·simp only[aw.fS]at i;rw[auU m,auU (by omega),Q a (by omega)]at i;cases i
       lN:=by rw[G,s _ hf];exact h.lN
       oH:= λ_=>by rw[E];exact oR
       nL:= λo=>by rw[I,s _ (h.lt _ _ (h.nL o))];exact h.nL o
       oU:= λf l=>by
        obtain rfl:f=0:=by omega
        rw[J];exact R
       oT:= λf l=>by rw[K,s _ (h.lt _ _ (h.oT f l))];exact h.oT f l
       fr:=by rw[G,ac,ah,I,S,E,O];exact Y
       er:= λ_=>by rw[E,O,kR];simp[J]
       cr:= λo=>by
        rw[I,S,x _ (h.lt _ _ (h.nL o)) (t (h.nL o) (by simp)),h.cr o]
        congr 2
        try exact avy λf _=>by rw[K]
       pl:= λf l=>by
        obtain rfl:f=0:=by omega
        obtain⟨u,w,n,m,rfl⟩:=VL;exact⟨u,w,n,m,by rw[J];exact Z⟩
       ce:= λf l=>by obtain⟨v,lp,eq,n,m,y,e4⟩:=h.ce f l;exact⟨v,lp,eq,n,m,by rw[K,G,x _ (h.lt _ _ (h.oT f l)) (t (h.oT f l) (by simp))];exact y,λ_ _ hh=>hh.elim⟩}
  ·exact{
       eq:=⟨_,_,_,_,rfl⟩,len:=by omega,A:=L,v:= λρ P=>⟨by simp[aw.fS,P],by simp[aw.fS,P]⟩,own:=s,new:= λa j i=>by
        by_cases n:a<H.length
        ·exact .inl n
        ·by_cases m:a=H.length
         ·subst m;rw[R]at i;injection i with i;subst i;exact .inr W
         ·by_cases y:a=H.length+2
          ·subst y;rw[oR]at i;injection i with i;subst i;exact .inr W
          ·simp only[aw.fS]at i;rw[auU m,auU (by omega),Q a (by omega)]at i;cases i
       iY:= λa N B=>x a N (by rintro rfl;exact(B _ h.lN).2 W)}
 ·have XD:k≠0:=by omega
  have U:X.xv π k H C a (bM (X.A (.cr π)) (X.vc π) e) (.mp (X.A (.am π))) (.mp (X.A (.tk π)))=(((H++ [Ob.box C])++ [Ob.row false 1 0 [M.ref H.length 0]]).set (X.A (.er π)) (Ob.row true 1 (X.ve π+1) (((List.range k).map λf=>M.ref (X.A (.pl π f)) 0)++ [M.ref H.length 0]))).set (X.A (.fr π)) (Ob.box ([a,bM (X.A (.cr π)) (X.vc π) e,.bH (X.A (.er π)) (X.ve π+1) (k+1),.mp (X.A (.am π)),.mp (X.A (.tk π))])):=auU XD;rw[U];have E:(X.fS π k H).A (.er π)=X.A (.er π):=by simp[aw.fS,XD]
  have O:(X.fS π k H).ve π=X.ve π+1:=by simp[aw.fS,XD]
  have QT:=h.lt _ _ (h.oH D);generalize r:(((H++ [Ob.box C])++ [Ob.row false 1 0 [M.ref H.length 0]]).set (X.A (.er π)) (Ob.row true 1 (X.ve π+1) (((List.range k).map λf=>M.ref (X.A (.pl π f)) 0)++ [M.ref H.length 0]))).set (X.A (.fr π)) (Ob.box ([a,bM (X.A (.cr π)) (X.vc π) e,.bH (X.A (.er π)) (X.ve π+1) (k+1),.mp (X.A (.am π)),.mp (X.A (.tk π))]))=q;have V:q.length=H.length+2:=by rw[<-r];simp
  have t: ∀{j r'},X.own (X.A j)=some j->X.own (X.A r')=some r'->j≠r'->X.A j≠X.A r':= λ{j r'} p h3 F e=>by rw[e,h3]at p;injection p with p;exact F p.symm
  have x: ∀a,a<H.length->a≠X.A (.fr π)->a≠X.A (.er π)->q[a]?=H[a]?:= λa p F h3=>by
   rw[<-r,auT (avH F),auT (avH h3),auL (by simp;omega),auL p]
  have Y:q[X.A (.fr π)]?=some (Ob.box ([a,bM (X.A (.cr π)) (X.vc π) e,.bH (X.A (.er π)) (X.ve π+1) (k+1),.mp (X.A (.am π)),.mp (X.A (.tk π))])):=by rw[<-r];exact avz (by simp;omega)
  have Z:q[H.length]?=some (Ob.box C):=by
   rw[<-r,auT (by omega),auT (by omega),auL (by simp)];simp
  have kR:q[X.A (.er π)]?=some (Ob.row true 1 (X.ve π+1) (((List.range k).map λf=>M.ref (X.A (.pl π f)) 0)++ [M.ref H.length 0])):=by
   rw[<-r,auT (avH (t (h.oH D) h.lN (by simp))),avz (by simp;omega)]
  constructor
  ·exact{
       lt:= λa j i=>by
        by_cases n:a<H.length
        ·omega
        ·rw[V];by_cases m:a=H.length
         ·omega
         ·simp only[aw.fS]at i;rw[auU m,auU (by omega),Q a (by omega)]at i;cases i
       lN:=by rw[G,s _ hf];exact h.lN
       oH:= λ_=>by rw[E,s _ QT];exact h.oH D
       nL:= λo=>by rw[I,s _ (h.lt _ _ (h.nL o))];exact h.nL o
       oU:= λf l=>by
        by_cases e:f=k
        ·subst e;rw[J];exact R
        ·rw[T f e,s _ (h.lt _ _ (h.oU f (by omega)))];exact h.oU f (by omega)
       oT:= λf l=>by rw[K,s _ (h.lt _ _ (h.oT f l))];exact h.oT f l
       fr:=by rw[G,ac,ah,I,S,E,O];exact Y
       er:= λ_=>by
        rw[E,O,kR,yf,J]
        congr 3
        exact avy λf l=>by rw[T f (by have:=awp.1 l;omega)]
       cr:= λo=>by
        rw[I,S,x _ (h.lt _ _ (h.nL o)) (t (h.nL o) h.lN (by simp)) (t (h.nL o) (h.oH D) (by simp)),h.cr o]
        congr 2
        try exact avy λf _=>by rw[K]
       pl:= λf l=>by
        by_cases e:f=k
        ·subst e;obtain⟨u,w,n,m,rfl⟩:=VL;exact⟨u,w,n,m,by rw[J];exact Z⟩
        ·obtain⟨u,w,n,m,y⟩:=h.pl f (by omega);exact⟨u,w,n,m,by rw[T f e,x _ (h.lt _ _ (h.oU f (by omega))) (t (h.oU f (by omega)) h.lN (by simp)) (t (h.oU f (by omega)) (h.oH D) (by simp))];exact y⟩
       ce:= λf l=>by obtain⟨v,lp,eq,n,m,y,e4⟩:=h.ce f l;exact⟨v,lp,eq,n,m,by rw[K,G,x _ (h.lt _ _ (h.oT f l)) (t (h.oT f l) h.lN (by simp)) (t (h.oT f l) (h.oH D) (by simp))];exact y,λ_ _ hh=>hh.elim⟩}
  ·exact{
       eq:=⟨_,_,_,_,rfl⟩,len:=by omega,A:=L,v:= λρ P=>⟨by simp[aw.fS,P],by simp[aw.fS,P]⟩,own:=s,new:= λa j i=>by
        by_cases n:a<H.length
        ·exact .inl n
        ·by_cases m:a=H.length
         ·subst m;rw[R]at i;injection i with i;subst i;exact .inr W
         ·simp only[aw.fS]at i;rw[auU m,auU (by omega),Q a (by omega)]at i;cases i
       iY:= λa N B=>x a N (by rintro rfl;exact(B _ h.lN).2 W) (by rintro rfl;exact(B _ (h.oH D)).1 W)}
theorem Fl.link{k e:Nat}(h:Fl g st z up X π k e L H){x i:Nat}{v:Va}{f:Option Nat}{eq:M}(w:x<k)(C:g.vars[x]?=some v)(D:f_ g.vars v.name=some x)(E:g.cO[x]?=some f){q:aB}(F:g.au[i]?=some q)(G:v.name∈cd q)(I: ∀j nm,L j nm->j<=i)(J:H[X.A (.ce π x)]?=some (.box (dh v f eq (X.A (.fr π)) (st x) (z x)))):
  Fl g st z up X π k e (λj nm=>L j nm\/(j=i/\nm=v.name)) (H.set (X.A (.ce π x)) (.box (dh v f (.ref (X.A (.pl π i)) 0) (X.A (.fr π)) (st x) (z x))))/\m_ π X H X (H.set (X.A (.ce π x)) (.box (dh v f (.ref (X.A (.pl π i)) 0) (X.A (.fr π)) (st x) (z x)))):=by
 have l: ∀{b},X.own (X.A b)=some b->b≠ .ce π x->(H.set (X.A (.ce π x)) (.box (dh v f (.ref (X.A (.pl π i)) 0) (X.A (.fr π)) (st x) (z x))))[X.A b]?=H[X.A b]?:= λ{b} c K=>
  auT (by intro e;rw[<-e,h.oT x w]at c;injection c with c;exact K c.symm)
 constructor
 ·refine{h with lt:= λn b p=>by simpa using h.lt n b p,fr:=(l h.lN (by simp)).trans h.fr,cr:= λy=>(l (h.nL y) (by simp)).trans (h.cr y),er:= λA=>(l (h.oH A) (by simp)).trans (h.er A),ce:= λd m=> ?_,pl:= λd m=> ?_}
  ·by_cases e:d=x
   ·subst e;refine⟨v,f,_,C,E,gC J _,λj o a=> ?_⟩;rcases a with a|a
    ·rcases auM j i with N|U
     ·exact absurd G (o.2.2 i q N F)
     ·have:=I j _ a;obtain rfl:j=i:=by omega
      rfl
    ·rw[a.1]
   ·obtain⟨B,O,P,r,s,t,Q⟩:=h.ce d m;refine⟨B,O,P,r,s,(l (h.oT d m) (by intro u;injection u with _ u;exact e u)).trans t,λj o a=> ?_⟩;rcases a with a|a
    ·exact Q j o a
    ·have c:=o.1;rw[a.2,D]at c;injection c with c
     exact absurd c.symm e
  ·obtain⟨R,S,r,s,t⟩:=h.pl d m;exact⟨R,S,r,s,(l (h.oU d m) (by simp)).trans t⟩
 ·exact⟨⟨_,_,_,_,W⟩,by simp,λ_ _=>rfl,λ_ _=>⟨rfl,rfl⟩,λ_ _=>rfl,λn b p=> .inl (h.lt n b p),λn V T=>auT (by rintro rfl;exact(T _ (h.oT x w)).1 W)⟩
theorem Fl.skip{k e:Nat}(h:Fl g st z up X π k e L H){i:Nat}{nm:Nm}(f: ∀a v,a<k->g.vars[a]?=some v->f_ g.vars v.name=some a->v.name≠nm):Fl g st z up X π k e (λj n=>L j n\/(j=i/\n=nm)) H:=
by
 refine{h with ce:= λa c=> ?_};obtain⟨v,l,eq,d,m,o,q⟩:=h.ce a c;refine⟨v,l,eq,d,m,o,λj p b=> ?_⟩;rcases b with b|b
 ·grind
 ·exact absurd b.2 (f a v c d p.1)
theorem Fl.mono{k e:Nat}{c:Nat->Nm->Prop}(h:Fl g st z up X π k e L H)(i: ∀a v,v∈g.vars-> ∀b,gR g b v a->c a v.name->L a v.name):Fl g st z up X π k e c H:=
by
 refine{h with ce:= λb j=> ?_};obtain⟨v,l,eq,d,m,n,o⟩:=h.ce b j;exact⟨v,l,eq,d,m,n,λa f p=>o a f (i a v (auQ d) b f p)⟩
end
end Go.Proofs.Sz
