/- A part of the proof of the last text of this claim, without conditions. -/
import Derived.Test.YtjbigbaipmiihaaGreatJ
set_option maxRecDepth 4000
set_option linter.all false
namespace Go.Ex
open Go.Mt Go.Mk
open Go.Sm (Path US It)
theorem L5{d:Nd}(a:vX d.b)(b: ∀v∈d.outs,v.last=true->GC v.ty v.first):FA (oe (T0 d) d.b++nF d.outs) (Sm.iM cI (cG d)):=(L3 (T0 d) a).app (Kx d.outs b)
theorem EL{d:Nd}{k:Nat}{x:PK}(h:(TN d).pt k=x)(c:x≠ .any):(oe (T0 d) d.b++nF d.outs)[k]?=some x:=by
 have a:((oe (T0 d) d.b++nF d.outs)[k]?).getD .any=x:=h;cases b:(oe (T0 d) d.b++nF d.outs)[k]? with
 |none=>rw[b]at a;exact absurd a.symm c
 |some e=>rw[b]at a;exact arI some a
theorem BT{l:List PK}{m:List (Option Int)}(h:FA l m){k:Nat}{x:PK}(b:l[k]?=some x): ∃y,m[k]?=some y/\Lx x y:=by
 have a:=pD b;rw[h.1]at a;exact⟨_,aqi a,h.2 k x _ b (aqi a)⟩
def nG(l:List Nd):Nat->Nat->US->Prop
 |0,_,_=>False
 |n+1,k,u=> ∃d,l[k]?=some d/\u.i=k/\Mem (TN d) (nG l n) (p7 u)
structure L6(d:Nd):Prop where
 wf:vX d.b
 of: ∀v∈d.outs,v.last=true->GC v.ty v.first
 nd:(tn (Dk d)).Nodup
theorem mN{c:UInt8}{n n':Nat}{x:Nm}(h:fV n n' x):x≠⟨#[c]⟩:=by
 obtain⟨b,a,_,_,rfl⟩:=h;exact JK b c a
theorem Lz{d:Nd} :tn (Dk d)=d.ins.map (·.name)++(d.outs.map (·.name)++tn (BP 0 d.b)):=by
 unfold Dk tn;rw[aqO,aqO,as9,show List.map (λa:Va×Nat=>a.1.name) (ug (Sm.bP (ep d.b)) d.outs)=d.outs.map (·.name)from EG _ _];rfl
theorem L7{k:Nat}{d:Nd}(h:GN k d):L6 d:=by
 obtain⟨_,j,⟨last,first,p,f⟩,q,r,g⟩:=h;refine⟨Kz k 3 _ _ _ _ _ g,λv c l=> ?_,?_⟩
 ·rw[f]at c;simp only[aqs,aqx,aq9]at c;rcases c with rfl|rfl
  ·grind
  ·cases l
 ·have i:=(Kw k 3 _ _ _ _ _ g).2 0;rw[Lz,j,f,<-aqD,aq8];refine⟨(show([aV.name,bV.name,⟨#[120]⟩,yV.name]:List Nm).Nodup by decide),i.d,λa s o m e=> ?_⟩;subst e;have b:=i.b a m;have n:a=aV.name\/a=bV.name\/a=⟨#[120]⟩\/a=yV.name:=by grind
  rcases n with rfl|rfl|rfl|rfl
  ·exact mN b W
  ·exact mN b W
  ·exact mN b W
  ·exact mN b W
theorem KA{d:Nd}(h:L6 d):(∀k t,(TN d).pt k= .val t->VT t (Sm.cd (Sm.iM cI (cG d)) k))/\(∀k N,(TN d).pt k= .aL N->0<=Sm.cd (Sm.iM cI (cG d)) k/\Sm.cd (Sm.iM cI (cG d)) k<(N:Int))/\ ∀k j,(TN d).pt k= .call j->(Sm.iM cI (cG d))[k]?=some none:=by
 have f:=L5 h.wf h.of;refine⟨λk t c=> ?_,λk N c=> ?_,λk j c=> ?_⟩
 ·obtain⟨b,e,a⟩:=BT f (EL c (by simp));cases b with
  |none=>exact a.elim
  |some v=>unfold Sm.cd;rw[e];exact a
 ·obtain⟨b,e,a⟩:=BT f (EL c (by simp));cases b with
  |none=>
   have g:0<N:=a;unfold Sm.cd;rw[e];show(0:Int)<=0/\(0:Int)<N;omega
  |some v=>exact a.elim
 ·obtain⟨b,e,a⟩:=BT f (EL c (by simp));cases b with
  |none=>exact e
  |some v=>exact a.elim
section
variable{l:List Nd}(hP:GP l)
include hP
theorem Dm{j:Nat}(c:j<l.length):Sm.lK (lO l).nodes (nm 102 j)=some j:=by
 have e: ∀(a:Nat) (d:Nd),l[a]?=some d->d.name=nm 102 a:= λa d g=>(hP.2.2 a d g).1
 show(l.map cG).findIdx? (λd=>decide (d.name=nm 102 j))=some j;rw[asM];obtain⟨h,b,i,k,m,n⟩:=wO l ((λd:Sm.Nd=>decide (d.name=nm 102 j))∘cG) ⟨l[j],aqz c,by show decide (l[j].name=nm 102 j)=true;rw[e j _ (aqi c)];simp⟩;have f:b.name=nm 102 j:=aqv m;rw[e h b k]at f;rw[i,(gS f).2]
theorem Dp{n j:Nat}{d:Nd}(b:l[j]?=some d):nG l (n+1) j (US.init (lO l) j):=by
 obtain⟨h,i,o⟩:=KA (L7 (hP.2.2 j d b));have f: ∀a,(US.init (lO l) j).mem a=Sm.cd (Sm.iM cI (cG d)) a:= λa=>by
  show(match(l.map cG)[j]? with|some d=>Sm.cd (Sm.iM cI d) a|none=>0)=_;rw[aqL,b];rfl
 refine⟨d,b,rfl,λa=> ?_⟩;cases g:(TN d).pt a with
 |val c=>show VT c ((US.init (lO l) j).mem a);rw[f];exact h a c g
 |any=>trivial
 |aL e=>show 0<=(US.init (lO l) j).mem a/\(US.init (lO l) j).mem a<(e:Int);rw[f];exact i a e g
 |call m=>intro p k;cases k
theorem J': ∀(n k:Nat),k<n-> ∀(u:US),nG l n k u-> ∀a b,VT .int a->VT .bool b-> ∃B C u',Sm.fT (lO l) n u [a,b] [B,C] u'/\VT .int B/\VT .eO C/\nG l n k u':=by
 intro n
 induction n with
 |zero=>intro k hk;omega
 |succ n ih=>
  intro k hk u hu a b va vb;obtain⟨d,D,U,V⟩:=hu;have H:=hP.2.2 k d D;have z:=L7 H;obtain⟨f1,f2,f3⟩:=KA z;have PY:=pD D;have X:=BO H;obtain⟨Zw,w,⟨last,first,hf,p⟩,n',OK,Y⟩:=H
  let T:=TN d
  let R:=Sm.iM cI (cG d)
  let Z:Nat->US->List Int->List Int->US->Prop:= λg u f x u'=>g<k/\Sm.fT (lO l) n u f x u'/\u'.i=g/\nG l n g u'
  let az:Nat->US:=US.init (lO l)
  have TW: ∀g u',nG l n g u'->u'.i=g:= λg u' j=>by
   cases n with
   |zero=>exact j.elim
   |succ n=>obtain⟨_,_,i,_⟩:=j;exact i
  have hW:Wd T R (nG l n) Z az k:=by
   refine⟨f1,f2,f3,λg hj=>⟨?_,rfl⟩,λg hj u0 d8 a0 b0 XU d9=> ?_⟩
   ·have OO:l[g]?=some l[g]:=aqi (by omega);cases n with
    |zero=>omega
    |succ n=>exact Dp hP OO
   ·obtain⟨B,C,u',i,q,E,y⟩:=ih g (by omega) u0 d8 a0 b0 XU d9;exact⟨B,C,u',⟨hj,i,TW g u' y,y⟩,q,E⟩
  have Nu:pQ T 0 d.b:=by
   refine I5 z.wf 0 (λvp I=>EK z.nd (aqt _ (aqt _ I))) (λf h o=> ?_);rw[show oe T d.b=oe (T0 d) d.b from EJ (T:=T) (T':=T0 d) (show T.ty=(T0 d).ty from rfl) d.b]at o;show((oe (T0 d) d.b++nF d.outs)[0+f]?).getD .any=h;rw[arF,aqf (pD o),o];rfl
  have f4:Has T.pt (Sm.bP (ep d.b)) (nF d.outs):= λf h o=>by
   show((oe (T0 d) d.b++nF d.outs)[Sm.bP (ep d.b)+f]?).getD .any=h;rw[aqm (by rw[sP];omega),sP,aro,o];rfl
  have ac: ∀(f:Nat) (v:Va),d.outs[f]?=some v->T.ty v.name=v.ty/\T.ls v.name=v.last/\(v.last=true->(Sm.cm (d.outs.map dW) (Sm.bP (ep d.b)))[f]?=some (some (T.lp v.name))/\T.pt (T.lp v.name)= .val v.ty):= λf v c=>
   wU c (λvp I=>EK z.nd (aqt _ (aqq _ I))) f4
  have co: ∀v∈d.ins,T.ty v.name=v.ty/\T.ls v.name=v.last:= λv c=>by
   have:=EK z.nd (aqq _ (aqM.2 ⟨v,c,rfl⟩));exact⟨this.1,this.2.1⟩
  have Qx: ∀v∈d.outs,v.clock=none:= λv c=>by
   rw[p]at c;simp only[aqs,aqx,aq9]at c;rcases c with rfl|rfl<;>rfl
  have J:((d.ins++d.outs).map (·.name)).Nodup:=by rw[w,p];exact(show([aV.name,bV.name,⟨#[120]⟩,yV.name]:List Nm).Nodup by decide)
  have d6:(d.outs.map (·.name)).Nodup:=by rw[p];exact(show([⟨#[120]⟩,yV.name]:List Nm).Nodup by decide)
  have K: ∀h,eI (d.ins++d.outs) h-> ¬fV 0 n' h:=by
   rintro h ⟨v,c,rfl⟩ F;rw[w,p]at c;simp only[arl,aqK,aqs,aqx,aq9]at c;rcases c with rfl|rfl|rfl|rfl
   ·exact mN F W
   ·exact mN F W
   ·exact mN F W
   ·exact mN F W
  let r:Env:=[(aV.name,some a,0),(bV.name,some b,0)]
  have L:get r aV.name=some (some a,0,0):=rfl;have M:get r bV.name=some (some b,0,1):=rfl;have N: ∀h,h≠aV.name->h≠bV.name->get r h=none:= λh i q=>by
   show(if aV.name=h then _ else if bV.name=h then _ else none)=none;rw[aqo (λe=>i e.symm),aqo (λe=>q e.symm)]
  have f7:lc T r (eI (d.ins++d.outs)) ⟨d.ins,[],[]⟩ r.length:=by
   refine⟨⟨λv c=>(co v c).1,λv c=>(by cases c),λv c=>(by cases c)⟩,λv c hc=> ?_,λv c=>(by cases c)⟩;have Uf:eI (d.ins++d.outs) v.name:=⟨v,aqq _ c,rfl⟩;rw[w]at c;simp only[aqs,aqx,aq9]at c;rcases c with rfl|rfl
   ·exact⟨Uf,⟨a,0,0,L,(show 0<2 by decide)⟩,by show VT .int (val r aV.name);unfold val;rw[L];exact va⟩
   ·exact⟨Uf,⟨b,0,1,M,(show 1<2 by decide)⟩,by show VT .bool (val r bV.name);unfold val;rw[M];exact vb⟩
  obtain⟨s,hE,hO,hL⟩:=Fy hW 3 _ _ _ _ _ Y r (p7 u) (eI (d.ins++d.outs)) 0 V f7 (λv c=>by
    obtain⟨f,RA⟩:=aqG.1 c;obtain⟨O,P,Q⟩:=ac f v RA;refine⟨⟨v,aqt _ c,rfl⟩,⟨O,P,λj=>(Q j).2⟩,Qx v c,?_⟩;rw[p]at c;simp only[aqs,aqx,aq9]at c;rcases c with rfl|rfl
    ·exact N _ (show(⟨#[120]⟩:Nm)≠aV.name by decide) (show(⟨#[120]⟩:Nm)≠bV.name by decide)
    ·exact N _ (show yV.name≠aV.name by decide) (show yV.name≠bV.name by decide)) d6 K (λh o=>N h (mN o) (mN o)) Nu
  obtain⟨f8,MR,f9⟩:=(BH k 3).st _ _ _ _ _ Y (eI (d.ins++d.outs)) (λv c=>⟨v,aqt _ c,rfl⟩) K d6;obtain⟨sp,wf⟩:=EE hP;have RR:(lO l).nodes[u.i]?=some (cG d):=by show(l.map cG)[u.i]?=_;rw[U,aqL,D];rfl
  have S:bD (lO l) T R s d u Z az:=by
   refine⟨sp,wf,aqk RR,rfl,rfl,hL s (a_.refl s),f9,Nu,J,λv c=> ?_,λf v c=> ?_,λv c=> ?_,λv c d7 hq o=> ?_,λv c=> ?_⟩
   ·obtain⟨i,q⟩:=co v c;rw[w]at c;simp only[aqs,aqx,aq9]at c;rcases c with rfl|rfl
    ·exact⟨i,q,rfl,rfl⟩
    ·exact⟨i,q,rfl,rfl⟩
   ·obtain⟨O,P,Q⟩:=ac f v c;exact⟨O,P,Qx v (aqk c),Q⟩
   ·exact(mx.1 ((MR v.name).2 ⟨v,c,rfl⟩)).1
   ·have M9: ¬ ∃t∈c8 d.b,t.name=v.name:=by
     rintro⟨t,A,e⟩;exact K v.name ⟨v,aqq _ c,rfl⟩ (e▸f8 t A)
    have:v.name∈Sm.jL (ep d.b):=mx.2 ⟨⟨d7,hq,o⟩,λt A e=>M9 ⟨t,A,e⟩⟩;obtain⟨t,A,e⟩:=(MR v.name).1 this;rw[aqO,aq8]at J;exact J.2.2 v.name (aqU c) t.name (aqU A) e.symm
   ·obtain⟨x,sb,f,i,q,E,y⟩:=hO.o v c;exact⟨x,sb,f,i,E,y⟩
  have hC:=Lu S (⟨λg u f x u' j=>⟨j.2.1,Dm hP (by have:=j.1;omega)⟩,λg=>rfl⟩) X.1 X.2.1 RR (by rw[w];exact(show 2<=1000 by decide)) (by rw[p];exact(show 2<=1000 by decide)) (ins:=[a,b]) (by rw[w];rfl) (λf v m c G=>by
   rw[w]at c;cases f with
   |zero=>simp at c G;subst c;subst G;exact⟨0,0,hE.get L⟩
   |succ f=>
    cases f with
    |zero=>simp at c G;subst c;subst G;exact⟨0,1,hE.get M⟩
    |succ f=>simp at c)
  have Zf: ∀v∈d.outs,VT v.ty (val s v.name):= λv c=>by
   obtain⟨x,sb,f,i,q,E,y⟩:=hO.o v c;rw[ri i];exact y
  have e1:d.outs.map (λv=>val s v.name)= [val s ⟨#[120]⟩,val s yV.name]:=by rw[p];rfl
  rw[e1]at hC;refine⟨_,_,_,⟨_,cG d,hC⟩,Zf ⟨⟨#[120]⟩,.int,none,last,first⟩ (by rw[p];exact aqP ..),Zf yV (by rw[p];exact aqF _ (aqP ..)),d,D,U,(I0 (an:=jg d) S hW V (λg u f x u' j=>⟨j.2.2.1,j.2.2.2⟩) u.i)⟩
end
end Go.Ex
namespace Go.Proofs.Sz
open Go.Mt Go.Sm Go.Proofs
instance:br Tryz.prog 12:=cK (by kernel_rfl)
instance:br Tryz.prog 16:=cK (by kernel_rfl)
instance:br Tryz.prog 14:=cK (by kernel_rfl)
theorem I6(a b:List Int)(F:a.length<=1000000):PT Tryz.prog 16 [.sl (bI a),.sl (bI b)] (·= [.bool (decide (a=b))]):=by
 have h:(bI a).length=a.length:=by simp[bI]
 have A:(bI b).length=b.length:=by simp[bI]
 refine MP (CT.ob Tryz.func16 W Tryz.ntmps16 W λG H=> ?_);refine tC [2] W ?_;by_cases B:a.length=b.length;rotate_left
 ·have m:((((bI a).length:Nat):Int) !=(((bI b).length:Nat):Int))=true:=by rw[h,A];simp;omega
  have g:decide (a=b)=false:=aqR (λe=>B (by rw[e]));rw[g];refine tO [2,14] W ?_;refine aN m W W W W ?_;refine tL [1,2] W ?_;exact TC.ret ⟨_,rfl,[_],rfl,rfl⟩
 have m:((((bI a).length:Nat):Int) !=(((bI b).length:Nat):Int))=false:=by rw[h,A];simp;omega
 refine tO [2,14] W ?_;refine aN m W W W W ?_;refine tL [0,2,3] W ?_;refine TC.lp (λu v=> ∃(c:Nat) (w:List (Nat×List M)),v=⟨[nN 5 c,nD 1 (.sl (bI b)),nD 0 (.sl (bI a))],w,[]⟩/\c<=a.length/\u=a.length-c/\ ∀(d:Nat),d<c->a[d]?=b[d]?) a.length _
  ⟨0,_,rfl,by omega,rfl,λd f=>by omega⟩ W ?_
 rintro u v ⟨c,w,rfl,C,rfl,x⟩;refine tC [2] W ?_;refine TC.cond W (λn=> ?_) (λn=> ?_)
 ·have y:c<a.length:=by have:=aqv n;rw[h]at this;omega
  have z:c<b.length:=by omega
  have o:(bI a)[((c:Nat):Int).toNat]?=some [.int .i32 a[c]]:=by simp[bI,y]
  have p:(bI b)[((c:Nat):Int).toNat]?=some [.int .i32 b[c]]:=by simp[bI,z]
  have i:a[c]?=some a[c]:=aqi y;have q:b[c]?=some b[c]:=aqi z;generalize a[c]=k at o i;generalize b[c]=l at p q;refine tC [3] W ?_;by_cases j:k=l
  ·have s:(k !=l)=false:=by rw[j];simp
   refine tC [] W ?_;refine TC.draw bT ?_;refine fR 2 W ?_;refine bK W W W (aqe c) o W ?_;refine fR 3 W ?_;refine bK W W W (aqe c) p W ?_;refine fR 1 W ?_;refine lX W W W (r:= .bool false) (by show some (D.bool (_ !=_))=_;rw[s]) ?_;refine TF.nil ⟨by kernel_rfl,?_⟩;refine tO [0,2,20] W ?_;refine ax W W W (by omega) ?_;refine tL [] W ?_;refine again (k':=a.length-(c+1)) (by omega) ⟨c+1,_,rfl,by omega,rfl,λd E=> ?_⟩ W W;rcases aq0.1 E with t|t
   ·exact x d t
   ·subst t;rw[i,q,j]
  ·have s:(k !=l)=true:=by simpa using j
   have g:decide (a=b)=false:=aqR (λe=>j (by rw[e,q]at i;injection i with f;exact f.symm));rw[g];refine tC [] W ?_;refine TC.draw bT ?_;refine fR 2 W ?_;refine bK W W W (aqe c) o W ?_;refine fR 3 W ?_;refine bK W W W (aqe c) p W ?_;refine fR 1 W ?_;refine lX W W W (r:= .bool true) (by show some (D.bool (_ !=_))=_;rw[s]) ?_;refine TF.nil ⟨by kernel_rfl,?_⟩;refine tC [1,2] W ?_;exact TC.ret ⟨_,rfl,[_],rfl,rfl⟩
 ·have e:c=a.length:=by have:=aqA n;rw[h]at this;exact Nat.le_antisymm C (by omega)
  have g:decide (a=b)=true:=aqI (ar4 λd=>by
   rcases aqh d a.length with f|f
   ·exact x d (by omega)
   ·rw[aqj f,aqj (by omega)])
  rw[g];refine TC.exit ?_;refine tC [2] W ?_;exact TC.ret ⟨_,rfl,[_],rfl,rfl⟩
theorem Hj(P:Pg)(d:Nd)(c:P.nodes.length<=1000000)(h:P.nodes[P.nodes.length-1]?=some d):PT Tryz.prog 12 [.agg P.cells] (·= [.str d.name]):=by
 have e:P.nodes.length-1<P.nodes.length:=by
  rcases aqh (P.nodes.length-1) P.nodes.length with a|a
  ·exact a
  ·rw[aqj a]at h;cases h
 have b:(P.nodes.map Nd.cells)[((((P.nodes.map Nd.cells).length:Nat):Int)-1).toNat]?=some d.cells:=by
  rw[show((((P.nodes.map Nd.cells).length:Nat):Int)-1).toNat=P.nodes.length-1 by simp,aqL,h];rfl
 rw[Nd.aA]at b;refine MP (CT.ob Tryz.func12 W Tryz.ntmps12 W λf g=> ?_);refine tO [2,2,12] W ?_;refine cC W W W (by simp;omega) ?_;refine tR [13] W ?_;refine aK W W W (by simp;omega) b W ?_;refine tL [] W ?_;exact TC.ret ⟨_,rfl,[_],rfl,rfl⟩
def rD(x:Int):Int:=if Int.tmod x 3=1\/Int.tmod x 3= -1 then 1 else 0
def gV(l:List Int):List (List Int):=(l.take 20).map λx=>[x,rD x]
def lT(l:List (List Int)):List (List D):=l.map λr=>[.sl (bI r)]
theorem y_(b:List Int)(v:D)(A:oH .i32 b v):PT Tryz.prog 14 [v] (·= [.sl (lT (gV b))]):=by
 obtain⟨s,B,K⟩:=A;refine MP (CT.ob Tryz.func14 W Tryz.ntmps14 W λL N=> ?_);refine tC [2,2,2,3] W ?_;have J: ∀a,a<=b.length->a<=20->(lT (gV (b.take a))).length=a:= λa h m=>by simp[lT,gV];omega
 have P: ∀a,∀l∈lT (gV (b.take a)),l.length=1:= λa l n=>by obtain⟨z,_,rfl⟩:=aqM.1 n;rfl
 have C: ∀a,a<b.length->a<20-> ∀c,b[a]?=some c->lT (gV (b.take (a+1)))=lT (gV (b.take a))++ [[.sl (bI [c,rD c])]]:= λa h m c E=>by
  have e:b.take (a+1)=b.take a++ [c]:=by rw[List.take_succ,E];rfl
  unfold lT gV;rw[as2,as2,asS (by omega),asS (by omega),e];simp
 refine TC.lp (λt u=> ∃(a:Nat) (w:List (Nat×List M)),u=⟨[nN 4 a,nM 3 (fP 0 (lT (gV (b.take a)))),nM 0 (.d v)],w,dB [] 1 (lT (gV (b.take a)))⟩/\a<=b.length/\a<=20/\t=20-a) 20 _
  ⟨0,_,rfl,by omega,by omega,rfl⟩ W ?_
 rintro t u ⟨a,w,rfl,O,Q,rfl⟩;have F:a<b.length/\a<20\/(a=b.length\/a=20):=by omega
 rcases F with⟨h,m⟩|G
 ·have o:decide (((a:Nat):Int)<((b.length:Nat):Int))=true:=aqI (by omega);have x:b[a]?=some b[a]:=aqi h;have H:v= .sl (jJ .i32 b):=by
   rcases B with g|g
   ·rw[g]at h;simp at h
   ·exact g
  have f:(jJ .i32 b)[((a:Nat):Int).toNat]?=some [.int .i32 b[a]]:=by simp[jJ,h]
  have d:=C a h m _ x;have i:=J a (by omega) (by omega);generalize b[a]=c at x f d;subst H;refine tO [2,12] W ?_;refine bH W W s ?_;refine tR [13] W ?_;refine aN o W W W W ?_;refine tR [16] W ?_
  first|refine aE W W ?_|(refine aB W ?_;(refine aN (aqI (by omega)) W W W W ?_))
  refine tL [1,3] W ?_;by_cases p:Int.tmod c 3=1
  ·have j:rD c=1:=by unfold rD;rw[aqy (.inl p)]
   have k:(Int.tmod c 3==1)=true:=by simpa using p
   rw[j]at d;refine tO [2,2,22] W ?_;refine aK W W W (aqe a) f W ?_;refine tR [24] W ?_;refine oE W W W W ?_;refine tR [25] W ?_;refine aN k W W W W ?_;refine tR [31] W ?_
   first|refine aE W W ?_|(refine aB W ?_;(refine oE W W W W ?_))
   refine tR [1,2,2,37] W ?_;refine aK W W W (aqe a) f W ?_;refine tR [42] W ?_;refine qK (H0:=[]) W W W W (by rfl) W (by rw[i];omega) (by rw[i];omega) ?_;refine tR [2,19] W ?_;refine ax W W W (by omega) ?_;refine tL [] W ?_;exact again (k':=20-(a+1)) (by omega) ⟨a+1,_,rfl,by omega,by omega,rfl⟩ (by rw[d];rfl) (kc W (kc (by rw[d];rfl) W))
  ·have k:(Int.tmod c 3==1)=false:=by simpa using p
   by_cases q:Int.tmod c 3= -1
   ·have j:rD c=1:=by unfold rD;rw[aqy (.inr q)]
    have r:(Int.tmod c 3== -1)=true:=by simpa using q
    rw[j]at d;refine tO [2,2,22] W ?_;refine aK W W W (aqe a) f W ?_;refine tR [24] W ?_;refine oE W W W W ?_;refine tR [25] W ?_;refine aN k W W W W ?_;refine tR [29] W ?_
    first|refine aE W W ?_|(refine aB W ?_;(refine aK W W W (aqe a) f W ?_))
    refine tR [31] W ?_
    first|refine aE W W ?_|(refine aB W ?_;(refine oE W W W W ?_))
    refine tR [32] W ?_
    first|refine aE W W ?_|(refine aB W ?_;(refine aN r W W W W ?_))
    refine tR [1,2,2,37] W ?_;refine aK W W W (aqe a) f W ?_;refine tR [42] W ?_;refine qK (H0:=[]) W W W W (by rfl) W (by rw[i];omega) (by rw[i];omega) ?_;refine tR [2,19] W ?_;refine ax W W W (by omega) ?_;refine tL [] W ?_;exact again (k':=20-(a+1)) (by omega) ⟨a+1,_,rfl,by omega,by omega,rfl⟩ (by rw[d];rfl) (kc W (kc (by rw[d];rfl) W))
   ·have j:rD c=0:=by unfold rD;rw[aqo (by omega)]
    have r:(Int.tmod c 3== -1)=false:=by simpa using q
    rw[j]at d;refine tO [2,2,22] W ?_;refine aK W W W (aqe a) f W ?_;refine tR [24] W ?_;refine oE W W W W ?_;refine tR [25] W ?_;refine aN k W W W W ?_;refine tR [29] W ?_
    first|refine aE W W ?_|(refine aB W ?_;(refine aK W W W (aqe a) f W ?_))
    refine tR [31] W ?_
    first|refine aE W W ?_|(refine aB W ?_;(refine oE W W W W ?_))
    refine tR [32] W ?_
    first|refine aE W W ?_|(refine aB W ?_;(refine aN r W W W W ?_))
    refine tR [0,2,37] W ?_;refine aK W W W (aqe a) f W ?_;refine tR [42] W ?_;refine qK (H0:=[]) W W W W (by rfl) W (by rw[i];omega) (by rw[i];omega) ?_;refine tR [2,19] W ?_;refine ax W W W (by omega) ?_;refine tL [] W ?_;exact again (k':=20-(a+1)) (by omega) ⟨a+1,_,rfl,by omega,by omega,rfl⟩ (by rw[d];rfl) (kc W (kc (by rw[d];rfl) W))
 ·have I:gV (b.take a)=gV b:=by
   unfold gV;rw[as2];rcases G with rfl|rfl
   ·rw[show min 20 b.length=min 20 b.length from rfl]
    congr 1
    rcases Nat.le_total 20 b.length with g|g
    ·rw[asg g]
    ·rw[asS g,arj (aqd _),arj g]
   ·rfl
  rw[I];have y:=iK [] 1 (lT (gV b)) (λl n=>by obtain⟨z,_,rfl⟩:=aqM.1 n;rfl);by_cases h:a<b.length
  ·have R:a=20:=by omega
   refine tO [2,12] W ?_;refine bH W W s ?_;refine tR [13] W ?_;refine aN (aqI (by omega)) W W W W ?_;refine tR [16] W ?_
   first|refine aE W W ?_|(refine aB W ?_;(refine aN (aqR (by omega)) W W W W ?_))
   refine tL [0] W ?_;refine TC.exit ?_;refine TC.b9 3 W y ?_;refine tC [2] W ?_;exact TC.ret ⟨_,rfl,[_],rfl,rfl⟩
  ·have o:decide (((a:Nat):Int)<((b.length:Nat):Int))=false:=aqR (by omega);refine tO [2,12] W ?_;refine bH W W s ?_;refine tR [13] W ?_;refine aN o W W W W ?_;refine tL [0] W ?_;refine TC.exit ?_;refine TC.b9 3 W y ?_;refine tC [2] W ?_;exact TC.ret ⟨_,rfl,[_],rfl,rfl⟩
end Go.Proofs.Sz
namespace Go.Sm
open Go.Mt
abbrev Ka(s:Nm):Va:=⟨s,2,⟨#[]⟩,[],false,LM,(0,0)⟩
abbrev eA:Nm:=⟨#[97]⟩
abbrev eX:Nm:=⟨#[120]⟩
abbrev L8(s:Nm):Xp:= .mk 4 0 0 s [] [] (0,0)
abbrev L9:Xp:= .mk 9 0 0 ⟨#[]⟩ [] [.mk 1 0 0 ⟨#[]⟩ [] [] (0,0),.mk 7 3 0 ⟨#[]⟩ [] [L8 eX,L8 eA] (0,0)] (0,0)
abbrev vY:ay:= .mk 1 [eX] ⟨#[]⟩ [] false L9 [] (0,0)
abbrev Hk:Nd:=⟨⟨#[102]⟩,[Ka eA],[Ka eX],.mk [] [vY],(0,0)⟩
abbrev I7:Pg:=⟨[],[Hk]⟩
def Dq(u:US)(a:Int):aH where
 ok J:=J= []
 fr J:=match J with| []=>tq Hk|_=>⟨[],[],[],[]⟩
 val J k:=match J,k with| [],0=>some a| [],1=>some (u.mem 0)|_,_=>none
 rk _ _:=0
 sb _ _:=0
 ek _ _:=0
 bN _ _:=0
 mU _ _:=false
 ev _ _:=u.mem 0
 ew _ _:=[(0,iL 3 (u.mem 0) a)]
 outs _ _:=[]
 ln _ _:=u
 pJ _ _:=0
 nan _ _:=false
 rd:=u.mem
 rp:=u.cu
 rs:=u.aj
 eV:=1
 sz:=1
 an:=[.cell [] 1]
 wt _:=2
theorem AN{j:Nat}{q:ay}(h: [vY][j]?=some q):j=0/\q=vY:=by
 cases j with
 |zero=>injection h with h;exact⟨rfl,h.symm⟩
 |succ j=>cases h
theorem rj{u:US}{a:Int}{J:Path}{j:Nat}{q:ay}(h:((Dq u a).fr J).au[j]?=some q):q=vY:=by
 cases J with
 |nil=>exact(AN h).2
 |cons _ _=>cases h
theorem rl(u:US)(a:Int):(Dq u a).find [] eX=some ([],1):=by kernel_rfl
theorem Dr(u:US)(a:Int):jB ((Dq u a).fr []) 1 (Ka eX) 0:=⟨by kernel_rfl,⟨vY,rfl,aqp.2 W⟩,λc d e b=>by have:=(AN b).1;omega⟩
theorem I8(u:US)(t:u.i=0)(a:Int):fT I7 1 u [a] [u.mem 0] (.mk 0 (λ_=>iL 3 (u.mem 0) a) u.cu u.aj):=by
 have o: ∀{e:Nat},¬fE (Dq u a) e:=by
  rintro e ⟨f,h,q,w,b,A,B,C,D,y,_⟩;cases y
 refine⟨Dq u a,Hk,?_⟩;constructor
 case nd=>rw[t];rfl
 case sz=>kernel_rfl
 case Gi=>rfl
 case iG=>intro h f c;cases c
 case vx=>rfl
 case uF=>rfl
 case Cp=>
  intro e v x _ c;cases e with
  |zero=>exact⟨c,Nat.one_pos⟩
  |succ e=>cases c
 case cell=>
  rintro f e v E rfl i j k
  match e with
  |0=>exact absurd (k W) (by decide)
  |1=>
   injection i with i
   subst i;refine⟨.nil,aqd _,Nat.one_pos,λx p=>⟨0,some ([],0),Dr u a,.leaf (q:=vY) W (.inl W) (aqd _),rl u a,vY,rfl,λ_=>⟨rfl,?_⟩,λc=>absurd c (by decide)⟩⟩;injection p with p;exact p.symm
  |e+2=>cases i
 case eq=>
  rintro f h q w rfl d r;obtain⟨rfl,rfl⟩:=AN d;injection r with r
  subst r;exact⟨.df W eX W λ_=> .fA Nat.one_pos (.bin (.var (rl u a) Nat.one_pos) (.var (σ:=([],0)) (by kernel_rfl) Nat.one_pos)),Nat.one_pos⟩
 case lhs=>intro f h q c d g;rw[rj d]at g;exact absurd g (by decide)
 case nx=>intro _ _;exact aqY _
 case zm=>intro f c;cases f with
  |nil=>exact absurd W c
  |cons _ _=>exact⟨rfl,rfl⟩
 case gh=>intro f h q d g;rw[rj d]at g;exact absurd g (by decide)
 case lh=>
  rintro f h q rfl d n s σ m _;obtain⟨rfl,rfl⟩:=AN d;rw[aqp.1 s,rl]at m;injection m with m;subst m;exact aqd _
 case KP=>
  intro l v i;cases l with
  |zero=>injection i with i;subst i;exact rl u a
  |succ l=>cases i
 case Jp=>
  rintro f h q n rfl d _ j _;obtain⟨rfl,rfl⟩:=AN d;injection j with j;subst j
  exact⟨([],1),Ka eX,0,rl u a,Dr u a,rfl,rfl,.leaf (q:=vY) W (.inl W) (aqd _),λ_=>aqd _⟩
 case KQ=>
  rintro f h q rfl d n s;obtain⟨rfl,rfl⟩:=AN d;rw[show n=eX from aqp.1 s];exact⟨_,rl u a⟩
 case ah=>intro f h q _ d _;rw[rj d];rfl
 case rd=>exactλe _=>⟨λc=>absurd c o,λ_=>rfl⟩
 case rp=>exactλe _=>⟨λc=>absurd c o,λ_=>rfl⟩
 case rs=>exactλe _=>⟨λc=>absurd c o,λ_=>rfl⟩
 case nm=>
  intro e g;have g:e=0:=by have:e<1:=g;omega
  subst g;refine⟨?_,λc=>absurd (.inl ⟨[],0,vY,rfl,rfl,λ_=>⟨_,rl u a,rfl⟩,aqp.2 W⟩) (c (iL 3 (u.mem 0) a))⟩;rintro v (⟨f,h,q,k,d,_,z⟩|⟨f,l,rfl,j,_⟩|⟨f,h,q,k,d,g,_⟩)
  ·have:=aqp.1 z;injection this with _ c;exact c.symm
  ·match l with
   |0=>cases j
   |1=>cases j
   |l+2=>cases j
  ·rw[rj d]at g;exact absurd g (by decide)
 case np=>
  refineλe _=>⟨?_,λ_=>rfl⟩
  rintro v ⟨f,h,q,k,d,g,_⟩;rw[rj d]at g;exact absurd g (by decide)
 case ns=>
  refineλe _=>⟨?_,λ_=>rfl⟩
  rintro v ⟨f,h,q,k,d,g,_⟩;rw[rj d]at g;exact absurd g (by decide)
 case ui=>exact t.symm
 case wc=>
  rintro f e v rfl i k
  match e with
  |0=>exact absurd (k W) (by decide)
  |1=>exact⟨aqp.2 W,by show 1<=2;omega,λ_ _ _ _ _ _ _ _=>aqd 2⟩
  |e+2=>cases i
 case wq=>
  intro f h q _ d;rw[rj d];exact⟨λc=>absurd c (by decide),λc=>absurd c (by decide),λc=>absurd c (by decide)⟩
 case ws=>show 2+0<=1000000000000;omega
 case outs=>rfl
end Go.Sm
namespace Go.Proofs.Sz
open Go.Mt Go.Sm Go.Proofs
theorem AO{k op n:Int}{s:Nm}{p:Int×Int}(h:k≠9):je (.mk k op n s [] [] p):= .mk (λe=>absurd e h) (aqY _) (aqY _) (λe a=>by cases a)
theorem Kb:je L9:=by
 refine .mk (λ_=>by simp) (by decide) (aqY _) λe a=> ?_
 simp only[aqs,aqx,aq9]at a;rcases a with rfl|rfl
 ·exact AO (by decide)
 ·refine .mk (λb=>absurd b (by decide)) (by decide) (aqY _) λe a=> ?_
  simp only[aqs,aqx,aq9]at a;rcases a with rfl|rfl<;>exact AO (by decide)
theorem I9:pb I7 where
 e:=⟨aqY _,λe he=>by cases he⟩
 n:=by decide
 d:=by
  intro d hd;rw[aqp.1 hd];have h1: ∀q∈ [vY],q=vY:= λq hq=>aqp.1 hq
  have h2:bP Hk.b=1:=by kernel_rfl
  refine⟨.mk (by decide) (by decide) ?_ ?_ ?_ ?_ ?_,by decide,by rw[h2];decide⟩
  ·intro q hq a ha;rw[h1 q hq]at ha;cases ha
  ·intro q hq;rw[h1 q hq];exact aqY _
  ·intro q hq;rw[h1 q hq];exact⟨Kb,aqY _,λe he=>by cases he⟩
  ·intro q hq;rw[h1 q hq];show 1<=1000000;omega
  ·intro q hq a ha;rw[h1 q hq]at ha;cases ha
 i:=by
  intro d hd;rw[aqp.1 hd];have:iC Hk.b=1:=by kernel_rfl
  exact⟨by decide,by omega⟩
theorem LA:uU I7 where
 d:=by
  intro d hd;rw[aqp.1 hd];have h1: ∀q∈ [vY],q=vY:= λq hq=>aqp.1 hq
  refine⟨.mk (λv hv=>by cases hv) ?_ ?_ ?_,?_,aqY _⟩
  ·intro q hq;rw[h1 q hq];exact⟨.inl W,λ_=>rfl,λh=>absurd h (by decide)⟩
  ·intro q hq a ha;rw[h1 q hq]at ha;cases ha
  ·intro q hq a ha;rw[h1 q hq]at ha;cases ha
  ·rintro v (hv|hv)<;>rw[aqp.1 hv]<;>exact aqY _
instance:br Tryz.prog 9:=cK (by kernel_rfl)
instance:br Tryz.prog 22:=cK (by kernel_rfl)
theorem Ds:PT Tryz.prog 22 [] (·= [.agg I7.cells]):=by
 refine MP (CT.ob Tryz.func22 W Tryz.ntmps22 W λa b=> ?_);refine tC [2,2,2,2,2,2] W ?_;exact TC.ret ⟨_,rfl,[_],rfl,rfl⟩
def L_:Nat->Int
 |0=>0
 |1=>1
 |2=>3
 |_=>6
theorem vZ:PT Tryz.prog 9 [] (·= [.bool true]):=by
 obtain⟨_,p,⟨k,c,rfl,g,z⟩,e⟩:=wL (n:=1) I9 (aqd 1) ⟨#[102]⟩ 0 (by kernel_rfl) [];refine MP (CT.ob Tryz.func9 W Tryz.ntmps9 W λA B=> ?_);refine tO [2,2,12] W ?_;refine aJ Ds W W ?_;refine tR [13] W ?_;refine ap e W W ?_;refine tL [2,0,2,2,3] W ?_;refine TC.lp (λi j=> ∃(a:Nat) (l:List (Nat×List M)) (f:Hp) (c:Nat->Prop) (b:US),j=⟨[nN 4 a,nD 3 (.sl [[.int .i32 0],[.int .i32 1],[.int .i32 3]]),nR 1 k],l,f⟩/\a<=3/\i=3-a/\m_ I7 1 b k c f/\b.i=0/\b.mem 0=L_ a) 3 _
  ⟨0,_,p,c,_,rfl,by omega,rfl,g,rfl,by kernel_rfl⟩ W ?_
 rintro i j ⟨a,l,f,c,b,rfl,C,rfl,g,m,o⟩;refine tC [2] W ?_;refine TC.cond W (λe=> ?_) (λe=> ?_)
 ·have h:a=0\/a=1\/a=2:=by have:=aqv e;omega
  obtain⟨_,q,⟨rfl,s,x,E⟩,t⟩:=Al I9 LA g (xs:=[IntKind.i32.wrap (((a:Nat):Int)+1)]) (d:=Hk) (by intro y u;rw[aqp.1 u];unfold oW;rcases h with rfl|rfl|rfl<;>decide) (by rw[m];rfl) W (I8 b m _);have v:([[.int .i32 0],[.int .i32 1],[.int .i32 3]]:List (List D))[((a:Nat):Int).toNat]?=some [.int .i32 (b.mem 0)]:=by rw[o];rcases h with rfl|rfl|rfl<;>rfl
  have w:(b.mem 0 !=b.mem 0)=false:=by simp
  refine tO [3,2,26] W ?_;refine ax W W W (by omega) ?_;refine tR [29] W ?_;refine ap t W W ?_;refine tL [] W ?_;refine TC.draw bT ?_;refine fR 9 W ?_
  first|refine bg W W W W ?_|refine bh W W W ?_|(refine aU W W ?_;(refine bK W W W (as1 0) W W ?_))
  refine fR 3 W ?_
  first|refine bg W W W W ?_|refine bh W W W ?_|(refine aU W W ?_;(refine bK W W W (aqe a) v W ?_))
  refine fR 1 W ?_
  first|refine bg W W W W ?_|refine bh W W W ?_|(refine aU W W ?_;(refine lX W W W (r:= .bool false) (by show some (D.bool (_ !=_))=_;rw[w]) ?_))
  refine fR 1 W ?_;refine TF.nil ⟨by kernel_rfl,?_⟩;refine tO [0,2,22] W ?_;refine ax W W W (by omega) ?_;refine tL [] W ?_;exact again (k':=3-(a+1)) (by omega) ⟨a+1,_,q,s,_,rfl,by omega,rfl,x,rfl,by show iL 3 (b.mem 0) _=_;rw[o];rcases h with rfl|rfl|rfl<;>decide⟩ W W
 ·refine TC.exit ?_;refine tC [2] W ?_;exact TC.ret ⟨_,rfl,[_],rfl,rfl⟩
def mD(F G:Nat->Prop):Prop:= ∀a,F a-> ¬G a
theorem jQ{P:Pg}{n:Nat}{u:US}{c:Nat}{F f a:Nat->Prop}{H K:Hp}(h:m_ P n u c a H)(d:Iq F H f K)(g:mD a F):m_ P n u c a K:=
 h.frame (λb e=>d.o b (h.lt b e) (g b e)) d.len
theorem gQ{P:Pg}{n:Nat}{u:US}{f:Nat}{F c a:Nat->Prop}{H K:Hp}(h:m_ P n u f a H)(g:Iq F H c K)(i:mD a F):mD a c:= λb d j=>by
 rcases g.f b j with e|e
 ·exact i b d e
 ·have:=h.lt b d;omega
theorem mD.symm{F a:Nat->Prop}(h:mD F a):mD a F:= λb c d=>h b d c
theorem Dt{x:Int}(h:(Lit.int .i32 x).wf=true):oW x:=by
 have a:IntKind.i32.min<=x/\x<=IntKind.i32.max:=by simpa [Lit.wf] using h
 have b:IntKind.i32.min= -2147483648:=by decide
 have c:IntKind.i32.max=2147483647:=by decide
 rw[b,c]at a;exact a
section
open Go.Mk Go.Ex
variable{l:List Mk.Nd}(hP:GP l)
include hP
theorem KB{n k:Nat}(j:k<n){u:US}(c:nG l n k u){x b:Int}(f:oW x)(e:b=0\/b=1): ∃(o:List Int) (u':US),o.length=2/\nG l n k u'/\ ∀(a:Nat) (F:Nat->Prop) (H:Hp),m_ (lO l) n u a F H->
  DT Tryz.prog 15 [.ref a 0,.d (.sl (bI [x,b]))] H λm K=>m= .cZ [.d (.sl (bI o)),.d (.int .i64 0)]/\ ∃g,m_ (lO l) n u' a g K/\Iq F H g K:=by
 obtain⟨p,q,u',r,G,I,s⟩:=J' hP n k j u c x b f e;have J:=c;cases n with
 |zero=>omega
 |succ n=>
 obtain⟨d,h,t,_⟩:=c;obtain⟨v,w⟩:=EE hP;have y:(lO l).nodes[u.i]?=some (cG d):=by show(l.map cG)[u.i]?=_;rw[t,aqL,h];rfl
 have z:=(hP.2.2 k d h).2.1;have A:la (lO l).aI (cG d).ins [x,b]=true:=by
  show la [yw] (d.ins.map dW) [x,b]=true;rw[z];have B:kZ 1 2 b=true:=by rcases e with rfl|rfl<;>rfl
  have C:kZ 2 0 x=true:=rfl;show(kZ 2 0 x&&(kZ 1 2 b&&true))=true;rw[B,C];rfl
 refine⟨[p,q],u',rfl,s,λa F H D=>Al v w D (λE i=> ?_) y A r⟩;simp only[aqs,aqx,aq9]at i;rcases i with rfl|rfl
 ·exact f
 ·unfold oW;rcases e with rfl|rfl<;>omega
end
theorem Du(x:Int):rD x=0\/rD x=1:=by unfold rD;split<;>simp
theorem AP{l:List (List Int)}{i:Nat}{r:List Int}(h:l[i]?=some r):(lT l)[((i:Nat):Int).toNat]?=some [.sl (bI r)]:=by
 unfold lT;simp[h]
theorem AQ{a:List Int}{i:Nat}(h:i<(gV a).length): ∃x∈a,(gV a)[i]?=some [x,rD x]:=by
 have b:i<(a.take 20).length:=by simpa [gV] using h
 refine⟨(a.take 20)[i],List.mem_of_mem_take (aqz b),?_⟩;unfold gV;rw[aqL,aqi b];rfl
theorem y'(K:List Int)(v:D)(L:oH .u8 K v)(xs:List Int)(x:D)(hx:oH .i32 xs x)(o:List Int)(y:D)(hy:oH .i32 o y):PT Tryz.prog 6 [v,x,y] (·= [.bool true]):=by
 refine MP (CT.ob Tryz.func6 W Tryz.ntmps6 W λs0 Oo=> ?_);refine tC [2] W ?_;rcases aqh 300 K.length with h1|h1
 ·refine tO [2,25] W ?_;refine aJ vZ W W ?_;refine tR [29] W ?_
  first|refine aE W W ?_|(refine aB W ?_;(refine bH W W L.1 ?_))
  refine tR [30] W ?_
  first|refine aE W W ?_|(refine aB W ?_;(refine fZ W W W (r:= .bool true) (by show some (D.bool (decide _))=_;rw[aqI (by omega)]) ?_))
  refine tR [1,2,32] W ?_;refine aJ vZ W W ?_;refine tL [] W ?_;exact TC.ret ⟨_,rfl,_,rfl,rfl⟩
 refine tO [2,25] W ?_;refine aJ vZ W W ?_;refine tR [29] W ?_
 first|refine aE W W ?_|(refine aB W ?_;(refine bH W W L.1 ?_))
 refine tR [30] W ?_
 first|refine aE W W ?_|(refine aB W ?_;(refine fZ W W W (r:= .bool false) (by show some (D.bool (decide _))=_;rw[aqR (by omega)]) ?_))
 refine tR [0,2,34] W ?_;refine xg (CT.xx (IG K v ⟨L,by omega⟩)) W W ?_;rintro _ _ ⟨⟨_,rfl,a,rfl,j⟩,rfl⟩;refine tL [] W ?_;obtain⟨Qu,Rn,VF⟩:=j;have j:Mk.GP a:=⟨Qu,Rn,VF⟩;obtain⟨N,wf⟩:=Go.Ex.EE j;have PY:a.length-1<a.length:=by omega
 have G:a[a.length-1]?=some a[a.length-1]:=aqi PY;generalize a[a.length-1]=d at G;have t6:=(VF _ d G).1;have i8:(Go.Ex.lO a).nodes.length=a.length:=by show(a.map Go.Ex.cG).length=_;simp
 have t7:(Go.Ex.lO a).nodes[(Go.Ex.lO a).nodes.length-1]?=some (Go.Ex.cG d):=by rw[i8];show(a.map Go.Ex.cG)[_]?=_;rw[aqL,G];rfl
 have u:=Hj (Go.Ex.lO a) (Go.Ex.cG d) (by rw[i8];omega) t7;rw[Go.Ex.yy]at u;have O:lK (Go.Ex.lO a).nodes (Go.Ex.cG d).name=some (a.length-1):=by rw[show(Go.Ex.cG d).name=Mk.nm 102 (a.length-1)from t6];exact Go.Ex.Dm j PY
 have P:1<=a.length:=Qu;obtain⟨_,H,⟨Q,c,rfl,B,p⟩,R⟩:=wL (n:=a.length) N P (Go.Ex.cG d).name (a.length-1) O [];obtain⟨_,S,⟨I,f,rfl,q,e⟩,T⟩:=wL (n:=a.length) N P (Go.Ex.cG d).name (a.length-1) O H;obtain⟨_,K3,⟨U,g,rfl,C,h⟩,V⟩:=wL (n:=a.length) N P (Go.Ex.cG d).name (a.length-1) O S;rw[Go.Ex.yy]at R T V;have s: ∀i6:Nat->Prop,mD i6 (λ_=>False):= λi6 GT _ t5=>t5
 have i9:mD c f:=gQ B e (s c);have i:=jQ B e (s c);have mt:mD c g:=gQ i h (s c);have pm:mD f g:=gQ q h (s f);have t:=jQ i h (s c);have qr:=jQ q h (s f);have ac:Go.Ex.nG a a.length (a.length-1) (US.init (Go.Ex.lO a) (a.length-1)):=by
  have:=Go.Ex.Dp j (n:=a.length-1) G;rw[show a.length-1+1=a.length by omega]at this;exact this
 refine TC.draw bT ?_;refine fR 2 W ?_;refine aS u W W ?_;refine bm R W W ?_;refine fR 5 W ?_;refine TF.nil ⟨by kernel_rfl,?_⟩;refine tC [] W ?_;refine TC.draw bT ?_;refine fR 2 W ?_;refine aS u W W ?_;refine bm T W W ?_;refine fR 5 W ?_;refine TF.nil ⟨by kernel_rfl,?_⟩;refine tC [] W ?_;refine TC.draw bT ?_;refine fR 2 W ?_;refine aS u W W ?_;refine bm V W W ?_;refine fR 5 W ?_;refine TF.nil ⟨by kernel_rfl,?_⟩;refine tO [2,57] W ?_;refine aJ (y_ xs x hx) W W ?_;refine tR [2,59] W ?_;refine aJ (y_ o y hy) W W ?_;refine tL [2,3] W ?_;have X: ∀l:List (List Int),(lT l).length=l.length:= λl=>by simp[lT]
 have t8: ∀l:List Int,(gV l).length<=20:= λl=>by simp[gV];omega
 have t9:=hx.2.2;have ut:=hy.2.2;have Id:=t8 xs;clear R T V B i q p e h u;refine TC.lp (λk i7=> ∃(b:Nat) (bx:List (Nat×List M)) (m:Hp) (c f g:Nat->Prop) (E J:US),i7=⟨[nN 16 b,nD 15 (.sl (lT (gV o))),nD 14 (.sl (lT (gV xs))),nR 12 U,nR 10 I,nR 8 Q],bx,m⟩/\b<=(gV xs).length/\k=(gV xs).length-b/\
   m_ (Go.Ex.lO a) a.length E Q c m/\m_ (Go.Ex.lO a) a.length E I f m/\m_ (Go.Ex.lO a) a.length J U g m/\mD c f/\mD c g/\mD f g/\Go.Ex.nG a a.length (a.length-1) E/\Go.Ex.nG a a.length (a.length-1) J) (gV xs).length _
  ⟨0,_,K3,c,f,g,_,_,rfl,by omega,rfl,t,qr,C,i9,mt,pm,ac,ac⟩ W ?_
 clear t qr C i9 mt pm ac;rintro k i7 ⟨b,bx,m,c,f,g,E,J,rfl,hi,rfl,B,q,C,rg,rt,co,hG,rx⟩;refine tC [2] W ?_;refine TC.cond W (λhc=> ?_) (λhc=> ?_)
 ·have MV:b<(gV xs).length:=by have:=aqv hc;rw[X]at this;omega
  obtain⟨x0,v6,wd⟩:=AQ MV;obtain⟨F,u',ho,t1,Y⟩:=KB j (k:=a.length-1) (n:=a.length) (by omega) hG (Dt (t9 x0 v6)) (Du x0);have Z:=AP wd;obtain⟨_,H,⟨rfl,t2,d6,p⟩,Wj⟩:=Y Q c m B;have d7:=jQ q p rg.symm;have t3:=jQ C p rt.symm;have t4:=(gQ q p rg.symm).symm;have d8:=(gQ C p rt.symm).symm;have N7:PT Tryz.prog 16 [.sl (bI F),.sl (bI F)] (·= [.bool true]):=by have:=I6 F F (by omega);simpa using this
  refine tO [3,2,70] W ?_;refine aK W W W (aqe b) Z W ?_;refine tR [72] W ?_;refine ap Wj W W ?_;refine tL [] W ?_;by_cases wn:b<(gV o).length
  ·obtain⟨y0,ZY,Do⟩:=AQ wn;obtain⟨oc,Eq,In,Fd,Fn⟩:=KB j (k:=a.length-1) (n:=a.length) (by omega) rx (Dt (ut y0 ZY)) (Du y0);have Fr:=AP Do;obtain⟨_,S,⟨rfl,FS,w,h⟩,Um⟩:=Fn U g H t3;have i:=jQ d6 h d8;have d9:=jQ d7 h co;have f4:=gQ d6 h d8;have z:=gQ d7 h co;have A:=t4;have Oc:decide (((b:Nat):Int)<(((lT (gV o)).length:Nat):Int))=true:=aqI (by rw[X];omega);refine tO [2,78] W ?_;refine aN Oc W W W W ?_;refine tR [1,2,82] W ?_;refine aK W W W (aqe b) Fr W ?_;refine tR [84] W ?_;refine ap Um W W ?_;refine tL [] W ?_;obtain⟨_,K9,⟨rfl,f7,f8,e⟩,QJ⟩:=Y I f S d9;have t:=jQ i e A;have f9:=jQ w e z.symm;have gc:=gQ i e A;have ge:=(gQ w e z.symm).symm;refine tO [2,89] W ?_;refine aK W W W (aqe b) Z W ?_;refine tR [91] W ?_;refine ap QJ W W ?_;refine tR [2,96] W ?_;refine aJ N7 W W ?_;refine tR [0,2,65] W ?_;refine ax W W W (by omega) ?_;refine tL [] W ?_;exact again (k':=(gV xs).length-(b+1)) (by omega) ⟨b+1,_,K9,t2,f7,FS,u',Eq,rfl,by omega,rfl,t,f8,f9,gc,f4,ge,t1,Fd⟩ W W
  ·have w:=t3;have i:=d6;have d9:=d7;have f4:=d8;have z:=co;have A:=t4;have Oc:decide (((b:Nat):Int)<(((lT (gV o)).length:Nat):Int))=false:=aqR (by rw[X];omega);refine tO [2,78] W ?_;refine aN Oc W W W W ?_;refine tL [0] W ?_;obtain⟨_,K9,⟨rfl,f7,f8,e⟩,QJ⟩:=Y I f H d9;have t:=jQ i e A;have f9:=jQ w e z.symm;have gc:=gQ i e A;have ge:=(gQ w e z.symm).symm;refine tO [2,89] W ?_;refine aK W W W (aqe b) Z W ?_;refine tR [91] W ?_;refine ap QJ W W ?_;refine tR [2,96] W ?_;refine aJ N7 W W ?_;refine tR [0,2,65] W ?_;refine ax W W W (by omega) ?_;refine tL [] W ?_;exact again (k':=(gV xs).length-(b+1)) (by omega) ⟨b+1,_,K9,t2,f7,g,u',J,rfl,by omega,rfl,t,f8,f9,gc,f4,ge,t1,rx⟩ W W
 ·refine TC.exit ?_;refine tC [2] W ?_;exact TC.ret ⟨_,rfl,[_],rfl,rfl⟩
end Go.Proofs.Sz
