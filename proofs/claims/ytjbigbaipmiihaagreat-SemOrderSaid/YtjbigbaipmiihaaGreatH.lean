/- A part of the proof of the last text of this claim, without conditions. -/
import Derived.Test.YtjbigbaipmiihaaGreatG
set_option maxRecDepth 4000
set_option linter.all false
namespace Go.Proofs.Sz
open Go.Mt Go.Sm Go.Proofs
open Tryz
variable{ins outs:List Int}{u':US}{π:Path}
section
variable{P:Pg}{n:Nat}{c:aI}{d:Nd}{u:US}{X Y Z:av}{H K L:Hp}
structure NK(P:Pg)(n:Nat)(c:aI)(d:Nd)(u:US)(X:av)(H:Hp)(π:Path)(Y:av)(K:Hp):Prop where
 inst:cS P n c d u Y K
 ext:iy c X H Y K
 t:Y.T c<=X.T c
 MQ:∀σ j,Y.lv σ j=true->X.lv σ j=true\/∃τ,σ=τ++π
 done:∀τ,c.ok (τ++π)->rH c Y (τ++π)
def A8(S:nG P n c d u)(b:gW P (eV P n) c d u ins outs u'){x:Nm}{σ:Path×Nat}(f:cS P n c d u X H)(hf:X.fs π=2)(h:c.find π x=some σ)(o:ins.length=d.ins.length):c.jE σ<c.dX:=by
 obtain⟨i,v,j,eq,a,p,k,_⟩:=lJ f hf h;by_cases e:σ.1=[]->d.ins.length<=σ.2
 .exact(b.cell σ.1 σ.2 v j (Pu.ok S f.pu i) a k e).tp
 .have g:=ate λa=>e λb=>absurd b a
  have l:=auR λa=>e λ_=>a
  rw[g,b.qc]at a;simp only[sV]at a;rw[asM,asl l]at a;have m:ins[σ.2]?=some ins[σ.2]:=aso (by omega);have:=(b.yS σ.2 v _ a m).2;unfold aI.jE;rw[g];exact this
theorem wK(S:nG P n c d u)(m:gW P (eV P n) c d u ins outs u'){i k:Nat}{q:aB}{v:Va}(g:cS P n c d u X H)(hf:X.fs π=2)(f:(c.fr π).aq[i]?=some q)(a:q.kd=1\/q.kd=2)(h:(c.fr π).vars[k]?=some v)(o:ic (c.fr π) k v i)(j:(c.val π k).isSome=true)(p:π=[]->d.ins.length<=k):
  c.ja π q/\c.find π v.name=some (π,k)/\v.name∈q.lhs:=by
 obtain⟨r,eq,s,_⟩:=g.lay.cell hf h;obtain⟨z,t⟩:=aui.1 j;obtain⟨C,D,w,x,y⟩:=(m.cell π k v r (Pu.ok S g.pu hf) h s p).df z t;obtain rfl:=o.uo w;cases x with
 |br b l=>rw[f]at b;injection b with e;subst e;omega
 |last b l=>rw[f]at b;injection b with e;subst e;omega
 |leaf E F G=>
  obtain⟨l,I,b,A,J⟩:=y;rw[f]at b;injection b with b
  subst b;rcases a with a|a
  .have B:=(A a).1;refine⟨λ_=>?_,l,by grind⟩;rw[B];exact⟨(π,k),l,j⟩
  .grind
def Lh(S:nG P n c d u)(Pk:mw P)(p:gW P (eV P n) c d u ins outs u')(Ys:qL P n):∀(N:Nat) (π:Path),SizeOf.sizeOf (c.fr π).aq<=N->∀(X:av) (H:Hp),cS P n c d u X H->X.T c<=1000000000000->lH c X c.dX->X.fs π=2->(∀τ j,X.lv (τ++π) j=false)->
  DT prog 44 [.ref (X.A .it) 0,.ref (X.A (.fr π)) 0] H λ_ K=>∃Y,NK P n c d u X H π Y K:=by
 intro N
 induction N with
 |zero=>
  intro π hN;have:1<=SizeOf.sizeOf (c.fr π).aq:=by cases (c.fr π).aq<;>simp<;>omega
  omega
 |succ N t8=>
 intro π hN X H hI hT hP J XC;have hV:∀r,eH P n c d u r:= λr=>(Jz S Pk p Ys r).1
 have o:=hI.lay;have OI:=Pu.ok S hI.pu J;have Id:=S.Lb π;have VQ:∀{Y:av} {K:Hp} {x:Nm} {σ:Path×Nat},cS P n c d u Y K->Y.fs π=2->c.find π x=some σ->c.jE σ<c.dX:= λQI Qj s=>A8 S p QI Qj s p.sW
 refine DT.ob func44 rfl ntmps44 rfl<|dO [2,18] rfl<|Oq (ax rfl rfl (o.frame J) rfl)<|dR [19] rfl<|Oq (po rfl rfl)<|dL [] rfl<|OB [nN 16 0,nN 15 ((c.fr π).aq.length),nM 14 (bI (X.A (.er π)) (X.ve π) (c.fr π).aq.length),nR 0 (X.A .it),nR 1 (X.A (.fr π))] H rfl rfl<|dC [3] rfl<|DC.lp (λk V=>∃(i:Nat) (Y:av) (K:Hp) (D:List (Nat×List M)),V=⟨[nN 16 i,nN 15 ((c.fr π).aq.length),nM 14 (bI (X.A (.er π)) (X.ve π) (c.fr π).aq.length),nR 0 (X.A .it),nR 1 (X.A (.fr π))],D,K⟩/\i<=(c.fr π).aq.length/\k=(c.fr π).aq.length-i/\
   cS P n c d u Y K/\iy c X H Y K/\Y.T c<=X.T c/\(∀σ j,Y.lv σ j=true->X.lv σ j=true\/(σ=π/\j<i)\/∃τ a,a<i/\σ=τ++(a::π))/\
   ∀j q,j<i->(c.fr π).aq[j]?=some q->DG c Y π j q/\∀τ,c.ok (τ++(j::π))->rH c Y (τ++(j::π))) (c.fr π).aq.length _
  ⟨0,X,H,_,rfl,by omega,rfl,hI,iy.of (bf.refl ..),asj _,λσ j e=>.inl e,λj q a=>by omega⟩ rfl ?_
 rintro k s1 ⟨i,Y,K,D,rfl,hi,rfl,QI,O,Ug,co,d7⟩;refine dC [2] rfl<|DC.cond rfl (λA=>?_) (λA=>?_);rotate_left
 .have e:i=(c.fr π).aq.length:=by have:=asG A;omega
  refine DC.exit<|⟨_,rfl,Y,QI,O,Ug,λσ j w=>?_,λτ g=>?_⟩
  .rcases co σ j w with a|⟨a,_⟩|⟨τ,h,_,a⟩
   .exact .inl a
   .exact .inr ⟨[],a⟩
   .exact .inr ⟨τ++[h],by rw[a];simp⟩
  .have h:∀j q,(c.fr π).aq[j]?=some q->j<i:= λj q f=>by
    rcases asp j (c.fr π).aq.length with o|o
    .omega
    .rw[asr o]at f;cases f
   rcases au3 τ with rfl|⟨a,j,rfl⟩
   .exact⟨O.e.f2 π J,λj q f=>(d7 j q (h j q f) f).1⟩
   .have F:(a++[j])++π=a++(j::π):=by simp
    simp only[List.concat_eq_append]at g⊢;rw[F]at g⊢;have I:∀a:Path,c.ok (a++(j::π))->c.ok (j::π):=by
     intro a
     induction a with
     |nil=>exact id
     |cons l a G=>intro E;exact G (p.iK l (a++(j::π)) E).1
    obtain⟨_,q,f,_⟩:=p.iK j π (I a g);exact(d7 j q (h j q f) f).2 a g
 have y:i<(c.fr π).aq.length:=by have:=asC A;omega
 have f:=aso y;have V1:=auw (asE y);generalize (c.fr π).aq[i]=q at f V1;have Qj:=O.e.f2 π J;have t9:∀r,X.live c r->({X with lv:=Y.lv} :av).live c r:= λr Q=>by cases r<;>exact Q
 have d6:∀r,X.live c r->Y.A r=X.A r:= λr Q=>(O.e.A r (t9 r Q)).2
 have i8:=d6 (.fr π) (by show 1<=X.fs π;omega);have QZ:=d6 (.pl π i) ⟨J,y⟩;have i9:=d6 (.er π) ⟨J,by intro e;rw[e]at y;simp at y⟩;have Wc:∀{X':av} {H':Hp} {Y':av} {K':Hp},lH c X' c.dX->iy c X' H' Y' K'->lH c Y' c.dX:= λ{X'} {H'} {Y'} {K'} z he=>lH.next (X:={X' with lv:=Y'.lv}) (H:=H') ⟨z.c1,z.f1,z.c4,z.tp⟩ he.e
 have XF:=Wc hP O;have ut:∀{Y':av} {K':Hp},iy c X H Y' K'->∀r,X.live c r->({X with lv:=Y'.lv} :av).live c r:= λ_ r Q=>by cases r<;>exact Q
 have Vj:=QI.lay.Jm Qj (by intro e;rw[e]at y;simp at y);have v6:=QI.lay.frame Qj;rw[i8,i9]at v6;rw[i9,(O.e.aK π J).2]at Vj;obtain⟨ah,z,OX⟩:=QI.lay.fI Qj f;have VR:=(p.eq π i q ah OI f z).1;have wd:q.kd=1\/q.kd=2\/q.kd=3\/q.kd=4\/q.kd=5:=by
  cases VR with
  |df o=>omega
  |call o=>omega
  |sw o=>omega
  |aN o=>omega
  |reset o=>omega
 have Ud:=(p.eq π i q ah OI f z).2;obtain⟨m2,R,⟨b,rfl,hb,B,t⟩,Qw⟩:=HV S p (λr _=>hV r) QI (by omega) XF Qj f wd (S.lh π i q OI f);rw[d6 .it trivial,i8,QZ]at Qw;have P0:=iy.of t.2.1;have mt:=O.trans P0;have C:=t.2.1.f2 π Qj;have ac:=Wc XF P0;have Fr:=t.2.2.1;have Wq:∀r,X.live c r->B.A r=X.A r:= λr Q=>(mt.e.A r (ut mt r Q)).2
 have Tn:=Wq .it trivial;have ZB:=Wq (.fr π) (by show 1<=X.fs π;omega);have YB:=Wq (.pl π i) ⟨J,y⟩;have next:∀(Z:av) (L:Hp),cS P n c d u Z L->iy c Y K Z L->Z.T c<=Y.T c->(∀σ j,Z.lv σ j=true->Y.lv σ j=true\/(σ=π/\j=i)\/∃τ,σ=τ++(i::π))->DG c Z π i q->(∀τ,c.ok (τ++(i::π))->rH c Z (τ++(i::π)))->
   iy c X H Z L/\Z.T c<=X.T c/\(∀σ j,Z.lv σ j=true->X.lv σ j=true\/(σ=π/\j<i+1)\/∃τ a,a<i+1/\σ=τ++(a::π))/\∀j q,j<i+1->(c.fr π).aq[j]?=some q->DG c Z π j q/\∀τ,c.ok (τ++(j::π))->rH c Z (τ++(j::π)):=by
  intro Z L Rk w W2 G T U;refine⟨O.trans w,by omega,λσ j l=>?_,λj I l g=>?_⟩
  .rcases G σ j l with a|⟨a,h2⟩|⟨τ,a⟩
   .rcases co σ j a with h|⟨h,E⟩|⟨τ,F,h,E⟩
    .exact .inl h
    .exact .inr (.inl ⟨h,by omega⟩)
    .exact .inr (.inr ⟨τ,F,by omega,E⟩)
   .exact .inr (.inl ⟨a,by omega⟩)
   .exact .inr (.inr ⟨τ,i,by omega,a⟩)
  .rcases as8.1 l with a|a
   .obtain⟨h,E⟩:=d7 j I a g;exact⟨h.up w,λτ a=>(E τ a).up w⟩
   .subst a;rw[f]at g;injection g with g
    subst g;exact⟨T,U⟩
 have vB:q.kd=1\/q.kd=2->∀τ:Path,c.ok (τ++(i::π))->False:=by
  intro l τ
  induction τ with
  |nil=>
   intro g;obtain⟨_,h,a,w⟩:=p.iK i π g;rw[f]at a;injection a with a;subst a;omega
  |cons a τ h=>intro g;exact h (p.iK a (τ++(i::π)) g).1
 have wn:∀τ j,Y.lv (τ++(i::π)) j=false:=by
  intro τ j;cases e:Y.lv (τ++(i::π)) j with
  |false=>rfl
  |true=>
   rcases co _ _ e with a|⟨a,_⟩|⟨l,h,a,g⟩
   .have:=XC (τ++[i]) j;simp at this;rw[this]at a;cases a
   .exact absurd a Cs
   .have:=(JA g).2;omega
 have Do:Y.lv π i=false:=by
  cases e:Y.lv π i with
  |false=>rfl
  |true=>
   rcases co _ _ e with a|⟨_,a⟩|⟨l,h,a,g⟩
   .have:=XC [] i;simp at this;rw[this]at a;cases a
   .omega
   .exact absurd g.symm Cs
 refine dO [3,2,22] rfl<|Oq (lI rfl rfl rfl Vj (asm i) (by omega))<|dR [23] rfl<|Oq (mH rfl rfl Vj (by simp[y,QZ]))<|dR [2,27] rfl<|Oq (au Qw rfl rfl)<|dL [] rfl ?_;cases d8:b with
 |false=>
  have a:¬c.ja π q:= λe=>by rw[hb.2 e]at d8;cases d8
  have g:=ate λe=>a λa=>absurd a e
  refine dC [1] rfl<|DC.exit ?_;obtain⟨l,w,E,F⟩:=next B R t.1 P0 (by omega) (λσ j a=>.inl (by rw[<-t.2.1.lv];exact a)) ⟨λe=>absurd e a,λe=>by omega,λk v G I T=>by
   by_cases e:π=[]->d.ins.length<=k
   .exact absurd (wK S p t.1 C f g G I T e).1 a
   .have h:=ate λa=>e λf=>absurd f a
    subst h;exact t.1.pu.ci k (auR λa=>e λ_=>a)⟩ (λτ a=>(vB g τ a).elim)
  refine dO [2,101] rfl<|Oq (ay rfl rfl rfl (by omega))<|dL [] rfl<|bG (k':=(c.fr π).aq.length-(i+1)) (by omega) ⟨i+1,B,R,_,rfl,by omega,rfl,t.1,l,w,E,F⟩ rfl rfl
 |true=>
  have Ru:=hb.1 d8;refine dC [0] rfl ?_;have E:R[X.A (.pl π i)]?=some (.box (dB q ah)):=by
   obtain⟨F,g,w⟩:=t.1.lay.fI C f;rw[z]at g;injection g with g
   subst g;rw[YB]at w;exact w
  have pm:∀(Z:av) (L:Hp),cS P n c d u Z L->∀k,¬(π=[]->d.ins.length<=k)->Z.cs π k=2:= λZ L l k e=>by
   have g:=ate λa=>e λh=>absurd h a
   subst g;exact l.pu.ci k (auR λa=>e λ_=>a)
  have d9:∀{Z:av} {σ:Path×Nat},Pu P c d u Z->(Z.cs σ.1 σ.2=2\/Z.cs σ.1 σ.2=3)->(c.val σ.1 σ.2).isSome=true->Z.cs σ.1 σ.2=2:= λ{Z σ} z a h=>by
   rcases a with a|a
   .exact a
   .rw[z.ca _ _ a]at h;cases h
  have f4:=S.Cq π i q OI f;rcases(show q.kd=1\/q.kd=2\/(q.kd=3\/q.kd=4\/q.kd=5) by omega)with l|l|l
  .obtain⟨x,w⟩:∃x,q.lhs=[x]:=by
    cases VR with
    |df _ x w=>exact⟨x,w⟩
    |call o=>omega
    |sw o=>omega
    |aN o=>omega
    |reset o=>omega
   obtain⟨σ,V,j0,F,Ux,Q9,UP,Vd,dj⟩:=p.HA π i q x OI f l w Ru;have Q4:(c.val σ.1 σ.2).isSome=true:=by
    have:=Ru (.inl l);rw[w]at this;obtain⟨U,a,h⟩:=this;rw[F]at a;injection a with a;subst a
    exact h
   obtain⟨m3,G,⟨rfl,I,g,f8⟩,Tp⟩:=hV c.dX B R t.1 (by omega) ac π x σ C F (VQ t.1 C F);rw[Tn,ZB]at Tp;have T:=d9 g.1.pu f8 Q4;have Yn:=g.2.1.f2 π C;have VP:=g.2.2.1;obtain⟨n1,n2,n3,n4⟩:=next I G g.1 (P0.trans (iy.of g.2.1)) (by omega) (λσ j a=>.inl (by rw[<-t.2.1.lv,<-g.2.1.lv];exact a))
    ⟨λ_=>⟨(g.1.pu.s2 σ j0 V π i q ((ta g.1.pu Yn F).1) (.inl T) dj UP Ux (by rw[Q9];exact Vd) f).2.1 l,λe=>by omega⟩,λe=>by omega,λk v hv hE Ti=>by
     by_cases e:π=[]->d.ins.length<=k
     .obtain⟨_,h,U⟩:=wK S p g.1 Yn f (.inl l) hv hE Ti e;rw[w,asx]at U;rw[U,F]at h;injection h with h
      rw[h]at T;exact T
     .exact pm I G g.1 k e⟩ (λτ a=>(vB (.inl l) τ a).elim)
   unfold dB at E;rw[l,w]at E;refine dO [2,33] rfl<|Oq (ax rfl rfl E rfl)<|dR [3,2,1,2,69] rfl<|Oq (ax rfl rfl E rfl)<|dR [70] rfl<|Oq (aP rfl rfl rfl (by decide) (r:=[.str x]) rfl rfl)<|dR [72] rfl<|Oq (au Tp rfl rfl)<|dR [2,101] rfl<|Oq (ay rfl rfl rfl (by omega))<|dL [] rfl<|bG (k':=(c.fr π).aq.length-(i+1)) (by omega) ⟨i+1,I,G,_,rfl,by omega,rfl,g.1,n1,n2,n3,n4⟩ rfl rfl
  .have Sb:=S.gh π i q f l;unfold dB at E;rw[l]at E;refine dO [2,33] rfl<|Oq (ax rfl rfl E rfl)<|dR [3,2,0,2,1,2,79] rfl<|Oq (ax rfl rfl E rfl)<|dR [80] rfl<|Oq (bK rfl rfl rfl) ?_;rw[asD];refine dL [] rfl<|OB [nN 77 0,nN 76 q.lhs.length,nD 75 (.sl (dM q.lhs)),nR 5 (X.A (.pl π i)),nN 16 i,nN 15 ((c.fr π).aq.length),nM 14 (bI (X.A (.er π)) (X.ve π) (c.fr π).aq.length),nR 0 (X.A .it),nR 1 (X.A (.fr π))] R rfl rfl<|dC [] rfl<|Ps (λa=>∃Z L D,cT P n c d u B R 0 [] Z L/\(∀(m:Nat) (x:Nm) (σ:Path×Nat),q.lhs[m]?=some x->c.find π x=some σ->Z.cs σ.1 σ.2=2)/\a=⟨[nR 5 (X.A (.pl π i)),nN 16 i,nN 15 ((c.fr π).aq.length),nM 14 (bI (X.A (.er π)) (X.ve π) (c.fr π).aq.length),nR 0 (X.A .it),nR 1 (X.A (.fr π))],D,L⟩) ?_ ?_
   .refine dC [3] rfl<|DC.lp (λk V=>∃(m:Nat) (Z:av) (L:Hp) (D:List (Nat×List M)),V=⟨[nN 77 m,nN 76 q.lhs.length,nD 75 (.sl (dM q.lhs)),nR 5 (X.A (.pl π i)),nN 16 i,nN 15 ((c.fr π).aq.length),nM 14 (bI (X.A (.er π)) (X.ve π) (c.fr π).aq.length),nR 0 (X.A .it),nR 1 (X.A (.fr π))],D,L⟩/\m<=q.lhs.length/\k=q.lhs.length-m/\cT P n c d u B R 0 [] Z L/\∀(F:Nat) (x:Nm) (σ:Path×Nat),F<m->q.lhs[F]?=some x->c.find π x=some σ->Z.cs σ.1 σ.2=2) q.lhs.length _
     ⟨0,B,R,_,rfl,by omega,rfl,cT.same t.1.lay t.1.pu,λF x σ a=>by omega⟩ rfl ?_
    rintro k s2 ⟨m,Z,L,Yd,rfl,hm,rfl,g,U⟩;refine dC [2] rfl<|DC.cond rfl (λA=>?_) (λA=>?_);rotate_left
    .have e:m=q.lhs.length:=by have:=asG A;omega
     refine DC.exit<|⟨_,⟨Z,L,_,g,λF x σ s T=>U F x σ (by
      rcases asp F q.lhs.length with o|o
      .omega
      .rw[asr o]at s;cases s) s T,rfl⟩,cN rfl rfl⟩
    have XE:m<q.lhs.length:=by have:=asC A;omega
    have s:=aso XE;have SG:=kK XE;generalize q.lhs[m]=x at s SG;obtain⟨σ,nv,T,SX,_⟩:=p.lhs π i q OI f l Ru m x s;have w:=g.2.1.f2 π C;have XG:=Wc ac (iy.of g.2.1);have W2:=g.2.2.1;obtain⟨m3,K3,⟨rfl,Y3,RN,f9⟩,Tp⟩:=hV c.dX Z L g.1 (by omega) XG π x σ w T (VQ g.1 w T);rw[(g.2.1.A .it trivial).2,(g.2.1.A (.fr π) (by show 1<=B.fs π;omega)).2,Tn,ZB]at Tp;have UL:=d9 RN.1.pu f9 (by rw[SX];rfl);refine dO [3,2,83] rfl<|Oq (aP rfl rfl rfl (asm m) SG rfl)<|dR [2,88] rfl<|Oq (au Tp rfl rfl)<|dR [2,89] rfl<|Oq (ay rfl rfl rfl (by omega))<|dL [] rfl<|bG (k':=q.lhs.length-(m+1)) (by omega) ⟨m+1,Y3,K3,_,rfl,by omega,rfl,g.trans RN,λF x' OQ Qy PF RG=>?_⟩ rfl rfl;rcases as8.1 Qy with a|a
    .exact RN.2.1.c2 _ _ (U F x' OQ a PF RG)
    .subst a;rw[s]at PF;injection PF with PF;subst PF
     rw[T]at RG;injection RG with RG;subst RG
     exact UL
   rintro _ ⟨Z,L,Yd,g,U,rfl⟩;have RO:=P0.trans (iy.of g.2.1);have w:=g.2.1.f2 π C;have XG:=Wc ac (iy.of g.2.1);have W2:=g.2.2.1;have Vv:Z.lv=Y.lv:=by rw[g.2.1.lv,t.2.1.lv]
   have Vg:=((g.2.1.A .it trivial).2).trans Tn;have Wb:=((g.2.1.A (.fr π) (by show 1<=B.fs π;omega)).2).trans ZB;have Zw:=((g.2.1.A (.pl π i) ⟨C,y⟩).2).trans YB;have f8:=g.1.lay.frame w;rw[Wb]at f8;obtain⟨ob,Uk,es,rfl,VV,G,_⟩:=g.1.lay.ob (.am π) (by show 1<=Z.fs π;omega);have G:=G w i y;rw[Zw]at G;have YA:Z.fs (i::π)=0:=by
    rcases asR (Z.fs (i::π))with e|e
    .exact e
    .exact(vB (.inr l) [] (g.1.pu.fp i π (by omega)).2).elim
   have O0:∀(F:av) (I:Hp),cS P n c d u F I->iy c Z L F I->F.fs π=2->∀k v,(c.fr π).vars[k]?=some v->ic (c.fr π) k v i->(c.val π k).isSome=true->F.cs π k=2:=by
    intro F I T Uj f9 k v hv hE Ti;by_cases e:π=[]->d.ins.length<=k
    .obtain⟨_,h,h3⟩:=wK S p T f9 f (.inr l) hv hE Ti e;obtain⟨m',Qy⟩:=asJ.1 h3;exact Uj.e.c2 _ _ (U m' v.name (π,k) Qy h)
    .exact pm F I T k e
   cases I:Z.dn π i with
   |true=>
    have f9:Z.cs (i::π) 0=3:=by
     rcases g.1.pu.g0 π i q f l with⟨_,e⟩|e|⟨e,_⟩
     .rw[I]at e;cases e
     .have:=XG.c1 _ _ e;omega
     .exact e
    have Vq:Z.nW π i=some (.ref (X.A (.fr π)) 0):=by unfold av.nW;rw[asu (by omega),asB ⟨I,f9⟩,Wb]
    rw[Vq]at G;obtain⟨F,T,n3,n4⟩:=next Z L g.1 RO (by omega) (λσ j a=>.inl (by rw[<-Vv];exact a))
     ⟨λ_=>⟨(g.1.pu.s3 π i w I).2,λ_=>I⟩,λe=>by omega,O0 Z L g.1 (iy.of (bf.refl ..)) w⟩ (λτ a=>(vB (.inr l) τ a).elim)
    refine dO [2,93] rfl<|Oq (ax rfl rfl f8 rfl)<|dR [95] rfl<|Oq (o8 rfl rfl rfl rfl rfl Uk VV) ?_;rw[G];refine dR [96] rfl<|Oq (mn (by kernel_rfl) rfl rfl rfl rfl rfl)<|dR [0,2,101] rfl<|Oq (ay rfl rfl rfl (by omega))<|dL [] rfl<|bG (k':=(c.fr π).aq.length-(i+1)) (by omega) ⟨i+1,Z,L,_,rfl,by omega,rfl,g.1,F,T,n3,n4⟩ rfl rfl
   |false=>
    have i6:Z.cs (i::π) 0=0:=by
     rcases g.1.pu.g0 π i q f l with⟨e,_⟩|e|⟨_,e⟩
     .exact e
     .have:=XG.c1 _ _ e;omega
     .rw[I]at e;cases e
    have Vq:Z.nW π i=none:=by unfold av.nW;rw[asu (by omega),asu (by rw[I];simp)]
    rw[Vq]at G;obtain⟨m4,T,⟨Y4,F,Z4,i7,f9,_⟩,Xu⟩:=tf S Pk p Ys (hV (c.ek π i)) Z L g.1 (by omega) π i q w f l rfl Ru I i6 (XG.down (by omega)) (λ_=>False) (λx s τ QW e=>by
     obtain⟨m',Qy⟩:=asJ.1 s;have:=U m' x τ Qy QW;omega)
    rw[Vg,Wb,Zw]at Xu;have gc:=iy.of Z4;have ge:=Z4.f2 π w;obtain⟨n1,n2,n3,n4⟩:=next Y4 T F (RO.trans gc) (by omega) (λσ j a=>.inl (by rw[<-Vv,<-Z4.lv];exact a))
     ⟨λ_=>⟨(F.pu.s3 π i ge f9).2,λ_=>f9⟩,λe=>by omega,O0 Y4 T F gc ge⟩ (λτ a=>(vB (.inr l) τ a).elim)
    refine dO [2,93] rfl<|Oq (ax rfl rfl f8 rfl)<|dR [95] rfl<|Oq (o8 rfl rfl rfl rfl rfl Uk VV) ?_;rw[G];refine dR [96] rfl<|Oq (mn (by kernel_rfl) rfl rfl rfl rfl rfl)<|dR [1,2,100] rfl<|Oq (au Xu rfl rfl)<|dR [2,101] rfl<|Oq (ay rfl rfl rfl (by omega))<|dL [] rfl<|bG (k':=(c.fr π).aq.length-(i+1)) (by omega) ⟨i+1,Y4,T,_,rfl,by omega,rfl,F,n1,n2,n3,n4⟩ rfl rfl
  .obtain⟨w,G⟩:∃w,pf c π i q ah w:=by
    cases VR with
    |df g=>omega
    |call g=>omega
    |sw g he w G=>exact⟨w,G⟩
    |aN F I V T U h0 g hu ht w G=>exact⟨w,G⟩
    |reset g he w G=>exact⟨w,G⟩
   have Eq:SizeOf.sizeOf (c.fr (i::π)).aq<=N:=by
    have a:=aB.KS (asn G.ha);have h:SizeOf.sizeOf w.cy.aq<SizeOf.sizeOf w.cy:=by cases w.cy;simp[bF.aq];omega
    rw[G.fr];show SizeOf.sizeOf w.cy.aq<=N;omega
   have UY:(q.kd==1)=false:=by rcases l with e|e|e<;>rw[e]<;>rfl
   have Qi:(q.kd==2)=false:=by rcases l with e|e|e<;>rw[e]<;>rfl
   obtain⟨m3,K3,⟨T,rfl,F,Yn⟩,Pt⟩:=A7 S Pk p (hV (c.ek π i)) B R t.1 (by omega) π i q C f l rfl (λe=>by have:=ac.f1 i π e;omega) (ac.down (by omega));rw[Tn,ZB,YB]at Pt;have f8:=iy.of F.2.1;have Zv:=Wc ac f8;have f9:=F.2.1.f2 π C;have VP:=F.2.2.1;have qr:=((F.2.1.A .it trivial).2).trans Tn;have WY:K3[X.A (.pl π i)]?=some (.box (dB q ah)):=by
    obtain⟨p',OW,S5⟩:=F.1.lay.fI f9 f;rw[z]at OW;injection OW with OW
    subst OW;rw[((F.2.1.A (.pl π i) ⟨C,y⟩).2).trans YB]at S5;exact S5
   have Rm:=vK q f4.2.2.2.1 (λw G=>(f4.2.2.2.2.1 w G).1) f4.2.2.2.2.2.2;rw[q.aA,q.ex.aA]at Rm;have P6:=mR q;unfold dB at E;refine dO [2,33] rfl<|Oq (ax rfl rfl E rfl)<|dR [3,2,62] rfl<|Oq (aQ UY rfl rfl rfl rfl)<|dR [0,2,74] rfl<|Oq (aQ Qi rfl rfl rfl rfl)<|dR [0,2,37] rfl<|Oq (au Pt rfl rfl)<|dR [2,41] rfl<|Oq (kF rfl rfl WY rfl rfl)<|dR [42] rfl<|Oq (aL Rm rfl rfl)<|dR [43] rfl<|Oq (bK rfl rfl rfl) ?_;rw[asD];refine dL [] rfl<|OB [nN 40 0,nN 39 ((cm q).length),nD 38 (.sl (dM (cm q))),nR 8 (T.A (.fr (i::π))),nR 5 (X.A (.pl π i)),nN 16 i,nN 15 ((c.fr π).aq.length),nM 14 (bI (X.A (.er π)) (X.ve π) (c.fr π).aq.length),nR 0 (X.A .it),nR 1 (X.A (.fr π))] K3 rfl rfl<|dC [] rfl<|Ps (λa=>∃Z L D,cT P n c d u T K3 0 [] Z L/\(∀(m:Nat) (x:Nm) (σ:Path×Nat),(cm q)[m]?=some x->c.find π x=some σ->Z.cs σ.1 σ.2=2\/Z.cs σ.1 σ.2=3)/\a=⟨[nR 8 (T.A (.fr (i::π))),nR 5 (X.A (.pl π i)),nN 16 i,nN 15 ((c.fr π).aq.length),nM 14 (bI (X.A (.er π)) (X.ve π) (c.fr π).aq.length),nR 0 (X.A .it),nR 1 (X.A (.fr π))],D,L⟩) ?_ ?_
   .refine dC [3] rfl<|DC.lp (λk V=>∃(m:Nat) (Z:av) (L:Hp) (D:List (Nat×List M)),V=⟨[nN 40 m,nN 39 ((cm q).length),nD 38 (.sl (dM (cm q))),nR 8 (T.A (.fr (i::π))),nR 5 (X.A (.pl π i)),nN 16 i,nN 15 ((c.fr π).aq.length),nM 14 (bI (X.A (.er π)) (X.ve π) (c.fr π).aq.length),nR 0 (X.A .it),nR 1 (X.A (.fr π))],D,L⟩/\m<=(cm q).length/\k=(cm q).length-m/\cT P n c d u T K3 0 [] Z L/\∀(m':Nat) (x:Nm) (σ:Path×Nat),m'<m->(cm q)[m']?=some x->c.find π x=some σ->Z.cs σ.1 σ.2=2\/Z.cs σ.1 σ.2=3) (cm q).length _
     ⟨0,T,K3,_,rfl,by omega,rfl,cT.same F.1.lay F.1.pu,λm' x σ a=>by omega⟩ rfl ?_
    rintro k s2 ⟨m,Z,L,Yd,rfl,hm,rfl,g,Wp⟩;refine dC [2] rfl<|DC.cond rfl (λA=>?_) (λA=>?_);rotate_left
    .have e:m=(cm q).length:=by have:=asG A;omega
     refine DC.exit<|⟨_,⟨Z,L,_,g,λm' x σ s Qd=>Wp m' x σ (by
      rcases asp m' (cm q).length with o|o
      .omega
      .rw[asr o]at s;cases s) s Qd,rfl⟩,cN rfl rfl⟩
    have XE:m<(cm q).length:=by have:=asC A;omega
    have s:=aso XE;have SG:=kK XE;have SD:=asE XE;generalize (cm q)[m]=x at s SG SD;obtain⟨σ,Qd⟩:=p.I_ π i q OI f x SD;have Rl:=g.2.1.f2 π f9;have XG:=Wc Zv (iy.of g.2.1);have W2:=g.2.2.1;obtain⟨m4,K4,⟨rfl,Y4,gc,i7⟩,Tp⟩:=hV c.dX Z L g.1 (by omega) XG π x σ Rl Qd (VQ g.1 Rl Qd);rw[(g.2.1.A .it trivial).2,(g.2.1.A (.fr π) (by show 1<=T.fs π;omega)).2,qr,((F.2.1.A (.fr π) (by show 1<=B.fs π;omega)).2).trans ZB]at Tp;refine dO [3,2,46] rfl<|Oq (aP rfl rfl rfl (asm m) SG rfl)<|dR [2,51] rfl<|Oq (au Tp rfl rfl)<|dR [2,52] rfl<|Oq (ay rfl rfl rfl (by omega))<|dL [] rfl<|bG (k':=(cm q).length-(m+1)) (by omega) ⟨m+1,Y4,K4,_,rfl,by omega,rfl,g.trans gc,λm' x' OQ Qy PF RG=>?_⟩ rfl rfl;rcases as8.1 Qy with a|a
    .rcases Wp m' x' OQ a PF RG with h|h
     .exact .inl (gc.2.1.c2 _ _ h)
     .exact .inr (gc.2.1.c3 _ _ h)
    .subst a;rw[s]at PF;injection PF with PF;subst PF
     rw[Qd]at RG;injection RG with RG;subst RG
     exact i7
   rintro _ ⟨Z,L,Yd,g,Wp,rfl⟩;have ge:=iy.of g.2.1;have Rl:=g.2.1.f2 π f9;have rg:=g.2.1.f2 _ Yn;have XG:=Wc Zv ge;have W2:=g.2.2.1;have Vv:Z.lv=Y.lv:=by rw[g.2.1.lv,F.2.1.lv,t.2.1.lv]
   have Vg:=((g.2.1.A .it trivial).2).trans qr;have rt:=(g.2.1.A (.fr (i::π)) (by show 1<=T.fs (i::π);omega)).2;obtain⟨m5,K5,⟨I,U⟩,Ym⟩:=t8 (i::π) Eq Z L g.1 (by omega) XG rg (λτ j=>by rw[Vv];exact wn τ j);rw[Vg,rt]at Ym;have XD:=U.ext;have rx:=XD.e.f2 π Rl;have t3:=XD.e.f2 _ rg;have FS:=U.t;have Fd:I.lv π i=false:=by
    cases e:I.lv π i with
    |false=>rfl
    |true=>
     rcases U.MQ _ _ e with a|⟨τ,a⟩
     .rw[Vv,Do]at a;cases a
     .exact absurd a.symm Cs
   have i6:∀r,X.live c r->I.A r=X.A r:=by
    have h:=O.trans (((P0.trans f8).trans ge).trans XD);intro r Q;exact(h.e.A r (by cases r<;>exact Q)).2
   have t4:=i6 .it trivial;have t5:=i6 (.pl π i) ⟨J,y⟩;have t6:∀(W:av) (L':Hp),cS P n c d u W L'->iy c I K5 W L'->(q.kd=4->W.lv π i=true)->DG c W π i q:=by
    intro W L' Zt Uj gc;refine⟨λ_=>⟨λw a=>Zt.pu.s4 π i (Uj.e.f2 _ t3) w a,λe=>by omega⟩,gc,λk v hv hE Ti=>?_⟩;obtain⟨Qr,⟨q',OK,Q6⟩,_⟩:=hE;rw[f]at OK;injection OK with OK
    subst OK;obtain⟨m',Qy⟩:=asJ.1 Q6;have a:=Wp m' v.name (π,k) Qy (wJ Qr);have h:W.cs π k=2\/W.cs π k=3:=by
     rcases a with a|a
     .exact .inl (Uj.e.c2 _ _ (XD.e.c2 _ _ a))
     .exact .inr (Uj.e.c3 _ _ (XD.e.c3 _ _ a))
    exact d9 (σ:=(π,k)) Zt.pu h Ti
   have t7:=((P0.trans f8).trans ge).trans XD;refine dO [2,55] rfl<|Oq (au Ym rfl rfl)<|dL [] rfl ?_;rcases(show q.kd=4\/(q.kd=3\/q.kd=5) by omega)with UO|Fn
   .obtain⟨m6,K6,⟨Y6,gc,i7,GT⟩,P1⟩:=HW S p (hV c.dX) U.inst (by omega) (Wc XG XD) rx t3 f UO z Fd;rw[t4,i6 (.fr π) (by show 1<=X.fs π;omega),t5,((XD.e.A (.fr (i::π)) (by show 1<=Z.fs (i::π);omega)).2).trans rt]at P1;have Xc:=iy.MP i7;obtain⟨n1,n2,n3,n4⟩:=next Y6 K6 gc (t7.trans Xc) (by omega) (λσ j hj=>by
      rw[i7.lv]at hj;by_cases e:(σ,j)=(π,i)
      .injection e with e1 e2;exact .inr (.inl ⟨e1,e2⟩)
      .have Pw:I.lv σ j=true:=by
        have:(I.jV π i).lv σ j=I.lv σ j:=asu e;rw[this]at hj;exact hj
       rcases U.MQ σ j Pw with a|a
       .rw[Vv]at a;exact .inl a
       .exact .inr (.inr a)) (t6 Y6 K6 gc Xc (λ_=>by rw[i7.lv];exact asB rfl)) (λτ a=>(U.done τ a).up Xc)
    refine dO [2,60] rfl<|Oq (au P1 rfl rfl)<|dR [2,101] rfl<|Oq (ay rfl rfl rfl (by omega))<|dL [] rfl<|bG (k':=(c.fr π).aq.length-(i+1)) (by omega) ⟨i+1,Y6,K6,_,rfl,by omega,rfl,gc,n1,n2,n3,n4⟩ rfl rfl
   .obtain⟨m6,K6,⟨gc,i7⟩,P1⟩:=Fk S U.inst rx f Fn (.ref (X.A (.fr π)) 0) (.ref (T.A (.fr (i::π))) 0);rw[t4,t5]at P1;have Xc:=iy.of i7;obtain⟨n1,n2,n3,n4⟩:=next I K6 gc (t7.trans Xc) (by omega) (λσ j hj=>by
      rcases U.MQ σ j hj with a|a
      .rw[Vv]at a;exact .inl a
      .exact .inr (.inr a)) (t6 I K6 gc Xc (λe=>by omega)) (λτ a=>(U.done τ a).up Xc)
    refine dO [2,60] rfl<|Oq (au P1 rfl rfl)<|dR [2,101] rfl<|Oq (ay rfl rfl rfl (by omega))<|dL [] rfl<|bG (k':=(c.fr π).aq.length-(i+1)) (by omega) ⟨i+1,I,K6,_,rfl,by omega,rfl,gc,n1,n2,n3,n4⟩ rfl rfl
end
end Go.Proofs.Sz
namespace Go.Mt
section
variable{X:bW}{ops:Array Oper}{rest:List Oper}{sl:List (Nat×V)}{bx:List (Nat×List M)}{H:Hp}{OZ:List Ef->St->Prop}{d ty:Nat}{pos:String}{af:Array Edge}
def A9{T:Nat}{parts:List (Nat×Operand)}{ps:List (Nat×Nat)}{z:List D}{a:List M}{ms:List (Nat×M)}{cs:List M}[ht:kC X.P T ps z](b:Nat.blt d X.n=true)(c:ij sl parts=some ms)(f:ug z=some a)
  (hf:uB ps a ms=some cs) (h:kP cs=none) (k:TF X ops rest ⟨(d,.m (.agg cs))::sl,bx,H⟩ λa b=>OZ (⟨some d,.m (.agg cs),[],[],none,false,none⟩::a) b):TF X ops (⟨some d,.build T parts.toArray,ty,pos,af,none⟩::rest) ⟨sl,bx,H⟩ OZ:=by
 refine TF.cons (e:=⟨some d,.m (.agg cs),[],[],none,false,none⟩) (OU W W (bN b) λb i=>?_) W k;have a:=wo (X:=X) (st:=b) (dst:=some d) (ty:=ty) (pos:=pos) (af:=af) (g:=none) (T:=T) (parts:=parts) (by
  rw[i.ej (λx a=>by simp[Op.operands];exact⟨x.1,a⟩),iL];exact c) (by rw[<-qu f];exact tN hf)
 have:pack cs=.agg cs:=by simp[pack,h]
 rw[this]at a;exact a
end
end Go.Mt
namespace Go.Proofs.Sz
open Go.Mt Go.Sm Go.Proofs
variable{a iu:Nat}{u':US}{π:Path}
section
variable{P:Pg}{n:Nat}{c:aI}{d:Nd}{u:US}{X Y Z:av}{H K L:Hp}
def zh:Ce->Ro
 |.un=>.un|.me=>.me|.pe=>.pe|.su=>.su|.sb k=>.sb k
def Of(l iu a b c:Nat):Ro->Nat
 |.it=>l|.un=>iu|.me=>a|.pe=>b|.su=>c|.fr _=>l+3|.am _=>l+1|.tk _=>l+2|_=>0
def tg(b:Nat->Option Ce)(l a:Nat):Option Ro:=if a=l then some .it else if a=l+1 then some (.am [])else if a=l+2 then some (.tk [])else if a=l+3 then some (.fr [])else(b a).map zh
def x0(e:Nat->Option Ce)(iu a b c:Nat)(ad:Nat->Nat)(u:US)(l d:Nat):av:=
 {
  A:=Of l iu a b c,own:=tg e l,cs:= λa k=>if a=[]/\k<d then 2 else 0,fs:= λa=>if a=[]then 1 else 0,dn:= λ_ _=>false,lv:= λ_ _=>false,N:=[],F:=[],fi:=0,vN:=0,vF:=0,vc:= λ_=>0,ve:= λ_=>0,x:=⟨u.mem,u.cw,u.an⟩,ad:=ad,ph:= λ_ _=>False}
abbrev wL(iu:Nat)(dX:M):List M:=[.ref iu 0,dX,.d (.bool false),.d (.sl []),.d (.sl [])]
abbrev jb(H:Hp)(iu:Nat)(dX:M):Hp:=(((H++[Ob.box (wL iu dX)])++[Ob.map []])++[Ob.map []])++[Ob.box [.d .bU,.d (.sl []),.d (.sl []),.mp (H.length+1),.mp (H.length+2)]]
def rI(H:Hp)(iu:Nat)(a:M):(jb H iu a).length=H.length+4:=by simp
theorem rJ{H:Hp}{b:M}(h:a<H.length):(jb H iu b)[a]?=H[a]?:=by grind
theorem A_(H:Hp)(iu:Nat)(a:M):(jb H iu a)[H.length]?=some (.box (wL iu a)):=by grind
theorem H4(H:Hp)(iu:Nat)(a:M):(jb H iu a)[H.length+1]?=some (.map []):=by grind
theorem H5(H:Hp)(iu:Nat)(a:M):(jb H iu a)[H.length+2]?=some (.map []):=by grind
theorem Ba(H:Hp)(iu:Nat)(a:M):(jb H iu a)[H.length+3]?=some (.box [.d .bU,.d (.sl []),.d (.sl []),.mp (H.length+1),.mp (H.length+2)]):=by grind
theorem Fm(H:Hp)(iu:Nat)(t a:M):(jb H iu t).set H.length (.box (wL iu a))=jb H iu a:=by grind
def JB{r r':Ce}(h:zh r=zh r'):r=r':=by cases r<;>cases r'<;>simp[zh]at h⊢ <;>exact h
def cD.start{f:Nat->Option Ce}{l m o:Nat}{ad:Nat->Nat}(v:Nat)(s:∀a,f a≠none->a<H.length)(p:f iu=some .un/\f l=some .me/\f m=some .pe/\f o=some .su)
  (w:H[iu]?=some (.box (pg P d l m o))) (x:H[l]?=some (.row false 1 0 (bD (bT d) (iP u.mem)))) (y:H[m]?=some (.row false 1 0 (bD (bT d) (jT u.cw)))) (z:H[o]?=some (.row false 1 0 (bD (bT d) (fb u.an ad))))
  (A:∀k,k<bT d->∀i,u.an k=some i->iQ P n i (ad k) (λa=>f a=some (.sb k)) H):
  cD P n c d (x0 f iu l m o ad u H.length v) (jb H iu (.ref (H.length+3) 0)):=by
 have j:∀a r,f a=some r->tg f H.length a=some (zh r):= λa r h=>by
  have:=s a (by rw[h];simp);unfold tg;rw[asu (by omega),asu (by omega),asu (by omega),asu (by omega),h];rfl
 have B:∀a k,tg f H.length a=some (.sb k)↔f a=some (.sb k):= λa k=>by
  constructor
  .intro h;unfold tg at h;split at h
   .cases h
   .split at h
    .cases h
    .split at h
     .cases h
     .split at h
      .cases h
      .cases e:f a with
       |none=>rw[e]at h;cases h
       |some r=>
             rw[e]at h;injection h with h;have:zh r=zh (.sb k):=h
             rw[JB this]
  .intro h;exact j a _ h
 have q:∀{a ob},H[a]?=some ob->(jb H iu (.ref (H.length+3) 0))[a]?=some ob:= λ{a ob} h=>(rJ (lU h)).trans h
 refine⟨λr b=>?_,λa r h=>?_,λr b=>?_,λk C i D=>?_,λt g=>(by cases g),λt g=>(by cases g)⟩
 .cases r with
  |it=>show tg f H.length H.length=_;unfold tg;rw[asB W]
  |un=>exact j _ _ p.1
  |me=>exact j _ _ p.2.1
  |pe=>exact j _ _ p.2.2.1
  |su=>exact j _ _ p.2.2.2
  |nx=>exact absurd W b
  |af=>exact absurd W b
  |fr g=>
   have e:=ate λe=>by have t:1<=(if g=[]then 1 else 0):=b;rw[asu e]at t;omega
   subst e;show tg f H.length (H.length+3)=_;unfold tg;rw[asu (by omega),asu (by omega),asu (by omega),asB W]
  |am g=>
   have e:=ate λe=>by have t:1<=(if g=[]then 1 else 0):=b;rw[asu e]at t;omega
   subst e;show tg f H.length (H.length+1)=_;unfold tg;rw[asu (by omega),asB W]
  |tk g=>
   have e:=ate λe=>by have t:1<=(if g=[]then 1 else 0):=b;rw[asu e]at t;omega
   subst e;show tg f H.length (H.length+2)=_;unfold tg;rw[asu (by omega),asu (by omega),asB W]
  |cr t=>
       have g:(if t=[]then 1 else 0)=2:=b.1;split at g<;>cases g
  |er t=>
       have g:(if t=[]then 1 else 0)=2:=b.1;split at g<;>cases g
  |ce t k=>
        have g:(if t=[]then 1 else 0)=2:=b.1;split at g<;>cases g
  |pl t k=>
        have g:(if t=[]then 1 else 0)=2:=b.1;split at g<;>cases g
  |sb k=>exact b.elim
 .rw[rI];have g:tg f H.length a=some r:=h;unfold tg at g;split at g
  .omega
  .split at g
   .omega
   .split at g
    .omega
    .split at g
     .omega
     .have:=s a (by intro e;rw[e]at g;cases g);omega
 .cases r with
  |it=>exact⟨_,A_ _ _ _,W⟩
  |un=>exact⟨_,q w,W⟩
  |me=>exact⟨_,q x,W⟩
  |pe=>exact⟨_,q y,W⟩
  |su=>exact⟨_,q z,W⟩
  |nx=>exact absurd W b
  |af=>exact absurd W b
  |fr g=>
   have e:g=[]:=ate λe=>by have t:1<=(if g=[]then 1 else 0):=b;rw[asu e]at t;omega
   subst e;exact⟨_,Ba _ _ _,W⟩
  |am g=>
   have e:g=[]:=ate λe=>by have t:1<=(if g=[]then 1 else 0):=b;rw[asu e]at t;omega
   subst e;exact⟨_,H4 _ _ _,[],W,W,λ(h:(1:Nat)=2)=>absurd h (by decide),λ_=>rfl⟩
  |tk g=>
   have e:g=[]:=ate λe=>by have t:1<=(if g=[]then 1 else 0):=b;rw[asu e]at t;omega
   subst e;exact⟨_,H5 _ _ _,[],W,W,λ(h:(1:Nat)=2)=>absurd h (by decide)⟩
  |cr t=>
       have g:(if t=[]then 1 else 0)=2:=b.1;split at g<;>cases g
  |er t=>
       have g:(if t=[]then 1 else 0)=2:=b.1;split at g<;>cases g
  |ce t k=>
        have g:(if t=[]then 1 else 0)=2:=b.1;split at g<;>cases g
  |pl t k=>
        have g:(if t=[]then 1 else 0)=2:=b.1;split at g<;>cases g
  |sb k=>exact b.elim
 .have g:u.an k=some i:=D;exact((A k C i g).frame (λa b=>rJ (s a (by rw[b];simp))) (by rw[rI];omega)).congr λa=>(B a k).symm
def Pu.start{ins outs:List Int}(e:gW P (eV P n) c d u ins outs u')(o:X.x=⟨u.mem,u.cw,u.an⟩)(hf:∀b,X.fs b=if b=[]then 2 else 0)(l:∀a k,X.cs a k=if a=[]/\k<ins.length then 2 else 0)(f:∀a j,X.dn a j=false)(w:∀a j,X.lv a j=false)(x:X.N=[])(y:X.F=[])(hi:X.fi=0):Pu P c d u X:=by
 have f0:∀j a,X.fs (j::a)=0:= λj a=>by rw[hf,asu (by simp)]
 have t:∀k,¬X.ER c k:=by rintro k ⟨a,j,q,p,B,h,_⟩;rw[f0]at h;cases h
 have A:∀k a j,¬X.DC c k a j:=by rintro k a j ⟨_,h,_⟩;rw[f]at h;cases h
 have i:∀a k,X.cs a k=2/\a=[]/\k<ins.length\/X.cs a k=0:= λa k=>by
  rw[l];split
  .rename_i h;exact .inl ⟨W,h⟩
  .exact .inr W
 have z:∀a k,zB (X.cs a k)=true->a=[]/\k<ins.length:= λa k h=>by
  rcases i a k with r|r
  .exact r.2
  .rw[r]at h;cases h
 refine{f0:=by rw[hf,asB W],fp:= λj a h=>absurd (f0 j a) h,f2:= λa=>by rw[hf];split<;>omega,c6:= λa k=>by rw[l];split<;>omega,ci:= λk m=>by rw[l,asB ⟨rfl,by rw[e.sW];exact m⟩],cv:= λa k h=>?_,ca:= λa k h=>?_,xm:= λk _=>⟨λh=>absurd h (t k),λ_=>(by rw[o])⟩,xp:= λk _=>⟨λh=>absurd h (t k),λ_=>(by rw[o])⟩,xd:= λk _ a j h=>absurd h (A k a j),xs:= λk _ _=>⟨λh=>absurd h (t k),λ_=>(by rw[o])⟩,s1:= λa k p v _ h s=>?_,s2:= λb C v D E q _ h s=>?_,s3:= λa j _ h=>(by rw[f]at h;cases h),s4:= λa j h=>(by rw[f0]at h;cases h),s5:= λa j h=>(by rw[w]at h;cases h),dl:= λa j q _ h=>(by rw[f]at h;cases h),nk:= λp g=>(by rw[x]at g;cases g),fk:= λp g=>(by rw[y]at g;cases g),fl:=by rw[hi];omega,fn:=by rw[hi];omega,g0:= λa j q _ _=>.inl ⟨by rw[l,asu (by simp)],f a j⟩,dz:= λa j h=>(by rw[f]at h;cases h),cz:= λa k h=>?_}
 .obtain⟨rfl,m⟩:=z a k h;have r:k<d.ins.length:=by rw[<-e.sW];exact m
  rw[(e.yS k _ _ (aso r) (aso m)).1];rfl
 .rcases i a k with r|r
  .omega
  .omega
 .rcases i a k with r|r
  .have:=s r.2.1;have:=e.sW;omega
  .omega
 .rcases i b.1 b.2 with r|r
  .have:=s r.2.1;have:=e.sW;omega
  .omega
 .rcases i a k with r|r
  .obtain⟨_,rfl,_⟩:=r;exact .inl (by rw[hf,asB W])
  .exact absurd r h
def Ro.unit:Ro->Option Ce
 |.un=>some .un|.me=>some .me|.pe=>some .pe|.su=>some .su|.sb k=>some (.sb k)|_=>none
def unit_eq{r:Ro}{s:Ce}(h:r.unit=some s):r=zh s:=by cases r<;>cases s<;>simp[Ro.unit,zh]at h⊢ <;>exact h
def JC(s:Ce):(zh s).unit=some s:=by cases s<;>rfl
theorem cD.NL(h:cD P n c d X K)(j:P.nodes[u'.i]?=some d)(l:∀k,k<bT d->X.x.m k=u'.mem k)(m:∀k,k<bT d->X.x.p k=u'.cw k)(o:∀k,k<bT d->X.x.s k=u'.an k):
  iQ P (n+1) u' (X.A .un) (λa=>(X.own a).bind Ro.unit≠none) K:=by
 have f:∀a s,(X.own a).bind Ro.unit=some s↔X.own a=some (zh s):= λa s=>by
  cases e:X.own a with
  |none=>simp
  |some r=>
   constructor
   .intro i;have p:=i;rw[unit_eq p]
   .intro i;injection i with i;subst i;exact JC s
 refine⟨d,λa=>(X.own a).bind Ro.unit,X.A .me,X.A .pe,X.A .su,X.ad,j,λa=>atn,λa g=>?_,⟨(f _ _).2 (h.own .un trivial),(f _ _).2 (h.own .me trivial),(f _ _).2 (h.own .pe trivial),(f _ _).2 (h.own .su trivial)⟩,h.unit,?_,?_,?_,λk b q t=>?_⟩
 .have g:(X.own a).bind Ro.unit≠none:=g;cases e:X.own a with
  |none=>rw[e]at g;exact absurd W g
  |some r=>exact h.lt a r e
 .rw[h.mem,qd (λk b=>by show iP X.x.m k=iP u'.mem k;unfold iP;rw[l k b])]
 .rw[h.cw,qd (λk b=>by show jT X.x.p k=jT u'.cw k;unfold jT;rw[m k b])]
 .rw[h.an,qd (λk b=>by show fb X.x.s X.ad k=fb u'.an X.ad k;unfold fb;rw[o k b])]
 .exact(h.sub k b q (by grind)).congr λa=>((f a (.sb k)).symm)
theorem mB.JD(h:mB π X H Y K){r:Ro}(i:¬r.qM π)(k:r≠.fr π)(j:X.own a=some r)(d:a<H.length)(ob:Ob):mB π X (H.set a ob) Y (K.set a ob):=by
 refine⟨h.eq,by simpa using h.len,h.A,h.v,λb c=>h.own b (by grind),λb f c=>by simpa using h.new b f c,λb c g=>?_⟩;by_cases e:b=a
 .subst e;rw[as7 d,as7 (atm d h.len)]
 .rw[asv (atf e),asv (atf e)];exact h.iD b (by grind) g
theorem Fl.JD{g:wA}{st z:Nat->Int}{up:M}{k e:Nat}{l:Nat->Nm->Prop}(h:Fl g st z up X π k e l H){r:Ro}(j:¬r.qM π)(t:r≠.fr π)(u:X.own a=some r)(ob:Ob):Fl g st z up X π k e l (H.set a ob):=by
 have d:∀{c},X.own (X.A c)=some c->c≠r->(H.set a ob)[X.A c]?=H[X.A c]?:= λ{c} c c=>asv (by grind)
 refine{h with lt:= λb c m=>by simpa using h.lt b c m,fr:=(d h.lc (atf t)).trans h.fr,cr:= λf=>(d (h.mS f) (by rintro rfl;exact j W)).trans (h.cr f),er:= λf=>(d (h.nJ f) (by rintro rfl;exact j W)).trans (h.er f),ce:= λx i=>?_,pl:= λx i=>?_}
 .obtain⟨v,n,eq,o,p,q,s⟩:=h.ce x i;exact⟨v,n,eq,o,p,(d (h.nX x i) (by rintro rfl;exact j W)).trans q,s⟩
 .obtain⟨q,p,n,o,s⟩:=h.pl x i;exact⟨q,p,n,o,(d (h.nY x i) (by rintro rfl;exact j W)).trans s⟩
end
end Go.Proofs.Sz
namespace Go.Proofs.Sz
open Go.Mt Go.Sm Go.Proofs
variable{ins outs:List Int}{u':US}{k:Nat}
section
variable{P:Pg}{n:Nat}{c:aI}{d:Nd}{u:US}{X Y Z:av}{H K L:Hp}
def NI.kn(c:aI):NI->Prop
 |.cell _ a=>(c.val a.1 a.2).isSome=true
 |_=>True
def NI.wp(c:aI):NI->Nat->Bool->Prop
 |.aN a j,k,b=>(c.fr a).pos[j]?=some k/\b=c.nan a j
 |_,_,_=>False
def Gv(X:av)(a:NI):∃m p,X.rG c a={X with x:=⟨m,p,X.x.s⟩} :=by
 cases a with
 |cell t b=>simp only[av.rG];split<;>exact⟨_,_,W⟩
 |aN b j=>simp only[av.rG];split<;>exact⟨_,_,W⟩
 |_=>exact⟨_,_,W⟩
theorem MR(X:av){a:NI}(f:NI.kn c a)(k:Nat):(∃v,NI.wr c a k v/\(X.rG c a).x.m k=v)\/((∀v,¬NI.wr c a k v)/\(X.rG c a).x.m k=X.x.m k):=by
 cases a with
 |cell t d=>
  obtain⟨v,b⟩:=aui.1 f;have g:c.get d=v:=by unfold aI.get;rw[b];rfl
  simp only[av.rG,NI.wr];split
  .rename_i h i;by_cases e:k=h
   .subst e;exact .inl ⟨v,⟨i,b⟩,by simp[av.j4,cd,g]⟩
   .exact .inr ⟨λa a=>e (by grind),by simp[av.j4,cd,e]⟩
  .grind
 |aN g j=>
  simp only[av.rG,NI.wr];split
  .rename_i b d;by_cases e:k=b
   .subst e;exact .inl ⟨_,⟨d,W⟩,by simp[av.j4,av.rF,cd]⟩
   .exact .inr ⟨λa a=>e (by grind),by simp[av.j4,av.rF,cd,e]⟩
  .grind
 |arrow b=>
  simp only[av.rG,NI.wr];by_cases e:k=b
  .subst e;exact .inl ⟨0,⟨W,W⟩,by simp[av.j4,cd]⟩
  .exact .inr ⟨λa a=>e a.1,by simp[av.j4,cd,e]⟩
 |put b z=>
  simp only[av.rG,NI.wr];by_cases e:k=b
  .subst e;exact .inl ⟨z,⟨W,W⟩,by simp[av.j4,cd]⟩
  .exact .inr ⟨λa a=>e a.1,by simp[av.j4,cd,e]⟩
theorem MU(X:av)(a:NI)(k:Nat):(∃v,NI.wp c a k v/\(X.rG c a).x.p k=v)\/((∀v,¬NI.wp c a k v)/\(X.rG c a).x.p k=X.x.p k):=by
 cases a with
 |cell t d=>exact .inr ⟨λv b=>b,by simp only[av.rG];split<;>rfl⟩
 |aN f j=>
  simp only[av.rG,NI.wp];split
  .rename_i b d;by_cases e:k=b
   .subst e;exact .inl ⟨_,⟨d,W⟩,by simp[av.rF,cd]⟩
   .exact .inr ⟨λa a=>e (by grind),by simp[av.j4,av.rF,cd,e]⟩
  .grind
 |_=>exact .inr ⟨λv a=>a,rfl⟩
structure vS(c:aI)(X:av)(l:List (NI×M))(Y:av):Prop where
 eq:∃m p,Y={X with x:=⟨m,p,X.x.s⟩}
 m:∀k,(∃p∈l,∃v,NI.wr c p.1 k v/\Y.x.m k=v)\/((∀p∈l,∀v,¬NI.wr c p.1 k v)/\Y.x.m k=X.x.m k)
 p:∀k,(∃p∈l,∃v,NI.wp c p.1 k v/\Y.x.p k=v)\/((∀p∈l,∀v,¬NI.wp c p.1 k v)/\Y.x.p k=X.x.p k)
def vS.nil(c:aI)(X:av):vS c X [] X:=⟨⟨X.x.m,X.x.p,rfl⟩,λk=>.inr ⟨λp a=>(by cases a),rfl⟩,λk=>.inr ⟨λp a=>(by cases a),rfl⟩⟩
def vS.snoc{l:List (NI×M)}{p:NI×M}(h:vS c X l Y)(f:NI.kn c p.1):vS c X (l++[p]) (Y.rG c p.1):=by
 refine⟨?_,λk=>?_,λk=>?_⟩
 .obtain⟨m,q,rfl⟩:=h.eq;obtain⟨a,b,e⟩:=Gv (c:=c) {X with x:=⟨m,q,X.x.s⟩} p.1;exact⟨a,b,by rw[e]⟩
 .rcases MR Y f k with⟨v,g,a⟩|⟨g,a⟩
  .grind
  .rcases h.m k with⟨q,i,v,b,d⟩|⟨i,b⟩
   .grind
   .refine .inr ⟨λq j v n=>?_,a.trans b⟩;rcases ast.1 j with d|d
    .grind
    .grind
 .rcases MU (c:=c) Y p.1 k with⟨v,g,a⟩|⟨g,a⟩
  .grind
  .rcases h.p k with⟨q,i,v,b,d⟩|⟨i,b⟩
   .grind
   .refine .inr ⟨λq j v n=>?_,a.trans b⟩;rcases ast.1 j with d|d
    .grind
    .grind
structure zi(c:aI)(d:Nd)(X:av):Prop where
 f:∀π,c.ok π->X.fs π=2
 n:∀π j q,c.ok π->(c.fr π).aq[j]?=some q->q.kd=2->c.ja π q->X.dn π j=true
 l:∀π j q,c.ok π->(c.fr π).aq[j]?=some q->q.kd=4->X.lv π j=true
 v:∀π k v,c.ok π->(c.fr π).vars[k]?=some v->(π=[]->d.ins.length<=k)->(c.val π k).isSome=true->X.cs π k=2
def zi.up(h:zi c d X)(g:∀a,X.fs a=2->Y.fs a=2)(i:∀a j,X.dn a j=true->Y.dn a j=true)(lv:Y.lv=X.lv)(l:∀a k,X.cs a k=2->Y.cs a k=2):zi c d Y:=
 ⟨λa f=>g a (h.f a f),λa j q f b e g=>i a j (h.n a j q f b e g),λa j q f b e=>by rw[lv];exact h.l a j q f b e,λa k v f b e g=>l a k (h.v a k v f b e g)⟩
def JE(o:gW P (eV P n) c d u ins outs u')(S:nG P n c d u)(h:∀a,c.ok (a++[])->rH c Y (a++[]))(p:cS P n c d u Y K):zi c d Y:=by
 have e:∀a,c.ok a->rH c Y a:= λa b=>by simp_all
 refine⟨λa b=>(e a b).f,λa j q b f g r=>(((e a b).q j q f).w r).2 g,λa j q b f g=>((e a b).q j q f).l g,λa k v b i s l=>?_⟩;obtain⟨t,eq,w,_⟩:=p.lay.cell (e a b).f i;obtain⟨z,x⟩:=aui.1 l;obtain⟨j,y,m,_⟩:=(o.cell a k v t b i w s).df z x;obtain⟨_,⟨q,f,_⟩,_⟩:=id m;exact((e a b).q j q f).v k v i m l
def Gw(b:gW P (eV P n) c d u ins outs u'){π:Path}{j:Nat}{q:aB}{p:Nat}(e:c.ok π)(f:(c.fr π).aq[j]?=some q)(g:(c.fr π).pos[j]?=some p)(i:q.kd=3\/q.kd=4\/q.kd=5):∃a,pf c π j q p a:=by
 cases (b.eq π j q p e f g).1 with
 |df h=>omega
 |call h=>omega
 |sw k l a h=>exact⟨a,h⟩
 |aN k l s m o r t v w a h=>exact⟨a,h⟩
 |reset k l a h=>exact⟨a,h⟩
def H6{ins outs:List Int}{u':US}(S:nG P n c d u)(h:Pu P c d u X){e:NI}(b:NI.ok c d X e){v:Int}(a:NI.wr c e k v):mQ c k v:=by
 cases e with
 |cell t f=>exact .inr (.inl ⟨f.1,f.2,Pu.ok S h b.1,a.1,a.2⟩)
 |aN f j=>
  obtain⟨g,q,p,i,l,m,_⟩:=b;exact .inr (.inr ⟨f,j,q,Pu.ok S h (h.KZ g),i,l,a.1,a.2⟩)
 |arrow f=>obtain⟨rfl,rfl⟩:=a;exact b.2
 |put f z=>obtain⟨rfl,rfl⟩:=a;exact b.2
def finish(S:nG P n c d u)(i:gW P (eV P n) c d u ins outs u')(I:cS P n c d u X H)(l:zi c d X)(Rt:X.F.length<=X.fi)(ac:∀k v,¬X.ph k v)(B:vS c X X.N Y)(r:k<bT d):
  Y.x.m k=u'.mem k/\Y.x.p k=u'.cw k/\Y.x.s k=u'.an k:=by
 have f:=I.pu;have o:k<c.sz:=by rw[S.Au];exact r
 have O:∀k v,X.SS c k v->∃p∈X.N,NI.wr c p.1 k v:=by
  rintro k v ((a|⟨t,p,b,j,_⟩)|a)
  .exact a
  .rcases asp t X.F.length with q|q
   .omega
   .rw[asr q]at j;cases j
  .exact absurd a (ac k v)
 have R:∀{a j q},c.ok a->(c.fr a).aq[j]?=some q->∃p,(c.fr a).pos[j]?=some p:= λ{a j q} g h=>by obtain⟨p,b,_⟩:=I.lay.fI (l.f a g) h;exact⟨p,b⟩
 have d6:∀k v,mQ c k v->∃p∈X.N,NI.wr c p.1 k v:=by
  rintro k v (⟨a,j,q,g,h,C,D⟩|⟨a,t,g,E,z⟩|⟨a,j,q,g,h,T,ah,z⟩)
  .obtain⟨p,F⟩:=R g h;have J:=l.f a g;refine O k v ?_;rcases(show q.kd=1\/q.kd=2\/(q.kd=3\/q.kd=4\/q.kd=5) by
    cases (i.eq a j q p g h F).1 with
    |df w=>omega
    |call w=>omega
    |sw w=>omega
    |aN w=>omega
    |reset w=>omega)with b|b|b
   .obtain⟨x,A⟩:∃x,q.lhs=[x]:=by
     cases (i.eq a j q p g h F).1 with
     |df _ x A=>exact⟨x,A⟩
     |call w=>omega
     |sw w=>omega
     |aN w=>omega
     |reset w=>omega
    obtain⟨w,G,U,K,V,Z,L,Vd,M⟩:=i.HA a j q x g h b A C;have Q4:(c.val w.1 w.2).isSome=true:=by
     have:=C (.inl b);rw[A]at this;obtain⟨OQ,y,Q⟩:=this;rw[K]at y;injection y with y;subst y
     exact Q
    have N:=(ta f J K).1;exact(f.s2 w U G a j q N (.inl (l.v w.1 w.2 G (Pu.ok S f N) L M Q4)) M L V (by rw[Z];exact Vd) h).2.1 b (k,v) D
   .exact(f.s3 a j J (l.n a j q g h b C)).2 (k,v) D
   .obtain⟨x,w⟩:=Gw i g h F b;exact f.s4 a j (l.f _ w.ok) (k,v) D
  .obtain⟨x,y⟩:=S.NE a t _ g E;have w:a=[]->d.ins.length<=t:=by rintro rfl;exact S.NF t k E
   exact O k v (f.s1 a t k v (l.f a g) (l.v a t x g y w (by rw[z];rfl)) w E z)
  .obtain⟨p,w,x⟩:=f.s5 a j (l.l a j q g h T);exact⟨p,w,by rw[x];exact⟨ah,z⟩⟩
 have s:X.ER c k↔fH c k:=by
  constructor
  .rintro⟨a,j,q,p,t,b,w,x,y,z⟩;exact⟨a,j,q,p,t,(i.iK j a (f.fp j a (by rw[b];decide)).2).1,w,x,y,z⟩
  .rintro⟨a,j,q,p,y,b,t,w,x,A⟩;obtain⟨C,z⟩:=Gw i b t w x;exact⟨a,j,q,p,y,l.f _ z.ok,t,w,x,A⟩
 have Ta:X.x.m k=c.rd k:=by
  by_cases e:X.ER c k
  .rw[(f.xm k r).1 e,(i.rd k o).1 (s.1 e)]
  .rw[(f.xm k r).2 e,(i.rd k o).2 (λh=>e (s.2 h))]
 have co:X.x.p k=c.rp k:=by
  by_cases e:X.ER c k/\(gH P.aG d)[k]?=some none
  .rw[(f.xp k r).1 e.1 e.2,(i.rp k o).1 (s.1 e.1) e.2]
  .rw[(f.xp k r).2 e,(i.rp k o).2 (λh=>e ⟨s.2 h.1,h.2⟩)]
 obtain⟨m,p,hY⟩:=B.eq;refine⟨?_,?_,?_⟩
 .rcases B.m k with⟨q,h,v,b,t⟩|⟨b,t⟩
  .rw[t];exact((i.nm k o).1 v (H6 (ins:=ins) (outs:=outs) (u':=u') S f (f.nk q h) b)).symm
  .rw[t,Ta];exact((i.nm k o).2 λv x=>by obtain⟨q,h,w⟩:=d6 k v x;exact b q h v w).symm
 .rcases B.p k with⟨q,h,v,b,t⟩|⟨b,t⟩
  .rw[t];refine((i.np k o).1 v ?_).symm;have w:=f.nk q h
   revert b w
   generalize q.1=y;intro b w;cases y with
   |aN a j=>
    obtain⟨x,z,D,A,C,E,_⟩:=w;exact⟨a,j,z,Pu.ok S f (f.KZ x),A,C,b.1,b.2⟩
   |_=>exact b.elim
  .rw[t,co];refine((i.np k o).2 λv w=>?_).symm;obtain⟨a,j,q,g,h,y,A,x⟩:=w;obtain⟨e,z,C⟩:=f.s5 a j (l.l a j q g h y);exact b e z v (by rw[C];exact⟨A,x⟩)
 .have D:Y.x.s k=X.x.s k:=by rw[hY]
  rw[D];by_cases e:∃a j,X.DC c k a j
  .obtain⟨a,j,x⟩:=e;rw[f.xd k r a j x];obtain⟨b,y,q,w,z,A⟩:=x;have g:=Pu.ok S f b;obtain⟨⟨E,t,_,C⟩,_⟩:=f.s3 a j b y;rw[w]at t;injection t with t
   subst t;exact((i.ns k o).1 _ ⟨a,j,q,g,w,z,C,A,W⟩).symm
  .have w:∀a j,¬X.DC c k a j:= λa j h=>e ⟨a,j,h⟩
   have A:X.x.s k=c.rs k:=by
    by_cases t:X.ER c k/\(gH P.aG d)[k]?=some none
    .rw[(f.xs k r w).1 t.1 t.2,(i.rs k o).1 (s.1 t.1) t.2]
    .rw[(f.xs k r w).2 t,(i.rs k o).2 (λh=>t ⟨s.2 h.1,h.2⟩)]
   rw[A];exact((i.ns k o).2 λv y=>by
    obtain⟨a,j,q,g,h,t,x,z,_⟩:=y;exact w a j ⟨l.f a g,l.n a j q g h t x,q,h,t,z⟩).symm
end
end Go.Proofs.Sz
namespace Go.Proofs.Sz
open Go.Mt Go.Sm Go.Proofs
open Tryz
section
variable{P:Pg}{n:Nat}{c:aI}{d:Nd}{u:US}{X Y Z:av}{H K L:Hp}
def Fo(l:List Nat):l.foldr (·+ ·) 0=aR l:=rfl
structure Ct(F:Nat->Prop)(H:Hp)(X:av)(K:Hp):Prop where
 len:H.length<=K.length
 o:∀a,a<H.length->¬F a->X.own a=none/\K[a]?=H[a]?
def Ct.up{F:Nat->Prop}(h:Ct F H X K)(c:K.length<=L.length)(g:∀a,a<K.length->X.own a=none->Y.own a=none/\L[a]?=K[a]?):Ct F H Y L:=
 ⟨ata h.len c,λa b d=>by
  obtain⟨e,f⟩:=h.o a b d;obtain⟨i,j⟩:=g a (atm b h.len) e;exact⟨i,j.trans f⟩⟩
def JF{ins outs:List Int}{u':US}(S:nG P n c d u)(Pk:mw P)(j:gW P (eV P n) c d u ins outs u')(Ys:qL P n){iu:Nat}{F:Nat->Prop}{H:Hp}(hR:iQ P (n+1) u iu F H):
  DT prog 27 [.ref iu 0,.d (.sl (bL ins))] H λm K=>m=.di [.d (.sl (bL outs)),.d (.bool true)]/\∃b,iQ P (n+1) u' iu b K/\(∀a,b a->F a\/H.length<=a)/\H.length<=K.length/\∀a,a<H.length->¬F a->K[a]?=H[a]?:=by
 obtain⟨d',ah,im,ip,jy,ad,PP,pm,f4,B,h8,h9,Ry,TD,Tj⟩:=hR;rw[j.nd]at PP;injection PP with PP
 subst PP;have Wi:=asn j.nd;have Zy:=Pk.d d Wi;have On:=Pk.i d Wi;have hV:∀r,eH P n c d u r:= λr=>(Jz S Pk j Ys r).1
 have d8:=j.qc;have SX:(c.fr []).vars=d.ins++d.outs++d.b.vars:=by rw[d8];rfl
 have P':(c.fr []).cK=List.replicate d.ins.length none++b_ d.outs (bP d.b)++b_ d.b.vars 0:=by rw[d8];rfl
 obtain⟨st,Pm⟩:∃st:Nat->Int,st= λx=>if x<ins.length then 2 else 0:=⟨_,rfl⟩
 obtain⟨z,hz⟩:∃z:Nat->Int,z= λx=>if x<ins.length then(ins[x]?).getD 0 else 0:=⟨_,rfl⟩
 have ac:cD P n c d (x0 ah iu im ip jy ad u H.length ins.length) (jb H iu (.ref (H.length+3) 0)):=cD.start ins.length (λa h=>f4 a ((pm a).2 h)) B h8 h9 Ry TD Tj;obtain⟨g,l⟩:∃g,g=x0 ah iu im ip jy ad u H.length ins.length:=⟨_,rfl⟩;rw[<-l]at ac;have qr:g.A .it=H.length:=by rw[l];rfl
 have ZC:g.A (.fr [])=H.length+3:=by rw[l];rfl
 have rg:g.A .un=iu:=by rw[l];rfl
 have Ot:g.A (.am [])=H.length+1:=by rw[l];rfl
 have Ou:g.A (.tk [])=H.length+2:=by rw[l];rfl
 have zc5:=rI H iu (.d .bU);have zc6:=rI H iu (.ref (H.length+3) 0);have rt:Fl (c.fr []) st z (.d .bU) g [] 0 0 (λ_ _=>False) (jb H iu (.d .bU)):=
  {lt:= λa r B=>by have:=ac.lt a r B;omega,lc:=ac.own (.fr []) (by show 1<=g.fs [];rw[l];exact asj _),mS:= λb=>by omega,nJ:= λb=>by omega,nX:= λx b=>by omega,nY:= λx b=>by omega,fr:=by rw[ZC,Ot,Ou];exact Ba _ _ _,cr:= λb=>by omega,er:= λb=>by omega,ce:= λx b=>by omega,pl:= λx b=>by omega}
 have Oy:g.own iu=some .un:=by rw[<-rg];exact ac.own .un trivial
 have f8:g.own H.length=some .it:=by rw[<-qr];exact ac.own .it trivial
 have Oz:=lU h8;have rx:(jb H iu (.d .bU))[iu]?=some (.box (pg P d im ip jy)):=(rJ Oz).trans h8;have t3:∀{Y:av} {K:Hp},mB [] g (jb H iu (.d .bU)) Y K->K[iu]?=some (.box (pg P d im ip jy)):= λ{Y K} e=>(e.iD iu (by omega) (λr p=>by rw[Oy]at p;injection p with p;subst p;exact⟨id,by simp⟩)).trans rx
 have zc7:=j.sW;refine DT.ob func27 rfl ntmps27 rfl<|dO [2,2,27] rfl<|Oq (kD rfl rfl rfl rfl rfl)<|dR [28] rfl<|Oq (cF rfl rfl rfl)<|dR [2,29] rfl<|Oq (re rfl)<|dR [30] rfl<|Oq (re rfl)<|dR [31] rfl<|Oq (kD rfl rfl rfl rfl rfl)<|dR [32] rfl<|Oq (cF rfl rfl rfl)<|dL [] rfl<|OB [nR 6 H.length,nR 7 (H.length+3),nR 0 iu,nD 1 (.sl (bL ins))] (jb H iu (.d .bU)) (kc rfl (kc (by simp;rfl) rfl)) (by simp)<|dO [2,37] rfl<|Oq (ax rfl rfl rx rfl)<|dR [38] rfl<|Oq (bK rfl rfl rfl) ?_;rw[show(aE d.ins).length=d.ins.length by simp[aE]];refine dL [] rfl<|OB [nN 35 0,nN 34 d.ins.length,nD 33 (.sl (aE d.ins)),nR 6 H.length,nR 7 (H.length+3),nR 0 iu,nD 1 (.sl (bL ins))] (jb H iu (.d .bU)) rfl rfl<|dC [] rfl<|Ps (λb=>∃Y K f,Fl (c.fr []) st z (.d .bU) Y [] d.ins.length 0 (λ_ _=>False) K/\mB [] g (jb H iu (.d .bU)) Y K/\b=⟨[nR 6 H.length,nR 7 (H.length+3),nR 0 iu],f,K⟩) ?_ ?_
 .refine dC [3] rfl<|DC.lp (λk s=>∃(i:Nat) (Y:av) (K:Hp) (f:List (Nat×List M)),s=⟨[nN 35 i,nN 34 d.ins.length,nD 33 (.sl (aE d.ins)),nR 6 H.length,nR 7 (H.length+3),nR 0 iu,nD 1 (.sl (bL ins))],f,K⟩/\i<=d.ins.length/\k=d.ins.length-i/\
    Fl (c.fr []) st z (.d .bU) Y [] i 0 (λ_ _=>False) K/\mB [] g (jb H iu (.d .bU)) Y K) d.ins.length _
   ⟨0,g,_,_,rfl,by omega,rfl,rt,mB.refl rt.lt⟩ rfl ?_
  rintro k s1 ⟨i,Y,K,f,rfl,hi,rfl,A,Pz⟩;refine dC [2] rfl<|DC.cond rfl (λhc=>?_) (λhc=>?_);rotate_left
  .have e:i=d.ins.length:=by have:=asG hc;omega
   subst e;refine DC.exit<|⟨_,⟨Y,K,_,A,Pz,rfl⟩,cN rfl rfl⟩
  have OY:i<d.ins.length:=by have:=asC hc;omega
  have S':=aso OY;have QS:=eb OY;generalize d.ins[i]=v at S' QS;rw[show v.cells=[.str v.name,.int .u8 v.tk,.str v.tn,.sl (sU v.clock),.bool v.last]++v.first.cells++[.int .i64 v.ps.1,.int .i64 v.ps.2]from rfl,Xp.aA]at QS;have Tw:i<ins.length:=by omega
  have V2:(bL ins)[((i:Nat):Int).toNat]?=some [.int .i32 ins[i]]:=by simp[bL,Tw]
  have RQ:=(Pz.A _ id).trans ZC;have D:=A.fr;rw[RQ]at D;have Vs:st i=2/\z i=ins[i]:=by
   rw[Pm,hz];simp only[asB Tw];exact⟨trivial,by rw[aso Tw];rfl⟩
  have d6:(c.fr []).vars[i]?=some v:=by rw[SX,asM,asl OY];exact S'
  have UF:(c.fr []).cK[i]?=some none:=by rw[P',asM,asl (by simp;omega)];simp[OY]
  obtain⟨J,w⟩:=A.e_ (C:=c_ v none (.d .bU) (H.length+3) 2 ins[i]) (k:=i) ⟨rfl,rfl,rfl,rfl⟩ ⟨v,none,.d .bU,d6,UF,by rw[Vs.1,Vs.2,RQ]⟩;have VY:d.ins.length-(i+1)<d.ins.length-i:=by omega
  have o:=bu (T:=[Ob.box (c_ v none (.d .bU) (H.length+3) 2 ins[i])]) D;refine dO [3,2,42] rfl<|Oq (aP rfl rfl rfl (asm i) QS rfl)<|dL [] rfl ?_;rcases asR i with Sf|Sf
  .have E:bI (Y.A (.cr [])) (Y.vc []) i=.d (.sl []):=by rw[Sf];rfl
   rw[E]at D o
   let Iv:Hp->Prop:= λL=>L[H.length+3]?=some (Ob.box [.d .bU,.d (.sl []),bI (Y.A (.er [])) (Y.ve []) 0,.mp (Y.A (.am [])),.mp (Y.A (.tk []))])
   refine dC [] rfl ?_;apply PL Iv (D) bX
   .intro s0 Oo;refine iR 4 rfl<|OH rfl rfl (λL h=>⟨_,h,rfl⟩)<|iR 4 rfl ?_;apply OA
    .skip
     refine bJ rfl rfl rfl (asm i) V2 rfl<|TF.nil ⟨rfl,rfl⟩
    refine iR 1 rfl ?_;apply OA
    .skip
     refine A9 rfl rfl rfl rfl rfl<|TF.nil ⟨rfl,rfl⟩
    apply OA
    .skip
     refine BS rfl rfl rfl<|TF.nil ⟨rfl,rfl⟩
    apply OA
    .skip
     refine dW (cs:=[_]) rfl rfl rfl rfl rfl rfl<|TF.nil ⟨rfl,rfl⟩
    apply OA
    .skip
     refine o9 true rfl rfl rfl (lV _ _) rfl rfl (by decide) (by decide)<|TF.nil ⟨rfl,rfl⟩
    refine iR 2 rfl ?_;apply OA
    .skip
     refine fK rfl rfl (bu (bu o)) rfl rfl rfl<|TF.nil ⟨rfl,rfl⟩
    exact jr.nil ⟨by kernel_rfl,by repeat' first|exact trivial|exact .inl ((by first|exact o|exact bu o|exact bu (bu o)))|exact .inr (by kernel_rfl)|refine⟨?_,?_⟩,rfl⟩
   refine dO [2,61] rfl<|Oq (ay rfl rfl rfl (by omega))<|dL [] rfl<|bG (k':=d.ins.length-(i+1)) VY ⟨i+1,_,_,_,rfl,by omega,rfl,J,Pz.trans w⟩ ?_ rfl;simp only[av.qf,asB Sf,RQ,asq,asS];rfl
  .have E:bI (Y.A (.cr [])) (Y.vc []) i=.bC (Y.A (.cr [])) (Y.vc []) i:=by unfold bI;rw[asu (by omega)]
   rw[E]at D o;have Tl:=A.cr Sf;have OP:Y.A (.cr [])≠H.length+3:=by intro e;have:=A.mS Sf;rw[e,<-RQ,A.lc]at this;cases this
   let Iv:Hp->Prop:= λL=>L[H.length+3]?=some (Ob.box [.d .bU,.bC (Y.A (.cr [])) (Y.vc []) i,bI (Y.A (.er [])) (Y.ve []) 0,.mp (Y.A (.am [])),.mp (Y.A (.tk []))])
   refine dC [] rfl ?_;apply PL Iv (D) bX
   .intro s0 Oo;refine iR 4 rfl<|OH rfl rfl (λL h=>⟨_,h,rfl⟩)<|iR 4 rfl ?_;apply OA
    .skip
     refine bJ rfl rfl rfl (asm i) V2 rfl<|TF.nil ⟨rfl,rfl⟩
    refine iR 1 rfl ?_;apply OA
    .skip
     refine A9 rfl rfl rfl rfl rfl<|TF.nil ⟨rfl,rfl⟩
    apply OA
    .skip
     refine BS rfl rfl rfl<|TF.nil ⟨rfl,rfl⟩
    apply OA
    .skip
     refine dW (cs:=[_]) rfl rfl rfl rfl rfl rfl<|TF.nil ⟨rfl,rfl⟩
    apply OA
    .skip
     refine o_ rfl rfl rfl (lV _ _) (bu (bu Tl)) rfl (by omega) (by omega)<|TF.nil ⟨rfl,rfl⟩
    refine iR 2 rfl ?_;apply OA
    .skip
     refine fK rfl rfl (fV (bu o) OP) rfl rfl rfl<|TF.nil ⟨rfl,rfl⟩
    exact jr.nil ⟨by kernel_rfl,by repeat' first|exact trivial|exact .inl ((by first|exact o|exact bu o|exact fV (bu o) OP))|exact .inr (by kernel_rfl)|refine⟨?_,?_⟩,rfl⟩
   refine dO [2,61] rfl<|Oq (ay rfl rfl rfl (by omega))<|dL [] rfl<|bG (k':=d.ins.length-(i+1)) VY ⟨i+1,_,_,_,rfl,by omega,rfl,J,Pz.trans w⟩ ?_ rfl;simp only[av.qf,asu (show ¬i=0 by omega),RQ];rfl
 rintro _ ⟨Y1,K1,zc8,Yy,QK,rfl⟩;have Vo:=t3 QK;have Zz:=lF d.b Zy.1 (by have:=Zy.2.2;omega);rw[bF.aA]at Zz;have zc9:aS d.outs<=d.outs.length:=by unfold aS;exact atN _ _
 refine dO [2,66] rfl<|Oq (kF rfl rfl Vo rfl rfl)<|dR [67] rfl<|Oq (aL Zz rfl rfl)<|dR [2,72] rfl<|Oq (ax rfl rfl Vo rfl)<|dR [73] rfl<|Oq (bK rfl rfl rfl) ?_;rw[show(aE d.outs).length=d.outs.length by simp[aE]];refine dL [] rfl<|OB [nN 70 0,nN 69 d.outs.length,nD 68 (.sl (aE d.outs)),nN 10 (bP d.b),nR 6 H.length,nR 7 (H.length+3),nR 0 iu] K1 rfl rfl<|dC [] rfl<|Ps (λb=>∃Y K f,Fl (c.fr []) st z (.d .bU) Y [] (d.ins.length+d.outs.length) 0 (λ_ _=>False) K/\mB [] g (jb H iu (.d .bU)) Y K/\b=⟨[nR 6 H.length,nR 7 (H.length+3),nR 0 iu],f,K⟩) ?_ ?_
 .refine dC [3] rfl<|DC.lp (λk s=>∃(i:Nat) (Y:av) (K:Hp) (f:List (Nat×List M)),s=⟨[nN 70 i,nN 69 d.outs.length,nD 68 (.sl (aE d.outs)),nN 10 (bP d.b+aS (d.outs.take i)),nR 6 H.length,nR 7 (H.length+3),nR 0 iu],f,K⟩/\i<=d.outs.length/\k=d.outs.length-i/\
    Fl (c.fr []) st z (.d .bU) Y [] (d.ins.length+i) 0 (λ_ _=>False) K/\mB [] g (jb H iu (.d .bU)) Y K) d.outs.length _
   ⟨0,Y1,K1,_,rfl,by omega,rfl,Yy,QK⟩ (kc rfl (kc rfl (kc rfl (kc (by simp;rfl) rfl)))) ?_
  rintro k s1 ⟨i,Y,K,f,rfl,hi,rfl,A,Pz⟩;refine dC [2] rfl<|DC.cond rfl (λo=>?_) (λo=>?_);rotate_left
  .have e:i=d.outs.length:=by have:=asG o;omega
   subst e;refine DC.exit<|⟨_,⟨Y,K,_,A,Pz,rfl⟩,cN rfl rfl⟩
  have OY:i<d.outs.length:=by have:=asC o;omega
  have S':=aso OY;have QS:=eb OY;have SH:aS (d.outs.take (i+1))=aS (d.outs.take i)+(if d.outs[i].last then 1 else 0):=by rw[asA OY,pQ]
  have Fd:=(lS d.outs) i;generalize d.outs[i]=v at S' QS SH;have Zx:=zf (a:=bP d.b) S';rw[show v.cells=[.str v.name,.int .u8 v.tk,.str v.tn,.sl (sU v.clock),.bool v.last]++v.first.cells++[.int .i64 v.ps.1,.int .i64 v.ps.2]from rfl,Xp.aA]at QS;have RQ:=(Pz.A _ id).trans ZC;have QA:=A.fr;rw[RQ]at QA;refine dO [3,2,76] rfl<|Oq (aP rfl rfl rfl (asm i) QS rfl)<|dR [2,80] rfl<|Oq (kD rfl rfl rfl rfl rfl)<|dR [81] rfl<|Oq (cF rfl rfl rfl)<|dL [2] rfl<|Ps (λb=>∃Po,b=⟨[nR 13 K.length,nN 70 i,nN 69 d.outs.length,nD 68 (.sl (aE d.outs)),nN 10 (bP d.b+aS (d.outs.take (i+1))),nR 6 H.length,nR 7 (H.length+3),nR 0 iu],Po,K++[Ob.box (c_ v (if v.last then some (bP d.b+aS (d.outs.take i))else none) (.d .bU) (H.length+3) 0 0)]⟩) ?_ ?_
  .have mt:(K++[Ob.box (c_ v none (.d .bU) (H.length+3) 0 0)])[K.length]?=some (Ob.box (c_ v none (.d .bU) (H.length+3) 0 0)):=uT K _;refine DC.cond rfl (λo=>?_) (λo=>?_)
   .rw[asB o]at SH;refine dO [2,999] rfl<|Oq (cc rfl rfl mt rfl rfl rfl)<|dR [2,89] rfl<|Oq (ay rfl rfl rfl (by omega))<|dL [] rfl<|⟨_,⟨_,rfl⟩,cN (by rw[asB o];exact A6) (kc rfl (kc rfl (kc rfl (kc rfl (kc (by rw[SH];rfl) rfl)))))⟩
   .rw[asu (by rw[o];simp)]at SH;refine dC [] rfl<|⟨_,⟨_,rfl⟩,cN (by rw[asu (by rw[o];simp)];rfl) (kc rfl (kc rfl (kc rfl (kc rfl (kc (by rw[SH];rfl) rfl)))))⟩
  rintro _ ⟨Po,rfl⟩;generalize Fn:(if v.last then some (bP d.b+aS (d.outs.take i))else none)=lp at Zx;have Vs:st (d.ins.length+i)=0/\z (d.ins.length+i)=0:=by
   rw[Pm,hz];simp only[asu (show ¬d.ins.length+i<ins.length by omega)];exact⟨trivial,trivial⟩
  have d6:(c.fr []).vars[d.ins.length+i]?=some v:=by
   rw[SX,asM,ass (by omega),atq,asl OY];exact S'
  have UF:(c.fr []).cK[d.ins.length+i]?=some lp:=by
   rw[P',asM,ass (by simp),atM,atq,asl (by rw[eL];exact OY)];exact Zx
  obtain⟨J,w⟩:=A.e_ (C:=c_ v lp (.d .bU) (H.length+3) 0 0) (k:=d.ins.length+i) ⟨rfl,rfl,rfl,rfl⟩ ⟨v,lp,.d .bU,d6,UF,by rw[Vs.1,Vs.2,RQ]⟩;have VY:d.outs.length-(i+1)<d.outs.length-i:=by omega
  have D:=bu (T:=[Ob.box (c_ v lp (.d .bU) (H.length+3) 0 0)]) QA;rcases asR (d.ins.length+i)with Sf|Sf
  .have E:bI (Y.A (.cr [])) (Y.vc []) (d.ins.length+i)=.d (.sl []):=by rw[Sf];rfl
   rw[E]at D;refine dO [2,94] rfl<|Oq (ax rfl rfl D rfl)<|dR [96] rfl<|Oq (iM (cs:=[_]) rfl rfl rfl rfl rfl rfl)<|dR [97] rfl<|Oq (yM true rfl rfl rfl (lV _ _) rfl rfl (by decide) (by decide))<|dR [999] rfl<|Oq (cc rfl rfl (bu (bu D)) rfl rfl rfl)<|dR [2,100] rfl<|Oq (ay rfl rfl rfl (by omega))<|dL [] rfl<|bG (k':=d.outs.length-(i+1)) VY ⟨i+1,_,_,_,rfl,by omega,rfl,J,Pz.trans w⟩ ?_ rfl;simp only[av.qf,asB Sf,RQ,asq,asS];rfl
  .have E:bI (Y.A (.cr [])) (Y.vc []) (d.ins.length+i)=.bC (Y.A (.cr [])) (Y.vc []) (d.ins.length+i):=by unfold bI;rw[asu (by omega)]
   rw[E]at D;have Tl:=A.cr Sf;have OP:Y.A (.cr [])≠H.length+3:=by intro e;have:=A.mS Sf;rw[e,<-RQ,A.lc]at this;cases this
   refine dO [2,94] rfl<|Oq (ax rfl rfl D rfl)<|dR [96] rfl<|Oq (iM (cs:=[_]) rfl rfl rfl rfl rfl rfl)<|dR [97] rfl<|Oq (yN rfl rfl rfl (lV _ _) (bu (bu Tl)) rfl (by omega) (by omega))<|dR [999] rfl<|Oq (cc rfl rfl (fV (bu D) OP) rfl rfl rfl)<|dR [2,100] rfl<|Oq (ay rfl rfl rfl (by omega))<|dL [] rfl<|bG (k':=d.outs.length-(i+1)) VY ⟨i+1,_,_,_,rfl,by omega,rfl,J,Pz.trans w⟩ ?_ rfl;simp only[av.qf,asu (show ¬d.ins.length+i=0 by omega),RQ];rfl
 rintro _ ⟨Y2,K2,Yd,J,w,rfl⟩;have f9:=w.JD (r:=.it) id (by simp) f8 (by omega) (.box (wL iu (.ref (H.length+3) 0)));rw[Fm]at f9;have t4:=J.JD (r:=.it) id (by simp) ((w.own _ (by omega)).trans f8) (.box (wL iu (.ref (H.length+3) 0)));obtain⟨K3,gc⟩:∃K3,K2.set H.length (.box (wL iu (.ref (H.length+3) 0)))=K3:=⟨_,rfl⟩;rw[gc]at f9 t4;have Pi:K3[iu]?=some (.box (pg P d im ip jy)):=by
  rw[<-gc,asv (by omega)];exact(t3 w)
 obtain⟨m4,K4,⟨Z,f4,ST⟩,Q⟩:=DF (c:=c) (st:=st) (z:=z) (X:=Y2) (π:=[]) (H:=K3) S.sz d.b Zy.1 On.2 0 (by omega) (d.ins.length+d.outs.length) (by rw[SX];simp;omega) (λi v b=>by
   rw[SX,ass (by simp)];simp;exact b) (λi b o=>by
   rw[P',ass (by simp[eL])];simp only[asq,atM,eL,atq];exact o) (by rw[d8];rfl) (by rw[d8];simp[sV]) (λx b=>by
   rw[Pm,hz];simp only[asu (show ¬x<ins.length by omega)];exact⟨trivial,trivial⟩) (.ref H.length 0) t4 (λb ρ e=>by cases e)
 rw[(w.A _ id).trans ZC,bF.aA]at Q;have ge:=f9.trans ST;have YC:∀A,g.fs A=if A=[]then 1 else 0:= λA=>by rw[l];rfl
 have t5:∀π k,g.cs π k=if π=[]/\k<ins.length then 2 else 0:= λπ k=>by rw[l];rfl
 have t6:∀π o,g.dn π o=false:= λπ o=>by rw[l];rfl
 obtain⟨UH,i6,UV⟩:=ac.filled (ρ:=[]) (st:=st) (z:=z) (by rw[YC];rfl) (λi=>by rw[YC];rfl) (λi=>t6 _ _) (λx _=>by
   rw[t5];have e1:st x=if x<ins.length then 2 else 0:=by rw[Pm]
   have e2:z x=if x<ins.length then(ins[x]?).getD 0 else 0:=by rw[hz]
   rw[e1,e2];by_cases D:x<ins.length
   .rw[asB D,asB D,asB (show([]:Path)=[]/\x<ins.length from⟨rfl,D⟩)];refine⟨rfl,?_⟩;have q:=aso D;have G:=(j.yS x d.ins[x] ins[x] (aso (by omega)) q).1;show _=c.get ([],x);unfold aI.get;rw[G,q]
   .rw[asu D,asu D,asu (show ¬(([]:Path)=[]/\x<ins.length)fromλb=>D b.2)];exact⟨rfl,rfl⟩) (λo π e=>by cases e) f4 ge
 obtain⟨A0,o0,v0,E,I⟩:=id ge.eq;have co:∀A,(Z.full []).fs A=if A=[]then 2 else 0:= λA=>by
  unfold av.full;rw[I];show(if A=[]then 2 else g.fs A)=_;rw[YC];split<;>rfl
 have i7:∀π k,(Z.full []).cs π k=if π=[]/\k<ins.length then 2 else 0:= λπ k=>by unfold av.full;rw[I];exact t5 π k
 have Xn:∀π o,(Z.full []).dn π o=false:= λπ o=>by unfold av.full;rw[I];exact t6 π o
 have t7:∀π o,(Z.full []).lv π o=false:= λπ o=>by unfold av.full;rw[I,l];rfl
 have zN:(Z.full []).N=[]:=by unfold av.full;rw[I,l];rfl
 have zF:(Z.full []).F=[]:=by unfold av.full;rw[I,l];rfl
 have t8:(Z.full []).fi=0:=by unfold av.full;rw[I,l];rfl
 have YL:∀k v,¬(Z.full []).ph k v:= λk v=>by unfold av.full;rw[I,l];exact id
 have za0:=Pu.start j (by unfold av.full;rw[I,l];rfl) co i7 Xn t7 zN zF t8;have t9:=(i6 .it trivial).2.trans qr;have ut:=(i6 (.fr []) (by show 1<=g.fs [];rw[YC];exact asj _)).2.trans ZC;have W2:(Z.full []).T c<=1000000000000:=by
  have q:(Z.full []).T c<=0+0+aR (c.ap.map c.wt):=by
   unfold av.T;rw[zN,zF];simp only[atg,List.drop_nil,atu];have:=Cn c.ap (λi=>if(Z.full []).cw i then c.wt i else 0) c.wt (λi _=>by split<;>omega);have E:aR ([]:List Nat)=0:=rfl;omega
  have:=j.ws;rw[Fo]at this;omega
 have ZD:lH c (Z.full []) c.dX:=⟨λπ k e=>(by rw[i7]at e;split at e<;>cases e),λo π e=>(by rw[co,asu (by simp)]at e;cases e),λπ k=>(by rw[i7];split<;>omega),asj _⟩;obtain⟨m5,R,⟨y,t⟩,Ym⟩:=Lh S Pk j Ys _ [] (asj _) (Z.full []) K4 ⟨UH,za0⟩ W2 ZD (by rw[co];rfl) (λb o=>t7 _ _);rw[t9,ut]at Ym;have za1:Ct F H y R:=by
  have q:Ct F H g (jb H iu (.ref (H.length+3) 0)):=⟨by omega,λa q G=>⟨by
   have e:ah a=none:=by
    cases e:ah a with
    |none=>rfl
    |some r=>exact absurd ((pm a).2 (by rw[e];simp)) G
   rw[l];show tg ah H.length a=none;unfold tg;rw[asu (by omega),asu (by omega),asu (by omega),asu (by omega),e];rfl,rJ q⟩⟩
  have G:=q.up ge.len UV;exact G.up (Y:=y) t.ext.e.len (λa U B=>t.ext.e.iD a U B)
 have i8:∀r,(Z.full []).live c r->y.A r=(Z.full []).A r:= λr p=>(t.ext.e.A r (by cases r<;>exact p)).2
 have v6:=(i8 .it trivial).trans t9;have wd:=(i8 .un trivial).trans ((i6 .un trivial).2.trans rg);have wn:=lH.next (X:={Z.full []with lv:=y.lv}) (H:=K4) ⟨ZD.c1,ZD.f1,ZD.c4,ZD.tp⟩ t.ext.e;have zd0:=ata t.t W2;have za2:=t.ext.e.f2 [] (by show(Z.full []).fs []=2;rw[co];rfl);have za3:∀k v,¬y.ph k v:= λk v h=>by rw[t.ext.e.ph]at h;exact YL k v h
 have Do:=t.inst.lay.unit;rw[wd]at Do;refine dO [2,999] rfl<|Oq (cc rfl rfl ((w.iD H.length (by omega) (λr p=>by rw[f8]at p;injection p with p;subst p;exact⟨id,by simp⟩)).trans (A_ _ _ _)) rfl rfl rfl)<|dL [] rfl<|OB [nR 6 H.length,nR 7 (H.length+3),nR 0 iu] K3 rfl gc<|dO [2,111] rfl<|Oq (kF rfl rfl Pi rfl rfl)<|dR [112] rfl<|Oq (au Q rfl rfl)<|dR [2,115] rfl<|Oq (au Ym rfl rfl)<|dR [2,2,120] rfl<|Oq (ax rfl rfl Do rfl)<|dR [121] rfl<|Oq (bK rfl rfl rfl) ?_;rw[show(aE d.outs).length=d.outs.length by simp[aE]];refine dL [] rfl ?_;have Eq:=j.outs;have zd1:outs.length=d.outs.length:=by rw[Eq];simp
 refine OB [nN 118 0,nN 117 d.outs.length,nD 116 (.sl (aE d.outs)),nD 14 (.sl []),nR 6 H.length,nR 7 (H.length+3)] R rfl rfl<|dC [] rfl<|Ps (λb=>∃Y K f,cS P n c d u Y K/\bf c (λ_=>False) y R Y K/\Y.T c<=y.T c/\b=⟨[nD 14 (.sl (bL outs)),nR 6 H.length],f,K⟩) ?_ ?_
 .refine dC [3] rfl<|DC.lp (λk s=>∃(i:Nat) (Y:av) (K:Hp) (m:M) (f:List (Nat×List M)),s=⟨[nN 118 i,nN 117 d.outs.length,nD 116 (.sl (aE d.outs)),(14,.m m),nR 6 H.length,nR 7 (H.length+3)],f,K⟩/\i<=d.outs.length/\k=d.outs.length-i/\
    cS P n c d u Y K/\bf c (λ_=>False) y R Y K/\Y.T c<=y.T c/\Av Y R.length (bL (outs.take i)) m K) d.outs.length _
   ⟨0,y,R,_,_,rfl,by omega,rfl,t.inst,bf.refl ..,asj _,.inl ⟨rfl,rfl⟩⟩ rfl ?_
  rintro k s1 ⟨i,Y,K,m,f,rfl,hi,rfl,QI,D,Ug,hL⟩;refine dC [2] rfl<|DC.cond rfl (λhc=>?_) (λhc=>?_);rotate_left
  .have e:i=outs.length:=by have:=asG hc;omega
   rw[e,asU]at hL;obtain⟨a',Qh⟩:=hL.acc;refine DC.cq 14 rfl (Qh.view (λr p=>by unfold bL at p;obtain⟨_,_,rfl⟩:=asK.1 p;rfl))<|DC.exit<|⟨_,⟨Y,K,_,QI,D,Ug,rfl⟩,cN rfl rfl⟩
  have OY:i<d.outs.length:=by have:=asC hc;omega
  have S':=aso OY;have QS:=eb OY;generalize d.outs[i]=v at S' QS;rw[show v.cells=[.str v.name,.int .u8 v.tk,.str v.tn,.sl (sU v.clock),.bool v.last]++v.first.cells++[.int .i64 v.ps.1,.int .i64 v.ps.2]from rfl,Xp.aA]at QS;have Qd:=j.I9 i v S';have Qj:=D.f2 [] za2;have XF:=wn.next D;obtain⟨m6,K6,⟨rfl,Y6,d6,_⟩,Tp⟩:=hV c.dX Y K QI (by omega) XF [] v.name _ Qj Qd (A8 S j QI Qj Qd j.sW);rw[(D.A .it trivial).2,(D.A (.fr []) (by show 1<=y.fs [];omega)).2,v6,((i8 (.fr []) (by show 1<=(Z.full []).fs [];rw[co];decide)).trans ut)]at Tp;have mt:=hL.up (Z:=Y6) (L:=K6) d6.2.1.iD;obtain⟨Fd,Fn,s⟩:=mt.app d6.1.lay (D.trans d6.2.1) [.int .i32 (c.get ([],d.ins.length+i))];obtain⟨a2,Qh⟩:=mt.acc;have Fr:i<outs.length:=by omega
  have FS:outs[i]=c.get ([],d.ins.length+i):=by simp[Eq]
  have Pp:bL (outs.take (i+1))=bL (outs.take i)++[[.int .i32 (c.get ([],d.ins.length+i))]]:=by
   rw[asA Fr,FS];simp[bL]
  have GT:(bL (outs.take i)).length<=1000000:=by simp[bL];omega
  have Id:=d6.2.2.1;refine dO [3,2,124] rfl<|Oq (aP rfl rfl rfl (asm i) QS rfl)<|dR [2,131] rfl<|Oq (au Tp rfl rfl)<|dR [2,137] rfl<|Oq (mj Qh rfl rfl rfl rfl rfl (mi rfl) (by simp only[asS];omega) (by simp only[asS];omega))<|dR [2,138] rfl<|Oq (ay rfl rfl rfl (by omega))<|dL [] rfl<|bG (k':=d.outs.length-(i+1)) (by omega) ⟨i+1,Y6,_,_,_,rfl,by omega,rfl,⟨Fn,d6.1.pu⟩,s,by omega,by rw[Pp];exact Fd⟩ rfl rfl
 rintro _ ⟨Y7,K7,zd2,za4,s,zd3,rfl⟩;have za5:=(JE j S t.done t.inst).up s.f2 s.dn s.lv s.c2;have za6:=s.fi.trans (t.ext.e.fi.trans t8);have za7:∀k v,¬Y7.ph k v:= λk v h=>by rw[s.ph]at h;exact za3 k v h
 refine dC [2] rfl<|OB [nN 19 Y7.fi,nD 14 (.sl (bL outs)),nR 6 H.length] K7 (kc (by rw[za6];rfl) rfl) rfl<|dC [] rfl<|Ps (λb=>∃Y K f,cS P n c d u Y K/\zi c d Y/\Ct F H Y K/\(∀k v,¬Y.ph k v)/\Y.F.length<=Y.fi/\Y.A .it=H.length/\Y.A .un=iu/\Y.T c<=1000000000000/\b=⟨[nD 14 (.sl (bL outs)),nR 6 H.length],f,K⟩) ?_ ?_
 .refine dC [3] rfl<|DC.lp (λk s=>∃(Y:av) (K:Hp) (f:List (Nat×List M)),s=⟨[nN 19 Y.fi,nD 14 (.sl (bL outs)),nR 6 H.length],f,K⟩/\k=1000000000001-Y.fi/\
    cS P n c d u Y K/\zi c d Y/\Ct F H Y K/\lH c Y c.dX/\(∀k v,¬Y.ph k v)/\Y.fi<=Y.N.length/\Y.A .it=H.length/\Y.A .un=iu/\Y.T c<=1000000000000) (1000000000001-Y7.fi) _
   ⟨Y7,K7,_,rfl,rfl,za4,za5,(za1.up s.len s.iD),(wn.next s),za7,by omega,((s.A .it trivial).2.trans v6),((s.A .un trivial).2.trans wd),by omega⟩ rfl ?_
  rintro k s1 ⟨Y,K,f,rfl,rfl,QI,Fd,Fn,XF,Fr,YA,d6,FS,Ug⟩;have S4:=QI.lay.inst;rw[d6]at S4;have za8:=y_ (c:=c) (X:=Y) Ug;have zd4:=Jl QI.pu;refine dO [2,143] rfl<|Oq (ax rfl rfl S4 rfl)<|dR [144] rfl<|Oq (po rfl rfl)<|dL [] rfl<|DC.cond rfl (λhc=>?_) (λhc=>?_);rotate_left
  .have e:Y.F.length<=Y.fi:=by have:=asG hc;omega
   refine DC.exit<|⟨_,⟨Y,K,_,QI,Fd,Fn,Fr,e,d6,FS,Ug,rfl⟩,cN rfl rfl⟩
  have OY:Y.fi<Y.F.length:=by have:=asC hc;omega
  have GT:=aso OY;obtain⟨ob,Id,za9⟩:=QI.lay.ob .af (by show Y.F≠[];intro e;rw[e]at OY;simp at OY);have zb0:=za9;subst zb0;have Ox:(Y.F.map (·.2))[((Y.fi:Nat):Int).toNat*1]?=some Y.F[Y.fi].2:=by simp[OY]
  generalize Y.F[Y.fi]=mt at GT Ox;obtain⟨zc4,Pa,hm,zb1,m8,K8,⟨W,Zt,D,zd5,zb2,zb3⟩,Q⟩:=HU S (hV c.dX) QI Ug XF Fr YA (ai:=mt.1) (m:=mt.2) GT;rw[hm]at Ox;have zb4:lH c ({Y with fi:=Y.fi+1} :av) c.dX:=⟨XF.c1,XF.f1,XF.c4,XF.tp⟩;refine dO [3,2,151] rfl<|Oq (ax rfl rfl S4 rfl)<|dR [153] rfl<|Oq (lI rfl rfl rfl Id (asm _) (by omega))<|dR [154] rfl<|Oq (mH rfl rfl Id Ox)<|dR [155] rfl<|Oq (lR (hf:=zb1) (ms:=[]) Q rfl rfl rfl)<|dR [2,147] rfl<|Oq (ay rfl rfl rfl (by omega))<|dL [] rfl ?_;have zb5:W.fi=Y.fi+1:=D.fi;refine bG (k':=1000000000001-W.fi) (by omega) ⟨W,K8,_,rfl,rfl,Zt,Fd.up (λπ h=>D.f2 π h) (λπ o h=>D.dn π o h) D.lv (λπ k h=>D.c2 π k h),Fn.up D.len (λa U B=>D.iD a U B),zb4.next D,zb2,zb3,(D.A .it trivial).2.trans d6,(D.A .un trivial).2.trans FS,by omega⟩ rfl (kc (by rw[zb5];rfl) rfl)
 rintro _ ⟨b,K8,zd6,d7,zb6,zb7,zb8,zb9,In,zc0,zc1,rfl⟩;have IO:=d7.lay.inst;rw[In]at IO;have za8:=y_ (c:=c) (X:=b) zc1;refine dO [2,159] rfl<|Oq (ax rfl rfl IO rfl)<|dR [160] rfl<|Oq (po rfl rfl)<|dL [] rfl<|OB [nN 157 0,nN 156 b.N.length,nM 155 (bI (b.A .nx) b.vN b.N.length),nD 14 (.sl (bL outs)),nR 6 H.length] K8 rfl rfl<|dC [] rfl<|Ps (λg=>∃Y K f,vS c b b.N Y/\cD P n c d Y K/\Ct F H Y K/\g=⟨[nD 14 (.sl (bL outs)),nR 6 H.length],f,K⟩) ?_ ?_
 .refine dC [3] rfl<|DC.lp (λk s=>∃(i:Nat) (Y:av) (K:Hp) (f:List (Nat×List M)),s=⟨[nN 157 i,nN 156 b.N.length,nM 155 (bI (b.A .nx) b.vN b.N.length),nD 14 (.sl (bL outs)),nR 6 H.length],f,K⟩/\i<=b.N.length/\k=b.N.length-i/\
    vS c b (b.N.take i) Y/\cD P n c d Y K/\Ct F H Y K) b.N.length _
   ⟨0,b,K8,_,rfl,by omega,rfl,vS.nil c b,d7.lay,zb7⟩ rfl ?_
  rintro k s1 ⟨i,Y,K,f,rfl,hi,rfl,N,Ws,d6⟩;refine dC [2] rfl<|DC.cond rfl (λhc=>?_) (λhc=>?_);rotate_left
  .have e:i=b.N.length:=by have:=asG hc;omega
   rw[e,asU]at N;refine DC.exit<|⟨_,⟨Y,K,_,N,Ws,d6,rfl⟩,cN rfl rfl⟩
  have OY:i<b.N.length:=by have:=asC hc;omega
  obtain⟨mm,pp,rfl⟩:=N.eq;obtain⟨ob,UI,U_⟩:=Ws.ob .nx (by show b.N≠[];intro e;rw[e]at OY;simp at OY);have Fn:=U_;subst Fn;have UI:K[b.A .nx]?=some (.row true 1 b.vN (b.N.map (·.2))):=UI;have PY:b.N[i]∈b.N:=asE OY;have Ox:(b.N.map (·.2))[((i:Nat):Int).toNat*1]?=some b.N[i].2:=by simp[OY]
  have Pp:b.N.take (i+1)=b.N.take i++[b.N[i]]:=asA OY;generalize b.N[i]=D at PY Ox Pp;have mt:=d7.pu.nk D PY;have OI:NI.ok c d ({b with x:=⟨mm,pp,b.x.s⟩} :av) D.1:=by revert mt;generalize D.1=ni;intro h;cases ni<;>exact h
  have Fr:NI.kn c D.1:=by
   revert mt;generalize D.1=ni;intro h
   cases ni with
   |cell zb0 A=>exact d7.pu.cv _ _ h.2.2.1
   |_=>trivial
  obtain⟨za9,Pa,hm,Fd,m9,K9,FS,Q⟩:=Ld Ws (Ws.nx D PY) OI j.nx;rw[hm]at Ox;obtain⟨d9,zb1,GT⟩:=FS;obtain⟨m',q',Id⟩:=Gv (c:=c) ({b with x:=⟨mm,pp,b.x.s⟩} :av) D.1;refine dO [3,2,163] rfl<|Oq (lI rfl rfl rfl UI (asm _) (by omega))<|dR [164] rfl<|Oq (mH rfl rfl UI Ox)<|dR [2,166] rfl<|Oq (lR (hf:=Fd) (ms:=[]) Q rfl rfl rfl)<|dR [2,167] rfl<|Oq (ay rfl rfl rfl (by omega))<|dL [] rfl<|bG (k':=b.N.length-(i+1)) (by omega) ⟨i+1,_,K9,_,rfl,by omega,rfl,by rw[Pp];exact N.snoc Fr,d9,d6.up (by omega) (λa U B=>⟨by rw[Id];exact B,GT a B⟩)⟩ rfl rfl
 rintro _ ⟨V,K9,zd7,N,d9,i9,rfl⟩;obtain⟨mm,pp,LE⟩:=N.eq;have zc2:V.A .it=H.length:=by rw[LE];exact In
 have zc3:V.A .un=iu:=by rw[LE];exact zc0
 have LT:=d9.inst;rw[zc2]at LT;have XS:∀k,k<bT d->V.x.m k=u'.mem k/\V.x.p k=u'.cw k/\V.x.s k=u'.an k:= λk O=>finish S j d7 zb6 zb9 zb8 N O
 have Om:=d9.NL (u':=u') (by rw[j.ui];exact j.nd) (λk O=>(XS k O).1) (λk O=>(XS k O).2.1) (λk O=>(XS k O).2.2);rw[zc3]at Om;refine dC [] rfl ?_;apply Ow bX
 .intro D Oo;refine fR 4 rfl<|aw rfl rfl LT rfl<|fR 3 rfl<|TF.nil ⟨by kernel_rfl,rfl⟩
 refine DC.ret ⟨_,rfl,rfl,_,Om,λa U=>?_,i9.len,λa q G=>(i9.o a q G).2⟩;rcases asp a H.length with q|q
 .refine .inl (ate λG=>?_);have D:(V.own a).bind Ro.unit≠none:=U;rw[(i9.o a q G).1]at D;exact D rfl
 .exact .inr q
end
end Go.Proofs.Sz
namespace Go.Sm
open Go.Mt
variable{π:Path}{j k p s:Nat}{q:aB}{b:bF}
inductive Cu:bF->Prop where
 |mk {b:List Va} {a:List aB} (c:∀v∈b,v.clock.length<=1000000) (d:∀q∈a,(q.kd=1\/q.kd=2\/q.kd=3\/q.kd=4\/q.kd=5)/\(q.kd=3\/q.kd=4\/q.kd=5->q.args=[])/\(q.kd=4->xP q.ex=0))
   (h2:∀q∈a,∀a∈q.aj,Cu a.cy) (h3:∀q∈a,∀a∈q.aj,∀t:Tr,(t∈a.fm\/t∈a.fo)->jD t.e/\xP t.e=0):Cu (.mk b a)
structure px(P:Pg):Prop where
 d:∀d∈P.nodes,Cu d.b/\(∀v,v∈d.ins\/v∈d.outs->v.clock.length<=1000000)/\d.b.vars.length<=900000
def pG(c:aI)(d:Nd):Path->Nat->Prop
 |[],k=>k<bT d
 |j::a,k=>∃q p b,(c.fr a).aq[j]?=some q/\(c.fr a).pos[j]?=some p/\q.aj[c.br a j]?=some b/\cG q p (c.br a j)<=k/\k<cG q p (c.br a j)+bP b.cy
structure Fp(c:aI)(d:Nd)(π:Path)(b:bF)(s:Nat):Prop where
 sm:uc b
 wf:Cu b
 df:fZ b<=1000000
 aq:(c.fr π).aq=b.aq
 pos:(c.fr π).pos=dJ b.aq (s+aS b.vars)
 dX:s+bP b<=bT d
 i1:∀k,s<=k->k<s+bP b->pG c d π k
 i2:∀k,pG c d π k->π≠[]->s<=k/\k<s+bP b
 t:π=[]->b=d.b/\s=0
 f:π≠[]->c.fr π=uN b s
structure oB(P:Pg)(c:aI)(d:Nd):Prop where
 dm:d∈P.nodes
 iK:∀j π,c.ok (j::π)->c.ok π/\∃q,(c.fr π).aq[j]?=some q/\(q.kd=3\/q.kd=4\/q.kd=5)
 qc:c.fr []=sV d
 br:∀π j q p,c.ok π->(c.fr π).aq[j]?=some q->(c.fr π).pos[j]?=some p->(q.kd=3\/q.kd=4\/q.kd=5)->∃a,pf c π j q p a
section
variable{P:Pg}{n:Nat}{c:aI}{d:Nd}{u:US}{ins outs:List Int}{u':US}
def oC(a:oB P c d):∀{τ ρ:Path},c.ok (τ++ρ)->c.ok ρ
 |[],_,h=>h
 |j::τ,ρ,h=>oC a (τ:=τ) (a.iK j (τ++ρ) h).1
def ua{l:List aB}(h:l[j]?=some q):∃p,(dJ l s)[j]?=some p:=⟨_,vR h⟩
def gW.lg(a:gW P (eV P n) c d u ins outs u'):oB P c d:=by
 refine⟨asn a.nd,a.iK,a.qc,λb j q p f g h k=>?_⟩;cases (a.eq b j q p f g h).1 with
 |df e=>omega
 |call e=>omega
 |sw l m e i=>exact⟨e,i⟩
 |aN l m s o r v t w x e i=>exact⟨e,i⟩
 |reset l m e i=>exact⟨e,i⟩
def JG(b:oB P c d)(e:c.ok π)(f:(c.fr π).aq[j]?=some q)(g:(c.fr π).pos[j]?=some p)(h:q.kd=3\/q.kd=4\/q.kd=5):∃a,pf c π j q p a:=b.br π j q p e f g h
def rK(h:Fp c d π b s)(a:(c.fr π).aq[j]?=some q)(e:(c.fr π).pos[j]?=some p):s+aS b.vars<=p/\p+qP q<=s+bP b:=by
 rw[h.aq]at a;rw[h.pos]at e;have:=tV e a;have:=qb b;omega
theorem nq{j' k:Nat}(h:Fp c d π b s)(m:(c.fr π).aq[j]?=some q)(n:(c.fr π).pos[j]?=some p)(e:(c.fr π).pos[j']?=some k)(v:j<j'):p+qP q<=k:=by
 rw[h.aq]at m;rw[h.pos]at n e;have o:j'<b.aq.length:=by
  rcases asp j' b.aq.length with f|f
  .exact f
  .rw[asr (by rw[il];exact f)]at e;cases e
 have r:j<b.aq.length:=by omega
 have g:=vR (a:=s+aS b.vars) m;rw[n]at g;injection g with g
 have i:=vR (a:=s+aS b.vars) (aso o);rw[e]at i;injection i with i
 have t:=(fY qP (l:=b.aq) r).1;have u:b.aq[j]=q:=by grind
 rw[u]at t;have w:aR ((b.aq.take (j+1)).map qP)<=aR ((b.aq.take j').map qP):=by
  have:(b.aq.take (j+1))=(b.aq.take j').take (j+1):=by grind
  rw[this,auA];exact uL _ _
 omega
def Bb(h:Cu b)(c:q∈b.aq):(q.kd=1\/q.kd=2\/q.kd=3\/q.kd=4\/q.kd=5)/\(q.kd=3\/q.kd=4\/q.kd=5->q.args=[])/\(q.kd=4->xP q.ex=0)/\(∀a∈q.aj,Cu a.cy)/\∀a∈q.aj,∀t:Tr,(t∈a.fm\/t∈a.fo)->jD t.e/\xP t.e=0:=by
 cases h with
 |mk g d e f=>exact⟨(d q c).1,(d q c).2.1,(d q c).2.2,e q c,f q c⟩
def shape(w:mw P)(z:px P)(k:oB P c d):∀π,c.ok π->∃b s,Fp c d π b s:=by
 have o:=k.dm;intro π
 induction π with
 |nil=>
  intro _;have e:=k.qc;refine⟨d.b,0,(w.d d o).1,(z.d d o).1,(w.i d o).2,by rw[e];rfl,by rw[e];simp[sV],by unfold bT;omega,λa _ f=>?_,λa _ a=>absurd W a,λ_=>⟨rfl,rfl⟩,λa=>absurd W a⟩;show a<bT d;unfold bT;omega
 |cons n π A=>
  intro B;obtain⟨x,q,f,r⟩:=k.iK n π B;obtain⟨b,s,a⟩:=A x;obtain⟨p,l⟩:∃p,(c.fr π).pos[n]?=some p:=by rw[a.pos];rw[a.aq]at f;exact ua f
  obtain⟨j,g⟩:=JG k x f l r;have t:q∈b.aq:=by rw[<-a.aq];exact asn f
  have u:=asn g.ha;have v:=Bb a.wf t;have G:=tX (p:=p) g.ha r v.2.2.1 (v.2.1 r);have K:=rK a f l;have F:uc j.cy:=by
   have:=a.sm;cases this with
   |mk D E m=>exact m q t j u
  refine⟨j.cy,cG q p (c.br π n),F,v.2.2.2.1 j u,?_,by rw[g.fr];rfl,by rw[g.fr];rfl,by have:=a.dX;omega,λy h i=>⟨q,p,j,f,l,g.ha,h,i⟩,λy C _=>?_,λe=>(by cases e),λ_=>g.fr⟩
  .have:=a.df;have h:=Go.Proofs.Sz.vJ t;have i:=Go.Proofs.Sz.tY u;omega
  .obtain⟨H,I,J,h,i,m,D,E⟩:=C;rw[f]at h;injection h with h;subst h
   rw[l]at i;injection i with i;subst i
   rw[g.ha]at m;injection m with m;subst m
   exact⟨D,E⟩
def child(m:mw P)(n:px P)(i:oB P c d){σ:Path}(o:c.ok (j::σ))(r:pG c d (j::σ) k):pG c d σ k/\∃q p,(c.fr σ).aq[j]?=some q/\(c.fr σ).pos[j]?=some p/\(q.kd=3\/q.kd=4\/q.kd=5)/\q.args=[]/\p+gR q.kd+xP q.ex<=k/\k<p+qP q:=by
 obtain⟨s,q,a,g⟩:=i.iK j σ o;obtain⟨b,u,e⟩:=shape m n i σ s;obtain⟨w,p,v,f,l,t,x,y⟩:=r;rw[a]at f;injection f with f;subst f
 have h:=Bb e.wf (by rw[<-e.aq];exact asn a);have z:=tX (p:=p) t g h.2.2.1 (h.2.1 g);have A:=rK e a l;exact⟨e.i1 k (by omega) (by omega),q,p,a,l,g,h.2.1 g,by omega,by omega⟩
def deep(b:mw P)(e:px P)(a:oB P c d):∀{τ:Path} {j:Nat} {σ:Path},c.ok (τ++(j::σ))->∀{k:Nat},pG c d (τ++(j::σ)) k->pG c d (j::σ) k
 |[],_,_,_,_,h=>h
 |i::τ,j,σ,f,_,h=>deep b e a (τ:=τ) (a.iK i _ f).1 (child b e a f h).1
def lW(c:aI)(d:Nd)(π:Path)(k:Nat):Prop:=pG c d π k/\∀j,c.ok (j::π)->¬pG c d (j::π) k
theorem DH(g:mw P)(h:px P)(a:oB P c d)(A:c.ok π)(B:pG c d π k):∀ρ,c.ok ρ->pG c d ρ k->(∃τ,π=τ++ρ)\/∃τ j,ρ=τ++(j::π):=by
 intro ρ
 induction ρ with
 |nil=>intro _ _;exact .inl ⟨π,by simp⟩
 |cons j f r=>
  intro m s;obtain⟨t,x,y,u,o,_,_,C,D⟩:=child g h a m s;rcases r (a.iK j f m).1 t with⟨τ,e⟩|⟨τ,i,e⟩
  .rcases au3 τ with rfl|⟨n,i,rfl⟩
   .simp at e;exact .inr ⟨[],j,by rw[e];rfl⟩
   .have E:π=n++(i::f):=by rw[e];simp
    have w:pG c d (i::f) k:=deep g h a (τ:=n) (by grind) (by grind);obtain⟨_,F,G,v,p,_,_,H,I⟩:=child g h a (oC a (τ:=n) (by grind)) w;obtain⟨b,z,q⟩:=shape g h a f (a.iK j f m).1;rcases atz i j with l|l|l
    .have:=nq q v p o l;omega
    .grind
    .have:=nq q u o p l;omega
  .grind
theorem lW.own(f:mw P)(g:px P)(a:oB P c d)(u:c.ok π)(h:lW c d π k):Go.Proofs.Sz.xw c π k:=by
 intro s t q p b v j l x m n o;rcases DH f g a u h.1 (s::t) v ⟨q,p,b,j,l,m,n,o⟩with⟨τ,e⟩|⟨τ,i,e⟩
 .grind
 .have w:pG c d (τ++(i::π)) k:=by rw[<-e];exact⟨q,p,b,j,l,m,n,o⟩
  have r:c.ok (τ++(i::π)):=by grind
  exact absurd (deep f g a r w) (h.2 i (oC a (τ:=τ) r))
def lW.same(l:mw P)(m:px P)(i:oB P c d){a:Path}(g:c.ok π)(b:c.ok a)(h:lW c d π k)(f:lW c d a k):a=π:=by
 have n:∀{π a:Path},c.ok π->c.ok a->lW c d π k->lW c d a k->∃τ,π=τ++a:=by
  intro π a g b h f;rcases DH l m i g h.1 a b f.1 with p|⟨τ,o,e⟩
  .exact p
  .exact absurd (deep l m i (by rw[<-e];exact b) (by rw[<-e];exact f.1)) (h.2 o (oC i (τ:=τ) (by rw[<-e];exact b)))
 obtain⟨τ,e⟩:=n g b h f;obtain⟨q,j⟩:=n b g f h;have r:=atB List.length e;have s:=atB List.length j;simp at r s;have:q=[]:=atb (by omega);rw[this]at j;exact j
def pU(l:mw P)(m:px P)(n:oB P c d)(r:c.ok π)(i:(c.fr π).aq[j]?=some q)(g:(c.fr π).pos[j]?=some p)(x:p<=k)(s:k<p+(gR q.kd+xP q.ex+aR (q.args.map xP))):lW c d π k:=by
 obtain⟨b,w,h⟩:=shape l m n π r;have E:=rK h i g;have y:=jk q;refine⟨h.i1 k (by omega) (by omega),λo t u=>?_⟩;obtain⟨_,z,A,e,a,B,v,C,D⟩:=child l m n t u;rcases atz o j with f|f|f
 .have:=nq h e a g f;omega
 .subst f;rw[i]at e;injection e with e;subst e
  rw[g]at a;injection a with a;subst a
  rw[v]at s;have:aR (([]:List Xp).map xP)=0:=rfl;omega
 .have:=nq h i g a f;omega
def kL(l:mw P)(m:px P)(h:oB P c d){i:Nat}(n:c.ok π)(a:(c.fr π).cK[i]?=some (some k)):lW c d π k/\k<bT d:=by
 obtain⟨b,s,f⟩:=shape l m h π n;have B:=qb b;have u:(s<=k/\k<s+aS b.vars)\/(π=[]/\bP d.b<=k/\k<bT d):=by
  by_cases e:π=[]
  .obtain⟨j,g⟩:=f.t e;subst e;rw[h.qc]at a;simp only[sV]at a;rcases asp i d.ins.length with o|o
   .grind
   .rcases asp i (d.ins.length+d.outs.length)with p|p
    .rw[asM,ass (by simp;omega),atM,asl (by rw[eL];omega)]at a;have:=fQ a;exact .inr ⟨W,this.1,by unfold bT;omega⟩
    .rw[ass (by simp[eL];omega)]at a;have:=fQ a;rw[j,g];exact .inl (by omega)
  .rw[f.f e]at a;have:=fQ a;exact .inl (by omega)
 rcases u with⟨j,g⟩|⟨rfl,j,g⟩
 .refine⟨⟨f.i1 k j (by omega),λt o p=>?_⟩,by have:=f.dX;omega⟩;obtain⟨_,w,x,q,r,_,_,v,y⟩:=child l m h o p;have:=rK f q r;omega
 .refine⟨⟨g,λv o p=>?_⟩,g⟩;obtain⟨_,x,y,q,r,_,_,w,z⟩:=child l m h o p;have:=rK f q r;obtain⟨t,A⟩:=f.t W;subst t;omega
end
end Go.Sm
namespace Go.Proofs.Sz
open Go.Mt Go.Sm Go.Proofs
section
variable{P:Pg}{n:Nat}{c:aI}{d:Nd}{u:US}{X Y Z:av}{H K L:Hp}
def nG.of{ins outs:List Int}{u':US}(t:mw P)(w:px P)(g:gW P (eV P n) c d u ins outs u'):nG P n c d u:=by
 have L:=asn g.nd;have Zy:=t.d d L;have co:=t.i d L;have U:=w.d d L;have y:=Go.Sm.shape t w g.lg;have N:(c.fr []).vars=d.ins++d.outs++d.b.vars:=by rw[g.qc];rfl
 have V:(c.fr []).cK=List.replicate d.ins.length none++b_ d.outs (bP d.b)++b_ d.b.vars 0:=by rw[g.qc];rfl
 have I:∀a b s,Fp c d a b s->a≠[]->(c.fr a).vars=b.vars/\(c.fr a).cK=b_ b.vars s:= λa b s h e=>by rw[h.f e];exact⟨W,W⟩
 have ah:bT d<=900000000:=by
  have m:aS d.outs<=d.outs.length:=by unfold aS;exact atN _ _
  unfold bT;omega
 have J:∀{a k},c.ok a->lW c d a k->xw c a k:= λf h=>h.own t w g.lg f
 have O:∀{X:av} {a k},Pu P c d u X->X.fs a=2->xw c a k->(X.ER c k↔fH c k):=by
  intro X a k i x C;constructor
  .rintro⟨r,j,q,p,A,m,o,B,G,M⟩;exact⟨r,j,q,p,A,(g.iK j r (i.fp j r (by rw[m];decide)).2).1,o,B,G,M⟩
  .rintro⟨M,j,q,p,A,m,o,B,G,h5,R,S,T⟩;obtain⟨a',E⟩:=JG g.lg m o B G;obtain⟨τ,e⟩:=C j M q p A E.ok o B G R S T;exact⟨M,j,q,p,A,vM i (τ:=τ) (by rw[<-e];exact x),o,B,G,h5,R,S,T⟩
 have Y:=g.Cd;have Q:∀{X:av} {a},Pu P c d u X->X.fs a=2->c.ok a:=by
  intro X a i x;cases a with
  |nil=>exact Y
  |cons j a=>exact(i.fp j a (by rw[x];decide)).2
 have Z:∀(a:Path) (j:Nat) (q:aB) (r:Path) (B:Nat) (D:aB) (p:Nat),c.ok a->c.ok r->(c.fr a).aq[j]?=some q->(c.fr r).aq[B]?=some D->q.kd=2->D.kd=2->(c.fr a).pos[j]?=some p->(c.fr r).pos[B]?=some p->r=a/\B=j:=by
  intro a j q r B D p f R l S z Pq i M;have o1:gR q.kd=1:=by rw[z];rfl
  have o2:gR D.kd=1:=by rw[Pq];rfl
  have m:=pU t w g.lg f l i (asj p) (by omega);have o:=pU t w g.lg R S M (asj p) (by omega);have e:=m.same t w g.lg f R o;subst e;obtain⟨b,s,T⟩:=y r f;have e1:=jk q;have e2:=jk D;refine⟨W,?_⟩;rcases atz j B with G|G|G
  .have:=nq T l i M G;omega
  .exact G.symm
  .have:=nq T S M i G;omega
 refine{en:=t.e,sz:= λa=>?_,Au:=g.sz,cl:= λa k v f K=>?_,Js:=ah,rd:= λX i a k x C z=>?_,Cd:=Y,lo:= λa k q f h=>J f (kL t w g.lg f h).1,gh:=g.gh,Cq:= λa j q f l=>?_,Lb:= λa=>?_,je:= λa j q f l A E ac ht=>?_,pq:= λa j q p f l i=>?_,oq:= λa j q p f l i k m o=>J f (pU t w g.lg f l i m o),ML:= λa k q f h=>(kL t w g.lg f h).2,rs:= λX i a j q p x l z F hd=>?_,rp:= λX i a j q p x l z F=>?_,lh:=g.lh,NE:= λa H lp f h=>?_,NF:= λH k h=>?_,inj:=Z}
 .by_cases f:c.ok a
  .obtain⟨b,s,B⟩:=y a f;by_cases e:a=[]
   .subst e;rw[N];simp;have:=U.2.2;omega
   .rw[(I a b s B e).1];have:=B.sm;cases this with
    |mk G=>exact G
  .rw[(g.vB a f).1];simp
 .obtain⟨b,s,B⟩:=y a f;have G:∀v∈b.vars,v.clock.length<=1000000:=by
   have:=B.wf;cases this with
   |mk M=>exact M
  by_cases e:a=[]
  .obtain⟨m,_⟩:=B.t e;subst e;rw[N]at K;rcases ast.1 (asn K)with o|o
   .exact U.2.1 v (ast.1 o)
   .exact G v (by rw[m];exact o)
  .rw[(I a b s B e).1]at K;exact G v (asn K)
 .have e:=O i x C;have B:k<c.sz:=by rw[g.sz];exact z
  by_cases h:X.ER c k
  .rw[(i.xm k z).1 h,(g.rd k B).1 (e.1 h)]
  .rw[(i.xm k z).2 h,(g.rd k B).2 (λa=>h (e.2 a))]
 .obtain⟨b,s,G⟩:=y a f;have B:q∈b.aq:=by rw[<-G.aq];exact asn l
  have Rm:=G.df;have m:=vJ B;have R:=G.sm;cases R with
  |mk g1 g2 S T M g6 g7=>exact⟨(M q B).1,(M q B).2.1,(M q B).2.2,T q B,λA E=>⟨S q B A E,g7 q B A E⟩,g6 q B,by omega⟩
 .by_cases f:c.ok a
  .obtain⟨b,s,B⟩:=y a f;rw[B.aq];have:=B.sm;cases this with
   |mk M G=>exact G
  .rw[(g.vB a f).2];simp
 .obtain⟨b,s,B⟩:=y a f;have G:q∈b.aq:=by rw[<-B.aq];exact asn l
  exact(Bb B.wf G).2.2.2.2 A E ac ht
 .obtain⟨b,s,B⟩:=y a f;have:=rK B l i;have:=B.dX;omega
 .have f:=Q i x;have o1:gR q.kd=1:=by rw[z];rfl
  have C:=pU t w g.lg f l F (asj p) (by omega);have e:=O i x (J f C);obtain⟨b,s,M⟩:=y a f;have d6:=rK M l F;have Yp:=jk q;have G:p<bT d:=by have:=M.dX;omega
  have R:p<c.sz:=by rw[g.sz];exact G
  have S:∀r B,¬X.DC c p r B:=by
   rintro r B ⟨m,o,D,T,h4,h5⟩;obtain⟨e1,e2⟩:=Z a j q r B D p f (Q i m) l T z h4 F h5;subst e1;subst e2;rw[hd]at o;cases o
  by_cases h:X.ER c p/\(gH P.aG d)[p]?=some none
  .rw[(i.xs p G S).1 h.1 h.2,(g.rs p R).1 (e.1 h.1) h.2]
  .rw[(i.xs p G S).2 h,(g.rs p R).2 (λa=>h ⟨e.2 a.1,a.2⟩)]
 .have f:=Q i x;have R:gR q.kd=1:=by rw[z];rfl
  have C:=pU t w g.lg f l F (asj p) (by omega);have e:=O i x (J f C);obtain⟨b,s,G⟩:=y a f;have T:=rK G l F;have S:=jk q;have B:p<bT d:=by have:=G.dX;omega
  have M:p<c.sz:=by rw[g.sz];exact B
  by_cases h:X.ER c p/\(gH P.aG d)[p]?=some none
  .rw[(i.xp p B).1 h.1 h.2,(g.rp p M).1 (e.1 h.1) h.2]
  .rw[(i.xp p B).2 h,(g.rp p M).2 (λa=>h ⟨e.2 a.1,a.2⟩)]
 .obtain⟨b,s,B⟩:=y a f;have M:(c.fr a).cK.length=(c.fr a).vars.length:=by
   by_cases e:a=[]
   .subst e;rw[N,V];simp[eL]
   .rw[(I a b s B e).1,(I a b s B e).2,eL]
  have G:H<(c.fr a).vars.length:=by
   rcases asp H (c.fr a).cK.length with m|m
   .omega
   .rw[asr m]at h;cases h
  exact⟨_,aso G⟩
 .rw[V]at h;rcases asp H d.ins.length with B|B
  .rw[asM,asl (by simp;omega)]at h;simp[B]at h
  .exact B
def DI(a:mw P)(b:px P):∀n,qL P n
 |0=> λu q s l o F H h=>h.elim
 |n+1=> λi r t m p j k f g=>by
  obtain⟨c,d,e⟩:=f;exact JF (nG.of a b e) a e (DI a b n) g
end
end Go.Proofs.Sz
namespace Go.Sm
open Go.Mt
def jm(en:List En):List Va->List Int->Bool
 |[],[]=>true
 |v::l,x::a=>nV v.tk (((eU en v.tk v.tn).length:Nat):Int) x&&jm en l a
 |_,_=>false
def oD(n:Int):Prop:= -2147483648<=n/\n<=2147483647
def zj{en:List En} :∀{l:List Va} {xs:List Int},jm en l xs=true->xs.length=l.length
 |[],[],_=>rfl
 |[],_::_,h=>by simp[jm]at h
 |_::_,[],h=>by simp[jm]at h
 |v::l,x::xs,h=>by
  simp only[jm,asH]at h;simp[zj h.2]
theorem th{en:List En} :∀{l:List Va} {xs:List Int},xs.length=l.length->(jm en l xs=true↔ ∀(i:Nat) (v:Va) (x:Int),l[i]?=some v->xs[i]?=some x->nV v.tk (((eU en v.tk v.tn).length:Nat):Int) x=true)
 |[],[],_=>⟨λ_ i v x h=>(by cases h),λ_=>rfl⟩
 |v::l,x::xs,b=>by
  have a:=th (en:=en) (l:=l) (xs:=xs) (by grind);simp only[jm,asH];constructor
  .grind
  .intro h;exact⟨h 0 v x W W,a.2 λi w y a a=>h (i+1) w y (by grind) (by grind)⟩
end Go.Sm
namespace Go.Proofs.Sz
open Go.Mt Go.Sm Go.Proofs
open Tryz
section
variable{P:Pg}{n:Nat}{d:Nd}{u:US}{H K L:Hp}
def Nd.aA(d:Nd):d.cells=[.str d.name,.sl (aE d.ins),.sl (aE d.outs),.sl (aE d.b.vars),.sl (d.b.aq.map aB.cells),.int .i64 d.ps.1,.int .i64 d.ps.2]:=rfl
theorem H7(G:qH P.aG)(d:Nd)(I:d.ins.length<=1000)(xs:List Int)(g:∀x∈xs,oD x):PT prog 19 [.agg P.cells,.agg d.cells,.sl (bL xs)] (·=[.int .i64 (if jm P.aG d.ins xs then 0 else 7)]):=by
 have D:(bL xs).length=xs.length:=by simp[bL]
 rw[Nd.aA];refine OL (CT.ob func19 W ntmps19 W λJ K=>?_);refine tC [2] W ?_;by_cases h:xs.length=d.ins.length;rotate_left
 .have k:((((bL xs).length:Nat):Int) !=(((aE d.ins).length:Nat):Int))=true:=by rw[D,show(aE d.ins).length=d.ins.length by simp[aE]];simp;omega
  have a:jm P.aG d.ins xs=false:=by
   cases e:jm P.aG d.ins xs with
   |false=>rfl
   |true=>exact absurd (zj e) h
  rw[a];refine tO [2,18] W<|aQ k W W W W<|tL [1,2] W<|TC.ret ⟨_,W,[_],W,W⟩
 have k:((((bL xs).length:Nat):Int) !=(((aE d.ins).length:Nat):Int))=false:=by rw[D,show(aE d.ins).length=d.ins.length by simp[aE]];simp;omega
 refine tO [2,18] W<|aQ k W W W W<|tR [0,2,21] W<|bK W W W ?_;rw[show(aE d.ins).length=d.ins.length by simp[aE]];refine tL [3] W<|TC.lp (λs t=>∃(i:Nat) (u:List (Nat×List M)),t=⟨[nN 18 i,nN 17 d.ins.length,nD 16 (.sl (aE d.ins)),nD 3 (.aZ P.cells 0),nD 2 (.sl (bL xs))],u,[]⟩/\i<=d.ins.length/\s=d.ins.length-i/\∀(j:Nat) (v:Va) (x:Int),j<i->d.ins[j]?=some v->xs[j]?=some x->nV v.tk (((eU P.aG v.tk v.tn).length:Nat):Int) x=true) d.ins.length _
  ⟨0,_,rfl,by omega,rfl,λj v x h=>by omega⟩ W ?_
 rintro s t ⟨i,u,rfl,L,rfl,w⟩;refine tC [2] W<|TC.cond W (λy=>?_) (λy=>?_)
 .have z:i<d.ins.length:=by grind
  have l:=aso z;have m:=eb z;generalize d.ins[i]=v at l m;rw[show v.cells=[.str v.name,.int .u8 v.tk,.str v.tn,.sl (sU v.clock),.bool v.last]++v.first.cells++[.int .i64 v.ps.1,.int .i64 v.ps.2]from rfl,Xp.aA]at m;have n:i<xs.length:=by omega
  have o:=aso n;have p:(bL xs)[((i:Nat):Int).toNat]?=some [.int .i32 xs[i]]:=by simp[bL,n]
  have A:=g xs[i] (asE n);generalize xs[i]=x at o p A;have B:=wD G v.tk v.tn;have a:=Jg v.tk (((eU P.aG v.tk v.tn).length:Nat):Int) x v.tn A;refine tO [3,2,25] W<|aP W W W (asm i) m W<|tL [] W ?_;have q:(dM (eU P.aG v.tk v.tn)).length=(eU P.aG v.tk v.tn).length:=by simp
  rw[<-q]at a;cases f:nV v.tk (((eU P.aG v.tk v.tn).length:Nat):Int) x with
  |true=>
   have C:=f;rw[<-q]at C;rw[C]at a;refine tC [] W<|TC.draw bX<|fR 6 W<|aW B W W<|fR 3 W<|bJ W W W (asm i) p W<|fR 1 W<|aW a W W<|fR 1 W<|TF.nil ⟨by kernel_rfl,?_⟩;refine tO [0,2,41] W<|ay W W W (by omega)<|tL [] W<|again (k':=d.ins.length-(i+1)) (by omega) ⟨i+1,_,rfl,by omega,rfl,λj E F H b c=>?_⟩ W W;rcases as8.1 H with r|r
   .exact w j E F r b c
   .subst r;rw[l]at b;injection b with b;subst b
    rw[o]at c;injection c with c;subst c
    exact f
  |false=>
   have b:=f;rw[<-q]at b;rw[b]at a;have c:jm P.aG d.ins xs=false:=by
    cases e:jm P.aG d.ins xs with
    |false=>rfl
    |true=>rw[(th h).1 e i v x l o]at f;cases f
   rw[c];refine tC [] W<|TC.draw bX<|fR 6 W<|aW B W W<|fR 3 W<|bJ W W W (asm i) p W<|fR 1 W<|aW a W W<|fR 1 W<|TF.nil ⟨by kernel_rfl,?_⟩;refine tC [1,2] W<|TC.ret ⟨_,W,[_],W,W⟩
 .have e:i=d.ins.length:=by have:=asG y;omega
  have a:=(th h).2 λj v x a g=>w j v x (by
   grind) a g
  rw[a];refine TC.exit<|tC [2] W<|TC.ret ⟨_,W,[_],W,W⟩
end
variable{F:Nat->Prop}{im:Nat}
section
variable{P:Pg}{n:Nat}{d:Nd}{u:US}{H K L:Hp}
structure ol(P:Pg)(n:Nat)(u:US)(b:Nat)(F:Nat->Prop)(H:Hp):Prop where
 self:F b
 iu:∃iu G,H[b]?=some (.box [.ref iu 0])/\iQ P n u iu G H/\(∀a,F a↔a=b\/G a)/\¬G b
def ol.lt(h:ol P n u im F H):∀a,F a->a<H.length:=by
 obtain⟨g,G,b,c,d,i⟩:=h.iu;intro a e;rcases(d a).1 e with rfl|f
 .exact lU b
 .exact c.lt a f
def ol.frame(h:ol P n u im F H)(b:∀a,F a->K[a]?=H[a]?)(a:H.length<=K.length):ol P n u im F K:=by
 obtain⟨d,G,e,f,c,g⟩:=h.iu;exact⟨h.self,d,G,(b im h.self).trans e,f.frame (λa d=>b a ((c a).2 (.inr d))) a,c,g⟩
def Fq{iu:Nat}(h:iQ P n u iu F H):∃d a b c,P.nodes[u.i]?=some d/\H[iu]?=some (.box (pg P d a b c)):=by
 cases n with
 |zero=>exact h.elim
 |succ n=>obtain⟨d,l,a,b,c,g,e,i,j,k,f,_⟩:=h;exact⟨d,a,b,c,e,f⟩
structure JH(F:Nat->Prop)(H:Hp)(b:Nat->Prop)(K:Hp):Prop where
 len:H.length<=K.length
 o:∀a,a<H.length->¬F a->K[a]?=H[a]?
 f:∀a,b a->F a\/H.length<=a
def Cv(g:mw P)(j:1<=n)(x:Nm)(i:Nat)(c:fG P.nodes x=some i)(H:Hp):
  DT prog 11 [.d (.agg P.cells),.d (.str x)] H λm K=>∃a F,m=.di [.ref a 0,.d (.int .i64 0)]/\ol P n (US.init P i) a F K/\JH (λ_=>False) H F K:=by
 obtain⟨d,k,_⟩:=xj c;have b:=vG P x g.n;rw[c]at b;obtain⟨p,h,⟨l,F,rfl,e,q,s,r⟩,o⟩:=AZ P g x i c d k H;have b:PT prog 25 [.agg P.cells,.str x] (·=[iN i]):=b;refine DT.ob func11 W ntmps11 W<|dO [2,2,12] W<|Oq (aL b W W)<|dR [13] W<|Oq (aQ (asX (by omega)) W W W W)<|dR [0,2,16] W<|Oq (au o W W)<|dR [17] W<|Oq (kD W W W W W)<|dR [18] W<|Oq (cF W W W)<|dL [] W ?_;refine DC.ret ⟨_,W,h.length,λa=>a=h.length\/F a,rfl,⟨.inl W,l,F,by simp,(iQ.Ma e j).frame (λa f=>asl (e.lt a f)) (by simp),λa=>atn,λh=>by have:=e.lt _ h;omega⟩,by simp;omega,λa f _=>?_,λa f=>.inr ?_⟩
 .grind
 .grind
def wM(f:mw P)(q:px P){xs outs:List Int}{u':US}(r:ol P n u im F H)(s:∀x∈xs,oD x){d:Nd}(g:P.nodes[u.i]?=some d)(t:jm P.aG d.ins xs=true)(v:eV P n u xs outs u'):
  DT prog 15 [.ref im 0,.d (.sl (bL xs))] H λm K=>m=.di [.d (.sl (bL outs)),.d (.int .i64 0)]/\∃a,ol P n u' im a K/\JH F H a K:=by
 obtain⟨i,G,b,j,w,x⟩:=r.iu;obtain⟨C,D,E,I,c,k⟩:=Fq j;rw[g]at c;injection c with c
 subst c;have e:=H7 f.e d (f.i d (asn g)).1 xs s;rw[t]at e;simp at e;rw[Nd.aA]at e;obtain⟨J,L,⟨rfl,l,z,O,A,o⟩,y⟩:=DI f q n u xs outs u' i G H v j;refine DT.ob func15 W ntmps15 W<|dO [2,2,14] W<|Oq (mn (by kernel_rfl) W W W W W)<|dR [19] W ?_
 first|refine Oq (aH W W) ?_|(refine Oq (aC W) ?_;refine Oq (ax W W b W) ?_)
 refine dR [20] W ?_
 first|refine Oq (aH W W) ?_|(refine Oq (aC W) ?_;refine Oq (mn (by kernel_rfl) W W W W W) ?_)
 refine dL [0] W ?_;apply Ow bX
 .intro M N;refine fR 3 W<|aw W W b W<|fR 2 W<|fJ W W k W W<|fR 3 W<|aw W W b W<|fR 2 W<|fJ W W k W W<|fR 1 W<|aW e W W<|fR 1 W<|TF.nil ⟨by kernel_rfl,rfl⟩
 refine dO [2,0,2,45] W<|Oq (ax W W b W)<|dR [47] W<|Oq (au y W W)<|dL [2,0,2] W ?_;refine DC.ret ⟨_,W,W,λa=>a=im\/l a,⟨.inl W,i,l,(o im (lU b) x).trans b,z,λa=>atn,λh=>?_⟩,A,λa p B=>o a p (λh=>B ((w a).2 (.inr h))),λa p=>?_⟩
 .grind
 .grind
end
end Go.Proofs.Sz
namespace Go.Mk
open Go.Mt
abbrev Nm:=ByteArray
inductive Ty where
 |bool|int|ft
 deriving DecidableEq
abbrev nK:Nm:=⟨#[99,111,108]⟩
def Ty.kind:Ty->Int
 |.bool=>1|.int=>2|.ft=>3
def Ty.nm:Ty->Nm
 |.bool=>⟨#[]⟩|.int=>⟨#[]⟩|.ft=>nK
abbrev Ty.cells(t:Ty):List D:=[.int .u8 t.kind,.str t.nm]
abbrev cg:Nm:=⟨#[82,101,100]⟩
abbrev bz:Nm:=⟨#[71,114,101,101,110]⟩
abbrev cX:Nm:=⟨#[66,108,117,101]⟩
inductive E where
 |nil
 |int (n:Int)|bool (n:Int)|ctor (s:Nm)|var (s:Nm)|last (s:Nm)
 |un (d:Int) (a:E)|bin (d:Int) (a b:E)|ite (a b c:E)
 |fO (a b:E)|pre (a:E)|arrow (a b:E)
 |fq (x c:Nm) (a:E)|merge (x d e f:Nm) (a b c:E)
abbrev bQ(k op n:Int)(s:Nm)(names kids:List (List D)):List D:=[.int .u8 k,.int .u8 op,.int .i32 n,.str s,.sl names,.sl kids,.int .i64 0,.int .i64 0]
def E.cells:E->List D
 |.nil=>bQ 0 0 0 ⟨#[]⟩ [] []
 |.int n=>bQ 1 0 n ⟨#[]⟩ [] []
 |.bool n=>bQ 2 0 n ⟨#[]⟩ [] []
 |.ctor s=>bQ 3 0 0 s [] []
 |.var s=>bQ 4 0 0 s [] []
 |.last s=>bQ 5 0 0 s [] []
 |.un d a=>bQ 6 d 0 ⟨#[]⟩ [] [a.cells]
 |.bin d a b=>bQ 7 d 0 ⟨#[]⟩ [] [a.cells,b.cells]
 |.ite a b c=>bQ 8 0 0 ⟨#[]⟩ [] [a.cells,b.cells,c.cells]
 |.fO a b=>bQ 9 0 0 ⟨#[]⟩ [] [a.cells,b.cells]
 |.pre a=>bQ 10 0 0 ⟨#[]⟩ [] [a.cells]
 |.arrow a b=>bQ 11 0 0 ⟨#[]⟩ [] [a.cells,b.cells]
 |.fq x c a=>bQ 12 0 0 x [[.str c]] [a.cells]
 |.merge x d e f a b c=>bQ 13 0 0 x [[.str d],[.str e],[.str f]] [a.cells,b.cells,c.cells]
def E.shape(e:E):∃k op n s names kids,e.cells=bQ k op n s names kids:=by cases e<;>exact⟨_,_,_,_,_,_,W⟩
def E.len(e:E):e.cells.length=8:=by obtain⟨k,c,n,s,a,b,h⟩:=e.shape;rw[h];rfl
structure Va where
 name:Nm
 ty:Ty
 clock:Option (Nm×Nm)
 last:Bool
 first:E
def sU:Option (Nm×Nm)->List (List D)
 |none=>[]
 |some (c,x)=>[[.str c,.str x]]
def Va.cells(v:Va):List D:=[.str v.name,.int .u8 v.ty.kind,.str v.ty.nm,.sl (sU v.clock),.bool v.last]++v.first.cells++[.int .i64 0,.int .i64 0]
def Va.len(v:Va):v.cells.length=15:=by simp[Va.cells,E.len]
def aE(l:List Va):List (List D):=l.map Va.cells
def bA(l:List Va):(aE l).length=l.length:=by simp[aE]
def cu(l:List Va):∀r∈aE l,r.length=15:=by intro r a;obtain⟨_,_,rfl⟩:=asK.1 a;exact Va.len _
def gY(a b:List Va):aE (a++b)=aE a++aE b:=by simp[aE]
def eb{l:List Va}{i:Nat}(h:i<l.length):(aE l)[(i:Int).toNat]?=some l[i].cells:=by simp[aE,h]
structure Tr where
 e:E
 to:Nm
 fF:Bool
def Tr.cells(t:Tr):List D:=t.e.cells++[.str t.to,.bool t.fF,.int .i64 0,.int .i64 0]
mutual
inductive aB where
 |df (x:Nm) (e:E)
 |call (x y f:Nm) (a b:E) (c:Bool) (e:E)
 |sw (e:E) (a:List a_)
 |aN (a:List a_)
 |reset (e:E) (b:bF)
inductive a_ where
 |mk (d:Nm) (b:bF) (a c:List Tr)
inductive bF where
 |mk (b:List Va) (a:List aB)
end
abbrev rv(k:Int)(lhs:List (List D))(name:Nm)(args:List (List D))(has:Bool)(e:List D)(aj:List (List D)):List D:=[.int .u8 k,.sl lhs,.str name,.sl args,.bool has]++e++[.sl aj,.int .i64 0,.int .i64 0]
def eT(l:List Tr):List (List D):=l.map Tr.cells
mutual
def aB.cells:aB->List D
 |.df x e=>rv 1 [[.str x]] ⟨#[]⟩ [] false e.cells []
 |.call x y f a b c e=>rv 2 [[.str x],[.str y]] f [a.cells,b.cells] c e.cells []
 |.sw e a=>rv 3 [] ⟨#[]⟩ [] false e.cells (cj a)
 |.aN a=>rv 4 [] ⟨#[]⟩ [] false E.nil.cells (cj a)
 |.reset e b=>rv 5 [] ⟨#[]⟩ [] false e.cells [[.str ⟨#[]⟩]++b.cells++[.sl [],.sl [],.int .i64 0,.int .i64 0]]
def a_.cells:a_->List D
 |.mk d b a c=>[.str d]++b.cells++[.sl (eT a),.sl (eT c),.int .i64 0,.int .i64 0]
def cj:List a_->List (List D)
 |[]=>[]
 |a::l=>a.cells::cj l
def bF.cells:bF->List D
 |.mk b a=>[.sl (aE b),.sl (bH a)]
def bH:List aB->List (List D)
 |[]=>[]
 |q::l=>q.cells::bH l
end
def mN(l:List a_):cj l=l.map a_.cells:=by induction l with
 |nil=>rfl
 |cons b l a=>simp[cj,a]
def mO(l:List aB):bH l=l.map aB.cells:=by induction l with
 |nil=>rfl
 |cons b l a=>simp[bH,a]
def bF.shape(b:bF):∃v q,b.cells=[.sl v,.sl q]:=by cases b;exact⟨_,_,by rw[bF.cells]⟩
def aB.len(q:aB):q.cells.length=16:=by cases q<;>rw[aB.cells]<;>simp[rv,E.len]
def a_.len(a:a_):a.cells.length=7:=by
 obtain⟨c,b,u,w⟩:=a;obtain⟨v,q,h⟩:=b.shape;rw[a_.cells,h];rfl
structure Nd where
 name:Nm
 ins:List Va
 outs:List Va
 b:bF
def Nd.cells(n:Nd):List D:=[.str n.name,.sl (aE n.ins),.sl (aE n.outs)]++n.b.cells++[.int .i64 0,.int .i64 0]
def jt(l:List Nd):List (List D):=l.map Nd.cells
abbrev tj:List D:=[.str nK,.sl [[.str cg],[.str bz],[.str cX]],.int .i64 0,.int .i64 0]
abbrev JJ(l:List Nd):List D:=[.sl [tj],.sl (jt l)]
def dg(n:Nat):Nm:=if h:n<10 then strOfNums [IntKind.u8.wrap (48+(n:Int))]else dg (n/10)++strOfNums [IntKind.u8.wrap (48+((n%10:Nat):Int))]
def qN(n:Nat):(dg n).size<=n+1:=by
 induction n using Nat.strongRecOn with
 |ind n a=>
  rw[dg];split
  .simp[strOfNums,ByteArray.size]
  .have:=a (n/10) (by omega);rw[ByteArray.size_append];have b:(strOfNums [IntKind.u8.wrap (48+((n%10:Nat):Int))]).size=1:=by simp[strOfNums,ByteArray.size]
   omega
def nm(c:UInt8)(k:Nat):Nm:=⟨#[c]⟩++dg k
structure Sc where
 ready:List Va
 all:List Va
 da:List Va
abbrev Sc.cells(s:Sc):List D:=[.sl (aE s.ready),.sl (aE s.all),.sl (aE s.da)]
def Sc.more(s:Sc)(l:List Va):Sc:=⟨s.ready++l,s.all,s.da⟩
inductive GC:Ty->E->Prop where
 |bool {n:Int} (h:n=0\/n=1):GC .bool (.bool n)
 |int {n:Int} (h:n∈[(0:Int),1,2,-1,7,-2147483648]):GC .int (.int n)
 |ft {s:Nm} (h:s∈[cg,bz,cX]):GC .ft (.ctor s)
def JK(l:List Va)(t:Ty)(x:Nm):Prop:=∃v∈l,v.ty=t/\v.clock=none/\v.name=x
inductive GV(l:List Va)(t:Ty):E->Prop where
 |uO {e:E} (h:GC t e):GV l t e
 |var {x:Nm} (h:JK l t x):GV l t (.var x)
inductive GE:Sc->Ty->Bool->Nat->E->Prop where
 |v {s t st d e} (h:GV s.ready t e):GE s t st d e
 |c {s t st d e} (h:GC t e):GE s t st (d+1) e
 |ite {s t st d c a b} (f:GE s .bool st d c) (g:GE s t st d a) (h:GE s t st d b):GE s t st (d+1) (.ite c a b)
 |fO {s t d c a} (f:GC t c) (g:GE ⟨s.all,s.all,s.da⟩ t true d a):GE s t true (d+1) (.fO c a)
 |arrow {s t d a b} (f:GE s t true d a) (g:GE ⟨s.all,s.all,s.da⟩ t true d b):GE s t true (d+1) (.arrow a (.pre b))
 |last {s t st d x} (h:JK s.da t x):GE s t st (d+1) (.last x)
 |neg {s st d a} (f:GE s .int st d a):GE s .int st (d+1) (.un 2 a)
 |arith {s st d a b} (f:Int) (i:f∈[(3:Int),4,5,6,7]) (g:GE s .int st d a) (h:GE s .int st d b):GE s .int st (d+1) (.bin f a b)
 |not {s st d a} (f:GE s .bool st d a):GE s .bool st (d+1) (.un 1 a)
 |k8 {s st d a b} (f:Int) (u:Ty) (i:f∈[(8:Int),9,10]/\u=.bool\/f∈[(13:Int),16]/\u=.int\/f=11) (g:GE s u st d a) (h:GE s u st d b):GE s .bool st (d+1) (.bin f a b)
inductive NV(n:Nat):List Va->Nat->Prop where
 |nil:NV n [] n
 |snoc {b:List Va} {a:Nat} (h:NV n b a) (w:Va) (c:w.name=nm 118 (a+1)) (d:w.clock=none) (e:w.last=false/\w.first=.nil\/w.last=true/\GC w.ty w.first):NV n (b++[w]) (a+1)
def fu(l:List Va):List Va->List Va
 |[]=>l
 |w::r=>fu (if w.last&& !(l.any λu=>decide (u.name=w.name))then l++[w]else l) r
def zl(l:List Va)(r:List Va)(w:Va):fu l (r++[w])=(if w.last&& !((fu l r).any λu=>decide (u.name=w.name))then fu l r++[w]else fu l r):=by
 induction r generalizing l with
 |nil=>rfl
 |cons b r a=>simp only[atp,fu];exact a _
inductive LS:List Va->List Va->Prop where
 |nil:LS [] []
 |cH {a b:List Va} (h:LS a b) (w:Va):LS (a++[w]) (b++[w])
 |drop {a b:List Va} (h:LS a b) (w:Va) (c:w.last=true):LS (a++[w]) b
def LS.Bc:∀l:List Va,LS l.reverse l.reverse
 |[]=>.nil
 |a::l=>by rw[List.reverse_cons];exact .cH (Bc l) a
def LS.refl(l:List Va):LS l l:=by have:=LS.Bc l.reverse;simpa using this
def LS.len{a b:List Va}(h:LS a b):b.length<=a.length:=by
 induction h with
 |nil=>simp
 |cH h w c=>simp;omega
 |drop h w d c=>simp;omega
def LS.mem{a b:List Va}(h:LS a b):∀w∈b,w∈a:=by
 induction h with
 |nil=>intro w c;exact c
 |cH h w c=>intro u d;rcases ast.1 d with h|h;exact asw _ (c u h);exact asz _ h
 |drop h w e c=>intro u d;exact asw _ (c u d)
abbrev Sc.br(s:Sc):Sc:=⟨s.ready,[],s.da⟩
def zm(s:Sc)(N:Nat)(l:List Tr):Prop:=l.length<=2/\∀t∈l,GE s.br .bool false 2 t.e/\∃k,k<N/\t.to=nm 83 k
abbrev pb:Nm:=⟨#[116,114,117,101]⟩
abbrev mq:Nm:=⟨#[102,97,108,115,101]⟩
section
variable(Sub:Sc->List Va->Nat->Nat->bF->Prop)
inductive mT(s:Sc)(outs:List Va)(names:List Nm)(n:Nat):List a_->Nat->Prop where
 |nil:mT s outs names n [] n
 |snoc {a:List a_} {d e:Nat} (h:mT s outs names n a d) (c:Nm) (f:names[a.length]?=some c) (l:List Va) (g:LS outs l) (i:a=[]->l=outs) (b:bF) (j:Sub s.br l d e b):mT s outs names n (a++[.mk c b [] []]) e
inductive uq(s:Sc)(outs:List Va)(N:Nat)(n:Nat):List a_->Nat->Prop where
 |nil:uq s outs N n [] n
 |snoc {a:List a_} {c d:Nat} (h:uq s outs N n a c) (l:List Va) (g:LS outs l) (i:a=[]->l=outs) (e:List Tr) (j:zm s N e) (b:bF) (k:Sub s.br l c d b) (f:List Tr) (m:zm (s.more l) N f):uq s outs N n (a++[.mk (nm 83 a.length) b e f]) d
inductive py(s:Sc):List Va->List aB->Prop where
 |nil:py s [] []
 |snoc {l:List Va} {q:List aB} (h:py s l q) (w:Va) (e:E) (a:GE s w.ty true 3 e):py s (l++[w]) (q++[.df w.name e])
abbrev cY(c:UInt8)(k:Nat)(t:Ty):Va:=⟨nm c k,t,none,false,.nil⟩
inductive GQ(a:Nat):Sc->List Va->Nat->Nat->List aB->List Va->Prop where
 |sc {s outs n q} (h:py s outs q):GQ a s outs n n q []
 |tm {s outs n n' e aj} (c:GE s .ft true 2 e) (d:mT Sub s outs [cX,cg,bz] n aj n') (f:aj.length=3):GQ a s outs n n' [.sw e aj] []
 |pV {s outs n n' e aj} (c:GE s .bool true 2 e) (d:mT Sub s outs [pb,mq] n aj n') (f:aj.length=2):GQ a s outs n n' [.sw e aj] []
 |aN {s outs n n' aj} (N:Nat) (f:1<=N/\N<=3) (c:uq Sub s outs N n aj n') (d:aj.length=N):GQ a s outs n n' [.aN aj] []
 |reset {s outs n n' e b} (c:GE s .bool true 2 e) (d:Sub s outs n n' b):GQ a s outs n n' [.reset e b] []
 |call {s outs n n' l vs} (j:Nat) (i:j<a) (d b:E) (g:GE s .int true 2 d) (h:GE s .bool true 2 b) (c:Bool) (e:E) (f:c=false/\e=.nil\/c=true/\GE s .bool true 2 e)
   (h:GQ a (s.more [cY 117 (n+1) .int,cY 117 (n+2) .ft]) outs (n+2) n' l vs):
   GQ a s outs n n' (.call (nm 117 (n+1)) (nm 117 (n+2)) (nm 102 j) d b c e::l) (cY 117 (n+1) .int::cY 117 (n+2) .ft::vs)
 |mx {s outs n n' l vs} (c b k d e cH:E) (g:GE s .int false 2 c) (h:GE s .int false 2 b) (i:GC .int k) (j:GC .int d) (f:GE s .ft true 3 e)
   (QH:cH=.fq (nm 99 (n+1)) cg c\/cH=.fO d (.bin 3 (.var (nm 119 (n+2))) (.fq (nm 99 (n+1)) cg c)))
   (h:GQ a (s.more [cY 99 (n+1) .ft,cY 122 (n+3) .int]) outs (n+3) n' l vs):
   GQ a s outs n n' (.df (nm 99 (n+1)) e:: .df (nm 119 (n+2)) cH:: .df (nm 122 (n+3)) (.merge (nm 99 (n+1)) bz cg cX (.fq (nm 99 (n+1)) bz b) (.var (nm 119 (n+2))) k)::l)
    (cY 99 (n+1) .ft::⟨nm 119 (n+2),.int,some (cg,nm 99 (n+1)),false,.nil⟩::cY 122 (n+3) .int::vs)
end
inductive GL(Q:Sc->List Va->Nat->Nat->List aB->List Va->Prop)(a:Sc)(b:List Va)(c:Nat):Sc->List Va->Nat->List aB->List Va->Prop where
 |start:GL Q a b c a b c [] []
 |step {s todo n n1 q vs q1 Vx} (h:GL Q a b c s todo n q vs) (k:Nat) (d:1<=k) (e:k<=3) (f:k<=todo.length) (g:Q s (todo.take k) n n1 q1 Vx):GL Q a b c (s.more (todo.take k)) (todo.drop k) n1 (q++q1) (vs++Vx)
def JL(s:Sc)(a outs:List Va):Sc:=⟨s.ready,s.ready++a++outs,fu s.da (a++outs)⟩
def DJ(Q:Sc->List Va->Nat->Nat->List aB->List Va->Prop)(s:Sc)(outs:List Va)(n n':Nat)(b:bF):Prop:=
 ∃a c e q d,NV n a c/\a.length<=3/\GL Q (JL s a outs) (a++outs) c e [] n' q d/\b=.mk (a++d) q
def GB(a:Nat):Nat->Sc->List Va->Nat->Nat->bF->Prop
 |0=>DJ (GQ (λ_ _ _ _ _=>False) a)
 |d+1=>DJ (GQ (GB a d) a)
def aV:Va:=⟨⟨#[97]⟩,.int,none,false,.nil⟩
def bV:Va:=⟨⟨#[98]⟩,.bool,none,false,.nil⟩
def yV:Va:=⟨⟨#[121]⟩,.ft,none,false,.nil⟩
def GN(k:Nat)(d:Nd):Prop:=d.name=nm 102 k/\d.ins=[aV,bV]/\(∃(last:Bool) (first:E),(last=false/\first=.nil\/last=true/\GC .int first)/\d.outs=[⟨⟨#[120]⟩,.int,none,last,first⟩,yV])/\∃a,a<=3000/\GB k 3 ⟨d.ins,[],[]⟩ d.outs 0 a d.b
def GP(l:List Nd):Prop:=1<=l.length/\l.length<=3/\∀(k:Nat) (d:Nd),l[k]?=some d->GN k d
end Go.Mk
namespace Go.Proofs
open Go.Mt Go.Mk
open Tryz
structure GS where
 i:Nat
 n:Nat
 q:Int
abbrev fA(v:D)(i:Nat):List M:=[.d v,dN i]
abbrev kq(n:Nat)(q:Int)(an:Nat)(main:Bool):List M:=[.ref 0 0,dN n,.d (.int .i64 q),dN an,.d (.bool main)]
abbrev GH(v:D)(an:Nat)(main:Bool)(g:GS):Hp:=[.box (fA v g.i),.box (kq g.n g.q an main)]
structure Tape(a:List Int)(v:D):Prop where
 dj:pG .u8 a v
 hl:a.length<=1000
structure Rd(a:List Int)(k j:Nat)(g g':GS):Prop where
 lt:j<k
 n:g'.n=g.n
 q:g'.q=g.q
 i:g.i<=g'.i
 le:g'.i<=a.length
 qg:j≠0->g.i<g'.i
def JM{n:Int}(h:(Lit.int .u8 n).wf=true):0<=n/\n<256:=by
 simp only[Lit.wf,asH,decide_eq_true_eq]at h;have a:IntKind.u8.min=0:=by decide
 have a:IntKind.u8.max=255:=by decide
 omega
section
variable{zs:List Int}{v:D}(ht:Tape zs v)(an:Nat)(main:Bool)
include ht
theorem fw(k:Nat)(b:0<k)(s:k<=1000)(g:GS)(c:g.i<=zs.length):DT prog 23 [.ref 0 0,dN k] (GH v an main g) λr K=>∃(j:Nat) (g':GS),r=dN j/\K=GH v an main g'/\Rd zs k j g g':=by
 obtain⟨⟨f,h,l⟩,t⟩:=ht;obtain⟨i,n,q⟩:=g;simp only at c;refine DT.ob func23 W ntmps23 W ?_;show DC _ _ _ _ ⟨_,_,[.box (fA v i),.box (kq n q an main)]⟩ _;refine dC [2] W ?_;rcases asp i zs.length with a|a
 rotate_left
 .have d:decide (((i:Nat):Int)>=(zs.length:Int))=true:=asP (by omega);refine dC [] W ?_;apply Ow bX
  .intro e m;refine fR 8 W<|xD W W f<|mG W W W (r:=.bool true) (by show some (D.bool (decide _))=_;rw[d])<|TF.nil ⟨by kernel_rfl,rfl⟩
  refine dC [1,2] W<|DC.ret ⟨_,W,0,⟨i,n,q⟩,W,W,b,W,W,asj _,c,λh=>absurd W h⟩
 .have m:decide (((i:Nat):Int)>=(zs.length:Int))=false:=asX (by omega);obtain rfl:v=.sl (kj .u8 zs):=h.resolve_left (by grind);have d:(kj .u8 zs)[((i:Nat):Int).toNat]?=some [.int .u8 zs[i]]:=yG (aso a);have e:=JM (l zs[i] (asE a));generalize zs[i]=z at d e;obtain⟨z,rfl⟩:=auS e.1;have o:((i:Nat):Int)+1-1=(i:Int):=by omega
  have p:Int.tmod (z:Int) (k:Int)=((z%k:Nat):Int):=rfl;refine dC [] W ?_;apply Ow bX
  .intro u w;refine fR 8 W<|xD W W f<|mG W W W (r:=.bool false) (by show some (D.bool (decide _))=_;rw[m])<|TF.nil ⟨by kernel_rfl,rfl⟩
  refine dO [0,2,23] W<|Oq (ay W W W (by omega))<|dR [999] W<|Oq (cc W W W W W W)<|dL [] W ?_;apply Ow bX
  .intro u w;refine fR 8 W<|gv W W W (by omega) ?_;rw[o];refine bJ W W W (asm i) d W<|fR 1 W<|qx W W ?_;rw[IntWalk.i64_in _ ⟨by omega,by omega⟩];refine fR 1 W<|BR W W W (by simp;omega) ?_;rw[p];refine fR 1 W<|TF.nil ⟨by kernel_rfl,rfl⟩
  exact DC.ret ⟨_,W,z%k,⟨i+1,n,q⟩,W,W,atY _ b,W,W,Nat.le_succ _,a,λ_=>Nat.lt_succ_self _⟩
end
def mU:∀(k n:Nat),n<k->n<=1000000->PT prog 33 [iN n] (·=[.str (dg n)])
 |0,n,h,_=>by omega
 |k+1,n,h,e=>by
  refine OL (CT.ob func33 W ntmps33 W λf g=>?_);refine tC [2] W ?_;rcases asp n 10 with a|a
  .have b:dg n=strOfNums [IntKind.u8.wrap (48+(n:Int))]:=by rw[dg,auW a]
   refine tO [2,8] W<|gG W W W (r:=.bool true) (by show some (D.bool (decide _))=_;rw[show decide ((n:Int)<10)=true from asP (by omega)])<|tR [1,2,10] W<|ay W W W (by omega)<|tR [13] W<|Mw W W W<|tL [] W<|TC.ret ⟨_,rfl,[_],rfl,by rw[b]⟩
  .have b:dg n=dg (n/10)++strOfNums [IntKind.u8.wrap (48+((n%10:Nat):Int))]:=by rw[dg,au7 (by omega)]
   have c:IntKind.i64.wrap (Int.tdiv (n:Int) 10)=((n/10:Nat):Int):=by
    rw[show Int.tdiv (n:Int) 10=((n/10:Nat):Int)from rfl];exact IntWalk.i64_in _ ⟨by omega,by omega⟩
   have d:Int.tmod (n:Int) 10=((n%10:Nat):Int):=rfl;have i:=qN (n/10);have j:(strOfNums [IntKind.u8.wrap (48+((n%10:Nat):Int))]).size=1:=by simp[strOfNums,ByteArray.size]
   refine tO [2,8] W<|gG W W W (r:=.bool false) (by show some (D.bool (decide _))=_;rw[show decide ((n:Int)<10)=false from asX (by omega)])<|tL [0] W<|TC.draw bX<|fR 1 W<|Ms W W W W ?_;rw[c];refine aW ((mU k (n/10)) (by omega) (by omega)) W W<|fR 1 W<|BR W W W W ?_;rw[d];refine oZ W W W (by omega)<|fR 2 W<|Mx W W W<|tS W W W (by omega)<|fR 1 W<|TF.nil ⟨by kernel_rfl,?_⟩;exact TC.ret ⟨_,W,[_],W,by rw[b]⟩
def dE:PT prog 34 [] (·=[.agg Ty.int.cells]):=by
 refine OL (CT.ob func34 W ntmps34 W λa b=>?_);refine tC [2,2] W<|TC.ret ⟨_,W,[_],W,W⟩
def jO:PT prog 35 [] (·=[.agg Ty.bool.cells]):=by
 refine OL (CT.ob func35 W ntmps35 W λa b=>?_);refine tC [2,2] W<|TC.ret ⟨_,W,[_],W,W⟩
def li:PT prog 20 [] (·=[.agg Ty.ft.cells]):=by
 refine OL (CT.ob func20 W ntmps20 W λa b=>?_);refine tC [2,2] W<|TC.ret ⟨_,W,[_],W,W⟩
instance:AK prog 57:=⟨by kernel_rfl⟩
instance:bw prog 23:=cR (by kernel_rfl)
instance:bw prog 33:=cR (by kernel_rfl)
instance:bw prog 34:=cR (by kernel_rfl)
instance:bw prog 35:=cR (by kernel_rfl)
instance:bw prog 20:=cR (by kernel_rfl)
structure Mv(a:List Int)(g g':GS):Prop where
 n:g'.n=g.n
 q:g'.q=g.q
 i:g.i<=g'.i
 le:g'.i<=a.length
def Rd.mv{a:List Int}{k j:Nat}{g g':GS}(h:Rd a k j g g'):Mv a g g':=⟨h.n,h.q,h.i,h.le⟩
def Mv.trans{d:List Int}{a b c:GS}(h:Mv d a b)(k:Mv d b c):Mv d a c:=⟨k.n.trans h.n,k.q.trans h.q,ata h.i k.i,k.le⟩
def pz(v:D)(a:Nat)(b:Bool)(g:GS):HB 2 (GH v a b g):=KK (H:=GH v a b g) W
section
variable{zs:List Int}{v:D}(ht:Tape zs v)(an:Nat)(main:Bool)
include ht
theorem qO(c:UInt8)(g:GS)(b:g.i<=zs.length)(a:g.n<=100000):DT prog 50 [.ref 1 0,.d (.str ⟨#[c]⟩)] (GH v an main g) λr K=>r=.d (.str (nm c (g.n+1)))/\K=GH v an main ⟨g.i,g.n+1,g.q⟩:=by
 obtain⟨i,n,q⟩:=g;have d:=qN (n+1);simp only at a;refine DT.ob func50 W ntmps50 W ?_;show DC _ _ _ _ ⟨_,_,[.box (fA v i),.box (kq n q an main)]⟩ _;refine dO [2,2,13] W<|Oq (ay W W W (by omega))<|dR [999] W<|Oq (cc W W W W W W)<|dR [2,21] W<|Oq (aL (mU (n+2) (n+1) (by omega) (by grind)) W W)<|dR [22] W<|Oq (qv W W W (by have:(⟨#[c]⟩:ByteArray).size=1:=rfl;omega))<|dL [] W<|DC.ret ⟨_,rfl,rfl,rfl⟩
def Gx(g:GS)(b:g.i<=zs.length):DT prog 51 [.ref 1 0] (GH v an main g) λr K=>∃(t:Ty) (g':GS),r=.d (.agg t.cells)/\K=GH v an main g'/\Mv zs g g':=by
 obtain⟨r,K,⟨j,g',rfl,rfl,a⟩,c⟩:=fw ht an main 4 (by omega) (by omega) g b;refine DT.ob func51 W ntmps51 W<|dO [2,2,11] W<|Oq (au c W W)<|dL [] W ?_;have d:j=0\/j=1\/j=2\/j=3:=by have:=a.lt;omega
 refine dC [3] W ?_;rcases d with rfl|rfl|rfl|rfl
 .refine dO [2,1,1,2,15] W<|Oq (aL dE W W)<|dL [] W<|DC.ret ⟨_,W,.int,g',W,W,a.mv⟩
 .refine dO [2,0,2,1,2,15] W<|Oq (aL dE W W)<|dL [] W<|DC.ret ⟨_,W,.int,g',W,W,a.mv⟩
 .refine dO [2,0,2,0,2,1,2,18] W<|Oq (aL jO W W)<|dL [] W<|DC.ret ⟨_,W,.bool,g',W,W,a.mv⟩
 .refine dO [2,0,2,0,2,0,2,19] W<|Oq (aL li W W)<|dL [] W<|DC.ret ⟨_,W,.ft,g',W,W,a.mv⟩
def iS(t:Ty)(g:GS)(d:g.i<=zs.length):DT prog 36 [.ref 1 0,.d (.agg t.cells)] (GH v an main g) λr K=>∃(e:E) (g':GS),r=.d (.agg e.cells)/\K=GH v an main g'/\GC t e/\Mv zs g g':=by
 obtain⟨r,K,⟨j,g',rfl,rfl,c⟩,f⟩:=fw ht an main 6 (by omega) (by omega) g d;refine DT.ob func36 W ntmps36 W<|dO [2,2,16] W<|Oq (au f W W)<|dL [2,3] W ?_;have n:=c.lt;have a:=c.mv;cases t with
 |bool=>
  have h:∃b:Int,(b=0\/b=1)/\IntKind.i32.wrap (((j:Nat):Int).tmod 2)=b:=by
   have:j=0\/j=1\/j=2\/j=3\/j=4\/j=5:=by omega
   rcases this with rfl|rfl|rfl|rfl|rfl|rfl
   .exact⟨0,.inl W,by decide⟩
   .exact⟨1,.inr W,by decide⟩
   .exact⟨0,.inl W,by decide⟩
   .exact⟨1,.inr W,by decide⟩
   .exact⟨0,.inl W,by decide⟩
   .exact⟨1,.inr W,by decide⟩
  obtain⟨b,i,k⟩:=h;refine dO [2,1,2,22] W<|Oq (oY W W W W)<|dR [23] W<|Oq (yr W W) ?_;rw[k];refine dL [] W<|DC.ret ⟨_,W,.bool b,g',W,W,.bool i,a⟩
 |int=>
  have h:∃z:Int,z∈[(0:Int),1,2,-1,7,-2147483648]/\([[D.int .i32 0],[.int .i32 1],[.int .i32 2],[.int .i32 (-1)],[.int .i32 7],[.int .i32 (-2147483648)]]:List (List D))[((j:Nat):Int).toNat]?=some [.int .i32 z]:=by
   have:j=0\/j=1\/j=2\/j=3\/j=4\/j=5:=by omega
   rcases this with rfl|rfl|rfl|rfl|rfl|rfl
   .exact⟨0,by simp,rfl⟩
   .exact⟨1,by simp,rfl⟩
   .exact⟨2,by simp,rfl⟩
   .exact⟨-1,by simp,rfl⟩
   .simp_all
   .simp_all
  obtain⟨z,k,i⟩:=h;refine dO [2,0,2,1,2,2,30] W<|Oq (aP W W W (asm j) i W)<|dL [] W<|DC.ret ⟨_,W,.int z,g',W,W,.int k,a⟩
 |ft=>
  have i:∃s:Nm,s∈[cg,bz,cX]/\([[D.str cg],[.str bz],[.str cX]]:List (List D))[(((j%3:Nat):Int)).toNat]?=some [.str s]:=by
   have:j%3=0\/j%3=1\/j%3=2:=by omega
   rcases this with h|h|h<;>rw[h]
   .simp_all
   .simp_all
   .simp_all
  obtain⟨s,l,k⟩:=i;have m:Int.tmod (j:Int) 3=((j%3:Nat):Int):=rfl;refine dO [2,0,2,0,2,2,36] W<|Oq (oY W W W W) ?_;rw[m];refine dR [37] W<|Oq (aP W W W (asm _) k W)<|dL [] W<|DC.ret ⟨_,W,.ctor s,g',W,W,.ft l,a⟩
end
def kM(w:Va):∃a c d e f g h i,w.cells=[.str w.name,.int .u8 w.ty.kind,.str w.ty.nm,.sl (sU w.clock),.bool w.last,a,c,d,e,f,g,h,i,.int .i64 0,.int .i64 0]/\w.first.cells=[a,c,d,e,f,g,h,i]:=by
 obtain⟨k,c,n,s,a,b,h⟩:=w.first.shape;exact⟨_,_,_,_,_,_,_,_,by simp only[Va.cells,h,bQ];rfl,h⟩
def JN(a b:Ty):(decide (a.kind=b.kind)&&decide (a.nm=b.nm))=decide (a=b):=by cases a<;>cases b<;>rfl
def lx(k op:Int)(a b:E):PT prog 113 [.int .u8 k,.int .u8 op,.agg a.cells,.agg b.cells] (·=[.agg (bQ k op 0 ⟨#[]⟩ [] [a.cells,b.cells])]):=by
 obtain⟨e,f,g,h,i,j,c⟩:=a.shape;obtain⟨l,m,n,o,p,q,d⟩:=b.shape;rw[c,d];refine OL (CT.ob func113 W ntmps113 W λr s=>?_);refine tC [2,2] W<|TC.ret ⟨_,W,[_],W,W⟩
theorem Li(l:List Va)(x:Nm)(h:l.length<=100000):PT prog 52 [.sl (aE l),.str x] (·=[.bool (l.any λw=>decide (w.name=x))]):=by
 refine OL (CT.ob func52 W ntmps52 W λj m=>?_);refine tC [2,2] W<|Qm [nN 5 0,nD 1 (.str x),nD 0 (.sl (aE l))] [] W W<|tC [3] W<|TC.lp (λk s=>∃(i:Nat),s=⟨[nI 5 (i:Int),nD 1 (.str x),nD 0 (.sl (aE l))],[],[]⟩/\i<=l.length/\(∀w∈l.take i,¬w.name=x)/\k=l.length-i) l.length _
  ⟨0,rfl,by omega,by simp,rfl⟩ W ?_
 rintro k s ⟨i,rfl,n,d,rfl⟩;refine tO [2,12] W<|bK W W W ?_;rw[bA];refine tL [] W<|TC.cond W (λa=>?_) (λa=>?_)
 .have b:i<l.length:=by grind
  have c:=eb b;have e:=asE b;have f:=asA b;generalize l[i]=w at c e f;obtain⟨o,p,q,r,t,u,v,y,g,_⟩:=kM w;rw[g]at c;refine tO [3,2,18] W<|aP W W W (asm i) c W<|tL [] W<|TC.cond W (λa=>?_) (λa=>?_)
  .have z:=asC a;refine tC [2] W<|TC.ret ⟨_,W,[_],W,by grind⟩
  .have z:=asG a;refine tO [2,15] W<|ay W W W (by omega)<|tL [] W<|again (k':=l.length-(i+1)) (by omega) ⟨i+1,rfl,by omega,by grind,rfl⟩ W W
 .refine TC.exit ?_;have b:i=l.length:=by grind
  subst b;rw[asU]at d;refine tC [2] W<|TC.ret ⟨_,W,[_],W,by grind⟩
def tq(s:Sc)(l:List Va)(a:s.ready.length<=10000)(b:l.length<=10000):PT prog 54 [.agg s.cells,.sl (aE l)] (·=[.agg (s.more l).cells]):=by
 refine OL (CT.ob func54 W ntmps54 W λa b=>?_);refine tO [2,2,2,13] W<|Gf (n:=15) W W W W (by rfl) (cu _) (by rw[bA];omega)<|tR [2,16] W<|KL (r1:=aE s.ready) (r2:=aE l) W W W W (by rfl) (cu _) (cu _) (by rw[bA,bA];omega) (by rw[bA,bA];omega)<|tL [2] W<|TC.ret ⟨_,rfl,[_],rfl,by rw[<-gY];rfl⟩
section
variable{zs:List Int}{v:D}(ht:Tape zs v)(an:Nat)(main:Bool)
include ht
theorem DK(l:List Va)(B:l.length<=100000)(t:Ty)(g:GS)(o:g.i<=zs.length):DT prog 114 [.ref 1 0,.d (.sl (aE l)),.d (.agg t.cells)] (GH v an main g) λr K=>∃(x:Nm) (b:Bool) (g':GS),r=.di [.d (.str x),.d (.bool b)]/\K=GH v an main g'/\Mv zs g g'/\(b=true->JK l t x):=by
 obtain⟨r,K,⟨j,g',rfl,rfl,e⟩,a⟩:=fw ht an main 7 (by omega) (by omega) g o;have C:=e.lt;have f:=e.mv;refine DT.ob func114 W ntmps114 W<|dO [2,2,19] W<|Oq (au a W W)<|dL [] W<|dC [2] W<|OB [nN 9 0,nN 8 j,nD 5 (.aZ t.cells 0),nD 1 (.sl (aE l))] (GH v an main g') W W<|dC [3] W<|DC.lp (λk s=>∃(i:Nat) (h:List (Nat×List M)),s=⟨[nI 9 (i:Int),nN 8 j,nD 5 (.aZ t.cells 0),nD 1 (.sl (aE l))],h,GH v an main g'⟩/\i<=l.length/\k=l.length-i) l.length _
  ⟨0,_,rfl,by omega,rfl⟩ W ?_
 rintro k s ⟨i,h,rfl,D,rfl⟩;refine dO [2,22] W<|Oq (bK W W W) ?_;rw[bA];refine dL [] W<|DC.cond W (λa=>?_) (λa=>?_)
 .have E:i<l.length:=by grind
  have m:(i+j)%l.length<l.length:=atY _ (by omega);have d:=eb m;have n:=asE m;generalize l[(i+j)%l.length]=w at d n;obtain⟨F,G,H,I,J,L,N,O,p,_⟩:=kM w;rw[p]at d;have q:((i:Nat):Int)+(j:Int)=((i+j:Nat):Int):=by omega
  have u:Int.tmod ((i+j:Nat):Int) (l.length:Int)=(((i+j)%l.length:Nat):Int):=rfl;refine dO [3,2,29] W<|Oq (ay W W W (by omega)) ?_;rw[q];refine dR [31] W<|Oq (bK W W W) ?_;rw[bA];refine dR [32] W<|Oq (oY W W W (asY.2 (by omega))) ?_;rw[u];refine dR [33] W<|Oq (aP W W W (asm _) d W)<|dL [] W ?_;rcases avd (w.ty=t)with c|c
  .refine dO [2,38] W<|Oq (Gj W W W) ?_;rw[JN,asP c];refine dL [] W<|DC.cond W (λa=>?_) (λa=>?_)
   .have y:w.clock=none:=by
     rcases z:w.clock with _|⟨A,b⟩
     .rfl
     .rw[z]at a;cases a
    refine dC [2] W<|DC.ret ⟨_,W,w.name,true,g',W,W,f,λ_=>⟨w,n,c,y,rfl⟩⟩
   .refine dO [2,25] W<|Oq (ay W W W (by omega))<|dL [] W<|bG (k':=l.length-(i+1)) (by omega) ⟨i+1,_,rfl,by omega,rfl⟩ W W
  .refine dO [2,38] W<|Oq (Gj W W W) ?_;rw[JN,asX c];refine dR [0,2,25] W<|Oq (ay W W W (by omega))<|dL [] W<|bG (k':=l.length-(i+1)) (by omega) ⟨i+1,_,rfl,by omega,rfl⟩ W W
 .refine DC.exit<|dC [2] W<|DC.ret ⟨_,W,_,false,g',W,W,f,λc=>by cases c⟩
end
instance:bw prog 114:=cR (by kernel_rfl)
instance:bw prog 36:=cR (by kernel_rfl)
section
variable{zs:List Int}{v:D}(ht:Tape zs v)(an:Nat)(main:Bool)
include ht
def oE(l:List Va)(h:l.length<=100000)(t:Ty)(g:GS)(i:g.i<=zs.length):DT prog 112 [.ref 1 0,.d (.sl (aE l)),.d (.agg t.cells)] (GH v an main g) λr K=>∃(e:E) (g':GS),r=.d (.agg e.cells)/\K=GH v an main g'/\GV l t e/\Mv zs g g':=by
 obtain⟨r,K,⟨x,b,g',rfl,rfl,a,j⟩,k⟩:=DK ht an main l h t g i;obtain⟨p,q,⟨c,m,rfl,rfl,n,o⟩,d⟩:=iS ht an main t g' a.le;refine DT.ob func112 W ntmps112 W<|dO [2,2,17] W<|Oq (au k W W)<|dL [] W ?_;cases b with
 |false=>
  obtain⟨s,u,w,y,z,A,f⟩:=c.shape;rw[f]at d;refine dO [2,1,2,24] W<|Oq (au d W W)<|dL [] W<|DC.ret ⟨_,W,c,m,by rw[f];rfl,rfl,.uO n,a.trans o⟩
 |true=>
  refine dC [2,0,2] W<|DC.ret ⟨_,W,.var x,g',W,W,.var (j W),a⟩
end
instance:bw prog 112:=cR (by kernel_rfl)
instance:bw prog 113:=cR (by kernel_rfl)
instance:bw prog 82:=cR (by kernel_rfl)
instance:bw prog 115:=cR (by kernel_rfl)
instance:bw prog 51:=cR (by kernel_rfl)
structure wN(s:Sc):Prop where
 ready:s.ready.length<=100000
 all:s.all.length<=100000
 da:s.da.length<=100000
def wN.wide{s:Sc}(h:wN s):wN ⟨s.all,s.all,s.da⟩:=⟨h.all,h.all,h.da⟩
section
variable(zs:List Int)(v:D)(an:Nat)(main:Bool)
def vT(d:Nat):Prop:=∀(s:Sc),wN s->∀(t:Ty) (st:Bool) (g:GS),g.i<=zs.length->DT prog 82 [.ref 1 0,.d (.agg s.cells),.d (.agg t.cells),dN d,.d (.bool st)] (GH v an main g) λr K=>∃(e:E) (a:GS),r=.d (.agg e.cells)/\K=GH v an main a/\GE s t st d e/\Mv zs g a
def Lj(d:Nat):Prop:=∀(s:Sc),wN s->∀(t:Ty) (st:Bool) (g:GS),g.i<=zs.length->DT prog 115 [.ref 1 0,.d (.agg s.cells),.d (.agg t.cells),dN d,.d (.bool st)] (GH v an main g) λr K=>∃(e:E) (a:GS),r=.d (.agg e.cells)/\K=GH v an main a/\GE s t st d e/\Mv zs g a
end
section
variable{zs:List Int}{v:D}(ht:Tape zs v)(an:Nat)(main:Bool)
include ht
def JO(d:Nat)(N:d<=100)(f:vT zs v an main d):Lj zs v an main (d+1):=by
 intro s c C st t F;obtain⟨O,P,⟨j,h,rfl,rfl,w⟩,g⟩:=fw ht an main 6 (by omega) (by omega) t F;have Q:=w.lt;have a:=w.mv;have b:((d+1:Nat):Int)-1=(d:Int):=by omega
 cases C with
 |ft=>
  obtain⟨q,u,⟨i,m,rfl,rfl,n,o⟩,k⟩:=oE ht an main s.ready c.ready .ft h a.le;obtain⟨x,y,z,A,B,G,l⟩:=i.shape;rw[l]at k;refine DT.ob func115 W ntmps115 W<|dO [2,2,25] W<|Oq (au g W W)<|dR [2,3,2,0,2,0,2,116] W<|Oq (au k W W)<|dL [] W<|DC.ret ⟨_,W,i,m,by rw[l];rfl,rfl,.v n,a.trans o⟩
 |int=>
  obtain⟨M,R,⟨k,u,rfl,rfl,x,m⟩,n⟩:=f s c .int st h a.le;obtain⟨Z,K2,⟨o,A,rfl,rfl,B,G⟩,y⟩:=f s c .int st u m.le;obtain⟨S,T,U,V,X,Y,l⟩:=k.shape;obtain⟨k2,Xd,n2,s2,a2,b2,q⟩:=o.shape;have z:= λi=>lx 7 i k o
  rw[l]at n;rw[q]at y;rw[l,q]at z;rcases asp j 5 with H|H
  .have I:∃i:Int,i∈[(3:Int),4,5,6,7]/\([[D.int .u8 3],[.int .u8 4],[.int .u8 5],[.int .u8 6],[.int .u8 7]]:List (List D))[((j:Nat):Int).toNat]?=some [.int .u8 i]:=by
    have:j=0\/j=1\/j=2\/j=3\/j=4:=by omega
    rcases this with rfl|rfl|rfl|rfl|rfl
    .grind
    .grind
    .grind
    .grind
    .grind
   obtain⟨i,J,K⟩:=I;have L:(((j:Nat):Int)==5)=false:=asY.2 (by omega);refine DT.ob func115 W ntmps115 W<|dO [2,2,25] W<|Oq (au g W W)<|dR [2,3,2,1,2,2,32] W<|Oq (aQ L W W W W)<|dR [0,2,46] W<|Oq (cI W W W (by omega)) ?_;rw[b];refine dR [48] W<|Oq (au n W W)<|dL [] W ?_;apply Ow bX
   .intro s0 Oo;refine fR 2 W<|bJ W W W (asm j) K W<|fR 6 W<|gv W W W (by omega) ?_;rw[b];refine fR 1 W<|bp y W W<|aW (z i) W W<|fR 1 W<|TF.nil ⟨by kernel_rfl,rfl⟩
   exact DC.ret ⟨_,W,.bin i k o,A,by rw[E.cells,l,q];rfl,rfl,.arith i J x B,a.trans (m.trans G)⟩
  .obtain rfl:j=5:=by omega
   refine DT.ob func115 W ntmps115 W<|dO [2,2,25] W<|Oq (au g W W)<|dR [2,3,2,1,2,2,1,2,37] W<|Oq (cI W W W (by omega)) ?_;rw[b];refine dR [39] W<|Oq (au n W W)<|dL [] W<|DC.ret ⟨_,W,.un 2 k,u,by rw[E.cells,l];rfl,rfl,.neg x,a.trans m⟩
 |bool=>
  refine DT.mono (p:= λr K=>∃(e:E) (a:GS),r=.d (.agg e.cells)/\K=GH v an main a/\GE s .bool st (d+1) e/\Mv zs t a) ?_ (λ_ _ h=>h);have K:j=0\/j=1\/j=2\/j=3\/j=4\/j=5:=by omega
  rcases K with rfl|rfl|rfl|rfl|rfl|rfl
  .skip
   obtain⟨r3,K3,⟨A,L,rfl,rfl,M⟩,B⟩:=fw ht an main 3 (by omega) (by omega) h a.le;have q:=M.mv;obtain⟨R,S,⟨i,u,rfl,rfl,x,l⟩,m⟩:=f s c .bool st L q.le;obtain⟨r2,K2,⟨n,G,rfl,rfl,H,I⟩,y⟩:=f s c .bool st u l.le;obtain⟨T,U,V,X,Y,Z,k⟩:=i.shape;obtain⟨k2,Xd,n2,s2,a2,b2,o⟩:=n.shape;rw[k]at m;rw[o]at y;rcases asR A with rfl|ac
   .skip
    refine DT.ob func115 W ntmps115 W<|dO [2,2,25] W<|Oq (au g W W)<|dR [2,3,2,0,2,1,2,2,2,0,2,0,2,80] W ?_
    first|refine Oq (aH W W) ?_|(refine Oq (aC W) ?_;refine Oq (au B W W) ?_)
    refine dR [1,2,87] W<|Oq (cI W W W (by omega)) ?_;rw[b];refine dR [89] W<|Oq (au m W W)<|dL [] W<|DC.ret ⟨_,W,.un 1 i,u,by rw[E.cells,k];rfl,rfl,.not x,a.trans (q.trans l)⟩
   .skip
    have J:(((A:Nat):Int)==0)=false:=asY.2 (by omega);refine DT.ob func115 W ntmps115 W<|dO [2,2,25] W<|Oq (au g W W)<|dR [2,3,2,0,2,1,2,2,2,0,2,0,2,80] W ?_
    first|refine Oq (aH W W) ?_|(refine Oq (aC W) ?_;refine Oq (au B W W) ?_)
    refine dR [81] W ?_
    first|refine Oq (aH W W) ?_|(refine Oq (aC W) ?_;refine Oq (aQ J W W W W) ?_)
    refine dL [0] W ?_;have z:=lx 7 8 i n;rw[k,o]at z;refine dO [2,96] W<|Oq (cI W W W (by omega)) ?_;rw[b];refine dR [98] W<|Oq (au m W W)<|dL [] W ?_;apply Ow bX
    .intro s0 Oo;refine fR 2 W<|bJ W W W (by decide) (r:=[.int .u8 8]) W W<|fR 6 W<|gv W W W (by omega) ?_;rw[b];refine fR 1 W<|bp y W W<|aW z W W<|fR 1 W<|TF.nil ⟨by kernel_rfl,rfl⟩
    exact DC.ret ⟨_,W,.bin 8 i n,G,by rw[E.cells,k,o];rfl,rfl,.k8 8 _ (.inl ⟨by simp,rfl⟩) x H,a.trans (q.trans (l.trans I))⟩
  .skip
   obtain⟨G,H,⟨i,x,rfl,rfl,y,n⟩,o⟩:=f s c .bool st h a.le;obtain⟨T,U,⟨l,z,rfl,rfl,A,B⟩,q⟩:=f s c .bool st x n.le;obtain⟨I,J,L,M,R,S,k⟩:=i.shape;obtain⟨V,X,Y,Z,a2,b2,m⟩:=l.shape;rw[k]at o;rw[m]at q;refine DT.ob func115 W ntmps115 W<|dO [2,2,25] W<|Oq (au g W W)<|dL [2,3,2,0,2,1,2,2,2,0,2,0,2,0] W ?_;have u:=lx 7 9 i l;rw[k,m]at u;refine dO [2,96] W<|Oq (cI W W W (by omega)) ?_;rw[b];refine dR [98] W<|Oq (au o W W)<|dL [] W ?_;apply Ow bX
   .intro s0 Oo;refine fR 2 W<|bJ W W W (by decide) (r:=[.int .u8 9]) W W<|fR 6 W<|gv W W W (by omega) ?_;rw[b];refine fR 1 W<|bp q W W<|aW u W W<|fR 1 W<|TF.nil ⟨by kernel_rfl,rfl⟩
   exact DC.ret ⟨_,W,.bin 9 i l,z,by rw[E.cells,k,m];rfl,rfl,.k8 9 _ (.inl ⟨by simp,rfl⟩) y A,a.trans (n.trans B)⟩
  .skip
   obtain⟨G,H,⟨i,x,rfl,rfl,y,n⟩,o⟩:=f s c .bool st h a.le;obtain⟨T,U,⟨l,z,rfl,rfl,A,B⟩,q⟩:=f s c .bool st x n.le;obtain⟨I,J,L,M,R,S,k⟩:=i.shape;obtain⟨V,X,Y,Z,a2,b2,m⟩:=l.shape;rw[k]at o;rw[m]at q;refine DT.ob func115 W ntmps115 W<|dO [2,2,25] W<|Oq (au g W W)<|dL [2,3,2,0,2,1,2,2,2,0,2,0,2,0] W ?_;have u:=lx 7 10 i l;rw[k,m]at u;refine dO [2,96] W<|Oq (cI W W W (by omega)) ?_;rw[b];refine dR [98] W<|Oq (au o W W)<|dL [] W ?_;apply Ow bX
   .intro s0 Oo;refine fR 2 W<|bJ W W W (by decide) (r:=[.int .u8 10]) W W<|fR 6 W<|gv W W W (by omega) ?_;rw[b];refine fR 1 W<|bp q W W<|aW u W W<|fR 1 W<|TF.nil ⟨by kernel_rfl,rfl⟩
   exact DC.ret ⟨_,W,.bin 10 i l,z,by rw[E.cells,k,m];rfl,rfl,.k8 10 _ (.inl ⟨by simp,rfl⟩) y A,a.trans (n.trans B)⟩
  .skip
   obtain⟨G,H,⟨i,x,rfl,rfl,y,n⟩,o⟩:=f s c .int st h a.le;obtain⟨T,U,⟨l,z,rfl,rfl,A,B⟩,q⟩:=f s c .int st x n.le;obtain⟨I,J,L,M,R,S,k⟩:=i.shape;obtain⟨V,X,Y,Z,a2,b2,m⟩:=l.shape;rw[k]at o;rw[m]at q;refine DT.ob func115 W ntmps115 W<|dO [2,2,25] W<|Oq (au g W W)<|dR [2,3,2,0,2,1,2,2,2,1,2,68] W<|Oq (aL dE W W)<|dL [2,0,2,0] W ?_;have u:=lx 7 13 i l;rw[k,m]at u;refine dO [2,96] W<|Oq (cI W W W (by omega)) ?_;rw[b];refine dR [98] W<|Oq (au o W W)<|dL [] W ?_;apply Ow bX
   .intro s0 Oo;refine fR 2 W<|bJ W W W (by decide) (r:=[.int .u8 13]) W W<|fR 6 W<|gv W W W (by omega) ?_;rw[b];refine fR 1 W<|bp q W W<|aW u W W<|fR 1 W<|TF.nil ⟨by kernel_rfl,rfl⟩
   exact DC.ret ⟨_,W,.bin 13 i l,z,by rw[E.cells,k,m];rfl,rfl,.k8 13 _ (.inr (.inl ⟨by simp,rfl⟩)) y A,a.trans (n.trans B)⟩
  .skip
   obtain⟨G,H,⟨i,x,rfl,rfl,y,n⟩,o⟩:=f s c .int st h a.le;obtain⟨T,U,⟨l,z,rfl,rfl,A,B⟩,q⟩:=f s c .int st x n.le;obtain⟨I,J,L,M,R,S,k⟩:=i.shape;obtain⟨V,X,Y,Z,a2,b2,m⟩:=l.shape;rw[k]at o;rw[m]at q;refine DT.ob func115 W ntmps115 W<|dO [2,2,25] W<|Oq (au g W W)<|dR [2,3,2,0,2,1,2,2,2,1,2,68] W<|Oq (aL dE W W)<|dL [2,0,2,0] W ?_;have u:=lx 7 16 i l;rw[k,m]at u;refine dO [2,96] W<|Oq (cI W W W (by omega)) ?_;rw[b];refine dR [98] W<|Oq (au o W W)<|dL [] W ?_;apply Ow bX
   .intro s0 Oo;refine fR 2 W<|bJ W W W (by decide) (r:=[.int .u8 16]) W W<|fR 6 W<|gv W W W (by omega) ?_;rw[b];refine fR 1 W<|bp q W W<|aW u W W<|fR 1 W<|TF.nil ⟨by kernel_rfl,rfl⟩
   exact DC.ret ⟨_,W,.bin 16 i l,z,by rw[E.cells,k,m];rfl,rfl,.k8 16 _ (.inr (.inl ⟨by simp,rfl⟩)) y A,a.trans (n.trans B)⟩
  .skip
   obtain⟨r3,K3,⟨u,I,rfl,rfl,y⟩,J⟩:=Gx ht an main h a.le;obtain⟨L,M,⟨i,z,rfl,rfl,A,n⟩,o⟩:=f s c u st I y.le;obtain⟨Y,Z,⟨l,B,rfl,rfl,G,H⟩,q⟩:=f s c u st z n.le;obtain⟨R,S,T,U,V,X,k⟩:=i.shape;obtain⟨k2,Xd,n2,s2,a2,b2,m⟩:=l.shape;rw[k]at o;rw[m]at q;refine DT.ob func115 W ntmps115 W<|dO [2,2,25] W<|Oq (au g W W)<|dR [2,3,2,0,2,1,2,2,2,1,2,68] W<|Oq (aL dE W W)<|dR [2,1,2,72] W<|Oq (au J W W)<|dL [2,0] W ?_;have x:=lx 7 11 i l;rw[k,m]at x;refine dO [2,96] W<|Oq (cI W W W (by omega)) ?_;rw[b];refine dR [98] W<|Oq (au o W W)<|dL [] W ?_;apply Ow bX
   .intro s0 Oo;refine fR 2 W<|bJ W W W (by decide) (r:=[.int .u8 11]) W W<|fR 6 W<|gv W W W (by omega) ?_;rw[b];refine fR 1 W<|bp q W W<|aW x W W<|fR 1 W<|TF.nil ⟨by kernel_rfl,rfl⟩
   exact DC.ret ⟨_,W,.bin 11 i l,B,by rw[E.cells,k,m];rfl,rfl,.k8 11 _ (.inr (.inr W)) A G,a.trans (y.trans (n.trans H))⟩
def H8:vT zs v an main 0:=by
 intro s d t st g e;obtain⟨j,k,⟨a,f,rfl,rfl,h,i⟩,b⟩:=oE ht an main s.ready d.ready t g e;obtain⟨l,m,n,o,p,q,c⟩:=a.shape;rw[c]at b;refine DT.ob func82 W ntmps82 W<|dO [2,2,1,2,30] W<|Oq (au b W W)<|dL [] W<|DC.ret ⟨_,W,a,f,by rw[c];rfl,rfl,.v h,i⟩
def H9(d:Nat)(B:d<=100)(h:vT zs v an main d):vT zs v an main (d+1):=by
 have i:=JO ht an main d B h;intro s c t st A C;obtain⟨M,N,⟨j,g,rfl,rfl,p⟩,e⟩:=fw ht an main 12 (by omega) (by omega) A C;have O:=p.lt;have a:=p.mv;have k:((d+1:Nat):Int)-1=(d:Int):=by omega
 have f:decide (((d+1:Nat):Int)<=0)=false:=asX (by omega);have D:j=0\/j=1\/j=2\/j=3\/j=4\/j=5\/j=6\/j=7\/j=8\/j=9\/j=10\/j=11:=by omega
 rcases D with rfl|rfl|rfl|rfl|rfl|rfl|rfl|rfl|rfl|rfl|rfl|rfl
 .skip
  obtain⟨u,w,⟨l,o,rfl,rfl,q,r⟩,m⟩:=iS ht an main t g a.le;obtain⟨x,y,z,F,G,H,n⟩:=l.shape;rw[n]at m;refine DT.ob func82 W ntmps82 W<|dO [2,2,25] W<|Oq (aQ f W W W W)<|dR [0,2,35] W<|Oq (au e W W)<|dR [3,2,1,2,40] W<|Oq (au m W W)<|dL [] W<|DC.ret ⟨_,W,l,o,by rw[n];rfl,rfl,.c q,a.trans r⟩
 .skip
  obtain⟨u,w,⟨l,o,rfl,rfl,r,q⟩,m⟩:=oE ht an main s.ready c.ready t g a.le;obtain⟨x,y,z,F,G,H,n⟩:=l.shape;rw[n]at m;refine DT.ob func82 W ntmps82 W<|dO [2,2,25] W<|Oq (aQ f W W W W)<|dR [0,2,35] W<|Oq (au e W W)<|dR [3,2,0,2,1,1,2,48] W<|Oq (au m W W)<|dL [] W<|DC.ret ⟨_,W,l,o,by rw[n];rfl,rfl,.v r,a.trans q⟩
 .skip
  obtain⟨u,w,⟨l,o,rfl,rfl,r,q⟩,m⟩:=oE ht an main s.ready c.ready t g a.le;obtain⟨x,y,z,F,G,H,n⟩:=l.shape;rw[n]at m;refine DT.ob func82 W ntmps82 W<|dO [2,2,25] W<|Oq (aQ f W W W W)<|dR [0,2,35] W<|Oq (au e W W)<|dR [3,2,0,2,0,2,1,2,48] W<|Oq (au m W W)<|dL [] W<|DC.ret ⟨_,W,l,o,by rw[n];rfl,rfl,.v r,a.trans q⟩
 .skip
  obtain⟨P,Q,⟨l,F,rfl,rfl,G,m⟩,n⟩:=h s c .bool st g a.le;obtain⟨R,S,T,U,V,X,o⟩:=l.shape;rw[o]at n;obtain⟨Y,Z,⟨q,H,rfl,rfl,I,r⟩,u⟩:=h s c t st F m.le;obtain⟨k2,Xd,n2,s2,a2,b2,w⟩:=q.shape;rw[w]at u;obtain⟨r3,K3,⟨x,J,rfl,rfl,L,K⟩,y⟩:=h s c t st H r.le;obtain⟨k3,ac,n3,s3,a3,b3,z⟩:=x.shape;rw[z]at y;refine DT.ob func82 W ntmps82 W<|dO [2,2,25] W<|Oq (aQ f W W W W)<|dR [0,2,35] W<|Oq (au e W W)<|dL [3,2,0,2,0,2,0,2,1] W ?_;apply Ow bX
  .intro s0 Oo;refine fR 2 W<|aW jO W W<|fR 1 W<|gv W W W (by omega) ?_;rw[k];refine fR 1 W<|bp n W W<|fR 2 W<|TF.nil ⟨by kernel_rfl,rfl⟩
  refine dO [2,62] W<|Oq (cI W W W (by omega)) ?_;rw[k];refine dR [64] W<|Oq (au u W W)<|dL [] W ?_;apply Ow bX
  .intro s0 Oo;refine fR 6 W<|gv W W W (by omega) ?_;rw[k];refine fR 1 W<|bp y W W<|fR 3 W<|TF.nil ⟨by kernel_rfl,rfl⟩
  exact DC.ret ⟨_,W,.ite l q x,J,by rw[E.cells,o,w,z];rfl,rfl,.ite G I L,a.trans (m.trans (r.trans K))⟩
 .skip
  cases st with
  |true=>
   obtain⟨H,I,⟨l,x,rfl,rfl,y,q⟩,r⟩:=iS ht an main t g a.le;obtain⟨J,K,L,P,Q,R,m⟩:=l.shape;rw[m]at r;obtain⟨S,T,⟨n,z,rfl,rfl,F,G⟩,u⟩:=h ⟨s.all,s.all,s.da⟩ c.wide t true x q.le;obtain⟨U,V,X,Y,Z,b2,o⟩:=n.shape;rw[o]at u;have w:=lx 9 0 l n;rw[m,o]at w;refine DT.ob func82 W ntmps82 W<|dO [2,2,25] W<|Oq (aQ f W W W W)<|dR [0,2,35] W<|Oq (au e W W)<|dR [3,2,0,2,0,2,0,2,0,2,1,1,2,1,2,82] W<|Oq (au r W W)<|dL [2] W ?_;apply Ow bX
   .intro s0 Oo;refine fR 5 W<|gv W W W (by omega) ?_;rw[k];refine fR 1 W<|bp u W W<|aW w W W<|fR 1 W<|TF.nil ⟨by kernel_rfl,rfl⟩
   exact DC.ret ⟨_,W,.fO l n,z,by rw[E.cells,m,o];rfl,rfl,.fO y F,a.trans (q.trans G)⟩
  |false=>
   obtain⟨r,u,⟨l,go,rfl,rfl,o,q⟩,m⟩:=i s c t false g a.le;obtain⟨w,F,no,x,y,z,n⟩:=l.shape;rw[n]at m;refine DT.ob func82 W ntmps82 W<|dO [2,2,25] W<|Oq (aQ f W W W W)<|dR [0,2,35] W<|Oq (au e W W)<|dR [3,2,0,2,0,2,0,2,0,2,1,1,2,0,2,146] W<|Oq (au m W W)<|dL [] W<|DC.ret ⟨_,W,l,go,by rw[n];rfl,rfl,o,a.trans q⟩
 .skip
  cases st with
  |true=>
   obtain⟨H,I,⟨l,x,rfl,rfl,y,q⟩,r⟩:=iS ht an main t g a.le;obtain⟨J,K,L,P,Q,R,m⟩:=l.shape;rw[m]at r;obtain⟨S,T,⟨n,z,rfl,rfl,F,G⟩,u⟩:=h ⟨s.all,s.all,s.da⟩ c.wide t true x q.le;obtain⟨U,V,X,Y,Z,b2,o⟩:=n.shape;rw[o]at u;have w:=lx 9 0 l n;rw[m,o]at w;refine DT.ob func82 W ntmps82 W<|dO [2,2,25] W<|Oq (aQ f W W W W)<|dR [0,2,35] W<|Oq (au e W W)<|dR [3,2,0,2,0,2,0,2,0,2,0,2,1,2,1,2,82] W<|Oq (au r W W)<|dL [2] W ?_;apply Ow bX
   .intro s0 Oo;refine fR 5 W<|gv W W W (by omega) ?_;rw[k];refine fR 1 W<|bp u W W<|aW w W W<|fR 1 W<|TF.nil ⟨by kernel_rfl,rfl⟩
   exact DC.ret ⟨_,W,.fO l n,z,by rw[E.cells,m,o];rfl,rfl,.fO y F,a.trans (q.trans G)⟩
  |false=>
   obtain⟨r,u,⟨l,go,rfl,rfl,o,q⟩,m⟩:=i s c t false g a.le;obtain⟨w,F,no,x,y,z,n⟩:=l.shape;rw[n]at m;refine DT.ob func82 W ntmps82 W<|dO [2,2,25] W<|Oq (aQ f W W W W)<|dR [0,2,35] W<|Oq (au e W W)<|dR [3,2,0,2,0,2,0,2,0,2,0,2,1,2,0,2,146] W<|Oq (au m W W)<|dL [] W<|DC.ret ⟨_,W,l,go,by rw[n];rfl,rfl,o,a.trans q⟩
 .skip
  cases st with
  |true=>
   obtain⟨H,I,⟨l,x,rfl,rfl,y,q⟩,r⟩:=h s c t true g a.le;obtain⟨J,K,L,P,Q,R,m⟩:=l.shape;rw[m]at r;obtain⟨S,T,⟨n,z,rfl,rfl,F,G⟩,u⟩:=h ⟨s.all,s.all,s.da⟩ c.wide t true x q.le;obtain⟨U,V,X,Y,Z,b2,o⟩:=n.shape;rw[o]at u;have w:=lx 11 0 l (.pre n);rw[E.cells,m,o]at w;refine DT.ob func82 W ntmps82 W<|dO [2,2,25] W<|Oq (aQ f W W W W)<|dR [0,2,35] W<|Oq (au e W W)<|dR [3,2,0,2,0,2,0,2,0,2,0,2,0,2,1,2,1,2,106] W<|Oq (cI W W W (by omega)) ?_;rw[k];refine dR [108] W<|Oq (au r W W)<|dR [2,2,120] W<|Oq (cI W W W (by omega)) ?_;rw[k];refine dR [122] W<|Oq (au u W W)<|dR [2,127] W<|Oq (aL w W W)<|dL [] W<|DC.ret ⟨_,W,.arrow l (.pre n),z,by rw[E.cells,E.cells,m,o];rfl,rfl,.arrow y F,a.trans (q.trans G)⟩
  |false=>
   obtain⟨r,u,⟨l,go,rfl,rfl,o,q⟩,m⟩:=i s c t false g a.le;obtain⟨w,F,no,x,y,z,n⟩:=l.shape;rw[n]at m;refine DT.ob func82 W ntmps82 W<|dO [2,2,25] W<|Oq (aQ f W W W W)<|dR [0,2,35] W<|Oq (au e W W)<|dR [3,2,0,2,0,2,0,2,0,2,0,2,0,2,1,2,0,2,146] W<|Oq (au m W W)<|dL [] W<|DC.ret ⟨_,W,l,go,by rw[n];rfl,rfl,o,a.trans q⟩
 .skip
  obtain⟨K,L,⟨x,b,q,rfl,rfl,l,y⟩,r⟩:=DK ht an main s.da c.da t g a.le;cases b with
  |true=>
   refine DT.ob func82 W ntmps82 W<|dO [2,2,25] W<|Oq (aQ f W W W W)<|dR [0,2,35] W<|Oq (au e W W)<|dR [3,2,0,2,0,2,0,2,0,2,0,2,0,2,0,2,1,2,135] W<|Oq (au r W W)<|dL [2,1,2] W<|DC.ret ⟨_,W,.last x,q,W,W,.last (y W),a.trans l⟩
  |false=>
   obtain⟨z,F,⟨m,go,rfl,rfl,u,w⟩,n⟩:=i s c t st q l.le;obtain⟨G,P,no,H,I,J,o⟩:=m.shape;rw[o]at n;refine DT.ob func82 W ntmps82 W<|dO [2,2,25] W<|Oq (aQ f W W W W)<|dR [0,2,35] W<|Oq (au e W W)<|dR [3,2,0,2,0,2,0,2,0,2,0,2,0,2,0,2,1,2,135] W<|Oq (au r W W)<|dR [2,0,2,146] W<|Oq (au n W W)<|dL [] W<|DC.ret ⟨_,W,m,go,by rw[o];rfl,rfl,u,a.trans (l.trans w)⟩
 .skip
  obtain⟨r,u,⟨l,go,rfl,rfl,o,q⟩,m⟩:=i s c t st g a.le;obtain⟨w,F,no,x,y,z,n⟩:=l.shape;rw[n]at m;refine DT.ob func82 W ntmps82 W<|dO [2,2,25] W<|Oq (aQ f W W W W)<|dR [0,2,35] W<|Oq (au e W W)<|dR [3,2,0,2,0,2,0,2,0,2,0,2,0,2,0,2,0,2,146] W<|Oq (au m W W)<|dL [] W<|DC.ret ⟨_,W,l,go,by rw[n];rfl,rfl,o,a.trans q⟩
 .skip
  obtain⟨r,u,⟨l,go,rfl,rfl,o,q⟩,m⟩:=i s c t st g a.le;obtain⟨w,F,no,x,y,z,n⟩:=l.shape;rw[n]at m;refine DT.ob func82 W ntmps82 W<|dO [2,2,25] W<|Oq (aQ f W W W W)<|dR [0,2,35] W<|Oq (au e W W)<|dR [3,2,0,2,0,2,0,2,0,2,0,2,0,2,0,2,0,2,146] W<|Oq (au m W W)<|dL [] W<|DC.ret ⟨_,W,l,go,by rw[n];rfl,rfl,o,a.trans q⟩
 .skip
  obtain⟨r,u,⟨l,go,rfl,rfl,o,q⟩,m⟩:=i s c t st g a.le;obtain⟨w,F,no,x,y,z,n⟩:=l.shape;rw[n]at m;refine DT.ob func82 W ntmps82 W<|dO [2,2,25] W<|Oq (aQ f W W W W)<|dR [0,2,35] W<|Oq (au e W W)<|dR [3,2,0,2,0,2,0,2,0,2,0,2,0,2,0,2,0,2,146] W<|Oq (au m W W)<|dL [] W<|DC.ret ⟨_,W,l,go,by rw[n];rfl,rfl,o,a.trans q⟩
 .skip
  obtain⟨r,u,⟨l,go,rfl,rfl,o,q⟩,m⟩:=i s c t st g a.le;obtain⟨w,F,no,x,y,z,n⟩:=l.shape;rw[n]at m;refine DT.ob func82 W ntmps82 W<|dO [2,2,25] W<|Oq (aQ f W W W W)<|dR [0,2,35] W<|Oq (au e W W)<|dR [3,2,0,2,0,2,0,2,0,2,0,2,0,2,0,2,0,2,146] W<|Oq (au m W W)<|dL [] W<|DC.ret ⟨_,W,l,go,by rw[n];rfl,rfl,o,a.trans q⟩
def dD:∀(d:Nat),d<=100->vT zs v an main d
 |0,_=>H8 ht an main
 |d+1,h=>H9 ht an main d (by omega) (dD d (by omega))
end
end Go.Proofs
