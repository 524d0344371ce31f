/- A part of the proof of the last text of this claim, without conditions. -/
import Derived.Test.YtbafhpblecdbbaaGreatDoorI
set_option maxRecDepth 4000
set_option maxHeartbeats 4000000
set_option linter.all false
namespace Go.Ex
open Go.Mt Go.Mk Go.Pm
variable{s:Sc}{T:Ps.TE}{e:E}{q:List aD}{α β δ n n':Nat}{outs:List Va}
section
variable{r:List Sm.En}{av:Nat}
def rV{m k:Nat}{c:UInt8}(h:k<=m):¬Gt m (nm c k):=by
 rintro⟨b,d,e,a⟩;have:=(p8 a).2;omega
def KL(x:Nm)(e:E):qm (jR (.df x e))=6+2*Ps.bJ (cq e):=by
 simp[jR,qm,lq,Sm.aQ,Ps.aP];omega
theorem B'{K:KE}{x:Nm}(b:(T x).isSome=true)(h:eP (cq e) (K x))(a:Ps.bJ (cq e)<=100):mW (ja r) (w_ av) T K (jR (.df x e)):=by
 rw[jR,mW];refine⟨⟨by grind,by simp,by simp,by simp,a,by simp,by simp,λa a=>by simp at a⟩,.inl ⟨rfl,⟨x,rfl,h⟩,rfl,rfl⟩,by simp[gF]⟩
def pj{v:Va}(h:T v.name=some (v.ty.kind,v.ty.nm)):(T v.name).isSome=true:=by rw[h];rfl
def Jb{l:List Va}(h:sC s l q):(∀u∈dS q,∀x∈Sm.bX u,x∈jJ l)/\iV (dS q)<=112*l.length/\Ps.eM (dS q)=0/\
  ∀T K,(∀v∈l,T v.name=some (v.ty.kind,v.ty.nm))->fq (ja r) (w_ av) T K (dS q):=by
 induction h with
 |nil=>exact⟨λu a=>by simp[dS]at a,by simp[dS,iV],by simp[dS,Ps.eM],λT K _=>by simp[dS,fq]⟩
 |snoc h w e d f=>
  obtain⟨k,m,g,i⟩:=f;have j:=oP d;have n:gs 3=53:=rfl;refine⟨λu a x b=>?_,?_,?_,λT K c=>?_⟩
  .rw[kL,ain]at a;simp only[jJ,aio,ain];rcases a with a|a
   .grind
   .simp only[dS,aib,aip,aiJ]at a;rw[a]at b;simp[jR,Sm.bX,Sm.aQ]at b;exact .inr (by simp[b])
  .rw[kL,v8,ah6];simp only[dS,iV,KL,aik];omega
  .rw[kL,pi,g];simp[dS,jR,Ps.eM,Ps.nO,Ps.dP]
  .rw[kL,fq.app];refine⟨i T K λv a=>c v (by simp[a]),?_⟩;simp only[dS,fq,ajV];exact B' (pj (c w (by simp))) (eP.mono _ j.1 (aja _)) (by omega)
theorem Jc{ai:List aH}{t:Ty}(b:GE s t true 2 e)(h:Dl r av α δ s outs n n' ai)(g:∀a∈gN ai,FV (w_ av) a)(i:ai.length<=3)(j:12*α+1270<=β)(p:1<=outs.length)(q:outs.length<=3):
  LX r av β δ s outs n n' [.sw e ai] []:=by
 have k:=v_ h.df;have l:=oP b;have w:gs 2=17:=rfl;refine⟨h.le,λu c x a=>.inl ?_,?_,?_,by simp,λv a=>by simp at a,by simp,λv a=>by simp at a,λv a=>by simp at a,λT K d m _=>?_⟩
 .simp only[dS,jR,aib,aip,aiJ]at c;rw[c,Sm.bX,eT]at a;rcases a with a|⟨f,o,a⟩
  .simp at a
  .exact h.df f o x a
 .simp only[dS,jR,iV,qm,ajO,List.length_nil,Ps.aP,ak1];rw[aid (by decide)];have f:=h.w (Sm.aQ [] (gN ai)).length;simp only[ah8]at k;have:ai.length*(10+3*(Sm.aQ [] (gN ai)).length+α*(outs.length+3))<=3*(10+3*outs.length+α*(4*outs.length)):=
   ajA i (Nat.add_le_add (by omega) (ajE _ (by omega)))
  have o:α*(4*outs.length)=4*(α*outs.length):=by grind
  have y:(12*α+1270)*outs.length<=β*outs.length:=aiB _ j;have z:(12*α+1270)*outs.length=12*(α*outs.length)+1270*outs.length:=by grind
  omega
 .have:=h.dp;simp only[dS,jR,Ps.eM,Ps.nO];omega
 .simp only[dS,fq,ajV,jR];rw[mW];refine⟨⟨by simp,by simp,by simp,by simp,by omega,by simp,by rw[nq,ah8];omega,g⟩,.inr (.inr (.inl ⟨rfl,rfl,rfl,l.1,(Lv b d).1⟩)),h.pr T K d m⟩
def Lw{y:Sc->List Va->Nat->Nat->bF->Prop}(k:xa r av y α δ)(G:112<=β)(l:(∃s o n n' b,y s o n n' b)->12*α+1270<=β){g:List Va}
  (h:GQ y av s outs n n' q g) (i:n'<=3000) (j:1<=outs.length) (m:outs.length<=3):LX r av β δ s outs n n' q g:=by
 have g2:gs 2=17:=rfl;have g3:gs 3=53:=rfl
 induction h with
 | @uG s outs n q h=>
  obtain⟨a,f,o,d⟩:=Jb (r:=r) (av:=av) h;refine⟨ah9 _,λu d x f=>.inl (a u d x f),?_,by omega,by simp,λv a=>by simp at a,by simp,λv a=>by simp at a,λv a=>by simp at a,λT K a f _=>d T K λv a=>(f v a).1⟩;have:112*outs.length<=β*outs.length:=aiB _ G;simp only[List.length_nil];omega
 |I2 d f a=>
  obtain⟨o,p,t⟩:=A8 k f i (by decide);exact Jc d o t (by omega) (l (p (λe=>by rw[e]at a;simp at a))) j m
 |FP d f a=>
  obtain⟨o,p,t⟩:=A8 k f i (by decide);exact Jc d o t (by omega) (l (p (λe=>by rw[e]at a;simp at a))) j m
 | @wW s outs n n' f N D d t=>
  obtain⟨h,B,C⟩:=Ja k d i D.2;have u:f≠[]:= λe=>by rw[e]at t;simp at t;omega
  have E:=l (B u);have F:=v_ h.df;refine⟨h.le,λH p x a=>.inl ?_,?_,?_,by simp,λv a=>by simp at a,by simp,λv a=>by simp at a,λv a=>by simp at a,λT K z A _=>?_⟩
  .simp only[dS,jR,aib,aip,aiJ]at p;rw[p,Sm.bX,eT]at a;rcases a with a|⟨o,d,a⟩
   .simp at a
   .exact h.df o d x a
  .simp only[dS,jR,iV,qm,ajO,List.length_nil,Ps.aP,ak1];rw[air trivial];have o:=h.w (Sm.aQ [] (gN f)).length;simp only[ah8]at F;have:f.length*(10+3*(Sm.aQ [] (gN f)).length+α*(outs.length+3))<=3*(10+3*outs.length+α*(4*outs.length)):=
    ajA (by omega) (Nat.add_le_add (by omega) (ajE _ (by omega)))
   have w:α*(4*outs.length)=4*(α*outs.length):=by rw[Nat.mul_left_comm]
   have I:(12*α+1270)*outs.length<=β*outs.length:=aiB _ E;have J:(12*α+1270)*outs.length=12*(α*outs.length)+1270*outs.length:=by rw[aiY,akq]
   omega
  .have:=h.dp;simp only[dS,jR,Ps.eM,Ps.nO];omega
  .simp only[dS,fq,ajV,jR];rw[mW];refine⟨⟨by simp,by simp,by simp,by simp,by simp[cq,Ps.bJ,Ps.aP],by simp,by rw[nq,ah8];omega,λw d=>?_⟩,.inr (.inr (.inr (.inr ⟨trivial,rfl,rfl,rfl,?_,rfl⟩))),h.pr T K z A⟩
   .obtain⟨I,o⟩:=C w d;exact⟨λ_=>by omega,o.1,o.2.1,o.2.2⟩
   .rw[nq];simpa using u
 | @reset s outs n n' e b w o=>
  have h:=k _ _ _ _ _ o i;have A:=l ⟨_,_,_,_,_,o⟩;have C:=oP w;have p:∀a∈([Sm.aH.mk e0 (nW b) [] [] z2]:List Sm.aH),∀x∈Sm.cy a.aT,x∈jJ outs:= λa d x a=>by
   simp only[aib,aip,aiJ]at d;rw[d]at a;exact h.df x a
  have B:=v_ p;refine⟨h.le,λD d x a=>.inl ?_,?_,?_,by simp,λv a=>by simp at a,by simp,λv a=>by simp at a,λv a=>by simp at a,λT K t u _=>?_⟩
  .simp only[dS,jR,aib,aip,aiJ]at d;rw[d,Sm.bX,eT]at a;rcases a with a|⟨f,z,a⟩
   .simp at a
   .exact p f z x a
  .simp only[dS,jR,iV,qm,lq,ajO,List.length_nil,Ps.aP,ak1];rw[aid (by decide)];have f:=h.w;simp only[ah8]at B;have H:α*(outs.length+3)<=α*(4*outs.length):=ajE _ (by omega);have z:α*(4*outs.length)=4*(α*outs.length):=by rw[Nat.mul_left_comm]
   have E:(12*α+1270)*outs.length<=β*outs.length:=aiB _ A;have F:(12*α+1270)*outs.length=12*(α*outs.length)+1270*outs.length:=by rw[aiY,akq]
   omega
  .have:=h.dp;simp only[dS,jR,Ps.eM,Ps.nO,Ps.dP];omega
  .simp only[dS,fq,ajV,jR];rw[mW];refine⟨⟨by simp,by simp,by simp,by simp,by omega,by simp,by simp,λz f=>by simp only[aib,aip,aiJ]at f;subst f;exact⟨λ_=>(by decide:ByteArray.size ⟨#[]⟩<=1000),by simp[Sm.aH.eQ],by simp[Sm.aH.eB],λt a=>by simp[Sm.aH.eQ,Sm.aH.eB]at a⟩⟩,.inr (.inr (.inr (.inl ⟨rfl,rfl,rfl,C.1,by simp⟩))),?_⟩;simp only[gF,ajV];exact h.pr T K t u
 | @call s outs n n' R g D L Q b F J P e t h d=>
  have d:=d i j m;have S:=d.le;have M:=oP F;have N:=oP J;have O:Ps.bJ (cq e)<=17/\(eP (cq e) 0\/P=false/\cq e=Sm.bR):=by
   rcases t with⟨j,rfl⟩|⟨_,t⟩
   .exact⟨by simp[cq,Ps.bJ,Ps.aP],.inr ⟨j,rfl⟩⟩
   .have:=oP t;exact⟨this.2.1,.inl this.1⟩
  have u:nm 117 (n+1)≠nm 117 (n+2):= λe=>by have:=(p8 e).2;omega
  have H:ru n n' (nm 117 (n+1)):=⟨117,n+1,by decide,by omega,by omega,rfl⟩;have I:ru n n' (nm 117 (n+2)):=⟨117,n+2,by decide,by omega,by omega,rfl⟩;have w:∀k,k<=n+2->nm 117 k∉jJ g:= λp f o=>by
   obtain⟨v,a,e⟩:=aij.1 o;exact rV f (e▸(d.vb v a).gt)
  refine⟨by omega,λC o x f=>?_,?_,?_,?_,λv a=>?_,?_,λv a=>?_,λv a=>?_,λT K E p a=>?_⟩
  .simp only[dS,aib]at o;rcases o with rfl|o
   .simp[jR,Sm.bX,Sm.aQ]at f;rcases f with rfl|rfl
    .exact .inr (by simp[jJ])
    .exact .inr (by simp[jJ])
   .rcases d.df C o x f with h|h
    .exact .inl h
    .exact .inr (by simp only[jJ,aiq,aib];exact .inr (.inr h))
  .have:=d.w;simp only[dS,iV,jR,qm,lq,Sm.aQ,Ps.aP,aia,List.length_nil];rw[aid (by decide)];omega
  .have:=d.dp;simp only[dS,jR,Ps.eM,Ps.nO,Ps.dP];omega
  .simp only[jJ,aiq,ajk,aib,alh];exact⟨⟨u,w _ (by omega)⟩,w _ (by omega),d.vn⟩
  .simp only[aib]at a;rcases a with rfl|rfl|a
   .exact H
   .exact I
   .exact(d.vb v a).mono (by omega) (by omega)
  .have:=d.vl;simp only[aia];omega
  .simp only[aib]at a;rcases a with rfl|rfl|a
   .simp[uI]
   .simp[uI]
   .refine⟨(d.ck v a).1,λz p=>?_⟩;obtain⟨A,B,e⟩:=(d.ck v a).2 z p;exact⟨A,by simp[B],e⟩
  .simp only[aib]at a;rcases a with rfl|rfl|a
   .rfl
   .rfl
   .exact d.la v a
  .have z:=a (eD 117 (n+1) .int) (by simp);have A:=a (eD 117 (n+2) .jh) (by simp);simp only[dS,fq,jR];rw[mW];refine⟨⟨⟨?_,by simp,by simpa using u,by simp,by omega,?_,by simp,λa a=>by simp at a⟩,.inr (.inl ⟨rfl,by simp,O.2,rfl,⟨D,L,rfl⟩,rfl⟩),by simp[gF]⟩,?_⟩
   .intro x f;simp only[aib,aip,aiJ]at f;rcases f with rfl|rfl
    .exact pj z.1
    .exact pj A.1
   .intro x f;simp only[aib,aip,aiJ]at f;rcases f with rfl|rfl
    .exact⟨M.1,by omega⟩
    .exact⟨N.1,by omega⟩
   .refine d.pr T K ((E.mono (by omega)).more λv B=>?_) (λv a=>(p v a).mono (by omega)) λv d=>a v (by simp[d])
    simp only[aib,aip,aiJ]at B;rcases B with rfl|rfl
    .exact⟨z.1,rV (by omega)⟩
    .exact⟨A.1,rV (by omega)⟩
 | @ze s outs n n' Z g Y b x w e fY J N P Q I R h d=>
  have d:=d i j m;have ac:=d.le;have t:=oP J;have z:=oP N;have O:=oP I;obtain⟨S,_⟩:=tB P;obtain⟨U,_⟩:=tB Q;have C:=t.2.2 W;have V:eP (cq fY) 1/\Ps.bJ (cq fY)<=22:=by
   rcases R with rfl|rfl
   .exact⟨by simp[cq,eP,fJ,t.1,Ps.bC,C],by simp only[cq,Ps.bJ,Ps.aP];omega⟩
   .exact⟨by simp[cq,eP,fJ,t.1,Ps.bC,C,eP.mono _ U.1 (aja 1)],by simp only[cq,Ps.bJ,Ps.aP];omega⟩
  have X:eP (cq (.merge (nm 99 (n+1)) bT cR eK (.mm (nm 99 (n+1)) bT b) (.var (nm 119 (n+2))) x)) 0/\Ps.bJ (cq (.merge (nm 99 (n+1)) bT cR eK (.mm (nm 99 (n+1)) bT b) (.var (nm 119 (n+2))) x))<=21:=
   ⟨by simp[cq,eP,fJ,z.1,Ps.bC,z.2.2 W,eP.mono _ S.1 (aja 1)],by simp only[cq,Ps.bJ,Ps.aP];omega⟩
  have L:ru n n' (nm 99 (n+1)):=⟨99,n+1,by decide,by omega,by omega,rfl⟩;have M:ru n n' (nm 119 (n+2)):=⟨119,n+2,by decide,by omega,by omega,rfl⟩;have u:∀c k,k<=n+3->nm c k∉jJ g:= λc p f o=>by
   obtain⟨v,a,e⟩:=aij.1 o;exact rV f (e▸(d.vb v a).gt)
  refine⟨by omega,λE o F f=>?_,?_,?_,?_,λv a=>?_,?_,λv a=>?_,λv a=>?_,λT K H p a=>?_⟩
  .simp only[dS,aib]at o;rcases o with rfl|rfl|rfl|o
   .simp[jR,Sm.bX,Sm.aQ]at f;exact .inr (by simp[jJ,f])
   .simp[jR,Sm.bX,Sm.aQ]at f;exact .inr (by simp[jJ,f])
   .simp[jR,Sm.bX,Sm.aQ]at f;exact .inr (by simp[jJ,f])
   .rcases d.df E o F f with h|h
    .exact .inl h
    .exact .inr (by simp only[jJ,aiq,aib];exact .inr (.inr (.inr h)))
  .have:=d.w;simp only[dS,iV,KL,aia];omega
  .have:=d.dp;simp only[dS,jR,Ps.eM,Ps.nO,Ps.dP];omega
  .simp only[jJ,aiq,ajk,aib,alh];exact⟨⟨(λe=>absurd (p8 e).1 (by decide)),(λe=>absurd (p8 e).1 (by decide)),u _ _ (by omega)⟩,⟨(λe=>absurd (p8 e).1 (by decide)),u _ _ (by omega)⟩,u _ _ (by omega),d.vn⟩
  .simp only[aib]at a;rcases a with rfl|rfl|rfl|a
   .exact L
   .exact M
   .exact(⟨122,n+3,by decide,by omega,by omega,rfl⟩)
   .exact(d.vb v a).mono (by omega) (by omega)
  .have:=d.vl;simp only[aia];omega
  .simp only[aib]at a;rcases a with rfl|rfl|rfl|a
   .simp[uI]
   .simp[uI]
   .simp[uI]
   .refine⟨(d.ck v a).1,λA p=>?_⟩;obtain⟨B,D,e⟩:=(d.ck v a).2 A p;exact⟨B,by simp[D],e⟩
  .simp only[aib]at a;rcases a with rfl|rfl|rfl|a
   .rfl
   .rfl
   .rfl
   .exact d.la v a
  .have A:=a (eD 99 (n+1) .jh) (by simp);have w:=a ⟨nm 119 (n+2),.int,some (cR,nm 99 (n+1)),false,.nil⟩ (by simp);have D:=a (eD 122 (n+3) .int) (by simp);simp only[dS,fq];refine⟨B' (pj A.1) (eP.mono _ O.1 (aja _)) (by omega),B' (pj w.1) (by rw[w.2];exact V.1) (by omega),B' (pj D.1) (eP.mono _ X.1 (aja _)) (by omega),?_⟩;refine d.pr T K ((H.mono (by omega)).more λv B=>?_) (λv a=>(p v a).mono (by omega)) λv d=>a v (by simp[d])
   simp only[aib,aip,aiJ]at B;rcases B with rfl|rfl
   .exact⟨A.1,rV (by omega)⟩
   .exact⟨D.1,rV (by omega)⟩
end
end Go.Ex
namespace Go.Ex
open Go.Mt Go.Mk Go.Pm
variable{Sub:Sc->List Va->Nat->Nat->bF->Prop}{α β δ n:Nat}{vs:List Va}
section
variable{r:List Sm.En}{av:Nat}
variable(r av)
structure Mi(β e:Nat)(f:Sc)(c:List Va)(b:Nat)(s:Sc)(d:List Va)(n:Nat)(q:List aD)(a:List Va):Prop where
 le:b<=n
 sub:∀v∈d,v∈c
 df:∀u∈dS q,∀x∈Sm.bX u,x∈jJ c\/x∈jJ a
 w:iV (dS q)+6*a.length+β*d.length<=β*c.length+80*(n-b)
 dp:Ps.eM (dS q)<=1+e
 vn:(jJ a).Nodup
 vb:∀v∈a,ru b n v.name
 vl:a.length<=n-b
 ck:∀v∈a,(uI v.clock).length<=1/\∀o∈uI v.clock,∃w∈a,w.name=o.2
 la:∀v∈a,v.last=false
 pr:∀T K,p9 T b f->(∀v∈c,Kn T b v)->(∀v∈a,T v.name=some (v.ty.kind,v.ty.nm)/\K v.name=(uI v.clock).length)->fq (ja r) (w_ av) T K (dS q)/\p9 T n s
variable{r av}
theorem nZ{a b:List Nm}(c:a.Nodup)(d:b.Nodup)(h:∀x∈a,x∉b):(a++b).Nodup:=by
 grind
def Lx(A:xa r av Sub α δ)(B:112<=β)(C:(∃s o n a b,Sub s o n a b)->12*α+1270<=β){l s:Sc}{j d:List Va}{m:Nat}{q:List aD}
  (h:GL (GQ Sub av) l j m s d n q vs) (D:n<=3000):Mi r av β δ l j m s d n q vs:=by
 induction h with
 |start=>exact⟨ah9 _,λv a=>a,λu a=>by simp[dS]at a,by simp[dS,iV],by simp[dS,Ps.eM],by simp,λv a=>by simp at a,by simp,λv a=>by simp at a,λv a=>by simp at a,λT K a _ _=>⟨by simp[dS,fq],a⟩⟩
 | @step s d n L q vs M F h k N O P G c=>
  have H:(d.take k).length=k:=by rw[ait];omega
  have g:=Lw A B C G D (by omega) (by omega);have o:=g.le;have c:=c (by omega);have y:=c.le;have p:∀v∈d.take k,v∈j:= λv a=>c.sub v (List.mem_of_mem_take a)
  have J:∀x∈jJ vs,x∉jJ F:= λx f i=>by
   obtain⟨v,a,rfl⟩:=aij.1 f;obtain⟨w,z,e⟩:=aij.1 i;exact(c.vb v a).not (e▸(g.vb w z).gt)
  refine⟨by omega,λv a=>c.sub v (List.mem_of_mem_drop a),λu f x t=>?_,?_,?_,?_,λv a=>?_,?_,λv a=>?_,λv a=>?_,λT K E i a=>?_⟩
  .rw[kL,ain]at f;simp only[jJ,aio,ain];rcases f with f|f
   .rcases c.df u f x t with h|h
    .exact .inl h
    .exact .inr (.inl h)
   .rcases g.df u f x t with h|h
    .obtain⟨v,a,e⟩:=aij.1 h;exact .inl (e▸aiN (p v a))
    .exact .inr (.inr h)
  .rw[kL,v8,ah6,akp];have z:=c.w;have w:=g.w;rw[H]at w;have I:β*d.length=β*(d.length-k)+β*k:=by rw[<-ak9];congr 1;omega
   omega
  .rw[kL,pi];have w:=c.dp;have z:=g.dp;omega
  .simp only[jJ,aio];exact nZ c.vn g.vn J
  .rcases ain.1 a with a|a
   .exact(c.vb v a).mono (ah9 _) o
   .exact(g.vb v a).mono y (ah9 _)
  .have w:=c.vl;have z:=g.vl;rw[ah6];omega
  .rcases ain.1 a with a|a
   .refine⟨(c.ck v a).1,λw i=>?_⟩;obtain⟨z,I,e⟩:=(c.ck v a).2 w i;exact⟨z,by simp[I],e⟩
   .refine⟨(g.ck v a).1,λw i=>?_⟩;obtain⟨z,I,e⟩:=(g.ck v a).2 w i;exact⟨z,by simp[I],e⟩
  .rcases ain.1 a with a|a
   .exact c.la v a
   .exact g.la v a
  .obtain⟨I,w⟩:=c.pr T K E i λv c=>a v (by simp[c])
   have z:∀v∈d.take k,Kn T n v:= λv a=>(i v (p v a)).mono y
   rw[kL,fq.app];exact⟨⟨I,g.pr T K w z λv c=>a v (by simp[c])⟩,(w.more z).mono o⟩
def Ab{v:Va} :∀{r l:List Va},v∈fj l r->v∈l\/v∈r:=by
 intro r
 induction r with
 |nil=>intro l h;exact .inl h
 |cons w r a=>
  intro l h;rw[fj]at h;rcases a h with h|h
  .grind
  .grind
theorem Ly{b:Nat}(h:NV n vs b):(n<=b/\vs.length=b-n)/\(jJ vs).Nodup/\∀v∈vs,ru n b v.name/\v.clock=none/\(v.last=true->B9 (cq v.first)):=by
 induction h with
 |nil=>exact⟨⟨ah9 _,by simp⟩,by simp,λv a=>by simp at a⟩
 | @snoc vs b h w f g i j=>
  obtain⟨⟨m,o⟩,k,c⟩:=j;refine⟨⟨by omega,by grind⟩,?_,λv a=>?_⟩
  .simp only[jJ,aio,aiq,aiL];refine nZ k (by simp) λx l d=>?_
   obtain⟨v,a,rfl⟩:=aij.1 l;simp only[aib,aip,aiJ]at d;rw[f]at d;exact(c v a).1.not ⟨118,b+1,by omega,d⟩
  .rcases ain.1 a with a|a
   .exact⟨(c v a).1.mono (ah9 _) (by omega),(c v a).2⟩
   .simp only[aib,aip,aiJ]at a;subst a;refine⟨⟨118,b+1,by decide,by omega,by omega,f⟩,g,λe=>?_⟩;rcases i with⟨d,_⟩|⟨_,d⟩
    .grind
    .exact(tB d).2
def Jd(l:List Va):(l.map lg).map (·.name)=jJ l:=by simp[jJ,lg,Function.comp_def]
def xE(A:xa r av Sub α δ)(B:112<=β)(C:(∃s o n a b,Sub s o n a b)->12*α+1270<=β):xa r av (J_ (GQ Sub av)) (β+6) (1+δ):=by
 rintro s i n D b ⟨d,q,O,M,f,a,P,E,rfl⟩ F;obtain⟨⟨l,Q⟩,G,k⟩:=Ly a;have g:=Lx A B C E F;have H:=g.le;have I:(jJ (d++f)).Nodup:=by
  simp only[jJ,aio];refine nZ G g.vn λx j c=>?_
  obtain⟨v,a,rfl⟩:=aij.1 j;obtain⟨w,h,e⟩:=aij.1 c;exact(k v a).1.not (e▸(g.vb w h).gt)
 have t:∀v∈d++f,ru n D v.name:= λv c=>by
  rcases ain.1 c with c|c
  .exact(k v c).1.mono (ah9 _) H
  .exact(g.vb v c).mono l (ah9 _)
 refine⟨by omega,λx j=>?_,?_,?_,λT N K m=>?_⟩
 .rw[nW,ku]at j;obtain⟨⟨u,p,j⟩,o⟩:=j;rw[rS]at o;have c:x∉jJ (d++f):= λh=>by
   obtain⟨v,a,e⟩:=aij.1 h;exact o (lg v) (aiN a) e
  simp only[jJ,aio,ain,alh]at c;rcases g.df u p x j with h|h
  .simp only[jJ,aio,ain]at h;rcases h with h|h
   .exact absurd h c.1
   .exact h
  .exact absurd h c.2
 .rw[nW,uN,ah8,ah6];have c:=g.w;have h:=g.vl;simp only[ah6,List.length_nil,ak1,ajO]at c;have o:β*(d.length+i.length)<=β*(i.length+3):=ajE _ (by omega);have p:(β+6)*(i.length+3)=β*(i.length+3)+6*(i.length+3):=aiY _ _ _;omega
 .rw[nW,Ps.ju];exact g.dp
 .rw[nW,mu];have o:(((d++f).map lg).map (·.name)).Nodup:=by rw[Jd];exact I
  have w:∀v∈d++f,(((d++f).map lg).foldl Ps.TE.add T) v.name=some (v.ty.kind,v.ty.nm):= λv a=>v7 o (lg v) (aiN a)
  have p:∀v,Kn T n v->Kn (((d++f).map lg).foldl Ps.TE.add T) n v:= λv a=>by
   refine⟨?_,a.2⟩;rw[rU (λz c e=>?_)]
   .exact a.1
   .obtain⟨u,h,rfl⟩:=aij.1 c;exact a.2 (e▸(t u h).gt)
  have y:∀v∈d,Kn (((d++f).map lg).foldl Ps.TE.add T) q v:= λv a=>⟨w v (by simp[a]),(k v a).1.not⟩
  have L:p9 (((d++f).map lg).foldl Ps.TE.add T) q (J9 s d i):= λv c=>by
   have h:(v∈s.ready\/v∈s.all\/v∈s.aO)\/v∈d\/v∈i:=by
    rcases c with c|c|c
    .exact .inl (.inl c)
    .simp only[J9,ain]at c;rcases c with(c|c)|c
     .exact .inl (.inl c)
     .exact .inr (.inl c)
     .exact .inr (.inr c)
    .rcases Ab c with c|c
     .exact .inl (.inr (.inr c))
     .exact .inr (ain.1 c)
   rcases h with h|h|h
   .exact(p v (K v h)).mono l
   .exact y v h
   .exact(p v (m v h)).mono l
  refine⟨⟨o,?_,λv a=>?_,λv a=>?_,λv a=>?_⟩,(g.pr _ _ L (λv a=>?_) λv a=>⟨w v (by simp[a]),(λv a=>zl o (lg v) (aiN a)) v (by simp[a])⟩).1⟩
  .have c:=g.vl;rw[ah8,ah6];show _<=3000;omega
  .obtain⟨u,c,rfl⟩:=aij.1 a;exact(t u c).Kb
  .obtain⟨u,c,rfl⟩:=aij.1 a;rcases ain.1 c with c|c
   .have:=(k u c).2.1;simp only[lg,this,uI];simp
   .refine⟨(g.ck u c).1,λh m=>?_⟩;obtain⟨z,J,e⟩:=(g.ck u c).2 h m;exact⟨lg z,aiN (by simp[J]),e⟩
  .obtain⟨u,c,rfl⟩:=aij.1 a;rcases ain.1 c with c|c
   .exact(k u c).2.2
   .intro e;have:=g.la u c;simp[lg,this]at e
  .rcases ain.1 a with a|a
   .exact y v a
   .exact(p v (m v a)).mono l
def Kc:xa r av (GB av 3) 404236 4:=by
 have a:xa r av (λ_ _ _ _ _=>False) 0 0:= λ_ _ _ _ _ h=>h.elim
 have b:=xE (β:=112) a (by decide) (λ⟨_,_,_,_,_,h⟩=>h.elim);have a:=xE (β:=33574) (xE (β:=2686) b (by decide) (λ_=>by decide)) (by decide) (λ_=>by decide);exact xE (β:=404230) a (by decide) (λ_=>by decide)
end
end Go.Ex
namespace Go.Pm
open Go.Mt Go.Sm Go.Ps Go.Ex
variable{T T':TE}{K':KE}{e:Xp}{n n':Nat}{v:Va}{en:List En}{x:Nm}
def Dn(n:Nat):A3 (Lib.decDigits n)=n:=by
 induction n using Nat.strongRecOn with
 |ind n b=>
  rw[Lib.decDigits];split
  .rename_i h;simp only[A3,aii,ajK];rw[uJ n h];omega
  .rename_i h;have a:=b (n/10) (by omega);unfold A3 at a⊢;rw[aiC,a];simp only[aii,ajK];rw[uJ (n%10) (by omega)];omega
def uO{c b:UInt8}{k k':Nat}(h:mi c k=mi b k'):c=b/\k=k':=by
 have a:(mi c k).data.toList=(mi b k').data.toList:=by rw[h]
 rw[rT,rT]at a;injection a with _ a
 injection a with d e
 exact⟨d,by rw[<-Dn k,e,Dn k']⟩
def qh(T:TE):Prop:=∀x,(T x).isSome=true->uL x
def si(T:TE)(K:KE)(a:TE)(b:KE):Prop:=∀x,uL x->a x=T x/\b x=K x
theorem Je(h:∀x,(T x).isSome=true->T' x=T x)(p:oL en T.ty (λx=>(T x).isSome=true) e):oL en T'.ty (λx=>(T' x).isSome=true) e/\dG en T'.ty e=dG en T.ty e:=by
 induction p with
 | @mk e s q m n=>
  have j:∀x,(T x).isSome=true->(T' x).isSome=true/\T'.ty x=T.ty x:= λx a=>by
   have:=h x a;exact⟨by grind,by unfold TE.ty;rw[this]⟩
  have g:∀k∈e.kids,dG en T'.ty k=dG en T.ty k:= λk a=>(n k a).2
  have r:dG en T'.ty e=dG en T.ty e:=by
   rw[BW,BW en T.ty];split
   .rfl
   split
   .rfl
   split
   .rfl
   split
   .rename_i k;rcases m with h|h|h|h|h|h|h|h|h
    all_goals first|exact(j _ h.2).2|(exfalso;omega)
   split
   .rfl
   cases t:e.kids with
   |nil=>rfl
   |cons a l=>
    have o:=g a (by grind);cases l with
    |nil=>simp only[o]
    |cons b l=>
     simp only[o,g b (by grind)]
  refine⟨.mk (λk a=>(n k a).1) q ?_,r⟩;rcases m with h|h|h|h|h|⟨d,f,a,l,i,k⟩|⟨d,a,b,c,f,i,k⟩|⟨d,a,b,f,i⟩|h
  .exact .inl h
  .exact .inr (.inl h)
  .exact .inr (.inr (.inl h))
  .exact .inr (.inr (.inr (.inl ⟨h.1,(j _ h.2).1⟩)))
  .exact .inr (.inr (.inr (.inr (.inl ⟨h.1,(j _ h.2).1⟩))))
  .exact .inr (.inr (.inr (.inr (.inr (.inl ⟨d,f,a,l,i,λd f=>by rw[g d f,g a (by rw[i];simp)];exact k d f⟩)))))
  .exact .inr (.inr (.inr (.inr (.inr (.inr (.inl ⟨d,a,b,c,f,by grind,by grind⟩))))))
  .exact .inr (.inr (.inr (.inr (.inr (.inr (.inr (.inl ⟨d,a,b,f,by grind⟩)))))))
  .exact .inr (.inr (.inr (.inr (.inr (.inr (.inr (.inr h)))))))
theorem si.some{K:KE}(h:si T K T' K')(a:qh T)(b:(T x).isSome=true):(T' x).isSome=true/\K' x=K x:=by
 have:=h x (a x b);exact⟨by grind,this.2⟩
def si.Mj{K:KE}(h:si T K T' K')(a:qh T)(b:oL en T.ty (λx=>(T x).isSome=true) e):oL en T'.ty (λx=>(T' x).isSome=true) e:=
 (Je (λx b=>(h x (a x b)).1) b).1
def si.wM{K:KE}(h:si T K T' K'):∀l:List Va,si (l.foldl TE.add T) (l.foldl KE.add K) (l.foldl TE.add T') (l.foldl KE.add K'):=by
 intro l
 induction l generalizing T K T' K' with
 |nil=>exact h
 |cons v l a=>
  refine a λx b=>?_
  unfold TE.add KE.add;split
  .grind
  .exact h x b
def si.new{K:KE}(h:si T K T' K'){l:List Va}(b:∀v∈l,¬uL v.name):si T K (l.foldl TE.add T') (l.foldl KE.add K'):= λx a=>by
 rw[rU (λv c e=>b v c (e▸a)),nY (λv c e=>b v c (e▸a))];exact h x a
def qh.wM(h:qh T):∀{l:List Va},(∀v∈l,uL v.name)->qh (l.foldl TE.add T):=by
 intro l
 induction l generalizing T with
 |nil=>intro _;exact h
 |cons v l b=>
  intro c;refine b (λx a=>?_) λw a=>c w (by simp[a])
  unfold TE.add at a;split at a
  .grind
  .exact h x a
def si.refl(T:TE)(K:KE):si T K T K:= λ_ _=>⟨rfl,rfl⟩
def sG(x:Nm):Prop:=∀j,x≠nV j
abbrev mM(a_:Nm->Prop):xh:=⟨sG,20000,False,a_⟩
structure Dp(n a:Nat)(v:Va):Prop where
 nm:∃c k,c≠118/\n<k/\k<=a/\v.name=mi c k
 ck:v.clock=[]
 la:v.last=false
def Dp.mono{m a:Nat}(h:Dp n n' v)(i:m<=n)(j:n'<=a):Dp m a v:=by
 obtain⟨⟨c,k,f,b,l,d⟩,e,g⟩:=h;exact⟨⟨c,k,f,by omega,by omega,d⟩,e,g⟩
def Dp.Kb(h:Dp n n' v):¬uL v.name:=by
 obtain⟨⟨c,k,_,_,_,e⟩,_,_⟩:=h;intro a;exact a.ne c k e
def Dp.LY(h:Dp n n' v):sG v.name:=by
 obtain⟨⟨c,k,b,_,_,e⟩,_,_⟩:=h;intro j a;rw[e]at a;exact b (uO a).1
def uP(l:List aH):Nat:=wz (l.map λa=>iG a.aT)
def bws(l:List aH):Nat:=wz (l.map λa=>uN a.aT)
def uQ(n:Nat):∀l:List aH,fP n l=l.length*(1+3*n)+uP l
 |[]=>by simp[fP,uP,wz]
 |.mk _ b _ _ _::l=>by rw[fP,uQ n l,uP,uP,aiq,pL,aia,aiY];simp only[aH.aT];omega
def uR(n:Nat):∀l:List aH,lq n l=l.length*(10+3*n)+bws l
 |[]=>by simp[lq,bws,wz]
 |.mk _ b _ _ _::l=>by rw[lq,uR n l,bws,bws,aiq,pL,aia,aiY];simp only[aH.aT];omega
section
variable(en:List En)(a_:Nm->Prop)
structure LZ(T:TE)(K:KE)(b:bF)(s:DS):Prop where
 le:s.n<=(gf b s).2.n
 n:1000*(gf b s).2.n<=1000*s.n+uN b
 es:(∀e∈s.aB,e.fu.length<=3)->∀e∈(gf b s).2.aB,e.fu.length<=3
 df:∀x∈cy (gf b s).1,x∈cy b
 w:iG (gf b s).1<=uN b
 dp:ju (gf b s).1<=2*ju b
 pr:∀a c,si T K a c->mu en (mM a_) a c (gf b s).1
structure Jf(T:TE)(K:KE)(l:List aH)(s:DS):Prop where
 le:s.n<=(cc l s).2.n
 n:1000*(cc l s).2.n<=1000*s.n+bws l
 es:(∀e∈s.aB,e.fu.length<=3)->∀e∈(cc l s).2.aB,e.fu.length<=3
 len:(cc l s).1.length=l.length
 df:∀b∈(cc l s).1,∃a∈l,b.name=a.name/\b.eQ=a.eQ/\b.eB=a.eB/\∀x∈cy b.aT,x∈cy a.aT
 w:uP (cc l s).1<=bws l
 dp:dP (cc l s).1<=2*dP l-1
 pr:∀b c,si T K b c->gF en (mM a_) b c (cc l s).1
structure Kd(T:TE)(K:KE)(a:List Va)(c:List aD)(s b:DS)(w dp:Nat)(D:Nm->Prop):Prop where
 le:s.n<=b.n
 n:1000*b.n<=1000*s.n+w
 es:(∀e∈s.aB,e.fu.length<=3)->∀e∈b.aB,e.fu.length<=3
 nw:∀v∈a,Dp s.n b.n v
 nd:(a.map (·.name)).Nodup
 nl:a.length<=6*(b.n-s.n)
 df:∀u∈c,∀x∈bX u,D x\/x∈a.map (·.name)
 w:gj c+4*a.length<=w
 dp:eM c<=2*dp
 pr:∀b d,si T K b d->(∀v∈a,(b v.name).isSome=true)->fq en (mM a_) b d c
variable{en a_}
def Jf.uG{T:TE}{K:KE}{l:List aH}{s:DS}(h:Jf en a_ T K l s){lhs:List Nm}(e:lhs.Nodup):(∀x∈aQ lhs (cc l s).1,x∈aQ lhs l)/\(aQ lhs (cc l s).1).length<=(aQ lhs l).length:=by
 have c:∀x∈aQ lhs (cc l s).1,x∈aQ lhs l:= λx a=>by
  rw[eT]at a⊢;rcases a with a|⟨f,b,a⟩
  .exact .inl a
  .obtain⟨d,b,_,_,_,g⟩:=h.df f b;exact .inr ⟨d,b,g x a⟩
 exact⟨c,kv _ _ (j9 e) c⟩
theorem Ca(k:Nat):∀(l:List Tr) (r:Xp×Xp),(∀t∈l,zm t)->eP r.1 0/\eP r.2 0->bJ r.1<=1/\bJ r.2<=1->(eP (qi k l r).1 0/\eP (qi k l r).2 0)/\bJ (qi k l r).1<=1+19*l.length/\bJ (qi k l r).2<=1+19*l.length
 |[],r,_,h,a=>by rw[qi];exact⟨h,by grind⟩
 |t::l,r,a,h,d=>by
  obtain⟨b,e⟩:=Ca k l r (λu b=>a u (by simp[b])) h d;obtain⟨c,f,_⟩:=a t (by simp);rw[qi];refine⟨⟨by simp[eP,fJ,c,b.1],by simp[eP,fJ,c,b.2]⟩,?_⟩;simp only[bJ,aP,aia];omega
theorem wa{P:xh}{K:KE}{p:Int×Int}(b:(T x).isSome=true)(h:eP e 0)(a:bJ e<=100):mW en P T K (gY x e p):=by
 rw[mW];exact⟨⟨by grind,by simp,by simp,by simp,a,by simp,by simp,λa a=>by simp at a⟩,.inl ⟨rfl,⟨x,rfl,eP.mono _ h (aja _)⟩,rfl,rfl⟩,by simp[gF]⟩
def Jg(x:Nm)(e:Xp)(p:Int×Int):mG (gY x e p)=4+2*bJ e:=by simp[mG,fP,aP,aQ];omega
def A5.nil(P:xh):A5 P []:=⟨by simp,by simp,λv a=>by simp at a,λv a=>by simp at a,λv a=>by simp at a⟩
def xF(x:Nm)(c:Nat):eP (aZ x) c:=by simp[eP,fJ]
end
end Go.Pm
namespace Go.Pm
open Go.Mt Go.Sm Go.Ps Go.Ex
variable{T:TE}{f:aH->aH}{c:Nat}{en:List En}{P:xh}{a:aH}
theorem Dq:∀l:List aH,(∀a∈l,iG (f a).aT<=iG a.aT+c)->uP (l.map f)<=uP l+l.length*c
 |[],_=>by grind
 |a::l,h=>by
  have d:=h a (by simp);have d:=Dq l λb d=>h b (by simp[d])
  simp only[uP,aiq,pL,aia,aiY]at d⊢;omega
def FW:∀l:List aH,(∀a∈l,iG (f a).aT<=c)->uP (l.map f)<=l.length*c
 |[],_=>by simp[uP,wz]
 |a::l,h=>by
  have d:=h a (by simp);have d:=FW l λb d=>h b (by simp[d])
  simp only[uP,aiq,pL,aia,aiY]at d⊢;omega
def rW{K:KE} :∀{l:List aH},gF en P T K l↔ ∀a∈l,mu en P T K a.aT
 |[]=>by simp[gF]
 |.mk _ b _ _ _::l=>by rw[gF,rW];simp[aH.aT]
def Ke{K:KE}{b:bF} :mu en P T K b↔A5 P b.vars/\fq en P (b.vars.foldl TE.add T) (b.vars.foldl KE.add K) b.eqs:=by cases b;rw[mu];rfl
def wc:∀a b:List aD,gj (a++b)=gj a+gj b
 |[],b=>by simp[gj]
 |q::a,b=>by simp only[aiA,gj,wc a b,ajG]
def Kf(b:bF):iG b=4*b.vars.length+(b.vars.flatMap mF).length+gj b.eqs:=by cases b;rw[iG];rfl
def FX(b:bF):ju b=eM b.eqs:=by cases b;rw[ju];rfl
def zo{n:Nat} :∀l:List aH,(∀a∈l,1+ju a.aT<=n)->dP l<=n
 |[],_=>by simp[dP]
 |.mk _ b _ _ _::l,h=>by
  have c:=h _ (ajf ..);have d:=zo l λa c=>h a (by simp[c])
  simp only[aH.aT]at c;rw[dP];omega
def kG:∀{l:List aH},∀a∈l,1+ju a.aT<=dP l
 |.mk _ b _ _ _::l,a,h=>by
  rw[dP];rcases aib.1 h with rfl|h
  .simp only[aH.aT];omega
  .have:=kG a h;omega
def E3(k:Nat)(p:Int×Int):((gT k p).map (·.name)).Nodup:=by
 have:(gT k p).map (·.name)=([115,97,110,114,98,109]:List UInt8).map λc=>mi c k:=rfl
 rw[this];refine List.pairwise_map.2 (List.Pairwise.imp (R:=(·≠ ·)) (λh e=>h (uO e).1) (by decide))
def pk{x y:Nm}{e:Xp}{p:Int×Int}(h:x∈bX (gY y e p)):x=y:=by simpa [bX,aQ] using h
section
variable{en:List En}{a_:Nm->Prop}
def KM(l:List aH):Prop:=∀a∈l,a.eQ.length<=2/\a.eB.length<=2/\∀t∈a.eQ++a.eB,zm t
def p_(k:Nat)(c:a.eQ.length<=2/\a.eB.length<=2/\∀t∈a.eQ++a.eB,zm t):(∀x∈cy (cP k a).aT,x=nA k\/x=nB k)/\iG (cP k a).aT<=164/\ju (cP k a).aT=0/\
  ∀T K,(T (nA k)).isSome=true->(T (nB k)).isSome=true->mu en (mM a_) T K (cP k a).aT:=by
 obtain⟨d,h,i⟩:=Ca k a.eQ (gI (iI k a.name),aZ (nR k)) (λt b=>c.2.2 t (by simp[b])) ⟨by simp[eP,fJ],xF _ _⟩ ⟨by simp[bJ,aP],by simp[bJ,aP]⟩;have e:=c.1;refine⟨λx b=>?_,?_,?_,λT K e g=>?_⟩
 .unfold cP at b;simp only[aH.aT]at b;rw[ku]at b;obtain⟨⟨q,f,b⟩,_⟩:=b;simp only[bF.eqs,aib,aip,aiJ]at f;rcases f with rfl|rfl
  .exact .inl (pk b)
  .exact .inr (pk b)
 .unfold cP;simp only[aH.aT];rw[iG];simp only[List.length_nil,List.flatMap_nil,gj,Jg];omega
 .unfold cP;simp[aH.aT,ju,eM,nO,dP]
 .unfold cP;simp only[aH.aT];rw[mu];refine⟨.nil _,?_⟩;simp only[ajK,fq,ajV];exact⟨wa e d.1 (by omega),wa g d.2 (by omega)⟩
def uS(k:Nat)(i:a.eQ.length<=2/\a.eB.length<=2/\∀t∈a.eQ++a.eB,zm t){L:List Nm}(n:∀x∈cy a.aT,x∈L):(∀x∈cy (eI k a).aT,x∈L++[nN k,nM k])/\iG (eI k a).aT<=iG a.aT+(4*L.length+177)/\ju (eI k a).aT=1+ju a.aT/\
  ∀T K,(T (nB k)).isSome=true->(T (nN k)).isSome=true->(T (nM k)).isSome=true->mu en (mM a_) T K a.aT->mu en (mM a_) T K (eI k a).aT:=by
 obtain⟨g,o,p⟩:=Ca k a.eB (gI (iI k a.name),dD false) (λt b=>i.2.2 t (by simp[b])) ⟨by simp[eP,fJ],by simp[eP,fJ]⟩ ⟨by simp[bJ,aP],by simp[bJ,aP]⟩;have r:=i.2.1;have e:(eI k a).aT=.mk [] [.mk 5 [] ⟨#[]⟩ [] false (aZ (nB k)) [.mk ⟨#[]⟩ (.mk a.aT.vars (a.aT.eqs++[gY (nN k) (qi k a.eB (gI (iI k a.name),dD false)).1 a.ps,gY (nM k) (qi k a.eB (gI (iI k a.name),dD false)).2 a.ps])) [] [] a.ps] a.ps]:=rfl;generalize qi k a.eB (gI (iI k a.name),dD false)=w at g o p e;generalize f:bF.mk a.aT.vars (a.aT.eqs++[gY (nN k) w.1 a.ps,gY (nM k) w.2 a.ps])=c at e;have s:∀x∈cy c,x∈L++[nN k,nM k]:= λx b=>by
  rw[ku]at b;obtain⟨⟨q,d,b⟩,j⟩:=b;rw[<-f]at d j;simp only[bF.eqs,ain,aib,aip,aiJ]at d;rcases d with d|rfl|rfl
  .exact ai6 _ (n x (ku.2 ⟨⟨q,d,b⟩,j⟩))
  .rw[pk b];simp
  .rw[pk b];simp
 have m:∀x∈aQ [] [aH.mk ⟨#[]⟩ c [] [] a.ps],x∈L++[nN k,nM k]:= λx b=>by
  rw[eT]at b;rcases b with b|⟨j,d,b⟩
  .simp at b
  .simp only[aib,aip,aiJ]at d;rw[d]at b;exact s x b
 have t:=kv _ _ (j9 (ai:=[aH.mk ⟨#[]⟩ c [] [] a.ps]) (l:=[]) (by simp)) m;have y:iG c<=iG a.aT+164:=by
  rw[Kf a.aT,<-f];simp only[iG,wc,gj,Jg];omega
 rw[e];refine⟨λx b=>?_,?_,?_,λT K r u v h=>?_⟩
 .rw[ku]at b;obtain⟨⟨q,d,b⟩,_⟩:=b;simp only[bF.eqs,aib,aip,aiJ]at d;rw[d]at b;exact m x b
 .rw[iG];simp only[ah6,aia,List.length_nil]at t;simp only[List.length_nil,List.flatMap_nil,gj,mG,fP,bJ,aP];omega
 .rw[ju,eM,eM,nO,dP,dP,FX c,FX a.aT];rw[<-f];simp only[bF.eqs];rw[pi];simp only[eM,nO,dP];omega
 .rw[Ke]at h;rw[mu];refine⟨.nil _,?_⟩;simp only[ajK,fq,ajV];rw[mW];refine⟨⟨by simp,by simp,by simp,by simp,by simp[bJ,aP],by simp,by simp,λa d=>by simp only[aib,aip,aiJ]at d;subst d;exact⟨λh=>h.elim,by simp[aH.eQ],by simp[aH.eB],λt b=>by simp[aH.eQ,aH.eB]at b⟩⟩,.inr (.inr (.inr (.inl ⟨rfl,rfl,rfl,xF _ _,by simp⟩))),?_⟩;rw[<-f];simp only[gF,ajV,mu];refine⟨h.1,?_⟩;rw[fq.app];refine⟨h.2,?_⟩;simp only[fq,ajV];exact⟨wa (zk u) g.1 (by omega),wa (zk v) g.2 (by omega)⟩
def Jh{K:KE}{ai:List aH}{s:DS}(h:Jf en a_ T K ai s)(r:ai.length<=3)(H:ai≠[])(t:KM ai)(f:Nm)(D:Bool)(e:Xp)(p:Int×Int):
  Kd en a_ T K (gT ((cc ai s).2.n+1) p) (lH ((cc ai s).2.n+1) (cc ai s).1 p) s ⟨(cc ai s).2.n+1,(cc ai s).2.aB++[su ((cc ai s).2.n+1) (cc ai s).1 p]⟩ (qm (.mk 4 [] f [] D e ai p)) (dP ai) (λx=>x∈aQ [] ai):=by
 have V:=h.le;have J:=h.n;have L:=h.w;have M:=h.uG (lhs:=[]) (by simp);have G:=h.len;have N:=h.dp;have i:KM (cc ai s).1:= λg b=>by
  obtain⟨d,b,C,j,o,_⟩:=h.df g b;rw[j,o];exact t d b
 have E:=h.pr;have n:∀a∈(cc ai s).1,∀x∈cy a.aT,x∈aQ [] ai:= λg b x a=>by
  obtain⟨d,b,_,_,_,j⟩:=h.df g b;rw[eT];exact .inr ⟨d,b,j x a⟩
 have O:qm (.mk 4 [] f [] D e ai p)=1200+30*(aQ [] ai).length+(ai.length*(10+3*(aQ [] ai).length)+bws ai):=by rw[qm,uR];rfl
 rw[O];have w:=h.es;generalize (cc ai s).1=A at L M G N i E n⊢;generalize (cc ai s).2=P at V J w⊢;generalize Z:P.n+1=k at⊢;have y:∀a∈A.map (cP k),∀x∈cy a.aT,x=nA k\/x=nB k:= λd b x a=>by
  obtain⟨g,j,rfl⟩:=aij.1 b;exact(p_ (en:=en) (a_:=a_) k (i g j)).1 x a
 have z:∀a∈A.map (eI k),∀x∈cy a.aT,x∈aQ [] ai++[nN k,nM k]:= λd b x a=>by
  obtain⟨g,j,rfl⟩:=aij.1 b;exact(uS (en:=en) (a_:=a_) k (i g j) (n g j)).1 x a
 have d3:(aQ [] (A.map (cP k))).length<=2:=kv _ [nA k,nB k] (j9 (by simp)) λx a=>by
  rw[eT]at a;rcases a with a|⟨d,b,a⟩
  .simp at a
  .simpa using y d b x a
 have d4:(aQ [] (A.map (eI k))).length<=(aQ [] ai).length+2:=by
  have:=kv _ (aQ [] ai++[nN k,nM k]) (j9 (ai:=A.map (eI k)) (l:=[]) (by simp)) λx j=>by
   rw[eT]at j;rcases j with j|⟨d,b,j⟩
   .simp at j
   .exact z d b x j
  simpa using this
 have Q:=FW (f:=cP k) (c:=164) A λd b=>(p_ (en:=en) (a_:=a_) k (i d b)).2.1
 have R:=Dq (f:=eI k) (c:=4*(aQ [] ai).length+177) A λd b=>(uS (en:=en) (a_:=a_) k (i d b) (n d b)).2.1
 refine⟨by simp only;omega,by simp only;omega,λS x a=>?_,λv q=>?_,E3 _ _,?_,λY B x a=>?_,?_,?_,λm u a q=>?_⟩
 .rcases ain.1 a with a|a
  .exact w S x a
  .simp only[aib,aip,aiJ]at a;rw[a];simp only[su,ah8];omega
 .simp only[gT,aib,aip,aiJ]at q;rcases q with rfl|rfl|rfl|rfl|rfl|rfl<;>exact⟨⟨_,k,by decide,by omega,by simp only;omega,rfl⟩,rfl,rfl⟩
 .simp only[gT,aia,List.length_nil];omega
 .simp only[lH,aib,aip,aiJ]at B;have j:∀c∈([115,97,110,114,98,109]:List UInt8),mi c k∈(gT k p).map (·.name):= λc o=>by
   have:(gT k p).map (·.name)=([115,97,110,114,98,109]:List UInt8).map λc=>mi c k:=rfl
   rw[this];exact aiN o
  rcases B with rfl|rfl|rfl|rfl
  .rw[pk a];exact .inr (j 115 (by decide))
  .rw[pk a];exact .inr (j 114 (by decide))
  .rw[bX,eT]at a;rcases a with a|⟨d,b,a⟩
   .simp at a
   .rcases y d b x a with rfl|rfl
    .exact .inr (j 97 (by decide))
    .exact .inr (j 98 (by decide))
  .rw[bX,eT]at a;rcases a with a|⟨d,b,a⟩
   .simp at a
   .rcases ain.1 (z d b x a)with h|h
    .exact .inl h
    .simp only[aib,aip,aiJ]at h;rcases h with rfl|rfl
     .exact .inr (j 110 (by decide))
     .exact .inr (j 109 (by decide))
 .simp only[lH,gT,gj,Jg,aia,List.length_nil];rw[mG,mG,uQ,uQ];simp only[bJ,aP,List.length_nil,ah8];rw[G]at Q R⊢;have j:ai.length*(1+3*(aQ [] (A.map (cP k))).length)<=3*(1+3*2):=ajA r (by omega);have o:ai.length*(1+3*(aQ [] (A.map (eI k))).length)<=3*(1+3*((aQ [] ai).length+2)):=ajA r (by omega);have C:ai.length*(4*(aQ [] ai).length+177)<=3*(4*(aQ [] ai).length+177):=aiB _ r;omega
 .have F:dP (A.map (cP k))<=1:=zo _ λd b=>by
   obtain⟨g,j,rfl⟩:=aij.1 b;rw[(p_ (en:=en) (a_:=a_) k (i g j)).2.2.1];omega
  have I:dP (A.map (eI k))<=1+dP A:=zo _ λC o=>by
   obtain⟨g,j,rfl⟩:=aij.1 o;rw[(uS (en:=en) (a_:=a_) k (i g j) (n g j)).2.2.1];have:=kG g j;omega
  have o:1<=dP ai:=by
   obtain⟨d,t⟩:=List.exists_mem_of_ne_nil _ H;have:=kG d t;omega
  simp only[lH,eM,nO,dP];omega
 .have j:∀c∈([115,97,110,114,98,109]:List UInt8),(m (mi c k)).isSome=true:= λc U=>by
   have o:mi c k∈(gT k p).map (·.name):=by
    have:(gT k p).map (·.name)=([115,97,110,114,98,109]:List UInt8).map λc=>mi c k:=rfl
    rw[this];exact aiN U
   obtain⟨v,b,e⟩:=aij.1 o;rw[<-e];exact q v b
  have C:=E m u a;rw[rW]at C;have F:∀x,(m x).isSome=true->oL en m.ty (λx=>(m x).isSome=true) (aZ x):= λx h=>.mk (λk a=>by simp[Xp.kids]at a) (by simp[Xp.kids]) (.inr (.inr (.inr (.inl ⟨rfl,h⟩))))
  simp only[lH,fq,ajV];refine⟨wa (j 115 (by decide)) (by simp[eP,fJ]) (by simp[bJ,aP]),wa (j 114 (by decide)) (by simp[eP,fJ]) (by simp[bJ,aP]),?_,?_⟩
  .rw[mW];refine⟨⟨by simp,by simp,by simp,by simp,by simp[bJ,aP],by simp,by rw[ah8];omega,λX I=>by obtain⟨g,o,rfl⟩:=aij.1 I;exact⟨λh=>h.elim,by simp[aH.eQ,cP,eI],by simp[aH.eB,cP,eI],λt a=>by simp[aH.eQ,aH.eB,cP,eI]at a⟩⟩,.inr (.inr (.inl ⟨rfl,rfl,rfl,xF _ _,F _ (j 115 (by decide))⟩)),?_⟩;rw[rW];intro d b;obtain⟨g,o,rfl⟩:=aij.1 b;exact(p_ k (i g o)).2.2.2 m u (j 97 (by decide)) (j 98 (by decide))
  .rw[mW];refine⟨⟨by simp,by simp,by simp,by simp,by simp[bJ,aP],by simp,by rw[ah8];omega,λX I=>by obtain⟨g,o,rfl⟩:=aij.1 I;exact⟨λh=>h.elim,by simp[aH.eQ,cP,eI],by simp[aH.eB,cP,eI],λt a=>by simp[aH.eQ,aH.eB,cP,eI]at a⟩⟩,.inr (.inr (.inl ⟨rfl,rfl,rfl,xF _ _,F _ (j 97 (by decide))⟩)),?_⟩;rw[rW];intro d b;obtain⟨g,o,rfl⟩:=aij.1 b;exact(uS k (i g o) (n g o)).2.2.2 m u (j 98 (by decide)) (j 110 (by decide)) (j 109 (by decide)) (C g o)
end
end Go.Pm
namespace Go.Pm
open Go.Mt Go.Sm Go.Ps Go.Ex
abbrev uT(a_:Nm->Prop):xh:=⟨uL,3000,True,a_⟩
section
variable{en:List En}{a_:Nm->Prop}
theorem Ji{T:TE}{K:KE}{k:Int}{lhs:List Nm}{f:Nm}{args:List Xp}{j:Bool}{e:Xp}{ai:List aH}{p:Int×Int}{s:DS}(l:qh T)(h:mW en (uT a_) T K (.mk k lhs f args j e ai p))(t:k≠4)(a:Jf en a_ T K ai s):
  Kd en a_ T K [] [.mk k lhs f args j e (cc ai s).1 p] s (cc ai s).2 (qm (.mk k lhs f args j e ai p)) (dP ai) (λx=>x∈aQ lhs ai):=by
 rw[mW]at h;obtain⟨⟨m,u,n,w,y,z,M,A⟩,B,_⟩:=h;have C:=a.uG n;have N:=a.n;have O:=a.w;have J:=a.len;have P:=a.dp;have D:qm (.mk k lhs f args j e ai p)=4+2*bJ e+2*aP args+lhs.length+args.length+(aQ lhs ai).length+(ai.length*(10+3*(aQ lhs ai).length)+bws ai):=by rw[qm,uR,aid t]
 rw[D];refine⟨a.le,by omega,a.es,λv a=>by simp at a,by simp,by simp,λL o x i=>?_,?_,?_,λE F i _=>?_⟩
 .simp only[aib,aip,aiJ]at o;rw[o,bX]at i;exact .inl (C.1 x i)
 .simp only[gj,List.length_nil];rw[mG,uQ,J];have:ai.length*(1+3*(aQ lhs (cc ai s).1).length)<=ai.length*(10+3*(aQ lhs ai).length):=ajE _ (by omega);omega
 .simp only[eM,nO];omega
 .simp only[fq,ajV];rw[mW];refine⟨⟨λx h=>(i.some l (m x h)).1,u,n,w,y,z,by grind,λG H=>?_⟩,?_,a.pr E F i⟩
  .obtain⟨g,I,Q,q,r,_⟩:=a.df G H;have:=A g I;exact⟨λh=>h.elim,by rw[q];exact this.u,by rw[r];exact this.w,by rw[q,r];exact this.t⟩
  rcases B with⟨g,⟨x,b,c⟩,d,e⟩|⟨g,b,c,d,e,f⟩|⟨g,b,c,d,e⟩|⟨g,b,c,d,e⟩|⟨_,g,_⟩
  .refine .inl ⟨g,⟨x,b,?_⟩,d,?_⟩
   .rw[(i.some l (m x (by rw[b];simp))).2];exact c
   .grind
  .grind
  .exact .inr (.inr (.inl ⟨g,b,c,d,i.Mj l e⟩))
  .grind
  .grind
mutual
def FY:∀(b:bF) (T:TE) (K:KE) (s:DS),qh T->mu en (uT a_) T K b->uN b<=2500000->LZ en a_ T K b s
 |.mk f i,T,K,s,m,h,j=>by
  rw[mu]at h;obtain⟨c,n⟩:=h;rw[uN]at j;have g:=Dr i _ (f.foldl KE.add K) s (m.wM c.us) n (by omega);have t:=g.n;have y:=g.w;have z:=g.nl;have r:=c.n
  dsimp only at r
  have A:(((f++(dE i s).1).flatMap mF)).length<=f.length:=by
   rw[ajT,ah6];have o:∀l:List Va,(∀v∈l,v.clock.length<=1)->(l.flatMap mF).length<=l.length:=by
    intro l
    induction l with
    |nil=>simp
    |cons a l p=>
     intro h;have:=h a (by simp);have:=p λv a=>h v (by simp[a])
     simp only[ajS,ah6,ah8,aia];omega
   have q:∀l:List Va,(∀v∈l,v.clock=[])->(l.flatMap mF).length=0:=by
    intro l
    induction l with
    |nil=>simp
    |cons a l p=>
     intro h;have:=p λv a=>h v (by simp[a])
     simp only[ajS,ah6,ah8,h a (by simp),List.length_nil];omega
   have:=o f λv a=>(c.ck v a).1
   have:=q (dE i s).1 λv a=>(g.nw v a).ck
   omega
  have k:((f++(dE i s).1).map (·.name)).Nodup:=by
   rw[aio];refine nZ c.nd g.nd λx a l=>?_
   obtain⟨v,o,rfl⟩:=aij.1 a;obtain⟨w,p,e⟩:=aij.1 l;exact(g.nw w p).Kb (e▸c.us v o)
  refine⟨?_,?_,?_,λx d=>?_,?_,?_,λB C d=>?_⟩
  .rw[gf];exact g.le
  .rw[gf,uN];dsimp only;omega
  .rw[gf];exact g.es
  .rw[gf]at d;rw[ku]at d⊢;obtain⟨⟨u,l,d⟩,a⟩:=d;rw[rS]at a;simp only[bF.vars,ain]at a;refine⟨?_,rS.2 λv c=>a v (.inl c)⟩;rcases g.df u l x d with h|h
   .exact h
   .obtain⟨v,c,e⟩:=aij.1 h;exact absurd e (a v (.inr c))
  .rw[gf,iG,uN];rw[ah6];omega
  .rw[gf,ju,ju];exact g.dp
  .rw[gf];rw[mu];refine⟨⟨k,?_,λv a=>?_,λv a=>?_,λv a=>?_⟩,g.pr _ _ ?_ λv a=>?_⟩
   .rw[ah6];show _<=20000;omega
   .rcases ain.1 a with a|a
    .exactλj=>(c.us v a).ne 118 j
    .exact(g.nw v a).LY
   .rcases ain.1 a with a|a
    .refine⟨(c.ck v a).1,λo l=>?_⟩;obtain⟨w,j,e⟩:=(c.ck v a).2 o l;exact⟨w,ai6 _ j,e⟩
    .rw[(g.nw v a).ck];simp
   .rcases ain.1 a with a|a
    .exact c.la v a
    .rw[(g.nw v a).la];intro e;simp at e
   .rw[aiC,aiC];exact(d.wM f).new λv a=>(g.nw v a).Kb
   .rw[v7 k v (ajq _ a)];rfl
def Dr:∀(l:List aD) (T:TE) (K:KE) (s:DS),qh T->fq en (uT a_) T K l->iV l<=2500000->Kd en a_ T K (dE l s).1 (dE l s).2.1 s (dE l s).2.2 (iV l) (eM l) (λx=>∃q∈l,x∈bX q)
 |[],T,K,s,a,h,d=>by
  rw[dE,iV,eM];exact⟨ah9 _,by simp,λh=>h,λv a=>by simp at a,by simp,by simp,λu a=>by simp at a,by simp[gj],by simp[eM],λa a _ _=>by simp[fq]⟩
 |q::l,T,K,s,i,h,m=>by
  rw[fq]at h;rw[iV]at m;have a:=Kg q T K s i h.1 (by omega);have b:=Dr l T K (mR q s).2.2 i h.2 (by omega);have z:=a.le;have A:=b.le;have C:=a.n;have D:=b.n;have E:=a.nl;have F:=b.nl;have G:=a.w;have H:=b.w;have N:=a.dp;have O:=b.dp;rw[dE,iV,eM]
  dsimp only
  refine⟨by omega,by omega,λh=>b.es (a.es h),λv d=>?_,?_,by rw[ah6];omega,λu f x g=>?_,?_,?_,λj k g d=>?_⟩
  .rcases ain.1 d with d|d
   .exact(a.nw v d).mono (ah9 _) A
   .exact(b.nw v d).mono z (ah9 _)
  .rw[aio];refine nZ a.nd b.nd λx n o=>?_
   obtain⟨v,p,rfl⟩:=aij.1 n;obtain⟨w,r,e⟩:=aij.1 o;obtain⟨⟨c,B,_,_,I,t⟩,_,_⟩:=a.nw v p;obtain⟨⟨J,L,_,M,_,y⟩,_,_⟩:=b.nw w r;have e:=e;rw[t,y]at e;have:=(uO e).2;omega
  .rw[aio,ain];rcases ain.1 f with f|f
   .rcases a.df u f x g with h|h
    .grind
    .grind
   .rcases b.df u f x g with⟨n,o,h⟩|h
    .grind
    .grind
  .rw[wc,ah6];omega
  .rw[pi];omega
  .rw[fq.app];exact⟨a.pr j k g λv h=>d v (ai6 _ h),b.pr j k g λv h=>d v (ajq _ h)⟩
def Kg:∀(q:aD) (T:TE) (K:KE) (s:DS),qh T->mW en (uT a_) T K q->qm q<=2500000->Kd en a_ T K (mR q s).1 (mR q s).2.1 s (mR q s).2.2 (qm q) (nO q) (λx=>x∈bX q)
 |.mk k l f m g e c p,T,K,s,i,h,n=>by
  have j:=A9 c T K s i (by rw[mW]at h;exact h.2.2) (by rw[qm,uR]at n;omega);rw[mR,nO];simp only[bX];unfold ug;by_cases a:k=4
  .rw[air (show(aD.mk k l f m g e (cc c s).1 p).kd=4 from a)];rw[mW]at h;obtain⟨⟨_,_,_,_,_,_,o,d⟩,q,_⟩:=h;rcases q with⟨b,_⟩|⟨b,_⟩|⟨b,_⟩|⟨b,_⟩|⟨_,_,r,u,t,_⟩
   .omega
   .omega
   .omega
   .omega
   subst a r u;exact Jh j o t (λa b=>⟨(d a b).u,(d a b).w,(d a b).t⟩) f g e p
  .rw[aid (show ¬(aD.mk k l f m g e (cc c s).1 p).kd=4 from a)];exact Ji i h a j
def A9:∀(l:List aH) (T:TE) (K:KE) (s:DS),qh T->gF en (uT a_) T K l->bws l<=2500000->Jf en a_ T K l s
 |[],T,K,s,a,h,d=>by
  constructor<;>rw[cc]
  .grind
  .grind
  .grind
  .grind
  .simp[uP,wz]
  .simp[dP]
  .exactλa a _=>by simp[gF]
 |.mk n b u w p::l,T,K,s,e,h,g=>by
  rw[gF]at h;have f:bws (.mk n b u w p::l)=uN b+bws l:=rfl;rw[f]at g;have a:=FY b T K s e h.1 (by omega);have c:=A9 l T K (gf b s).2 e h.2 (by omega);have v:=a.le;have y:=c.le;have o:=a.n;have q:=c.n;have r:=a.w;have t:=c.w;have z:=a.dp;have A:=c.dp;have i:cc (.mk n b u w p::l) s=(.mk n (gf b s).1 u w p::(cc l (gf b s).2).1,(cc l (gf b s).2).2):=by rw[cc,vy]
  constructor<;>rw[i]<;>dsimp only
  .omega
  .grind
  .exactλh=>c.es (a.es h)
  .rw[aia,aia,c.len]
  .intro j d;rcases aib.1 d with rfl|d
   .exact⟨_,ajf ..,W,W,W,a.df⟩
   .obtain⟨x,k,m⟩:=c.df j d;exact⟨x,by simp[k],m⟩
  .rw[f];have:uP (.mk n (gf b s).1 u w p::(cc l (gf b s).2).1)=iG (gf b s).1+uP (cc l (gf b s).2).1:=rfl;omega
  .rw[dP,dP];omega
  .exactλd e f=>by rw[gF];exact⟨a.pr d e f,c.pr d e f⟩
end
end
def uU(e:Xp):1<=bJ e:=by cases e;rw[bJ];omega
def zp{c:Nat} :∀{l:List Xp},(∀a∈l,bJ a<=c)->l.length<=aP l/\aP l<=l.length*c
 |[],_=>by simp[aP]
 |a::l,h=>by
  have d:=h a (by simp);have d:=zp (l:=l) λb d=>h b (by simp[d])
  have d:=uU a;rw[aP,aia,aiY];omega
section
variable{en:List En}{P:xh}
def Jj{T:TE}{K:KE}{q:aD}(h:mW en P T K q):(fG q.ex/\n8 q.ex)/\(∀a∈q.args,fG a/\n8 a)/\bJ q.ex<=100/\q.args.length<=2/\(q.args.length<=aP q.args/\aP q.args<=200)/\q.lhs.length<=2/\q.ai.length<=3/\∀a∈q.ai,FV P a:=by
 cases q with|mk k g f j i e b p=>
 rw[mW]at h;obtain⟨⟨t,l,u,m,n,c,o,r⟩,s,_⟩:=h;have d:=zp λa b=>(c a b).2
 refine⟨?_,λa b=>eP.sh a (c a b).1,n,m,?_,l,o,r⟩
 .rcases s with⟨_,⟨_,_,h⟩,_⟩|⟨_,_,h|⟨_,h⟩,_⟩|⟨_,_,_,h,_⟩|⟨_,_,_,h,_⟩|⟨_,_,_,_,_,h⟩
  .exact eP.sh e h
  .exact eP.sh e h
  .rw[show(aD.mk k g f j i e b p).ex=e from rfl,h];exact uM
  .exact eP.sh e h
  .exact eP.sh e h
  .rw[show(aD.mk k g f j i e b p).ex=e from rfl,h];exact uM
 .refine⟨d.1,aiz d.2 ?_⟩;omega
def Ml(q:aD):Prop:=(∀a∈q.ai,zP a.aT)/\q.ai.length<=3/\(n8 q.ex/\q.args.length<=1000000/\∀e∈q.args,n8 e)/\q.lhs.length<=1000000/\∀a∈q.ai,a.eQ.length<=1000000/\a.eB.length<=1000000
variable(en)
structure Mm(T:TE)(b:bF):Prop where
 wf:z7 en T b
 sm:zP b
 df:∀x∈cy b,(T x).isSome=true
 dn:6*k9 b<=iG b
structure L1(T:TE)(l:List aD):Prop where
 wf:lk en T l
 sm:∀q∈l,Ml q
 df:∀q∈l,∀x∈bX q,(T x).isSome=true
 dn:6*nK l<=gj l
 ln:4*l.length<=gj l
structure L3(T:TE)(l:List aH):Prop where
 wf:kF en T l
 sm:∀a∈l,zP a.aT
 df:∀a∈l,∀x∈cy a.aT,(T x).isSome=true
 dn:∀n,6*kn l<=fP n l
variable{en}
mutual
def FZ{a_:Nm->Prop} :∀(b:bF) (T:TE) (K:KE),mu en (mM a_) T K b->iG b<=2500000->Mm en T b
 |.mk l i,T,K,h,f=>by
  rw[mu]at h;rw[iG]at f;obtain⟨e,c⟩:=h;have d:=e.n
  dsimp only at d
  have g:=Ds i _ _ c (by omega);have j:=g.ln;have k:=g.dn;refine⟨?_,.mk (by omega) (by omega) (λq a=>(g.sm q a).1) (λq a=>by have:=(g.sm q a).2.1;omega) (λq a=>(g.sm q a).2.2.1) (λq a=>(g.sm q a).2.2.2.1) λq a=>(g.sm q a).2.2.2.2,λx a=>?_,?_⟩
  .rw[z7];exact⟨λv h=>by have:=(e.ck v h).1;omega,by omega,by omega,g.wf⟩
  .rw[ku]at a;obtain⟨⟨q,c,a⟩,d⟩:=a;have:=g.df q c x a;rw[<-rU (T:=T) (rS.1 d)];exact this
  .rw[k9,iG];omega
def Ds{a_:Nm->Prop} :∀(l:List aD) (T:TE) (K:KE),fq en (mM a_) T K l->gj l<=2500000->L1 en T l
 |[],T,K,h,a=>⟨by rw[lk];trivial,λq h=>by simp at h,λq h=>by simp at h,by simp[nK,gj],by simp[gj]⟩
 |.mk k c i m j e a p::l,T,K,h,B=>by
  rw[fq]at h;rw[gj,mG]at B;have b:=Ds l T K h.2 (by omega);have g:=Jj h.1;obtain⟨n,o,C,D,t,E,u,r⟩:=g;simp only[aD.ex,aD.args,aD.lhs,aD.ai]at n o C D t E u r;have v:=h.1;rw[mW]at v;obtain⟨⟨F,_,w,_⟩,y,G⟩:=v;have f:=Du a T K G (aQ c a).length (by omega);have L:=b.dn;have M:=b.ln;have z:∀x∈aQ c a,(T x).isSome=true:= λx d=>by
   rw[eT]at d;rcases d with d|⟨s,H,d⟩
   .exact F x d
   .exact f.df s H x d
  have I:=uU e;have J:6*(c.length+kn a)<=mG (.mk k c i m j e a p):=by
   have:=f.dn (aQ c a).length;rw[mG];rcases y with⟨_,⟨x,h,_⟩,_⟩|⟨_,_,_,_,_,h⟩|⟨_,h,_⟩|⟨_,h,_⟩|⟨h,_⟩
   .rw[h]at this⊢;have s:1<=(aQ [x] a).length:=akW (eT.2 (.inl (ajf ..)));simp only[aia,List.length_nil];omega
   .have s:c.length<=(aQ c a).length:=kv _ _ w λx a=>eT.2 (.inl a)
    rw[h]at t⊢;omega
   .rw[h]at this⊢;simp only[List.length_nil];omega
   .rw[h]at this⊢;simp only[List.length_nil];omega
   .exact h.elim
  have A:∀q∈aD.mk k c i m j e a p::l,q=aD.mk k c i m j e a p\/q∈l:= λq a=>aib.1 a
  refine⟨?_,λq d=>?_,λq d x g=>?_,?_,?_⟩
  .rw[lk];refine⟨?_,b.wf⟩;rw[CV];refine⟨n.1,λa c=>(o a c).1,⟨by omega,by omega,by omega,by omega⟩,?_,f.wf⟩;rcases y with⟨h,_⟩|⟨h,_⟩|⟨h,s,_,_,H⟩|⟨h,_,_,_,s⟩|⟨h,_⟩
   .exact .inl h
   .exact .inr (.inl h)
   .refine .inr (.inr (.inr ⟨h,H,z,by omega,f.sm,?_,w⟩));have:mG (.mk k c i m j e a p)<=2500000:=by rw[mG];omega
    omega
   .exact .inr (.inr (.inl ⟨h,λe=>by rw[e]at s;simp at s⟩))
   .exact h.elim
  .rcases A q d with rfl|d
   .exact⟨f.sm,u,⟨n.2,by simp only[aD.args];omega,λe a=>(o e a).2⟩,by simp only[aD.lhs];omega,λa c=>⟨by have:=(r a c).u;omega,by have:=(r a c).w;omega⟩⟩
   .exact b.sm q d
  .rcases A q d with rfl|d
   .rw[bX]at g;exact z x g
   .exact b.df q d x g
  .rw[nK,gj,qe];omega
  .rw[gj,aia,mG];omega
def Du{a_:Nm->Prop} :∀(l:List aH) (T:TE) (K:KE),gF en (mM a_) T K l->∀n,fP n l<=2500000->L3 en T l
 |[],T,K,h,n,a=>⟨by rw[kF];trivial,λa h=>by simp at h,λa h=>by simp at h,λn=>by simp[kn,fP]⟩
 |.mk f b u w p::l,T,K,h,n,e=>by
  rw[gF]at h;rw[fP]at e;have d:=FZ b T K h.1 (by omega);have c:=Du l T K h.2 n (by omega);have g:=d.dn;refine⟨by rw[kF];exact⟨d.wf,c.wf⟩,λx a=>?_,λx a=>?_,λn=>?_⟩
  .rcases aib.1 a with rfl|a
   .exact d.sm
   .exact c.sm x a
  .rcases aib.1 a with rfl|a
   .exact d.df
   .exact c.df x a
  .have:=c.dn n;rw[kn,qS,fP];omega
end
mutual
def F7{a_:Nm->Prop} :∀(b:bF) (T:TE) (K:KE),mu en (uT a_) T K b->uN b<=2500000->CI b
 |.mk j g,T,K,h,c=>by
  rw[mu]at h;rw[uN]at c;obtain⟨d,e⟩:=h;obtain⟨i,a⟩:=Dv g _ _ e (by omega);have f:=d.n
  dsimp only at f
  exact .mk (by simp only[bF.vars];omega) (by simp only[bF.eqs];omega) (λq c=>(a q c).1) λq c=>(a q c).2
def Dv{a_:Nm->Prop} :∀(l:List aD) (T:TE) (K:KE),fq en (uT a_) T K l->iV l<=2500000->4*l.length<=iV l/\∀q∈l,(q.ai.length<=1000/\(q.kd=4->q.ai≠[])/\∀a∈q.ai,a.name.size<=1000000000/\a.eQ.length<=1000000/\a.eB.length<=1000000/\(∀t∈a.eQ,t.to.size<=1000000000)/\(∀t∈a.eB,t.to.size<=1000000000))/\∀a∈q.ai,CI a.aT
 |[],T,K,h,b=>⟨by simp,λq h=>by simp at h⟩
 |.mk r p s D C e c u::l,T,K,h,g=>by
  rw[fq]at h;rw[iV,qm]at g;obtain⟨v,i⟩:=Dv l T K h.2 (by omega);obtain⟨w,x,y,z,A,B,j,d⟩:=Jj h.1;simp only[aD.ai]at j d;have f:=h.1;rw[mW]at f;obtain⟨_,k,m⟩:=f;refine⟨by rw[iV,qm,aia];split<;>omega,λq b=>?_⟩;rcases aib.1 b with rfl|b
  .refine⟨⟨by simp only[aD.ai];omega,λn=>?_,λa o=>?_⟩,(Dw c T K m (aQ p c).length (by omega))⟩
   .simp only[aD.kd]at n;rcases k with⟨h,_⟩|⟨h,_⟩|⟨h,_⟩|⟨h,_⟩|⟨_,_,_,_,h,_⟩
    .omega
    .omega
    .omega
    .omega
    .exact h
   .have h:=d a o;exact⟨by have:=h.nm trivial;omega,by have:=h.u;omega,by have:=h.w;omega,λt b=>by have:=(h.t t (by simp[b])).2.2;omega,λt b=>by have:=(h.t t (by simp[b])).2.2;omega⟩
  .exact i q b
def Dw{a_:Nm->Prop} :∀(l:List aH) (T:TE) (K:KE),gF en (uT a_) T K l->∀n,lq n l<=2500000->∀a∈l,CI a.aT
 |[],T,K,h,n,c=> λa h=>by simp at h
 |.mk e b u w p::l,T,K,h,n,d=>by
  rw[gF]at h;rw[lq]at d;intro a c;rcases aib.1 c with rfl|c
  .exact F7 b T K h.1 (by omega)
  .exact Dw l T K h.2 n (by omega) a c
end
end
variable{N n n' i j:Nat}{κ NO:KE}{y:Nm}{r:R}
def lS(n:Nat)(y:Nm):Prop:=∀j,n<j->y≠nV j
def lS.mono(h:lS n y)(a:n<=n'):lS n' y:= λj a=>h j (by omega)
def lS.new(n:Nat):lS (n+1) (nV (n+1)):= λj a e=>by have:=(uO e).2;omega
def lS.ne(h:lS n y):y≠nV (n+1):=h _ (ajU _)
structure Gk(κ a:KE)(n b:Nat):Prop where
 le:n<=b
 eq:∀y,lS n y->a y=κ y
def Gk.refl(κ:KE)(n:Nat):Gk κ κ n n:=⟨ah9 _,λ_ _=>rfl⟩
def Gk.trans{a b c:KE}{k:Nat}(h:Gk a b i j)(g:Gk b c j k):Gk a c i k:=⟨aiz h.le g.le,λy d=>by rw[g.eq y (d.mono h.le),h.eq y d]⟩
mutual
theorem rv(en:List En)(s:Sc):∀(e:Xp) (c:Nat),eP e c->dV en (cp s e) c/\dZ (cp s e)=dZ e
 |.mk v z w x C b y,c,h=>by
  rw[eP]at h;obtain⟨⟨d,f,r,g,i,j,k,a,l,A,B⟩,t⟩:=h;obtain⟨m,n⟩:=A_ en s b _ t;have q:=zt s b;have o:b≠[]->ig s b≠[]:= λh e=>h (ajC.1 (by grind))
  rw[cp];split
  .rw[dV,dZ,dZ,q,n];refine⟨⟨⟨d,f,by omega,λh=>by omega,g,i,λh=>o (j h),k,λh=>⟨(a h).1,(a h).2.1,(a h).2.2.1,(a h).2.2.2⟩,l,by omega,by omega⟩,m⟩,rfl⟩
  .split
   .rename_i p;have u:=r (.inr p);subst u;subst p;rw[dV,dZ,dZ];refine⟨⟨by grind,by grind⟩,by grind⟩
   .rename_i u p;rw[dV,dZ,dZ,q,n];refine⟨⟨⟨d,f,p,λh=>by grind,g,i,λh=>o (j h),k,λh=>⟨(a h).1,(a h).2.1,(a h).2.2.1,(a h).2.2.2⟩,l,by omega,by omega⟩,m⟩,rfl⟩
theorem A_(en:List En)(s:Sc):∀(l:List Xp) (c:Nat),fJ l c->fg en (ig s l) c/\bC (ig s l)=bC l
 |[],c,h=>by rw[ig,fg,bC];exact⟨trivial,W⟩
 |e::l,c,h=>by
  rw[fJ]at h;have a:=rv en s e c h.1;have b:=A_ en s l c h.2;rw[ig,fg,bC,bC,a.2,b.2];exact⟨⟨a.1,b.1⟩,W⟩
theorem zt(s:Sc):∀l:List Xp,(ig s l).length=l.length
 |[]=>by rw[ig]
 |e::l=>by rw[ig,aia,aia,zt s l]
end
mutual
def ry(s:Sc):∀e:Xp,bJ (cp s e)=bJ e
 |.mk k b n x c a p=>by
  have h:=A' s a;rw[cp];split
  .rw[bJ,bJ,h]
  .split<;>rw[bJ,bJ,h]
def A'(s:Sc):∀l:List Xp,aP (ig s l)=aP l
 |[]=>by rw[ig]
 |e::l=>by rw[ig,aP,aP,ry s e,A' s l]
end
def Ba:∀(l:List (Nm×Nm)) (e:Xp),bJ (l.foldl gS e)=bJ e+l.length
 |[],e=>rfl
 |o::l,e=>by rw[aii,Ba l,aia];simp only[gS,bJ,aP];omega
def Dx(s:Sc)(b:Bd):bJ (oJ s b)<=1+s.ck.length:=by
 unfold oJ;rw[Ba,akp];simp only[bJ,aP];omega
mutual
theorem dV.mono(en:List En):∀(e:Xp) {c a:Nat},dV en e c->c<=a->dV en e a
 |.mk q u r x w p s,c,t,h,v=>by
  rw[dV]at h⊢;obtain⟨⟨a,b,d,f,g,i,j,k,l,m,n⟩,o⟩:=h;exact⟨⟨a,b,d,f,g,i,j,k,λa=>⟨by grind,(l a).2⟩,m,n⟩,fg.mono en p o (by grind)⟩
theorem fg.mono(en:List En):∀(l:List Xp) {c a:Nat},fg en l c->c<=a->fg en l a
 |[],_,_,_,_=>by rw[fg];trivial
 |e::l,c,b,h,a=>by rw[fg]at h⊢;exact⟨dV.mono en e h.1 a,fg.mono en l h.2 a⟩
end
mutual
def rX:∀e:Xp,dZ e<=bJ e
 |.mk k b n x c a p=>by rw[dZ,bJ];have:=uV a;split<;>omega
def uV:∀l:List Xp,bC l<=aP l
 |[]=>by simp[bC,aP]
 |e::l=>by rw[bC,aP];have:=rX e;have:=uV l;omega
end
def uW(en:List En)(x:Nm)(c:Nat):dV en (aZ x) c:=by simp[dV,fg]
def Bb(en:List En):∀(l:List (Nm×Nm)) (e:Xp) (c:Nat),dV en e c->dZ e=0->dV en (l.foldl gS e) (c+l.length)/\dZ (l.foldl gS e)=0
 |[],e,c,h,a=>⟨h,a⟩
 |o::l,e,c,h,a=>by
  have:=Bb en l (gS e o) (c+1) (by simp[dV,fg,bC,a,h]) (by simp[dZ,bC,a]);rw[aii,aia,show c+(l.length+1)=c+1+l.length by omega];exact this
section
variable(en:List En)(a_:Nm->Prop)
mutual
def sj(κ:KE)(n:Nat):aD->Prop
 |.mk k c f a d e b p=>((k=1/\(∃y,c=[y]/\lS n y/\dV en e (κ y))/\a=[]/\b=[])\/
   (k=2/\c≠[]/\a.length=2/\(∀b∈a,dV en b 0)/\(d=true->dV en e 0)/\a_ f/\b=[])\/(k=5/\a=[]/\b.length=1))/\bJ e+aP a<=400/\kM κ n b
def kM(κ:KE)(n:Nat):List aH->Prop
 |[]=>True
 |.mk _ b _ _ _::l=>tD κ n b/\kM κ n l
def tD(κ:KE)(n:Nat):bF->Prop
 |.mk _ a=>dc κ n a
def dc(κ:KE)(n:Nat):List aD->Prop
 |[]=>True
 |q::l=>sj κ n q/\dc κ n l
end
variable{en a_}
mutual
def sj.grow(g:Gk κ NO n n'):∀q:aD,sj en a_ κ n q->sj en a_ NO n' q
 |.mk k j i m l e f p,h=>by
  rw[sj]at h⊢;refine⟨?_,h.2.1,kM.grow g f h.2.2⟩;rcases h.1 with⟨a,⟨y,b,c,d⟩,e⟩|h|h
  .exact .inl ⟨a,⟨y,b,c.mono g.le,by rw[g.eq y c];exact d⟩,e⟩
  .grind
  .grind
def kM.grow(g:Gk κ NO n n'):∀l:List aH,kM en a_ κ n l->kM en a_ NO n' l
 |[],h=>by rw[kM];trivial
 |.mk _ b _ _ _::l,h=>by rw[kM]at h⊢;exact⟨tD.grow g b h.1,kM.grow g l h.2⟩
def tD.grow(g:Gk κ NO n n'):∀b:bF,tD en a_ κ n b->tD en a_ NO n' b
 |.mk _ a,h=>by rw[tD]at h⊢;exact dc.grow g a h
def dc.grow(g:Gk κ NO n n'):∀l:List aD,dc en a_ κ n l->dc en a_ NO n' l
 |[],h=>by rw[dc];trivial
 |q::l,h=>by rw[dc]at h⊢;exact⟨sj.grow g q h.1,dc.grow g l h.2⟩
end
def dc.app:∀{a b:List aD},dc en a_ κ n (a++b)↔dc en a_ κ n a/\dc en a_ κ n b
 |[],b=>by simp[dc]
 |q::a,b=>by simp only[aiA,dc,dc.app (a:=a),and_assoc]
mutual
def we:aD->Nat
 |.mk _ _ _ a _ e b _=>a.length+2+dZ e+bC a+n5 b
def n5:List aH->Nat
 |[]=>0
 |.mk _ b _ _ _::l=>Ac b+n5 l
def Ac:bF->Nat
 |.mk _ a=>eE a
def eE:List aD->Nat
 |[]=>0
 |q::l=>we q+eE l
end
def gG:∀a b:List aD,eE (a++b)=eE a+eE b
 |[],b=>by simp[eE]
 |q::a,b=>by simp only[aiA,eE,gG a b,ajG]
def kN:∀a b:List aD,gm (a++b)=max (gm a) (gm b)
 |[],b=>by simp[gm]
 |q::a,b=>by simp only[aiA,gm,kN a b];omega
variable(en a_)
structure MI(κ:KE)(m:MS):Prop where
 a:∀v∈m.vars,κ v.name<=v.clock.length/\v.clock.length<=100/\lS m.n v.name
 d:∀y,0<κ y->∃v∈m.vars,v.name=y
structure Iv(κ K:KE)(N:Nat)(r:R):Prop where
 m:MI κ r.m
 s:∀x,K x<=κ (r.s.vars.nm x)/\lS r.m.n (r.s.vars.nm x)
 q:dc en a_ κ r.m.n r.q
 dd:gm r.q<=N
 sc:eg r.s
 cl:r.s.ck.length<=90
variable{en a_}
def MI.fresh{m:MS}(h:MI κ m)(t:Int×Nm)(b:List (Nm×Nm))(f:b.length<=100):MI (λy=>if y=nV (m.n+1)then b.length else κ y) (m.fresh t b)/\Gk κ (λy=>if y=nV (m.n+1)then b.length else κ y) m.n (m.n+1):=by
 refine⟨⟨λv a=>?_,λy c=>?_⟩,⟨by omega,λy a=>aid a.ne⟩⟩
 .simp only[MS.fresh,ain,aib,aip,aiJ]at a;rcases a with a|rfl
  .obtain⟨g,i,d⟩:=h.a v a;exact⟨by simp only[aid d.ne];exact g,i,d.mono (by simp[MS.fresh])⟩
  .exact⟨by simp,f,lS.new _⟩
 .simp only[MS.fresh]at c⊢;split at c
  .simp_all
  .obtain⟨v,a,e⟩:=h.d y c;exact⟨v,ai6 _ a,e⟩
def Iv.add{K:KE}(h:Iv en a_ κ K N r)(f:∀x,K x<=1)(a:Sc)(t:Int×Nm)(b:List (Nm×Nm))(c:List aD)(g:∀x,a.vars.nm x=r.s.vars.nm x\/a.vars.nm x=nV (r.m.n+1)/\1<=b.length)
  (i:b.length<=100) (j:eg a) (k:a.ck=r.s.ck) (l:∀a:KE,a (nV (r.m.n+1))=b.length->dc en a_ a (r.m.n+1) c) (o:gm c=0):
  ∃d,Iv en a_ d K N ⟨a,r.m.fresh t b,r.q++c⟩/\Gk κ d r.m.n (r.m.n+1):=by
 obtain⟨m,d⟩:=h.m.fresh t b i;refine⟨_,⟨m,λx=>?_,?_,?_,j,by rw[k];exact h.cl⟩,d⟩
 .dsimp only[MS.fresh]
  rcases g x with e|⟨e,n⟩
  .rw[e];have:=(h.s x).2;rw[aid this.ne];exact⟨(h.s x).1,this.mono (by omega)⟩
  .rw[e,air W];exact⟨aiz (f x) n,lS.new _⟩
 .rw[dc.app];exact⟨dc.grow d _ h.q,l _ (by simp)⟩
 .have:=h.dd;rw[kN];omega
def Iv.put{K:KE}(h:Iv en a_ κ K N r)(a:List aD)(b:dc en a_ κ r.m.n a)(c:gm a<=N):Iv en a_ κ K N ⟨r.s,r.m,r.q++a⟩:=
 ⟨h.m,h.s,by rw[dc.app];exact⟨h.q,b⟩,by have:=h.dd;rw[kN];omega,h.sc,h.cl⟩
def To(en:List En)(a_:Nm->Prop)(K:KE)(N:Nat)(r a:R)(w:Nat):Prop:=∀b,Iv en a_ b K N r->∃c,Iv en a_ c K N a/\Gk b c r.m.n a.m.n/\eE a.q<=eE r.q+w/\a.s.ck=r.s.ck
def To.refl{K:KE}(r:R):To en a_ K N r r 0:= λa h=>⟨a,h,.refl _ _,ah9 _,rfl⟩
def To.trans{K:KE}{a b c:R}(h:To en a_ K N a b i)(g:To en a_ K N b c j):To en a_ K N a c (i+j):= λd e=>by
 obtain⟨f,k,l,r,m⟩:=h d e;obtain⟨n,o,p,s,q⟩:=g f k;exact⟨n,o,l.trans p,by omega,q.trans m⟩
def To.fold{α:Type}{K:KE}{N w:Nat}{f:R->α->R}(h:∀r x,To en a_ K N r (f r x) w):∀(l:List α) (r:R),To en a_ K N r (l.foldl f r) (l.length*w)
 |[],r=>by simpa using To.refl (en:=en) (a_:=a_) (K:=K) (N:=N) r
 |x::l,r=>by
  have:=(h r x).trans (To.fold h l (f r x));rw[aii,aia,aiY,aj5,Nat.one_mul];exact this
def rz{e:Xp}{p:Int×Int}(h:lS n y)(a:dV en e (κ y))(hi:bJ e<=400):dc en a_ κ n [gY y e p]:=by
 rw[dc,sj];exact⟨⟨.inl ⟨W,⟨y,W,h,a⟩,W,W⟩,by simpa [aP] using hi,by simp[kM]⟩,by simp[dc]⟩
def tE(y:Nm)(e:Xp)(p:Int×Int):gm [gY y e p]=0:=by simp[gm,xg,q8]
def tF(y:Nm)(e:Xp)(p:Int×Int):eE [gY y e p]=2+dZ e:=by simp[eE,we,n5,bC]
theorem Dy(s:Sc)(b:Bd){c:Nat}(e:s.ck.length<=c):dV en (oJ s b) c/\dZ (oJ s b)=0:=by
 obtain⟨a,d⟩:=Bb en (s.ck.drop b.k7) (aZ b.name) 0 (uW _ _ _) (by simp[dZ,bC]);exact⟨dV.mono en _ a (by grind),d⟩
def uX(f:Env)(x y:Nm)(b:Bd):(f.set x b).nm y=if y=x then b.name else f.nm y:=by
 unfold Env.set Env.nm;by_cases h:y=x
 .simp[h]
 .simp[h]
theorem To.cM{K:KE}(g:∀x,K x<=1)(r:R)(x:Nm):To en a_ K N r (cM r x) 2:=by
 intro c h;have a:=(bu.cM h.sc x).sc;unfold Go.Ps.cM at a⊢;cases d:r.s.vars x with
 |none=>exact⟨c,h,.refl _ _,by simp,rfl⟩
 |some b=>
  rw[d]at a
  dsimp only at a⊢
  by_cases f:b.k7=r.s.ck.length
  .rw[air f];exact⟨c,h,.refl _ _,by omega,rfl⟩
  .rw[aid f]at a⊢;have n:=h.sc.v x b d;have m:=h.cl;have i:=Dy (en:=en) r.s b (ah9 _);obtain⟨j,k,l⟩:=h.add g _ (b.tk,b.tn) r.s.ck _ (λy=>by
    dsimp only
    rw[uX];split
    .grind
    .grind) (by omega) a W (λa a=>rz (y:=nV (r.m.n+1)) (e:=oJ r.s b) (p:=(0,0)) (lS.new _) (by grind) (by have:=Dx r.s b;omega)) (tE _ _ _)
   exact⟨j,k,l,by rw[gG,tF,i.2];omega,rfl⟩
theorem To.fm{K:KE}(f:∀x,K x<=1)(r:R)(x:Nm):To en a_ K N r (fm r x) 2:=by
 intro c h;have a:=(bu.fm h.sc x).sc;unfold Go.Ps.fm at a⊢;cases g:r.s.aO x with
 |none=>exact⟨c,h,.refl _ _,by simp,rfl⟩
 |some b=>
  rw[g]at a
  dsimp only at a⊢
  by_cases d:b.k7=r.s.ck.length
  .rw[air d];exact⟨c,h,.refl _ _,by omega,rfl⟩
  .rw[aid d]at a⊢;have m:=h.cl;have i:=Dy (en:=en) r.s b (ah9 _);obtain⟨j,k,l⟩:=h.add f ⟨r.s.vars,r.s.aO.set x ⟨nV (r.m.n+1),r.s.ck.length,b.tk,b.tn⟩,r.s.ck⟩ (b.tk,b.tn) r.s.ck _ (λy=>.inl W) (by omega) a W (λa a=>rz (y:=nV (r.m.n+1)) (e:=oJ r.s b) (p:=(0,0)) (lS.new _) (by grind) (by have:=Dx r.s b;omega)) (tE _ _ _);exact⟨j,k,l,by rw[gG,tF,i.2];omega,rfl⟩
def To.gL{K:KE}{a:R}(h:To en a_ K N r a i)(k:i<=j):To en a_ K N r a j:= λb c=>by
 obtain⟨d,e,f,l,g⟩:=h b c;exact⟨d,e,f,by omega,g⟩
def To.fZ{K:KE}(a:∀x,K x<=1)(r:R)(e:Xp):To en a_ K N r (cB r e) (4*bJ e):=by
 have b:=lK e [];have c:=pT e [];refine((To.fold (en:=en) (a_:=a_) (K:=K) (N:=N) (λr x=>To.cM a r x) (hM e []) r).trans (To.fold (en:=en) (a_:=a_) (K:=K) (N:=N) (λr x=>To.fm a r x) (kZ e []) ((hM e []).foldl Go.Ps.cM r))).gL ?_;simp only[List.length_nil]at b c;omega
def To.val{K:KE}(b:∀x,K x<=1)(r:R)(e:Xp)(t:Int×Nm)(f:eP e 0)(m:bJ e<=100):To en a_ K N r (gM r e t) (5*bJ e+2):=by
 intro d h;obtain⟨n,a,g,o,i⟩:=To.fZ b r e d h;have p:=a.cl;have c:=rv en (cB r e).s e 0 f;obtain⟨j,k,l⟩:=a.add b (cB r e).s t (cB r e).s.ck [gY (nV ((cB r e).m.n+1)) (cp (cB r e).s e) e.ps] (λy=>.inl W) (by omega) a.sc W
  (λa a=>rz (lS.new _) (dV.mono en _ c.1 (aja _)) (by rw[ry];omega)) (tE _ _ _)
 refine⟨j,k,g.trans l,?_,i⟩;have:=rX e;unfold Ps.gM
 dsimp only
 rw[gG,tF,c.2];omega
end
end Go.Pm
namespace Go.Pm
open Go.Mt Go.Sm Go.Ps Go.Ex
variable{r:R}{κ:KE}{N:Nat}{P:List Va}{e:Xp}
section
variable(en:List En)(a_:Nm->Prop)
structure Pd(κ K:KE)(P:List Va)(r:R):Prop where
 a:∀v∈r.m.vars,κ v.name<=v.clock.length/\v.clock.length<=100/\lS r.m.n v.name
 d:∀y,0<κ y->(∃v∈r.m.vars,v.name=y)\/∃v∈P,r.s.vars.nm v.name=y
 p:∀v∈P,κ (r.s.vars.nm v.name)<=v.clock.length/\∃b,r.s.vars v.name=some b/\b.k7=r.s.ck.length
 s:∀x,K x<=κ (r.s.vars.nm x)/\lS r.m.n (r.s.vars.nm x)
 q:dc en a_ κ r.m.n r.q
 dd:gm r.q=0
variable{en a_}
def Pd.bind{K:KE}(h:Pd en a_ κ K P r)(v:Va)(d:∀w∈P,w.name≠v.name):∃a,Pd en a_ a (K.add v) (P++[v]) (dt false r v)/\Gk κ a r.m.n (r.m.n+1):=by
 have g:Gk κ (λy=>if y=nV (r.m.n+1)then v.clock.length else κ y) r.m.n (r.m.n+1):=⟨by omega,λy a=>aid a.ne⟩;have e:∀x,(dt false r v).s.vars.nm x=if x=v.name then nV (r.m.n+1)else r.s.vars.nm x:= λx=>uX _ _ _ _
 refine⟨_,⟨λw a=>?_,λy f=>?_,λw a=>?_,λx=>?_,dc.grow g _ h.q,h.dd⟩,g⟩
 .obtain⟨i,j,c⟩:=h.a w a;exact⟨by rw[aid c.ne];exact i,j,c.mono (by simp[dt])⟩
 .split at f
  .grind
  .rcases h.d y f with c|⟨w,a,c⟩
   .exact .inl c
   .grind
 .rw[e];rcases ain.1 a with a|a
  .obtain⟨c,b,i,j⟩:=h.p w a;rw[aid (d w a),aid (h.s w.name).2.ne];refine⟨c,b,?_,j⟩;show(Env.set _ _ _) _=_;unfold Env.set;rw[aid (d w a)];exact i
  .simp only[aib,aip,aiJ]at a;subst a;rw[air W,air W];refine⟨ah9 _,⟨nV (r.m.n+1),r.s.ck.length,w.tk,w.tn⟩,?_,W⟩;show(Env.set _ _ _) _=_;unfold Env.set;rw[air W];rfl
 .rw[e];unfold KE.add;by_cases c:x=v.name
  .rw[air c,air c,air W];exact⟨ah9 _,lS.new _⟩
  .rw[aid c,aid c,aid (h.s x).2.ne];exact⟨(h.s x).1,(h.s x).2.mono (by simp[dt])⟩
theorem Pd.binds:∀(l:List Va) {κ K:KE} {P:List Va} {r:R},Pd en a_ κ K P r->(l.map (·.name)).Nodup->(∀v∈l,∀w∈P,w.name≠v.name)->∃a,Pd en a_ a (l.foldl KE.add K) (P++l) (l.foldl (dt false) r)/\Gk κ a r.m.n (l.foldl (dt false) r).m.n
 |[],κ,K,P,r,h,_,_=>⟨κ,by simpa using h,.refl _ _⟩
 |v::l,κ,K,P,r,h,a,b=>by
  rw[aiq,ajk]at a;obtain⟨g,c,d⟩:=h.bind v (b v (by simp));obtain⟨e,i,f⟩:=Pd.binds l c a.2 λw a u a=>by
   grind
  exact⟨e,by grind,d.trans f⟩
def Bc:∀l:List Nm,(∀x∈l,∃b,r.s.vars x=some b/\b.k7=r.s.ck.length)->l.foldl cM r=r
 |[],_=>rfl
 |x::l,h=>by
  obtain⟨b,a,c⟩:=h x (by simp);have:cM r x=r:=by unfold cM;rw[a];dsimp only;rw[air c]
  rw[aii,this];exact Bc l λy a=>h y (by simp[a])
def F8(h:B9 e)(c:Nat):dV en e c/\dZ e=0:=by
 obtain⟨⟨a,f⟩,b,d⟩:=h;cases e with|mk k g n x j i p=>
 simp only[Xp.kd,Xp.kids,Xp.names]at a f b d;subst b d;rw[dV,dZ];refine⟨⟨⟨a,by omega,by omega,λ_=>rfl,by omega,by omega,by omega,by omega,by omega,by omega,by simp,by simp⟩,by simp[fg]⟩,?_⟩;rw[aid (by omega)];rfl
def F9(h:B9 e):bJ e=1:=by
 obtain⟨_,a,_⟩:=h;rw[uo,a,aP]
def Pd.decl{K:KE}{v:Va}(h:Pd en a_ κ K (v::P) r)(m:r.s.ck.length<=90)(n:v.clock.length<=1)(d:v.last=true->B9 v.first):
  ∃a,Pd en a_ a K P (dU r v)/\Gk κ a r.m.n (dU r v).m.n/\eE (dU r v).q<=eE r.q+3/\(dU r v).s.ck=r.s.ck:=by
 obtain⟨o,_⟩:=h.p v (by simp);have b:Pd en a_ κ K P ⟨r.s,⟨r.m.n,r.m.vars++[⟨r.s.vars.nm v.name,v.tk,v.tn,r.s.ck++v.clock.map λo=>(o.1,r.s.vars.nm o.2),false,bR,v.ps⟩]⟩,r.q⟩:=by
  refine⟨λw a=>?_,λy f=>?_,λw a=>h.p w (by simp[a]),h.s,h.q,h.dd⟩
  .rcases ain.1 a with a|a
   .exact h.a w a
   .simp only[aib,aip,aiJ]at a;subst a;refine⟨?_,?_,((h.s v.name).2)⟩
    .simp only[ah6,ah8];omega
    .simp only[ah6,ah8];omega
  .rcases h.d y f with⟨w,a,e⟩|⟨w,a,e⟩
   .exact .inl ⟨w,ai6 _ a,e⟩
   .rcases aib.1 a with rfl|a
    .exact .inl ⟨_,ajq _ (ajf ..),e⟩
    .exact .inr ⟨w,a,e⟩
 unfold dU iO;by_cases c:v.last=true
 .rw[air c]
  dsimp only[MS.fresh]
  have g:Gk κ (λy=>if y=nV (r.m.n+1)then(r.s.ck++v.clock.map λo=>(o.1,r.s.vars.nm o.2)).length else κ y) r.m.n (r.m.n+1):=⟨by omega,λy a=>aid a.ne⟩;have i:=F8 (en:=en) (d c) (r.s.ck++v.clock.map λo=>(o.1,r.s.vars.nm o.2)).length;refine⟨_,⟨λw a=>?_,λy f=>?_,λw a=>?_,λx=>?_,?_,?_⟩,g,?_,rfl⟩
  .rcases ain.1 a with a|a
   .obtain⟨k,l,j⟩:=b.a w a;exact⟨by rw[aid j.ne];exact k,l,j.mono (ajR _)⟩
   .simp only[aib,aip,aiJ]at a;subst a;exact⟨by simp,by simp only[ah6,ah8];omega,lS.new _⟩
  .split at f
   .rename_i e;exact .inl ⟨_,ajq _ (ajf ..),e.symm⟩
   .rcases b.d y f with⟨w,a,e⟩|j
    .exact .inl ⟨w,ai6 _ a,e⟩
    .exact .inr j
  .obtain⟨j,k⟩:=b.p w a;exact⟨by rw[aid (b.s w.name).2.ne];exact j,k⟩
  .rw[aid (b.s x).2.ne];exact⟨(b.s x).1,(b.s x).2.mono (ajR _)⟩
  .rw[dc.app];refine⟨dc.grow g _ h.q,rz (lS.new _) ?_ (by simp only[jS,bJ,aP];rw[F9 (d c)];omega)⟩;rw[air W];simp only[jS,dV,fg];have j:=i.1;simp only[ah6,ah8]at j⊢;simp[j]
  .rw[kN,tE,h.dd];rfl
  .rw[gG,tF];simp[jS,dZ,bC,i.2]
 .rw[aid c];exact⟨κ,b,.refl _ _,by dsimp only;omega,rfl⟩
theorem Pd.decls:∀(P:List Va) {κ K:KE} {r:R},Pd en a_ κ K P r->r.s.ck.length<=90->(∀v∈P,v.clock.length<=1/\(v.last=true->B9 v.first))->
  ∃a,Pd en a_ a K [] (P.foldl dU r)/\Gk κ a r.m.n (P.foldl dU r).m.n/\eE (P.foldl dU r).q<=eE r.q+3*P.length/\(P.foldl dU r).s.ck=r.s.ck
 |[],κ,K,r,h,_,_=>⟨κ,h,.refl _ _,by simp,rfl⟩
 |v::P,κ,K,r,h,b,a=>by
  obtain⟨i,c,d,j,k⟩:=h.decl b (a v (by simp)).1 (a v (by simp)).2;obtain⟨e,f,g,l,m⟩:=Pd.decls P c (by grind) λw b=>a w (by simp[b])
  exact⟨e,f,d.trans g,by grind,by grind⟩
def Pd.opened{K:KE}{i:xh}(h:Pd en a_ κ K P r)(c:A5 i P)(d:r.s.ck.length<=90):
  ∃a,Pd en a_ a K [] (P.foldl dU ((P.flatMap λv=>v.clock.map λo=>o.2).foldl cM r))/\Gk κ a r.m.n (P.foldl dU ((P.flatMap λv=>v.clock.map λo=>o.2).foldl cM r)).m.n/\
   eE (P.foldl dU ((P.flatMap λv=>v.clock.map λo=>o.2).foldl cM r)).q<=eE r.q+3*P.length/\(P.foldl dU ((P.flatMap λv=>v.clock.map λo=>o.2).foldl cM r)).s.ck=r.s.ck:=by
 rw[Bc _ λx a=>?_]
 .exact h.decls P d λv b=>⟨(c.ck v b).1,c.la v b⟩
 .rw[List.mem_flatMap]at a;obtain⟨v,b,a⟩:=a;obtain⟨o,f,rfl⟩:=aij.1 a;obtain⟨w,g,e⟩:=(c.ck v b).2 o f;rw[<-e];exact(h.p w g).2
def Jk{K:KE}{s:Sc}{m:MS}{a:List Va}{P:xh}(h:Iv en a_ κ K N ⟨s,m,[]⟩)(c:A5 P a):∃b,Iv en a_ b (a.foldl KE.add K) N (je false ⟨s,m,[]⟩ a)/\Gk κ b m.n (je false ⟨s,m,[]⟩ a).m.n/\
  eE (je false ⟨s,m,[]⟩ a).q<=3*a.length/\(je false ⟨s,m,[]⟩ a).s.ck=s.ck:=by
 have i:Pd en a_ κ K [] ⟨s,m,[]⟩:=⟨h.m.a,λy a=>.inl (h.m.d y a),λv a=>by simp at a,h.s,h.q,by simp[gm]⟩;obtain⟨t,f,k⟩:=i.binds a c.nd λv _ w n=>by simp at n
 have d:=(bu.binds false a h.sc).ck;have o:(a.foldl (dt false) ⟨s,m,[]⟩).q=[]:=by
  have:∀(l:List Va) (r:R),(l.foldl (dt false) r).q=r.q:= λl=>by
   induction l with
   |nil=>intro r;rfl
   |cons v l p=>intro r;rw[aii,p];rfl
  exact this a _
 rw[aiK]at f;obtain⟨l,b,q,e,g⟩:=f.opened c (by rw[d];exact h.cl);refine⟨l,⟨⟨b.a,λy j=>?_⟩,b.s,b.q,?_,((bu.open (r:=⟨s,m,[]⟩) h.sc false a).sc),?_⟩,k.trans q,?_,g.trans d⟩
 .rcases b.d y j with h|⟨v,c,_⟩
  .exact h
  .simp at c
 .show gm (a.foldl dU _).q<=N;rw[b.dd];omega
 .show(a.foldl dU _).s.ck.length<=90;rw[g,d];exact h.cl
 .rw[o]at e;simp only[eE,ai8]at e;exact e
def Be{K:KE}(a:∀x,K x<=1):∀l:List Va,(∀v∈l,v.clock.length<=1)->∀x,(l.foldl KE.add K) x<=1:=by
 intro l
 induction l generalizing K with
 |nil=>intro _;exact a
 |cons v l b=>
  intro h;refine b (λx=>?_) λw a=>h w (by simp[a])
  unfold KE.add;split
  .grind
  .exact a x
def To.oM{K:KE}(c:∀x,K x<=1)(a:Sc):∀(l:List Nm) (r:R),1<=r.s.ck.length->To en a_ K N r (l.foldl (et a) r) 0
 |[],r,_=>To.refl r
 |x::l,r,d=>by
  have b:To en a_ K N r (et a r x) 0:=by
   intro g h;have i:=h.cl;obtain⟨e,b,f⟩:=h.add c ⟨r.s.vars.set x ⟨nV (r.m.n+1),r.s.ck.length,(a.vars.ty x).1,(a.vars.ty x).2⟩,r.s.aO,r.s.ck⟩ (a.vars.ty x) r.s.ck [] (λy=>by
    dsimp only
    rw[uX];split
    .grind
    .grind) (by omega) (bu.et h.sc a x).sc W (λa _=>by simp[dc]) (by simp[gm])
   rw[aiu]at b;exact⟨e,b,f,ah9 _,W⟩
  exact b.trans (To.oM c a l (et a r x) d)
def To.fv{K:KE}(c:∀x,K x<=1)(p:Int×Int)(r:R)(x:Nm):To en a_ K N r (fv p r x) 4:=by
 intro b h;obtain⟨d,a,e,g,f⟩:=To.fm c r x b h;refine⟨d,(a.put [gY ((Go.Ps.fm r x).s.vars.nm x) (aZ ((Go.Ps.fm r x).s.aO.nm x)) p] (rz (a.s x).2 (uW _ _ _) (by simp[bJ,aP])) (by rw[tE];omega)),e,?_,f⟩;unfold Go.Ps.fv
 dsimp only
 rw[gG,tF];simp only[dZ,bC];simp;omega
theorem Iv.more{K:KE}(h:Iv en a_ κ K N r)(o:Nm×Nm)(a:r.s.ck.length+1<=90):Iv en a_ κ K N ⟨⟨r.s.vars,r.s.aO,r.s.ck++[o]⟩,r.m,r.q⟩:=
 ⟨h.m,h.s,h.q,h.dd,h.sc.more o (by omega),by grind⟩
def Lz(en:List En)(a_:Nm->Prop)(κ:KE)(m:MS)(z:MS×List aD)(b w:Nat):Prop:=∃a,MI a z.1/\Gk κ a m.n z.1.n/\dc en a_ a z.1.n z.2/\gm z.2<=b/\eE z.2<=w
def To.kq{K:KE}(d:∀x,K x<=1){all:List Nm}{n c:Nm}{b:bF}{p:Int×Int}{w:Nat}(i:r.s.ck.length+1<=90)(z:ju b<=N)
  (j:∀a,Iv en a_ a K (ju b) ⟨(eZ all b p (eu c all n r)).s,(eZ all b p (eu c all n r)).m,[]⟩->Lz en a_ a (eZ all b p (eu c all n r)).m (iF en false b (eZ all b p (eu c all n r)).s (eZ all b p (eu c all n r)).m) (ju b) w):
  To en a_ K N r ⟨r.s,(iF en false b (eZ all b p (eu c all n r)).s (eZ all b p (eu c all n r)).m).1,(eZ all b p (eu c all n r)).q++(iF en false b (eZ all b p (eu c all n r)).s (eZ all b p (eu c all n r)).m).2⟩ (4*all.length+w):=by
 intro f h;obtain⟨k,l,m,o,A⟩:=To.oM d r.s all _ (by simp) f (h.more (n,c) i);obtain⟨q,a,s,t,B⟩:=To.fold (w:=4) (λr x=>To.fv (en:=en) (a_:=a_) (N:=N) d p r x) (all.filter λx=> !(cW (cy b) x)) _ k l;have C:=ajY (λx=> !(cW (cy b) x)) all;obtain⟨u,v,e,y,D,E⟩:=j q (⟨a.m,a.s,by simp[dc],by simp[gm],a.sc,a.cl⟩);have g:=(m.trans s).trans e;refine⟨u,⟨v,λx=>?_,?_,?_,h.sc,h.cl⟩,g,?_,rfl⟩
 .have:=h.s x;rw[g.eq _ this.2];exact⟨this.1,this.2.mono g.le⟩
 .rw[dc.app];exact⟨dc.grow e _ a.q,y⟩
 .have:gm (eZ all b p (eu c all n r)).q<=N:=a.dd;rw[kN];omega
 .have F:eE (eu c all n r).q<=eE r.q+0:=o;have G:eE (eZ all b p (eu c all n r)).q<=eE (eu c all n r).q+(all.filter λx=> !(cW (cy b) x)).length*4:=t;rw[gG];omega
end
end Go.Pm
namespace Go.Pm
open Go.Mt Go.Sm Go.Ps Go.Ex
variable{N:Nat}{f:Nm}{args:List Xp}{e:Xp}{p:Int×Int}
section
variable{en:List En}{a_:Nm->Prop}
def Dz{K:KE}(b:∀x,K x<=1):∀(l:List Xp) (r:R) (xs:List Xp),(∀a∈l,eP a 0)->To en a_ K N r (l.foldl fe (r,xs)).1 (4*aP l)/\
  ∃b,(l.foldl fe (r,xs)).2=xs++b/\b.length=l.length/\(∀y∈b,dV en y 0)/\bC b=bC l/\aP b=aP l
 |[],r,xs,_=>⟨by simpa [aP] using To.refl r,[],by simp,rfl,λy h=>by simp at h,rfl,rfl⟩
 |e::l,r,xs,h=>by
  obtain⟨d,c,f,g,m,i,j⟩:=Dz b l (cB r e) (xs++[cp (cB r e).s e]) λa b=>h a (by simp[b])
  have k:=rv en (cB r e).s e 0 (h e (by simp));refine⟨(To.fZ b r e).trans d|>.gL (by rw[aP];omega),cp (cB r e).s e::c,?_,by simp[g],λy n=>?_,by rw[bC,bC,k.2,i],by rw[aP,aP,ry,j]⟩
  .rw[aii];show(l.foldl fe (cB r e,xs++[cp (cB r e).s e])).2=_;rw[f];simp
  .grind
theorem Jl{K:KE}(b:∀x,K x<=1){lhs:List Nm}{a:Bool}(E:lhs≠[])(c:args.length=2)(x:∀a∈args,eP a 0)(F:aP args<=200/\bJ e<=100)(d:eP e 0\/a=false/\e=bR)(g:a_ f)(ai:List aH)(r:R):
  To en a_ K N r (iP en (.mk 2 lhs f args a e ai p) r) (6*(1+aP args+bJ e)):=by
 intro v w;obtain⟨y,h,i,j,k,l,m⟩:=Dz (en:=en) (a_:=a_) (N:=N) b args r [] x;obtain⟨n,o,q,G,s⟩:=y v w;have H:=uV args;have t:lhs.map r.s.vars.nm≠[]:=by simp_all
 rw[aiK]at i;rw[iP,aid (by decide),air W]
 dsimp only
 rw[i];cases a with
 |true=>
  have d:eP e 0:=by
   grind
  obtain⟨z,A,B,I,C⟩:=To.fZ b (args.foldl fe (r,[])).1 e n o;have u:=rv en (cB (args.foldl fe (r,[])).1 e).s e 0 d;have J:=rX e;rw[air W];have D:=A.put [.mk 2 (lhs.map r.s.vars.nm) f h true (cp (cB (args.foldl fe (r,[])).1 e).s e) [] p]
   (by rw[dc,sj];exact⟨⟨.inr (.inl ⟨W,t,j.trans c,k,λ_=>u.1,g,rfl⟩),by rw[ry,m];omega,by simp[kM]⟩,by simp[dc]⟩) (by simp[gm,xg,q8])
  refine⟨z,D,q.trans B,?_,C.trans s⟩
  dsimp only
  rw[gG];simp only[eE,we,n5,u.2,l];omega
 |false=>
  rw[aid (by decide)];have u:=o.put [.mk 2 (lhs.map r.s.vars.nm) f h false bR [] p]
   (by rw[dc,sj];exact⟨⟨.inr (.inl ⟨W,t,j.trans c,k,λh=>by simp at h,g,rfl⟩),by rw[m];simp only[bJ,aP];omega,by simp[kM]⟩,by simp[dc]⟩) (by simp[gm,xg,q8])
  refine⟨n,u,q,?_,s⟩
  dsimp only
  rw[gG];simp only[eE,we,n5,l,dZ,bC];simp;omega
def Kh{K:KE}(g:∀x,K x<=1){x:Nm}{m:Bool}{ai:List aH}(i:eP e (K x))(n:bJ e<=100)(r:R):To en a_ K N r (iP en (.mk 1 [x] f args m e ai p) r) (5*bJ e+2):=by
 intro d h;obtain⟨j,a,k,o,l⟩:=To.fZ g r e d h;have b:=rv en (cB r e).s e _ i;have c:=a.s x;have q:=rX e;rw[iP,air W]
 dsimp only
 refine⟨j,(a.put [gY ((cB r e).s.vars.nm x) (cp (cB r e).s e) p] (rz c.2 (dV.mono en _ b.1 c.1) (by rw[ry];omega)) (by rw[tE];omega)),k,?_,l⟩;simp only[aiq,aiL];rw[gG,tF,b.2];omega
def zu{κ:KE}{n:Nat}(c:Nm)(b:List Nm)(a:List (List Nm))(e:a.length<=b.length)(j:b.length<=100)(f:Nat->Nm)(p:Int×Int):∀l:List Nat,(∀i∈l,lS n (f i))->
  dc en a_ κ n (l.map λi=>gY (f i) (.mk 13 0 0 c b (a.map λv=>aZ (v[i]?.getD ⟨#[]⟩)) p) p)/\gm (l.map λi=>gY (f i) (.mk 13 0 0 c b (a.map λv=>aZ (v[i]?.getD ⟨#[]⟩)) p) p)=0/\eE (l.map λi=>gY (f i) (.mk 13 0 0 c b (a.map λv=>aZ (v[i]?.getD ⟨#[]⟩)) p) p)=3*l.length
 |[],_=>⟨by simp[dc],by simp[gm],by simp[eE]⟩
 |i::l,h=>by
  obtain⟨k,m,o⟩:=zu c b a e j f p l λj a=>h j (by simp[a])
  have g:∀(a:List (List Nm)) (c:Nat),fg en (a.map λv=>aZ (v[i]?.getD ⟨#[]⟩)) c/\bC (a.map λv=>aZ (v[i]?.getD ⟨#[]⟩))=0:=by
   intro a c
   induction a with
   |nil=>simp[fg,bC]
   |cons v a q=>simp only[aiq,fg,bC,q];exact⟨⟨uW _ _ _,trivial⟩,by simp[dZ,bC]⟩
  have r:∀a:List (List Nm),aP (a.map λv=>aZ (v[i]?.getD ⟨#[]⟩))=a.length:= λd=>by
   induction d with
   |nil=>rfl
   |cons v d q=>rw[aiq,aP,q,aia,bJ,aP];omega
  have s:dV en (.mk 13 0 0 c b (a.map λv=>aZ (v[i]?.getD ⟨#[]⟩)) p) (κ (f i)):=by
   rw[dV,ah8];refine⟨⟨by omega,by omega,by omega,by omega,by omega,by omega,by omega,by omega,by omega,λ_=>e,by omega,by omega⟩,(g a _).1⟩
  have d:=rz (a_:=a_) (p:=p) (h i (by simp)) s (by rw[bJ,r];omega);simp only[aiq];refine⟨?_,?_,?_⟩
  .rw[dc]at d⊢;exact⟨d.1,k⟩
  .rw[gm,m];simp[xg,q8]
  .rw[eE,o];simp only[we,n5,dZ,bC,(g a 0).2,aia,List.length_nil];simp;omega
def Jm(p:Int×Int)(r:R)(x:Nm):(fv p r x).s.ck=r.s.ck:=by
 unfold fv fm
 dsimp only
 cases r.s.aO x with
 |none=>rfl
 |some b=>dsimp only;split<;>rfl
def Jn(all:List Nm)(b:bF)(p:Int×Int)(c n:Nm)(r:R):(eZ all b p (eu c all n r)).s.ck.length=r.s.ck.length+1:=by
 have a:∀(l:List Nm) (a:R),(l.foldl (fv p) a).s.ck=a.s.ck:= λl=>by
  induction l with
  |nil=>intro d;rfl
  |cons x l d=>intro f;rw[aii,d,Jm]
 have e:∀(s:Sc) (l:List Nm) (a:R),(l.foldl (et s) a).s.ck=a.s.ck:= λs l=>by
  induction l with
  |nil=>intro d;rfl
  |cons x l d=>intro f;rw[aii,d];rfl
 rw[a,e];simp
mutual
theorem F_:∀(b:bF) (T:TE) (K:KE) (s:Sc) (m:MS) (κ:KE),(∀x,K x<=1)->mu en (mM a_) T K b->s.ck.length+ju b<=90->Iv en a_ κ K (ju b) ⟨s,m,[]⟩->Lz en a_ κ m (iF en false b s m) (ju b) (3*iG b)
 |.mk e d,T,K,s,m,κ,f,a,g,h=>by
  rw[mu]at a;rw[ju]at g h⊢;obtain⟨i,j,k,o,p⟩:=Jk h a.1;obtain⟨l,c,n,q,r⟩:=zw d _ _ (eM d) (Be f e λv c=>(a.1.ck v c).1) a.2 (je false ⟨s,m,[]⟩ e) (by grind) (ah9 _) i j;rw[iF,iG];exact⟨l,c.m,k.trans n,c.q,c.dd,by grind⟩
theorem zw:∀(l:List aD) (T:TE) (K:KE) (N:Nat),(∀x,K x<=1)->fq en (mM a_) T K l->∀r:R,r.s.ck.length+eM l<=90->eM l<=N->To en a_ K N r (gD en l r) (3*gj l)
 |[],T,K,N,a,b,r,c,d=>by rw[gD,gj];exact To.refl r
 |q::l,T,K,N,b,a,r,d,e=>by
  rw[fq]at a;rw[eM]at d e;intro c h;obtain⟨f,g,i,p,j⟩:=(Ki q T K N b a.1 r (by omega) (by omega)) c h;obtain⟨k,m,n,s,o⟩:=zw l T K N b a.2 (iP en q r) (by grind) (by omega) f g;rw[gD,gj];exact⟨k,m,i.trans n,by omega,o.trans j⟩
theorem Ki:∀(q:aD) (T:TE) (K:KE) (N:Nat),(∀x,K x<=1)->mW en (mM a_) T K q->∀r:R,r.s.ck.length+nO q<=90->nO q<=N->To en a_ K N r (iP en q r) (3*mG q)
 |.mk L i M V U e a A,T,K,N,d,m,r,B,o=>by
  rw[mW]at m;rw[nO]at B o;obtain⟨⟨_,_,_,O,j,p,P,_⟩,C,q⟩:=m;have Q:=(zp λa b=>(p a b).2).2;rw[mG];rcases C with⟨rfl,⟨x,rfl,c⟩,_,_⟩|⟨rfl,s,c,_,D,f⟩|⟨rfl,_,_,c,_⟩|⟨rfl,_,_,c,s⟩|⟨h,_⟩
  .exact(Kh d c j r).gL (by omega)
  .exact(Jl d s f (λa b=>(p a b).1) ⟨by omega,j⟩ c D a r).gL (by omega)
  .intro κ h;obtain⟨E,g,k,F,t⟩:=To.val d r e (dG en r.s.vars.ty e) c j κ h;rw[iP,aid (by decide),aid (by decide),aid (by decide)]
   dsimp only
   generalize Ps.gM r e (dG en r.s.vars.ty e)=b at g k F t⊢;obtain⟨G,H⟩:=DA a T K N d q (nV b.m.n) (aQ i a) ⟨b.s,b.m,b.q⟩ [] (by grind) o;obtain⟨u,f,v,w,y⟩:=G E g;generalize c7 en (nV b.m.n) (aQ i a) a ⟨b.s,b.m,b.q⟩ []=z at f v w y H⊢;obtain⟨I,S,J⟩:=zu (en:=en) (a_:=a_) (κ:=u) (n:=z.1.m.n) (nV b.m.n) (a.map aH.name) z.2 (by grind) (by grind) (λb=>z.1.s.vars.nm ((aQ i a)[b]?.getD ⟨#[]⟩)) A (List.range (aQ i a).length) λi _=>(f.s _).2
   refine⟨u,(f.put _ I (by grind)),k.trans v,?_,y.trans t⟩
   dsimp only at w⊢
   rw[gG,J,aj0];omega
  .intro κ h;obtain⟨E,b,t,F,u⟩:=To.val d r e (1,⟨#[]⟩) c j κ h;rw[iP,aid (by decide),aid (by decide),air W]
   dsimp only
   generalize Ps.gM r e (1,⟨#[]⟩)=k at b t F u⊢;obtain⟨G,v,g,w,I,H⟩:=Kj a T K k.s k.m E d q (by grind) (λn=>⟨b.m,b.s,by simp[dc],by simp[gm],b.sc,b.cl⟩) (λe=>by grind) (aQ i a).length;generalize zQ en a k.s k.m=J at v g w I H⊢;refine⟨G,⟨v,λx=>?_,?_,?_,b.sc,b.cl⟩,t.trans g,?_,u⟩
   .have:=b.s x;rw[g.eq _ this.2];exact⟨this.1,this.2.mono g.le⟩
   .rw[dc.app];refine⟨dc.grow g _ b.q,?_⟩;rw[dc,sj,kM,tD];exact⟨⟨.inr (.inr ⟨W,W,W⟩),by simp[bJ,aP],w,by simp[kM]⟩,by simp[dc]⟩
   .have:=b.dd;have:1<=dP a:=by
     obtain⟨y,z⟩:=List.exists_mem_of_length_pos (l:=a) (by omega);have:=kG y z;omega
    rw[kN];simp only[gm,xg,q8,z'];omega
   .rw[gG];simp only[eE,we,n5,Ac,dZ,bC,List.length_nil];simp;omega
  .exact h.elim
theorem Kj:∀(l:List aH) (T:TE) (K:KE) (s:Sc) (m:MS) (κ:KE),(∀x,K x<=1)->gF en (mM a_) T K l->s.ck.length+dP l<=90->(∀n,Iv en a_ κ K n ⟨s,m,[]⟩)->l≠[]->∀n,Lz en a_ κ m (zQ en l s m) (dP l-1) (3*fP n l)
 |[],T,K,s,m,κ,c,d,e,h,a,n=>absurd W a
 |.mk _ b _ _ _::l,T,K,s,m,κ,c,a,d,h,j,n=>by
  rw[gF]at a;rw[dP]at d⊢;obtain⟨e,f,g,i,k,o⟩:=F_ b T K s m κ c a.1 (by omega) (h _);rw[zQ,fP];exact⟨e,f,g,i,by omega,by omega⟩
theorem DA:∀(l:List aH) (T:TE) (K:KE) (N:Nat),(∀x,K x<=1)->gF en (mM a_) T K l->∀(c:Nm) (all:List Nm) (r:R) (a:List (List Nm)),r.s.ck.length+dP l<=90->dP l<=N->To en a_ K N r (c7 en c all l r a).1 (3*fP all.length l)/\(c7 en c all l r a).2.length=a.length+l.length
 |[],T,K,N,d,f,c,all,r,a,g,h=>by rw[c7,fP];exact⟨To.refl r,W⟩
 |.mk n b u w p::l,T,K,N,a,d,c,all,r,g,h,i=>by
  rw[gF]at d;rw[dP]at h i;have f:=To.kq (en:=en) (a_:=a_) (N:=N) (r:=r) (all:=all) (n:=n) (c:=c) (b:=b) (p:=p) (w:=3*iG b) a (by omega) (by omega) λf h=>F_ b T K _ _ f a d.1 (by rw[Jn all b p c n r];omega) h
  rw[c7,fP];obtain⟨t,e⟩:=DA l T K N a d.2 c all ⟨r.s,(iF en false b (eZ all b p (eu c all n r)).s (eZ all b p (eu c all n r)).m).1,(eZ all b p (eu c all n r)).q++(iF en false b (eZ all b p (eu c all n r)).s (eZ all b p (eu c all n r)).m).2⟩ (g++[all.map (eu c all n r).s.vars.nm]) (by grind) (by omega);refine⟨(f.trans t).gL (by omega),?_⟩;rw[e,ah6,aia];simp;omega
end
end
end Go.Pm
namespace Go.Pm
open Go.Mt Go.Sm Go.Ps Go.Ex
section
variable{en:List En}{a_:Nm->Prop}
def sG.iW{y:Nm}(h:sG y)(n:Nat):lS n y:= λj _=>h j
variable(en a_)
structure Pt(κ:KE)(r:R):Prop where
 a:∀v∈r.m.vars,κ v.name<=v.clock.length/\v.clock.length<=100/\lS r.m.n v.name
 s:∀x,sG (r.s.vars.nm x)
 q:dc en a_ κ r.m.n r.q
 dd:gm r.q=0
 ck:r.s.ck=[]
structure DB(v:Va):Prop where
 nm:sG v.name
 ck:v.clock=[]
 la:v.last=true->B9 v.first
variable{en a_}
def Pt.IC{κ:KE}(d:∀j,κ (nV j)=0){r:R}(h:Pt en a_ κ r){v:Va}(b:DB v):Pt en a_ κ (fp r v)/\eE (fp r v).q<=eE r.q+3/\r.m.n<=(fp r v).m.n:=by
 have e:∀x,sG ((r.s.vars.set v.name ⟨v.name,0,v.tk,v.tn⟩).nm x):= λx=>by
  rw[uX];split
  .exact b.nm
  .exact h.s x
 unfold fp iO;by_cases c:v.last=true
 .rw[air c]
  dsimp only[MS.fresh]
  have f:=F8 (en:=en) (b.la c) 0;have g:Gk κ κ r.m.n (r.m.n+1):=⟨by omega,λ_ _=>rfl⟩;refine⟨⟨λw a=>?_,e,?_,?_,h.ck⟩,?_,by omega⟩
  .rcases ain.1 a with a|a
   .obtain⟨i,j,k⟩:=h.a w a;exact⟨i,j,k.mono (ajR _)⟩
   .simp only[aib,aip,aiJ]at a;subst a;exact⟨by rw[d];omega,by simp[h.ck,b.ck],lS.new _⟩
  .rw[dc.app];refine⟨dc.grow g _ h.q,rz (lS.new _) ?_ (by simp only[jS,bJ,aP];rw[F9 (b.la c)];omega)⟩;rw[d];simp[jS,dV,fg,f.1]
  .rw[kN,tE,h.dd];rfl
  .rw[gG,tF];simp[jS,dZ,bC,f.2]
 .rw[aid c];exact⟨⟨h.a,e,h.q,h.dd,h.ck⟩,by dsimp only;omega,by dsimp only;omega⟩
def Pt.qg{κ:KE}(a:∀j,κ (nV j)=0):∀(l:List Va) {r:R},Pt en a_ κ r->(∀v∈l,DB v)->Pt en a_ κ (l.foldl fp r)/\eE (l.foldl fp r).q<=eE r.q+3*l.length/\r.m.n<=(l.foldl fp r).m.n
 |[],r,h,_=>⟨h,by simp,ah9 _⟩
 |v::l,r,h,b=>by
  obtain⟨c,e,f⟩:=h.IC a (b v (by simp));obtain⟨d,g,i⟩:=Pt.qg a l c λw a=>b w (by simp[a])
  rw[aii,aia];exact⟨d,by omega,by omega⟩
def Pt.binds{κ:KE} :∀(l:List Va) {r:R},Pt en a_ κ r->(∀v∈l,sG v.name)->Pt en a_ κ (l.foldl (dt true) r)/\(l.foldl (dt true) r).q=r.q/\r.m.n<=(l.foldl (dt true) r).m.n
 |[],r,h,_=>⟨h,rfl,ah9 _⟩
 |v::l,r,h,d=>by
  have a:Pt en a_ κ (dt true r v):=by
   refine⟨λw e=>?_,λx=>?_,dc.grow ⟨by simp[dt],λ_ _=>rfl⟩ _ h.q,h.dd,h.ck⟩
   .obtain⟨a,b,c⟩:=h.a w e;exact⟨a,b,c.mono (by simp[dt])⟩
   .show sG ((Env.set _ _ _).nm x);rw[uX];split
    .grind
    .exact h.s x
  obtain⟨b,c,f⟩:=Pt.binds l a λw a=>d w (by simp[a])
  rw[aii];have:r.m.n<=(dt true r v).m.n:=by simp[dt]
  exact⟨b,c,by omega⟩
def Bf:∀(l:List Va) (r:R),(l.foldl (dt true) r).s.ck=r.s.ck
 |[],r=>rfl
 |v::l,r=>by rw[aii,Bf l];rfl
def uY{x:Nm} :∀(l:List Va) (r:R),(∀v∈l,v.name≠x)->(l.foldl (dt true) r).s.vars x=r.s.vars x
 |[],r,_=>rfl
 |v::l,r,h=>by
  rw[aii,uY l _ λw a=>h w (by simp[a])];show(Env.set _ _ _) x=_;unfold Env.set;rw[aid λe=>h v (by simp) e.symm]
theorem Bg:∀(l:List Va) (r:R),(l.map (·.name)).Nodup->∀v∈l,(l.foldl (dt true) r).s.vars v.name=some ⟨v.name,r.s.ck.length,v.tk,v.tn⟩
 |[],r,_,v,a=>by simp at a
 |c::l,r,b,v,a=>by
  rw[aiq,ajk]at b;rw[aii];rcases aib.1 a with rfl|a
  .rw[uY l _ λw a e=>b.1 (by grind)];show(Env.set _ _ _) v.name=_;unfold Env.set;rw[air W];rfl
  .exact Bg l (dt true r c) b.2 v a
structure LA(en:List En)(a_:Nm->Prop)(d:Nd)(a w:Nat):Prop where
 ot:∃(κ:KE) (n:Nat),dc en a_ κ n d.b.eqs/\(∀v∈d.b.vars,κ v.name<=v.clock.length/\v.clock.length<=100)/\∀y,0<κ y->∃v∈d.b.vars,v.name=y
 dd:gm d.b.eqs<=a
 wo:eE d.b.eqs<=w
def Kk{d:Nd}{T:TE}(t:∀v∈d.ins++d.outs,DB v)(m:mu en (mM a_) T (λ_=>0) d.b)(u:ju d.b<=90):LA en a_ (n_ en d) (ju d.b) (3*(d.ins.length+d.outs.length)+3*iG d.b):=by
 obtain⟨C,b,c,⟨a,i⟩,w⟩:=d
 dsimp only at t m u⊢
 rw[mu]at m;obtain⟨f,E⟩:=m;rw[ju]at u;have R:∀y,0<(a.foldl KE.add (λ_=>0)) y->∃v∈a,v.name=y:= λy b=>by
  by_cases h:∃v∈a,v.name=y
  .exact h
  .rw[nY λv a e=>h ⟨v,a,e⟩]at b;omega
 have G:Pt en a_ (a.foldl KE.add (λ_=>0)) ⟨⟨λ_=>none,λ_=>none,[]⟩,⟨0,[]⟩,[]⟩:=⟨λv h=>by simp at h,λx j e=>by
  have p:([]:List UInt8)=(nV j).data.toList:=by rw[<-e];rfl
  rw[rT]at p;simp at p,by simp[dc],by simp[gm],rfl⟩
 obtain⟨g,n,H⟩:=G.qg (λj=>nY λv a e=>f.us v a j e) (b++c) t;have I:n_ en ⟨C,b,c,.mk a i,w⟩=⟨C,b,c.map λv=>⟨v.name,v.tk,v.tn,v.clock,false,bR,v.ps⟩,
  .mk (iF en true (.mk a i) ((b++c).foldl fp ⟨⟨λ_=>none,λ_=>none,[]⟩,⟨0,[]⟩,[]⟩).s ((b++c).foldl fp ⟨⟨λ_=>none,λ_=>none,[]⟩,⟨0,[]⟩,[]⟩).m).1.vars
   (((b++c).foldl fp ⟨⟨λ_=>none,λ_=>none,[]⟩,⟨0,[]⟩,[]⟩).q++(iF en true (.mk a i) ((b++c).foldl fp ⟨⟨λ_=>none,λ_=>none,[]⟩,⟨0,[]⟩,[]⟩).s ((b++c).foldl fp ⟨⟨λ_=>none,λ_=>none,[]⟩,⟨0,[]⟩,[]⟩).m).2),w⟩:=rfl
 rw[I];have A:=((bu.qg (b++c) xw).sc);generalize (b++c).foldl fp ⟨⟨λ_=>none,λ_=>none,[]⟩,⟨0,[]⟩,[]⟩=r at g n H A⊢;have S:Pt en a_ (a.foldl KE.add (λ_=>0)) ⟨r.s,r.m,[]⟩:=⟨g.a,g.s,by simp[dc],by simp[gm],g.ck⟩;obtain⟨k,J,L⟩:=S.binds a f.us;have o:=Bf a ⟨r.s,r.m,[]⟩;have B:=Bg a ⟨r.s,r.m,[]⟩ f.nd;have M:Pd en a_ (a.foldl KE.add (λ_=>0)) (a.foldl KE.add (λ_=>0)) a (a.foldl (dt true) ⟨r.s,r.m,[]⟩):=by
  have p:∀v∈a,(a.foldl (dt true) ⟨r.s,r.m,[]⟩).s.vars.nm v.name=v.name:= λv h=>by unfold Env.nm;rw[B v h]
  refine⟨k.a,λD F=>?_,λv h=>?_,λx=>⟨?_,(k.s x).iW _⟩,k.q,k.dd⟩
  .obtain⟨v,h,e⟩:=R D F;exact .inr ⟨v,h,by rw[p v h];exact e⟩
  .rw[p v h,zl (K:= λ_=>0) f.nd v h];exact⟨ah9 _,_,B v h,by rw[o]⟩
  .by_cases h:∃v∈a,v.name=x
   .obtain⟨v,h,rfl⟩:=h;rw[p v h];exact ah9 _
   .rw[nY λv a e=>h ⟨v,a,e⟩];omega
 obtain⟨y,j,z,q,s⟩:=M.opened f (by rw[o];show r.s.ck.length<=90;rw[g.ck];simp);have N:je true ⟨r.s,r.m,[]⟩ a=a.foldl dU ((a.flatMap λv=>v.clock.map λo=>o.2).foldl cM (a.foldl (dt true) ⟨r.s,r.m,[]⟩)):=rfl;rw[<-N]at j z q s;rw[o]at s;rw[J]at q;simp only[eE,ai8]at n q;have U:(je true ⟨r.s,r.m,[]⟩ a).s.ck.length=0:=by rw[s];show r.s.ck.length=0;rw[g.ck];rfl
 have O:Iv en a_ y (a.foldl KE.add (λ_=>0)) (eM i) (je true ⟨r.s,r.m,[]⟩ a):=⟨⟨j.a,λl p=>by
  rcases j.d l p with h|⟨v,f,_⟩
  .exact h
  .simp at f⟩,j.s,j.q,by rw[j.dd];omega,((bu.open (r:=⟨r.s,r.m,[]⟩) A true a).sc),by omega⟩
 obtain⟨P,l,Q,V,X⟩:=zw i _ _ (eM i) (Be (λ_=>aja _) a λv h=>(f.ck v h).1) E (je true ⟨r.s,r.m,[]⟩ a) (by omega) (ah9 _) y O;rw[iF,iG,ju]
 dsimp only
 refine⟨⟨P,(gD en i (je true ⟨r.s,r.m,[]⟩ a)).m.n,?_,λv h=>?_,l.m.d⟩,?_,?_⟩
 .simp only[bF.eqs];rw[dc.app];exact⟨dc.grow ((Gk.trans ⟨L,λ_ _=>rfl⟩ z).trans Q) _ g.q,l.q⟩
 .have:=l.m.a v h;exact⟨this.1,this.2.1⟩
 .simp only[bF.eqs];have:=l.dd;rw[kN,g.dd];omega
 .simp only[bF.eqs];rw[gG];simp only[ah6]at n;omega
end
variable{w:Nat}{u:Ps.US}{en:List En}{e:Xp}{ck:List (Nm×Nm)}
mutual
def dV.sh:∀(e:Xp) {c:Nat},dV en e c->fG e
 |.mk k l n x y a p,c,h=>by
  rw[dV]at h;obtain⟨⟨m,o,q,r,s,t,u,v,d,w,f,g⟩,i⟩:=h;refine .mk (λj=>?_) f g λe b=>fg.sh a i e b
  have:=(d j).2.2.1
  match a,this with
  |[b],_=>exact⟨b,W⟩
def fg.sh:∀(l:List Xp) {c:Nat},fg en l c->∀e∈l,fG e
 |[],_,_,e,a=>by simp at a
 |b::l,c,h,e,a=>by
  rw[fg]at h;rcases aib.1 a with a|a
  .rw[a];exact dV.sh b h.1
  .exact fg.sh l h.2 e a
end
mutual
def LB:∀q:aD,pX q<=we q
 |.mk k b f d c e a p=>by rw[pX,we];have:=Ga a;omega
def Ga:∀l:List aH,jG l<=n5 l
 |[]=>by simp[jG,n5]
 |.mk _ b _ _ _::l=>by rw[jG,n5];have:=Gb b;have:=Ga l;omega
def Gb:∀b:bF,od b<=Ac b
 |.mk _ a=>by rw[od,Ac];exact zx a
def zx:∀l:List aD,kH l<=eE l
 |[]=>by simp[kH,eE]
 |q::l=>by rw[kH,eE];have:=LB q;have:=zx l;omega
end
def Gc:∀l:List aD,2*l.length<=eE l
 |[]=>by simp
 |.mk k b f d c e a p::l=>by rw[eE,we,aia];have:=Gc l;omega
def DD(q:Fq):Prop:=fG q.e/\q.args.length<=2/\(∀a∈q.args,fG a)/\bJ q.e+aP q.args<=401/\q.ck.length<=100/\q.rs.length<=100
section
variable{en:List En}{a_:Nm->Prop}{κ:KE}{n:Nat}
mutual
def E4:∀(q:aD) (l:List Nm),sj en a_ κ n q->(∀f∈l,a_ f)->∀f∈oN q l,a_ f
 |.mk k j f o m e a p,l,h,c=>by
  rw[sj]at h;obtain⟨d,_,g⟩:=h;have i:oN (.mk k j f o m e a p) l=fB a (if k=2 then bt l f else l):=by rw[oN.eq_def]
  rw[i];refine xb a _ g ?_;split
  .rename_i q;rcases d with⟨h,_⟩|⟨_,_,_,_,_,h,_⟩|⟨h,_⟩
   .omega
   .intro x b;rcases A4.1 b with b|rfl
    .exact c x b
    .exact h
   .omega
  .exact c
def xb:∀(r:List aH) (l:List Nm),kM en a_ κ n r->(∀f∈l,a_ f)->∀f∈fB r l,a_ f
 |[],l,h,a=>by rw[fB.eq_def];exact a
 |.mk _ b _ _ _::r,l,h,c=>by
  rw[kM]at h;rw[fB.eq_def];refine xb r _ h.2 λx a=>?_
  rcases tA.1 a with a|a
  .exact c x a
  .exact zy b h.1 x a
def zy:∀b:bF,tD en a_ κ n b->∀f∈iS b,a_ f
 |.mk _ a,h=>by
  rw[tD]at h;rw[iS.eq_def];exact xc a [] h λf a=>by simp at a
def xc:∀(r:List aD) (l:List Nm),dc en a_ κ n r->(∀f∈l,a_ f)->∀f∈fM r l,a_ f
 |[],l,h,a=>by rw[fM.eq_def];exact a
 |q::r,l,h,a=>by
  rw[dc]at h;rw[fM.eq_def];exact xc r _ h.2 (E4 q l h.1 a)
end
def zA(a_:Nm->Prop)(ns:List Nd):Prop:=∀f,a_ f->∃j d,gC ns f=some j/\ns[j]?=some d/\d.ins.length=2
variable{ns:List Nd}
mutual
def LC(a:zA a_ ns):∀q:aD,sj en a_ κ n q->we q<=10000000->EE ns q/\q.ai.length<=1/\rf q.ai
 |.mk s v f x w e b t,h,c=>by
  rw[sj]at h;rw[we]at c;obtain⟨g,_,i⟩:=h;obtain⟨k,l⟩:=DE a b i (by omega);rw[EE];simp only[aD.ai];rcases g with⟨rfl,_,_,rfl⟩|⟨rfl,_,m,o,_,p,rfl⟩|⟨rfl,_,m⟩
  .grind
  .obtain⟨j,d,q,r,u⟩:=a f p;exact⟨⟨.inr (.inl ⟨W,λa b=>dV.sh a (o a b),j,d,q,r,by omega,by omega⟩),k⟩,by simp,l⟩
  .grind
def DE(d:zA a_ ns):∀l:List aH,kM en a_ κ n l->n5 l<=10000000->yW ns l/\rf l
 |[],h,a=>by rw[yW,rf];exact⟨trivial,trivial⟩
 |.mk _ b _ _ _::l,h,a=>by
  rw[kM]at h;rw[n5]at a;have a:=Gd d b h.1 (by omega);have c:=DE d l h.2 (by omega);rw[yW,rf];exact⟨⟨a.1,c.1⟩,a.2,c.2⟩
def Gd(e:zA a_ ns):∀b:bF,tD en a_ κ n b->Ac b<=10000000->BZ ns b/\B0 b
 |.mk _ d,h,c=>by
  rw[tD]at h;rw[Ac]at c;have a:=DF e d h c;have:=Gc d;rw[BZ,B0];exact⟨⟨by omega,a.1⟩,by omega,a.2⟩
def DF(a:zA a_ ns):∀l:List aD,dc en a_ κ n l->eE l<=10000000->sy ns l/\sA l
 |[],h,b=>by rw[sy,sA];exact⟨trivial,trivial⟩
 |.mk k m f q o e g p::l,h,d=>by
  rw[dc]at h;rw[eE]at d;obtain⟨i,j,b⟩:=LC a (.mk k m f q o e g p) h.1 (by omega);have c:=DF a l h.2 (by omega);rw[sy,sA];simp only[aD.ai]at j b;exact⟨⟨i,c.1⟩,⟨by omega,b⟩,c.2⟩
end
variable(en)
structure Uf(u:Ps.US)(w:Nat):Prop where
 q:∀q∈u.eqs,J4 en q/\DD q
 s:(u.eqs.map pZ).sum<=w
variable{en}
def Uf.put(h:Uf en u w)(q:Fq)(c:J4 en q/\DD q)(k:Nat)(b:List Va):Uf en ⟨k,b,u.eqs++[q]⟩ (w+pZ q):=by
 refine⟨λx a=>?_,?_⟩
 .rcases ain.1 a with a|a
  .exact h.q x a
  .grind
 .have:=h.s;simp only[aio,List.sum_append,aiq,aiL,alb,List.sum_nil];omega
def Uf.val(h:Uf en u w)(t:Int×Nm)(rs:List Nm)(a:dV en e 0)(hi:bJ e<=400)(b:ck.length<=100)(c:rs.length<=99):Uf en (jf u e t ck rs) (w+dZ e):=by
 have d:=rX e;have:=h.put ⟨1,[nE (u.n+1)],⟨#[]⟩,bR,e,[],ck,rs⟩ ⟨⟨λh=>by simp at h,λ_=>dV.mono en e a (aja _),λ_ _=>by simp,by simp only[pZ,bC];omega⟩,dV.sh e a,by simp,by simp,by simp only[aP];omega,b,aiz c (by decide)⟩ (u.n+1) (u.vars++[⟨nE (u.n+1),t.1,t.2,ck,false,bR,(0,0)⟩]);have a:pZ ⟨1,[nE (u.n+1)],⟨#[]⟩,bR,e,[],ck,rs⟩=dZ e:=by simp[pZ,bC]
 rw[a]at this;exact this
def wg:∀a b:List Xp,bC (a++b)=bC a+bC b
 |[],b=>by simp[bC]
 |q::a,b=>by simp only[aiA,bC,wg a b,ajG]
def tG(d:ck.length<=100)(rs:List Nm)(e:rs.length<=99):∀(l:List (Xp×(Int×Nm))) (r:Ps.US×List Xp) (w:Nat),(∀a∈l,dV en a.1 0/\bJ a.1<=400)->Uf en r.1 w->(∀x∈r.2,dV en x ck.length)->
  ∃w',w<=w'/\Uf en (l.foldl (dA ck rs) r).1 w'/\(∀x∈(l.foldl (dA ck rs) r).2,dV en x ck.length)/\w'+bC (l.foldl (dA ck rs) r).2<=w+bC r.2+bC (l.map λa=>a.1)/\aP (l.foldl (dA ck rs) r).2<=aP r.2+aP (l.map λa=>a.1)
 |[],r,w,_,h,c=>⟨w,ah9 _,h,c,by simp[bC],by simp[aP]⟩
 |a::l,r,w,g,h,f=>by
  obtain⟨i,o⟩:=g a (by simp);have j:= λb c=>g b (ajb _ c)
  rw[aii,aiq,bC,aP];have t:=uU a.1;by_cases k:qN a.1=true
  .have p:dA ck rs r a=(r.1,r.2++[a.1]):=by unfold dA;rw[air k]
   rw[p];obtain⟨w',u,q,s,m,n⟩:=tG d rs e l (r.1,r.2++[a.1]) w j h λx c=>by
    rcases ain.1 c with c|c
    .exact f x c
    .simp only[aib,aip,aiJ]at c;rw[c];exact dV.mono en _ i (aja _)
   rw[wg]at m;rw[kD]at n;simp only[bC,aP]at m n;exact⟨w',by omega,q,s,by omega,by omega⟩
  .have p:dA ck rs r a=(jf r.1 a.1 a.2 ck rs,r.2++[aZ (nE (r.1.n+1))]):=by unfold dA;rw[aid k]
   rw[p];obtain⟨w',u,q,s,m,n⟩:=tG d rs e l (jf r.1 a.1 a.2 ck rs,r.2++[aZ (nE (r.1.n+1))]) (w+dZ a.1) j (h.val a.2 rs i o d e) λx c=>by
    rcases ain.1 c with c|c
    .exact f x c
    .simp only[aib,aip,aiJ]at c;rw[c];exact uW _ _ _
   rw[wg]at m;rw[kD]at n;simp[bC,dZ]at m;simp only[aP,bJ]at n;exact⟨w',by omega,q,s,by omega,by omega⟩
def Ge:∀(l:List Xp) (t:List (Int×Nm)),bC ((l.zip t).map λa=>a.1)<=bC l
 |[],t=>by simp[bC]
 |a::l,[]=>by simp[bC]
 |a::l,b::t=>by have:=Ge l t;simp only[List.zip_cons_cons,aiq,bC];omega
def Gf:∀(l:List Xp) (t:List (Int×Nm)),aP ((l.zip t).map λa=>a.1)<=aP l
 |[],t=>by simp[aP]
 |a::l,[]=>by simp[aP]
 |a::l,b::t=>by have:=Gf l t;simp only[List.zip_cons_cons,aiq,aP];omega
def DG:∀{l:List Xp},∀a∈l,bJ a<=aP l
 |a::l,x,h=>by
  rw[aP];rcases aib.1 h with rfl|h
  .omega
  .have:=DG x h;omega
variable{iT:Nm->List (Int×Nm)}{cl:o5}
theorem E5(t:∀y,(cl y).length<=100){k:Int}{lhs:List Nm}{f:Nm}{args:List Xp}{j:Bool}{ai:List aH}{p:Int×Int}(y:k=2)(z:∀a∈args,dV en a 0)(A:j=true->dV en e 0)(F:args.length<=2)(hi:bJ e+aP args<=400)(rs:List Nm)(l:rs.length<=99)(h:Uf en u w):
  Uf en (o6 iT cl rs (.mk k lhs f args j e ai p) u) (w+(dZ e+bC args)):=by
 subst y;have c:(mL cl lhs).length<=100:=by
  unfold mL;cases lhs with
  |nil=>simp
  |cons x i=>exact t x
 have K:=uV args;obtain⟨G,H,d,g,m,n⟩:=tG c rs l (args.zip (iT f)) (u,[]) w (λa h=>by
  have i:=(List.of_mem_zip (a:=a.1) (b:=a.2) h).1;have:=DG a.1 i;exact⟨z a.1 i,by omega⟩) h (λx c=>by simp at c)
 have I:=Ge args (iT f);have J:=Gf args (iT f);simp only[bC,ajO]at m;simp only[aP,ai8]at n;rw[o6];simp only;rw[aid (by decide),air trivial];have s:=(ld (mL cl lhs) rs (args.zip (iT f)) (u,[])).2.2.2;rw[List.length_zip,List.length_nil]at s;generalize (args.zip (iT f)).foldl (dA (mL cl lhs) rs) (u,[])=r at d g m n s⊢;have q:∀{v:Ps.US} {x:Nat} (c:List Nm),c.length<=100->Uf en v x->x+bC r.2<=w+(dZ e+bC args)->Uf en ⟨v.n,v.vars,v.eqs++[⟨3,lhs,f,bR,bR,r.2,mL cl lhs,c⟩]⟩ (w+(dZ e+bC args)):= λ{v E} o B C x=>by
  have D:pZ ⟨3,lhs,f,bR,bR,r.2,mL cl lhs,o⟩=bC r.2:=by simp[pZ,dZ,bC]
  have i:=C.put ⟨3,lhs,f,bR,bR,r.2,mL cl lhs,o⟩ ⟨⟨λ_=>⟨by grind,g⟩,λh=>absurd W h,λ_ h=>absurd W h,by grind⟩,uM.1,by grind,λa c=>dV.sh a (g a c),by simp only[bJ,aP];omega,c,B⟩ v.n v.vars;rw[D]at i;exact⟨i.q,aiz i.s x⟩
 cases j with
 |true=>
  rw[air W];by_cases i:e.kd=4
  .grind
  .rw[aid i];exact q _ (by simp;omega) (d.val (1,⟨#[]⟩) rs (A W) (by omega) c l) (by omega)
 |false=>
  rw[aid (by decide)];exact q _ (by omega) d (by omega)
mutual
theorem Kl(a:∀y,κ y<=(cl y).length/\(cl y).length<=100):∀(q:aD) (rs:List Nm) (u:Ps.US) (w:Nat),rs.length+xg q<=99->sj en a_ κ n q->Uf en u w->Uf en (o6 iT cl rs q u) (w+we q)
 |.mk k lhs f s i e ai p,rs,u,w,j,h,b=>by
  rw[xg]at j;rw[sj]at h;obtain⟨l,d,m⟩:=h;rw[we];rcases l with⟨rfl,⟨y,rfl,_,c⟩,rfl,rfl⟩|⟨rfl,_,c,o,q,_,rfl⟩|⟨rfl,rfl,_⟩
  .have r:o6 iT cl rs (.mk 1 [y] f [] i e [] p) u=⟨u.n,u.vars,u.eqs++[⟨1,[y],⟨#[]⟩,bR,e,[],cl y,rs⟩]⟩:=by rw[o6];rfl
   rw[r];have g:pZ ⟨1,[y],⟨#[]⟩,bR,e,[],cl y,rs⟩=dZ e:=by simp[pZ,bC]
   have:=b.put ⟨1,[y],⟨#[]⟩,bR,e,[],cl y,rs⟩ ⟨⟨λh=>by simp at h,λ_=>dV.mono en e c (a y).1,λ_ _=>by simp,by rw[g];have:=(a y).2;have:=rX e;simp only[aP]at d;simp only;omega⟩,dV.sh e c,by simp,by simp,by grind,(a y).2,by grind⟩ u.n u.vars;exact⟨this.q,by have:=this.s;rw[g]at this;omega⟩
  .have:=E5 (iT:=iT) (λy=>(a y).2) (k:=2) (lhs:=lhs) (f:=f) (ai:=[]) (p:=p) W o q (by omega) d rs (by omega) b;exact⟨this.q,by have:=this.s;omega⟩
  .have:=Km a ai (rs++[e.nm]) u w (by grind) m b;have g:o6 iT cl rs (.mk 5 lhs f [] i e ai p) u=BO iT cl (rs++[e.nm]) ai u:=by rw[o6];rfl
   rw[g];exact⟨this.q,by have:=this.s;omega⟩
theorem Km(a:∀y,κ y<=(cl y).length/\(cl y).length<=100):∀(l:List aH) (rs:List Nm) (u:Ps.US) (w:Nat),rs.length+q8 l<=100->kM en a_ κ n l->Uf en u w->Uf en (BO iT cl rs l u) (w+n5 l)
 |[],rs,u,w,_,h,a=>by rw[BO,n5];exact a
 |.mk _ b _ _ _::l,rs,u,w,d,h,c=>by
  rw[q8]at d;rw[kM]at h;rw[BO,n5];have:=Kq a b rs u w (by omega) h.1 c;exact⟨this.q,by have:=this.s;omega⟩
theorem Kq(c:∀y,κ y<=(cl y).length/\(cl y).length<=100):∀(b:bF) (rs:List Nm) (u:Ps.US) (w:Nat),rs.length+z' b<=99->tD en a_ κ n b->Uf en u w->Uf en (Gy iT cl rs b u) (w+Ac b)
 |.mk _ e,rs,u,w,a,h,d=>by
  rw[z']at a;rw[tD]at h;rw[Gy,Ac];exact zB c e rs u w a h d
theorem zB(a:∀y,κ y<=(cl y).length/\(cl y).length<=100):∀(l:List aD) (rs:List Nm) (u:Ps.US) (w:Nat),rs.length+gm l<=99->dc en a_ κ n l->Uf en u w->Uf en (f_ iT cl rs l u) (w+eE l)
 |[],rs,u,w,_,h,a=>by rw[f_,eE];exact a
 |q::l,rs,u,w,d,h,c=>by
  rw[gm]at d;rw[dc]at h;rw[f_,eE];have b:=zB a l rs _ _ (by omega) h.2 (Kl a q rs u w (by omega) h.1 c);exact⟨b.q,by have:=b.s;omega⟩
end
def E6(a b:List Va)(y:Nm):eY (a++b) y=match b.reverse.find? (λv=>decide (v.name=y))with|some v=>v.clock|none=>eY a y:=by
 unfold eY;rw[akz,List.find?_append];cases b.reverse.find? (λv=>decide (v.name=y))<;>rfl
def tr{a:List Va}(h:∀v∈a,v.clock=[])(y:Nm):eY a y=[]:=by
 unfold eY;split
 .grind
 .rfl
theorem Kr{d:Nd}{c:Nat}(h:LA en a_ d c w)(p:c<=99)(e:∀v∈d.ins++d.outs,v.clock=[])(q:w<=9000000)(r:d.ins.length+d.outs.length+d.b.vars.length<=9000000):Hm en (tc ns d)/\∀q∈(tc ns d).eqs,DD q:=by
 obtain⟨⟨b,o,f,i,s⟩,t,u⟩:=h;have j:∀y,b y<=(eY (d.ins++d.outs++d.b.vars) y).length/\(eY (d.ins++d.outs++d.b.vars) y).length<=100:= λy=>by
  rw[E6];cases x:d.b.vars.reverse.find? (λv=>decide (v.name=y))with
  |some v=>
   have k:v.name=y:=by grind
   have:=i v (by grind);rw[k]at this;exact this
  |none=>
   rw[tr e];refine⟨?_,by simp⟩;by_cases k:0<b y
   .grind
   .grind
 have l:Uf en ⟨0,d.b.vars,[]⟩ 0:=⟨λq h=>by simp at h,by simp⟩;have a:=zB (iT:=fw ns) j d.b.eqs [] _ _ (by grind) f l;have g:=q9 (fw ns) (eY (d.ins++d.outs++d.b.vars)) d.b.eqs [] ⟨0,d.b.vars,[]⟩;have m:=g.vs;have n:=g.q;have z:=zx d.b.eqs;have A:=a.s;unfold tc Hm
 dsimp only[List.length_nil]at m n⊢
 exact⟨⟨by omega,by omega,by omega,λq b=>(a.q q b).1⟩,λq b=>(a.q q b).2⟩
end
end Go.Pm
namespace Go.Pm
open Go.Mt Go.Sm Go.Ps Go.Ex
variable{k:Nat}{d:Nd}{en:List En}
abbrev a_(k:Nat):Nm->Prop:= λf=>∃j,j<k/\f=Mk.nm 102 j
structure N1(en:List En)(k:Nat)(d:Nd):Prop where
 nm:d.name=Mk.nm 102 k
 il:d.ins.length=2
 ol:d.outs.length=2
 fc:∀v∈d.ins++d.outs,DB v
 pr:mu en (mM (a_ k)) ((d.ins++d.outs).foldl TE.add T0) (λ_=>0) d.b
 wt:iG d.b<=2500000
 dp:ju d.b<=8
def DH{c:UInt8}(h:c≠95):uL ⟨#[c]⟩:=by
 unfold uL;simpa using h
def Ht{x:Nm}(h:uL x):sG x:= λj=>h.ne 118 j
def uZ(r:List En){d:Mk.Nd}(h:Mk.GN k d):uN (nW d.b)<=2500000/\qh (((kQ d).ins++(kQ d).outs).foldl TE.add T0)/\mu (ja r) (uT (a_ k)) (((kQ d).ins++(kQ d).outs).foldl TE.add T0) (λ_=>0) (nW d.b)/\ju (nW d.b)<=4/\
  (kQ d).ins.length=2/\(kQ d).outs.length=2/\∀v∈(kQ d).ins++(kQ d).outs,DB v:=by
 obtain⟨z,o,⟨p,first,b,l⟩,A,q,s⟩:=h;have i:=Kc (r:=r) _ _ _ _ _ s q;have f:(kQ d).ins=[lg Mk.aV,lg Mk.bV]:=by unfold kQ;rw[o];rfl
 have g:(kQ d).outs=[lg ⟨⟨#[120]⟩,.int,none,p,first⟩,lg Mk.yV]:=by unfold kQ;rw[l];rfl
 have t:((((kQ d).ins++(kQ d).outs)).map (·.name)).Nodup:=by
  rw[f,g];show([⟨#[97]⟩,⟨#[98]⟩,⟨#[120]⟩,⟨#[121]⟩]:List Nm).Nodup
  decide
 have j:∀v∈(kQ d).ins++(kQ d).outs,∃c:UInt8,c≠95/\v.name=⟨#[c]⟩:=by
  rw[f,g];intro v a;simp only[aiA,aiK,aib,aip,aiJ]at a;rcases a with rfl|rfl|rfl|rfl
  .exact⟨97,by decide,rfl⟩
  .exact⟨98,by decide,rfl⟩
  .exact⟨120,by decide,rfl⟩
  .exact⟨121,by decide,rfl⟩
 have m:∀v,v∈d.ins\/v∈d.outs->Kn (((kQ d).ins++(kQ d).outs).foldl TE.add T0) 0 v:= λv a=>by
  have n:lg v∈(kQ d).ins++(kQ d).outs:=by
   rcases a with a|a
   .exact ai6 _ (aiN a)
   .exact ajq _ (aiN a)
  refine⟨v7 t (lg v) n,?_⟩;obtain⟨c,_,e⟩:=j _ n;rintro⟨u,w,_,x⟩;exact Ka u c w (x.symm.trans e)
 have y:d.outs.length=2:=by rw[l];rfl
 refine⟨?_,?_,i.pr _ _ (λv a=>?_) λv a=>m v (.inr a),i.dp,by rw[f];rfl,by rw[g];rfl,?_⟩
 .have:=i.w;rw[y]at this;omega
 .refine qh.wM (λx h=>by simp at h) λv a=>?_
  obtain⟨c,n,e⟩:=j v a;rw[e];exact DH n
 .rcases a with a|a|a
  .exact m v (.inl a)
  .simp at a
  .simp at a
 .intro v a;obtain⟨c,n,e⟩:=j v a;refine⟨by rw[e];exact Ht (DH n),?_,?_⟩
  .rw[f,g]at a;simp only[aiA,aiK,aib,aip,aiJ]at a;rcases a with rfl|rfl|rfl|rfl<;>rfl
  .rw[f,g]at a;simp only[aiA,aiK,aib,aip,aiJ]at a;rcases a with rfl|rfl|rfl|rfl
   .intro e;simp[lg,Mk.aV]at e
   .intro e;simp[lg,Mk.bV]at e
   .intro e;rcases b with⟨b,_⟩|⟨_,b⟩
    .simp[lg,b]at e
    .exact(tB b).2
   .intro e;simp[lg,Mk.yV]at e
theorem Bh:∀(l:List Nd) (s:DS) (k:Nat) (a:Nd),(er l s).1[k]?=some a->∃d b,l[k]?=some d/\a=(yy d b).1
 |[],s,k,a,h=>by rw[er]at h;simp at h
 |d::l,s,0,a,h=>by rw[er]at h;simp at h;exact⟨d,s,by simp,h.symm⟩
 |d::l,s,k+1,a,h=>by
  rw[er]at h;simp at h;obtain⟨c,b,f,e⟩:=Bh l _ k a h;exact⟨c,b,by grind,e⟩
def Bi:∀(l:List Nd) (s:DS),(∀d∈l,∀s:DS,1000*(gf d.b s).2.n<=1000*s.n+2500000/\((∀e∈s.aB,e.fu.length<=3)->∀e∈(gf d.b s).2.aB,e.fu.length<=3))->
  1000*(er l s).2.n<=1000*s.n+l.length*2500000/\((∀e∈s.aB,e.fu.length<=3)->∀e∈(er l s).2.aB,e.fu.length<=3)
 |[],s,_=>by rw[er];exact⟨by simp,λh=>h⟩
 |d::l,s,h=>by
  obtain⟨f,a⟩:=h d (by simp) s;obtain⟨b,c⟩:=Bi l (yy d s).2 λx a=>h x (by simp[a])
  rw[er];refine⟨?_,λb=>c (a b)⟩;rw[aia,aiY];have:(yy d s).2=(gf d.b s).2:=rfl;rw[this]at b⊢
  dsimp only
  omega
def N1.ds(h:N1 en k d):KI en d:=by
 have:=h.il;have:=h.ol;have:=h.wt;have:=h.dp;exact⟨by omega,λv a=>by rw[(h.fc v a).ck];simp,(FZ d.b _ _ h.pr h.wt).wf,by omega,by omega⟩
def N1.out(h:N1 en k d):LA en (a_ k) (n_ en d) 8 7600000/\(n_ en d).b.vars.length<=2600000:=by
 have a:=h.il;have a:=h.ol;have a:=h.wt;have b:=h.dp;have a:=Kk h.fc h.pr (by omega);refine⟨⟨a.ot,aiz a.dd b,aiz a.wo (by omega)⟩,?_⟩;have g:=bu.qg (d.ins++d.outs) xw;have a:=g.vs;have b:=(xx en d.b true _ ((d.ins++d.outs).foldl fp mS).m _ g.sc (dN.qg (d.ins++d.outs) (r:=mS) (T:=T0) (λ_=>rfl)) h.ds.wf (by rw[g.ck];simp only[List.length_nil];omega)).vs;rw[ah6]at a
 dsimp only[List.length_nil]at a
 show(iF en true d.b ((d.ins++d.outs).foldl fp mS).s ((d.ins++d.outs).foldl fp mS).m).1.vars.length<=_;omega
structure Made(p:Pg):Prop where
 da:KH p
 ds:KJ (lI p)
 ur:IQ (s_ (lI p))
 en:k8 (lI p).aB
 nk:∀f∈(BP (s_ (lI p))).nodes,Hm (lI p).aB f/\∀q∈f.eqs,DD q
 nl:(BP (s_ (lI p))).nodes.length<=3
def Jo{l:List Mk.Nd}(h:Mk.GP l):Made (ph l):=by
 obtain⟨h1,T,U⟩:=h;generalize C:(er (ph l).nodes ⟨0,[]⟩).2.aB=r;have m:(lI (ph l)).aB=ja r:=by rw[<-C];rfl
 have p:∀(k:Nat) (d:Nd),(ph l).nodes[k]?=some d->∃a,d=kQ a/\Mk.GN k a:= λk d a=>by
  have g:(l.map kQ)[k]?=some d:=a;rw[aiZ,aiE]at g;obtain⟨f,i,s⟩:=g;exact⟨f,s.symm,U k f i⟩
 have q:∀(k:Nat) (a:Mk.Nd),Mk.GN k a->∀s,LZ (ja r) (a_ k) (((kQ a).ins++(kQ a).outs).foldl TE.add T0) (λ_=>0) (nW a.b) s:= λk a b s=>by
  obtain⟨f,g,i,_⟩:=uZ r b;exact FY (nW a.b) _ _ s g i f
 have t:(ph l).nodes.length<=3:=by show(l.map kQ).length<=3;rw[ah8];exact T
 obtain⟨E,V⟩:=Bi (ph l).nodes ⟨0,[]⟩ λd a s=>by
  obtain⟨k,b⟩:=ajB a;obtain⟨f,rfl,g⟩:=p k d b;have:=(q k f g s).n;have i:=(uZ r g).1;exact⟨by show 1000*(gf (nW f.b) s).2.n<=_;omega,(q k f g s).es⟩
 have F:∀(k:Nat) (d:Nd),(lI (ph l)).nodes[k]?=some d->N1 (ja r) k d:= λa d c=>by
  obtain⟨z,i,y,rfl⟩:=Bh _ _ a d c;obtain⟨f,rfl,g⟩:=p a z y;obtain⟨L,M,N,P,A,J,K⟩:=uZ r g;have s:=q a f g i;have O:=s.w;have Q:=s.dp;exact⟨g.1,A,J,K,s.pr _ _ (si.refl _ _),by show iG (gf (nW f.b) i).1<=_;omega,by show ju (gf (nW f.b) i).1<=_;omega⟩
 have X:(lI (ph l)).nodes.length<=3:=by show(er (ph l).nodes ⟨0,[]⟩).1.length<=3;rw[vH];exact t
 have ac:∀d∈(lI (ph l)).nodes,∃k,N1 (ja r) k d:= λd a=>by
  obtain⟨k,b⟩:=ajB a;exact⟨k,F k d b⟩
 have G:k8 (lI (ph l)).aB:=by
  rw[m,<-C];have g:=(uj (ph l).nodes ⟨0,[]⟩).2 (by simp);refine⟨?_,λe f=>?_⟩
  .rw[aia];have:=aiB 2500000 t
   dsimp only at E
   omega
  .rcases aib.1 f with rfl|f
   .show([_,_,_]:List Nm).length<=_;simp
   .have:=V (λe a=>by simp at a) e f;omega
 have n:∀(k:Nat) (d:Nd),(s_ (lI (ph l))).nodes[k]?=some d->∃a,N1 (ja r) k a/\d=n_ (ja r) a:= λa d c=>by
  have f:((lI (ph l)).nodes.map (n_ (lI (ph l)).aB))[a]?=some d:=c;rw[aiZ,aiE]at f;obtain⟨i,s,g⟩:=f;rw[m]at g;exact⟨i,F a i s,g.symm⟩
 have H:(s_ (lI (ph l))).nodes.length<=3:=by show((lI (ph l)).nodes.map _).length<=3;rw[ah8];exact X
 generalize u:s_ (lI (ph l))=a at n H;have o:∀(k:Nat) (b:k<a.nodes.length),a.nodes[k].name=Mk.nm 102 k:= λc f=>by
  obtain⟨i,g,e⟩:=n c _ (aiM f);rw[e];exact g.nm
 have I:(a.nodes.map (·.name)).Nodup:=by
  rw[akE,aj7];intro i j f w g e;rw[aj6,aj6,o i (by simpa using f),o j (by simpa using w)]at e;have:=(p8 e).2;omega
 have am:∀k,k<=a.nodes.length->zA (a_ k) a.nodes:= λk b B ⟨j,w,e⟩=>by
  have f:j<a.nodes.length:=by omega
  have g:=sB I f;rw[o j f]at g;obtain⟨y,s,i⟩:=n j _ (aiM f);exact⟨j,a.nodes[j],by rw[e];exact g,aiM f,by rw[i];exact s.il⟩
 have x:∀(k:Nat) (d:Nd),a.nodes[k]?=some d->(d.ins.length+d.outs.length+d.b.vars.length<=9000000/\BZ a.nodes d.b/\z' d.b<=80000/\od d.b<=8000000/\B0 d.b)/\(∀s∈iS d.b,a_ k s)/\Hm (ja r) (tc a.nodes d)/\∀q∈(tc a.nodes d).eqs,DD q:= λi d D=>by
  obtain⟨f,g,rfl⟩:=n i d D;obtain⟨J,K⟩:=g.out;have b:i<a.nodes.length:=(aiX.1 D).1;have L:(n_ (ja r) f).ins.length=2:=g.il;have M:(n_ (ja r) f).outs.length=2:=by show(f.outs.map _).length=2;rw[ah8];exact g.ol
  have Y:∀v∈(n_ (ja r) f).ins++(n_ (ja r) f).outs,v.clock=[]:= λv c=>by
   rcases ain.1 c with c|c
   .exact(g.fc v (ai6 _ c)).ck
   .obtain⟨Q,Z,rfl⟩:=aij.1 (show v∈f.outs.map _ from c);exact(g.fc Q (ajq _ Z)).ck
  have N:=Kr (ns:=a.nodes) J (by omega) Y (by omega) (by omega);obtain⟨⟨R,S,s,_,_⟩,O,y⟩:=J;generalize (n_ (ja r) f)=d at s O y K L M N⊢;obtain⟨d6,co,d7,⟨A,z⟩,ps⟩:=d;simp only[bF.eqs,bF.vars]at s O y K;have P:tD (ja r) (a_ i) R S (.mk A z):=by rw[tD];exact s
  have d5:Ac (.mk A z)<=7600000:=by rw[Ac];exact y
  obtain⟨u1,u2⟩:=Gd (am i (by omega)) _ P (by omega);have WS:=Gb (.mk A z);exact⟨⟨by dsimp only[bF.vars]at L M⊢;omega,u1,by rw[z'];omega,by dsimp only;omega,u2⟩,zy _ P,N⟩
 have ce:IQ a:=by
  refine⟨by omega,⟨I,λi f s g=>.inl ?_⟩,λd c=>?_⟩
  .obtain⟨j,w,e⟩:=(x i _ (aiM f)).2.1 s g;rw[e,<-o j (by omega),aij];exact⟨a.nodes[j],by rw[akG];exact⟨j,by omega,rfl⟩,rfl⟩
  .obtain⟨k,b⟩:=ajB c;exact(x k d b).1
 refine⟨⟨by show([vZ]:List En).length<=_;simp,by omega,λd c=>?_,?_⟩,⟨G,by omega,λd c=>?_⟩,by rw[u];exact ce,G,λB D=>?_,?_⟩
 .obtain⟨k,b⟩:=ajB c;obtain⟨f,rfl,s⟩:=p k d b;obtain⟨g,y,i,_⟩:=uZ r s;exact F7 (nW f.b) _ _ i g
 .have:=aiB 2500000 t
  dsimp only at E
  omega
 .obtain⟨k,b⟩:=ac d c;rw[m];exact b.ds
 .rw[u]at D;obtain⟨d,c,rfl⟩:=aij.1 (show B∈a.nodes.map (tc a.nodes)from D);obtain⟨k,b⟩:=ajB c;rw[m];exact(x k d b).2.2
 .rw[u];show(a.nodes.map _).length<=3;rw[ah8];exact H
end Go.Pm
namespace Go.Proofs.Pz
open Go.Mt Go.Sm Go.Ps Go.Proofs
def L4:HB 1 [bg]:= λb a=>by rw[aiR]at a;subst a;exact Fp (by kernel_rfl)
def xG{f:Nat}{ms:List M}{v:D}(h:Dt Tryz.prog f ms [.ob 0 bg] λx l=>x=.d v/\l=[.ob 0 bg]):CT Tryz.prog f ms [bg] λr K=>r=.d v/\K=[bg]:=by
 obtain⟨x,K,⟨l,⟨rfl,rfl⟩,w⟩,c⟩:=h [bg] (·=0) (qH ⟨rfl,λj=>aj2⟩);have a:=w.ob;refine CT.drop 1 (ah9 _) (c.mono ?_);rintro r k ⟨rfl,rfl⟩;have b:1<=k.length:=(aiX.1 a).1;have d:k.take 1=[bg]:=by
  cases k with
  |nil=>simp at b
  |cons e r=>simp at a;subst a;rfl
 rw[d];exact⟨b,.d _,L4,W,W⟩
def Jp{l:List Fl}{i:Nat}(h:i<l.length):(l.map Fl.cells)[((i:Nat):Int).toNat]?=some [.str l[i].name,.sl (ax l[i].ins),.sl (ax l[i].outs),.sl (ax l[i].vars),.sl (l[i].eqs.map Fq.cells)]:=by simp[h,Fl.cells]
def Jq{l:List Fq}{i:Nat}(h:i<l.length):(l.map Fq.cells)[((i:Nat):Int).toNat]?=some (mU l[i] (.sl (bA l[i].ck))):=by simp[h,ez]
end Go.Proofs.Pz
namespace Go.Ps
open Go.Mt Go.Sm
def Hu(l:List Nm)(x:Nm):cW l x=l.any λs=>decide (s=x):=by
 cases h:cW l x with
 |true=>rw[gX]at h;exact(ajr.2 ⟨x,h,by simp⟩).symm
 |false=>
  symm;rw[akM];intro y a;simp only[decide_eq_true_eq];rintro rfl;rw[(gX).2 a]at h;cases h
end Go.Ps
namespace Go.Proofs.Pz
open Go.Mt Go.Sm Go.Ps Go.Proofs
open Tryz
theorem Jr(l:List Nm)(x:Nm)(g:l.length<=10000000):PT prog 35 [.sl (aE l),.str x] (·=[.bool (cW l x)]):=by
 have f:(aE l).length=l.length:=by simp[aE]
 rw[Hu];refine ML (My func35 W ntmps35 W λm n=>?_)
 repeat refine TC.seq ?_
 refine TC.region<|aj W W<|TL.nil ?_
 repeat refine TC.seq ?_
 refine TC.region<|aj W W<|TL.nil ?_
 repeat refine TC.seq ?_
 refine TC.block<|M9 (λk s=>∃i:Nat,s=⟨[(5,.m (.d (.int .i64 i))),(0,.m (.d (.sl (aE l)))),(1,.m (.d (.str x)))],[],[]⟩/\i<=l.length/\k=l.length-i/\(∀j,j<i->∀h:j<l.length,decide (l[j]=x)=false)) l.length _
  ⟨0,rfl,by omega,rfl,by grind⟩ W ?_
 rintro k s ⟨i,rfl,o,rfl,d⟩
 repeat refine TC.seq ?_
 refine TC.region<|aq W W<|aq W W ?_
 (refine aY W W W ?_;rw[f])
 refine ay W W W W<|TL.nil ?_
 repeat refine TC.seq ?_
 refine TC.cond W (λb=>?_) (λb=>?_)
 .have c:i<l.length:=by grind
  refine TC.skip ?_
  repeat refine TC.seq ?_
  refine TC.block ?_
  repeat refine TC.seq ?_
  refine TC.region<|aq W W<|aq W W<|bH W W W (ah7 i) (r:=[.str l[i]]) (fF c) W<|aI W W W<|aq W W<|xV W W W<|TL.nil ?_
  repeat refine TC.seq ?_
  refine TC.cond W (λa=>?_) (λa=>?_)
  .repeat refine TC.seq ?_
   refine TC.region<|aj W W<|TL.nil<|TC.ret ⟨_,W,[_],W,?_⟩;rw[ajr.2 ⟨l[i],aif c,a⟩]
  .refine TC.skip ?_
   repeat refine TC.seq ?_
   refine TC.region<|aq W W<|bc W W W (by omega)<|aj W W<|TL.nil<|again (k':=l.length-(i+1)) (by omega) ⟨i+1,rfl,by omega,rfl,?_⟩ W W;intro j e h;rcases aji.1 e with p|rfl
   .simp_all
   .exact a
 .refine TC.exit ?_;have e:i=l.length:=by have:=aie b;omega
  repeat refine TC.seq ?_
  refine TC.region<|aj W W<|TL.nil<|TC.ret ⟨_,W,[_],W,?_⟩;rw[akM.2 λy c=>by
   obtain⟨j,a,rfl⟩:=ai4 c;simp[d j (by omega) a]]
theorem u4(l:List Nm)(x:Nm)(c:l.length<=1000000):PT prog 34 [.sl (aE l),.str x] (·=[.sl (aE (bt l x))]):=by
 have g:∀l:List Nm,(aE l).length=l.length:= λl=>by simp[aE]
 refine ML (My func34 W ntmps34 W λe f=>?_)
 repeat refine TC.seq ?_
 refine TC.region<|aj W W<|TL.nil ?_
 repeat refine TC.seq ?_
 refine TC.region<|aq W W<|aq W W<|aX (Jr l x (by omega)) W W<|TL.nil ?_
 repeat refine TC.seq ?_
 refine TC.cond W (λa=>?_) (λa=>?_)
 .repeat refine TC.seq ?_
  refine TC.region<|aq W W<|aj W W<|TL.nil<|TC.ret ⟨_,W,[_],W,by rw[bt,air a]⟩
 refine TC.skip ?_;have d:bt l x=l++[x]:=by rw[bt,aid (by rw[a];simp)]
 have b:aE (l++[x])=aE l++[[.str x]]:=by simp[aE]
 rw[d]
 repeat refine TC.seq ?_
 refine TC.region<|aj W W<|TL.nil ?_;cases l with
 |nil=>
  repeat refine TC.seq ?_
  refine TC.region<|aq W W<|aq W W<|oj W W W<|aj W W<|TL.nil ?_
  repeat refine TC.seq ?_
  refine TC.region<|aq W W<|aq W W<|dF W W W W W W W W<|dB true W W W W (by rfl) (by simp) (by exact bS W) (by grind)<|aj W W<|TL.nil<|TC.aR 4 W (Acc.view (n:=1) (i:=0) (rs:=[[.str x]]) (.inr ⟨by simp,_,rfl,rfl⟩) (by exact bS W))<|TC.ret ⟨_,W,[_],W,W⟩
 |cons q r=>
  simp only[aia]at c
  repeat refine TC.seq ?_
  refine TC.region<|aq W W<|aq W W<|dB true W W W W (by rfl) (by simp[aE]) (by grind) (by grind)<|aj W W<|TL.nil ?_
  repeat refine TC.seq ?_
  refine TC.region<|aq W W<|aq W W<|dF W W W W W W W W<|dr W W W (by exact rfl) (by rfl) (by exact bS W) (by grind) (by grind)<|aj W W<|TL.nil<|TC.aR 4 W (Acc.view (n:=1) (i:=0) (rs:=aE (q::r++[x])) (.inr ⟨by simp[aE],_,by rw[b,ah6];rfl,by rw[b];simp[aM];rfl⟩) (cU _))<|TC.ret ⟨_,rfl,[_],rfl,rfl⟩
end Go.Proofs.Pz
namespace Go.Ps
open Go.Mt Go.Sm
def rY:∀{l:List Xp} {i:Nat} (h:i<l.length),aP (l.take i)+bJ l[i]<=aP l
 |a::l,0,h=>by simp[aP]
 |a::l,i+1,h=>by have:=rY (l:=l) (i:=i) (by simpa using h);simp only[aiU,aP,ajg];omega
end Go.Ps
namespace Go.Proofs.Pz
open Go.Mt Go.Sm Go.Ps Go.Proofs
open Tryz
def E7{X:cQ}{sl M8:List (Nat×V)}{bx:List (Nat×List M)}{H:Hp}(b:keeps sl M8):∀a w,Inv X ⟨sl,bx,H⟩ a w->Inv X ⟨M8,bx,H⟩ a w:= λ_ _ c=>c.gL (fS b) (λ_=>rfl)
theorem tH(e:Xp)(l:List Nm)(g:fG e)(p:l.length+bJ e<=1000000):PT prog 84 [.sl (aE l),.agg e.cells,.bool false] (·=[.sl (aE (hM e l))]):=by
 have q:∀k∈e.kids,∀(l:List Nm),l.length+bJ k<=1000000->PT prog 84 [.sl (aE l),.agg k.cells,.bool false] (·=[.sl (aE (hM k l))]):=
  λk a l h=>
   have:=Od a
   tH k l (by cases g with|mk _ _ _ b=>exact b k a) h
 have x:e.kids.length<=1000000:=by cases g with|mk _ h _ _=>exact h
 have u:(e.kids.map Xp.cells).length=e.kids.length:=by simp
 rw[uo]at p;have j:=u4 l e.nm (by omega);obtain⟨a,k⟩:∃a,a=if e.kd=4\/e.kd=13 then bt l e.nm else l:=⟨_,rfl⟩
 have y:a.length<=l.length+1:=by rw[k];split;exact iQ l e.nm;omega
 have s:hM e l=if e.kd=12 then bt (cu e.kids a) e.nm else cu e.kids a:=by
  rw[CL,k];by_cases b:e.kd=4\/e.kd=13
  .grind
  .grind
 have z:=gJ e.kids a;rw[s,e.ah];refine ML (My func84 W ntmps84 W λA B=>?_)
 repeat refine TC.seq ?_
 refine TC.region<|gZ W W<|aj W W<|TL.nil<|TC.seq<|TC.D8 ⟨[(4,.m (.d (.bM (xC e) 0))),(0,.m (.d (.sl (aE a)))),(2,.m (.d (.bool false)))],[],[]⟩ ?_ ?_
 .by_cases m:e.kd=4
  .have c:(e.kd==4)=true:=by simp[m]
   have b:a=bt l e.nm:=by simp_all
   rw[b]
   repeat refine TC.seq ?_
   refine TC.region<|aG W W<|aI W W W ?_
   (refine ay W W W (r:=.bool true) (by show some (D.bool (e.kd==4))=_;rw[c]) ?_)
   refine aq W W<|bN W W<|bN W W<|bN W W<|gR W W W<|TL.nil ?_
   repeat refine TC.seq ?_
   refine MZ W ?_
   repeat refine TC.seq ?_
   refine TC.region<|aq W W<|aG W W<|aI W W W<|aX j W W<|aj W W<|TL.nil<|E7 W
  have c:(e.kd==4)=false:=by simp[m]
  by_cases n:e.kd=13
  .have d:(e.kd==13)=true:=by simp[n]
   have b:a=bt l e.nm:=by simp_all
   rw[b]
   repeat refine TC.seq ?_
   refine TC.region<|aG W W<|aI W W W ?_
   (refine ay W W W (r:=.bool false) (by show some (D.bool (e.kd==4))=_;rw[c]) ?_)
   refine aq W W<|az W ?_;refine aG W W ?_;refine az W ?_;refine aI W W W ?_;refine az W ?_;refine ay W W W (r:=.bool true) (by show some (D.bool (e.kd==13))=_;rw[d]) ?_;refine gR W W W<|TL.nil ?_
   repeat refine TC.seq ?_
   refine MZ W ?_
   repeat refine TC.seq ?_
   refine TC.region<|aq W W<|aG W W<|aI W W W<|aX j W W<|aj W W<|TL.nil<|E7 W
  have d:(e.kd==13)=false:=by simp[n]
  have b:a=l:=by grind
  rw[b]
  repeat refine TC.seq ?_
  refine TC.region<|aG W W<|aI W W W ?_
  (refine ay W W W (r:=.bool false) (by show some (D.bool (e.kd==4))=_;rw[c]) ?_)
  refine aq W W<|az W ?_;refine aG W W ?_;refine az W ?_;refine aI W W W ?_;refine az W ?_;refine ay W W W (r:=.bool false) (by show some (D.bool (e.kd==13))=_;rw[d]) ?_;refine gR W W W<|TL.nil ?_
  repeat refine TC.seq ?_
  refine MJ W<|TC.skip<|E7 W
 repeat refine TC.seq ?_
 refine OZ ?_
 repeat refine TC.seq ?_
 refine TC.block<|M9 (λk s=>∃(i:Nat) (b:List Nm),s=⟨[(7,.m (.d (.int .i64 ((i:Nat):Int)))),(4,.m (.d (.bM (xC e) 0))),(0,.m (.d (.sl (aE b)))),(2,.m (.d (.bool false)))],[],[]⟩/\b=cu (e.kids.take i) a/\i<=e.kids.length/\k=e.kids.length-i) e.kids.length _
  ⟨0,a,rfl,by rw[aiD,cu],by omega,rfl⟩ W ?_
 rintro v w ⟨i,o,rfl,f,C,rfl⟩
 repeat refine TC.seq ?_
 refine TC.region<|aq W W<|aG W W<|aI W W W ?_
 (refine aY W W W ?_;rw[u])
 refine ay W W W W<|TL.nil ?_
 repeat refine TC.seq ?_
 refine TC.cond W (λt=>?_) (λt=>?_)
 .have b:i<e.kids.length:=by grind
  have c:(e.kids.map Xp.cells)[((i:Nat):Int).toNat]?=some e.kids[i].cells:=by simp[b]
  have h:=gJ (e.kids.take i) a;have E:=rY b;have d:=q _ (aif b) o (by grind);have m:cu (e.kids.take (i+1)) a=hM e.kids[i] o:=by rw[ah5 b,nL,f,cu,cu]
  generalize e.kids[i]=n at c d m;rw[n.ah]at c d;refine TC.skip ?_
  repeat refine TC.seq ?_
  refine TC.block ?_
  repeat refine TC.seq ?_
  refine OZ ?_
  repeat refine TC.seq ?_
  refine MJ W<|TC.skip ?_
  repeat refine TC.seq ?_
  refine OZ ?_
  repeat refine TC.seq ?_
  refine TC.region<|aq W W<|bc W W W (by omega)<|aj W W<|TL.nil<|again (k':=e.kids.length-(i+1)) (by omega) ⟨i+1,_,rfl,m.symm,by omega,rfl⟩ W W
 .refine TC.exit ?_;obtain rfl:i=e.kids.length:=by grind
  rw[aih]at f;rw[f];by_cases b:e.kd=12
  .have c:(e.kd==12)=true:=by simp[b]
   rw[air b]
   repeat refine TC.seq ?_
   refine TC.region<|aG W W<|aI W W W ?_
   (refine ay W W W (r:=.bool true) (by show some (D.bool (e.kd==12))=_;rw[c]) ?_)
   refine TL.nil ?_
   repeat refine TC.seq ?_
   refine MZ W ?_
   repeat refine TC.seq ?_
   refine TC.region<|aq W W<|aG W W<|aI W W W<|aX (u4 (cu e.kids a) e.nm (by omega)) W W<|aj W W<|TL.nil ?_
   repeat refine TC.seq ?_
   refine TC.region<|aq W W<|aj W W<|TL.nil<|TC.ret ⟨_,W,[_],W,W⟩
  .have c:(e.kd==12)=false:=by simp[b]
   rw[aid b]
   repeat refine TC.seq ?_
   refine TC.region<|aG W W<|aI W W W ?_
   (refine ay W W W (r:=.bool false) (by show some (D.bool (e.kd==12))=_;rw[c]) ?_)
   refine TL.nil ?_
   repeat refine TC.seq ?_
   refine MJ W<|TC.skip ?_
   repeat refine TC.seq ?_
   refine TC.region<|aq W W<|aj W W<|TL.nil<|TC.ret ⟨_,W,[_],W,W⟩
termination_by SizeOf.sizeOf e
end Go.Proofs.Pz
namespace Go.Ps
open Go.Mt Go.Sm
def rA(q:Fq):List Nm:=q.rs.foldl bt ((q.ck.map (·.2)).foldl bt (cu (q.e::q.args) []))
structure u5(q:Fq):Prop where
 e:fG q.e
 a:∀a∈q.args,fG a
 al:q.args.length<=1000000
 n:bJ q.e+aP q.args+q.ck.length+q.rs.length<=900000
end Go.Ps
namespace Go.Proofs.Pz
open Go.Mt Go.Sm Go.Ps Go.Proofs
open Tryz
theorem Hv(l:List Nm)(e:l.length<=10000000):PT prog 31 [.sl (aE l),.sl (aE l)] (·=[.bool true]):=by
 have b:(aE l).length=l.length:=by simp[aE]
 have c:∀n:Nat,(((n:Nat):Int) !=((n:Nat):Int))=false:= λn=>by simp
 refine ML (My func31 W ntmps31 W λf g=>?_);refine MD ?_;refine Ms ?_;refine TC.region<|aq W W ?_
 (refine aY W W W ?_;rw[b])
 refine aq W W ?_
 (refine aY W W W ?_;rw[b])
 (refine ay W W W (r:=.bool false) (by show some (D.bool (((l.length:Nat):Int) !=((l.length:Nat):Int)))=_;rw[c]) ?_)
 refine TL.nil ?_;refine Ms ?_;refine MJ W<|TC.skip ?_;refine MD ?_;refine Ms ?_;refine TC.block<|M9 (λk s=>∃i:Nat,s=⟨[(5,.m (.d (.int .i64 ((i:Nat):Int)))),(0,.m (.d (.sl (aE l)))),(1,.m (.d (.sl (aE l))))],[],[]⟩/\i<=l.length/\k=l.length-i) l.length _
  ⟨0,rfl,by omega,rfl⟩ W ?_
 rintro k s ⟨i,rfl,h,rfl⟩;refine Ms ?_;refine TC.region<|aq W W<|aq W W ?_
 (refine aY W W W ?_;rw[b])
 refine MX ?_;refine Ms ?_;refine TC.cond W (λa=>?_) (λa=>?_)
 .have d:i<l.length:=by grind
  have j:=fF d;refine TC.skip ?_;refine Ms ?_;refine TC.block ?_;refine TC.sF ?_;refine Ms ?_;refine TC.cond W (λa=>?_) (λa=>?_)
  .simp at a
  refine TC.skip ?_;refine Ms ?_;refine TC.region<|TL.go ?_;refine TL.nil<|again (k':=l.length-(i+1)) (by omega) ⟨i+1,rfl,by omega,rfl⟩ W W
 .refine TC.exit ?_;refine Ms ?_;refine TC.region<|aj W W<|TL.nil<|TC.ret ⟨_,W,[_],W,W⟩
theorem Hw(q:Fq)(t:u5 q):PT prog 33 [.agg q.cells] (·=[.sl (aE (rA q))]):=by
 obtain⟨u,v,F,G⟩:=t;have w:(q.args.map Xp.cells).length=q.args.length:=by simp
 have A:(bA q.ck).length=q.ck.length:=by simp[bA]
 have B:(aE q.rs).length=q.rs.length:=by simp[aE]
 have x:=tH q.e [] u (by grind);have l:=lK q.e [];rw[q.e.ah]at x;rw[ez];refine ML (My func33 W ntmps33 W λH I=>?_)
 repeat refine MD ?_
 simp only[List.length_nil]at l;generalize C:hM q.e []=c at l⊢;refine Ms ?_;refine TC.block<|M9 (λk s=>∃(i:Nat) (a:List Nm),s=⟨[(4,.m (.d (.int .i64 ((i:Nat):Int)))),(3,.m (.d (.sl (aE a)))),(1,.m (.d (.bM (mU q (.sl (bA q.ck))) 0)))],[],[]⟩/\a=cu (q.args.take i) c/\i<=q.args.length/\k=q.args.length-i) q.args.length _
  ⟨0,c,rfl,by rw[aiD,cu],by omega,rfl⟩ W ?_
 rintro k s ⟨i,a,rfl,e,m,rfl⟩;refine Ms ?_;refine TC.region<|aq W W<|aG W W<|aI W W W ?_
 (refine aY W W W ?_;rw[w])
 refine MX ?_;refine Ms ?_;refine TC.cond W (λd=>?_) (λd=>?_)
 .have f:i<q.args.length:=by grind
  have n:(q.args.map Xp.cells)[((i:Nat):Int).toNat]?=some q.args[i].cells:=by simp[f]
  have g:=gJ (q.args.take i) c;have E:=rY f;have o:=tH q.args[i] a (v _ (aif f)) (by grind);have p:cu (q.args.take (i+1)) c=hM q.args[i] a:=by rw[ah5 f,nL,e,cu,cu]
  generalize q.args[i]=y at n o p;rw[y.ah]at n o;refine TC.skip ?_;refine Ms ?_;refine TC.block ?_;refine MD ?_;refine Ms ?_;refine TC.region<|TL.go ?_;refine TL.nil<|again (k':=q.args.length-(i+1)) (by omega) ⟨i+1,_,rfl,p.symm,by omega,rfl⟩ W W
 refine TC.exit ?_;obtain rfl:i=q.args.length:=by grind
 rw[aih]at e;have z:=gJ q.args c;rw[<-e]at z;have D:cu (q.e::q.args) []=a:=by rw[cu,C,e]
 unfold rA;rw[D];refine MD ?_;refine Ms ?_;refine TC.block<|M9 (λk s=>∃(i:Nat) (b:List Nm),s=⟨[(5,.m (.d (.int .i64 ((i:Nat):Int)))),(3,.m (.d (.sl (aE b)))),(1,.m (.d (.bM (mU q (.sl (bA q.ck))) 0)))],[],[]⟩/\b=((q.ck.take i).map (·.2)).foldl bt a/\i<=q.ck.length/\k=q.ck.length-i) q.ck.length _
  ⟨0,a,rfl,rfl,by omega,rfl⟩ W ?_
 rintro k s ⟨i,b,rfl,h,m,rfl⟩;refine Ms ?_;refine TC.region<|aq W W<|aG W W<|aI W W W ?_
 (refine aY W W W ?_;rw[A])
 refine MX ?_;refine Ms ?_;refine TC.cond W (λd=>?_) (λd=>?_)
 .have n:i<q.ck.length:=by grind
  have o:(bA q.ck)[((i:Nat):Int).toNat]?=some [.str q.ck[i].1,.str q.ck[i].2]:=by grind
  have g:=dl ((q.ck.take i).map (·.2)) a;simp only[ah8,ait]at g;have p:=u4 b q.ck[i].2 (by grind);have f:((q.ck.take (i+1)).map (·.2)).foldl bt a=bt b q.ck[i].2:=by rw[ah5 n,aio,aiC,h];rfl
  generalize q.ck[i]=y at o p f;refine TC.skip ?_;refine Ms ?_;refine TC.block ?_;refine MD ?_;refine Ms ?_;refine TC.region<|TL.go ?_;refine TL.nil<|again (k':=q.ck.length-(i+1)) (by omega) ⟨i+1,_,rfl,f.symm,by omega,rfl⟩ W W
 refine TC.exit ?_;obtain rfl:i=q.ck.length:=by grind
 rw[aih]at h;have g:=dl (q.ck.map (·.2)) a;rw[<-h,ah8]at g;rw[<-h];refine MD ?_;refine Ms ?_;refine TC.block<|M9 (λk s=>∃(i:Nat) (a:List Nm),s=⟨[(6,.m (.d (.int .i64 ((i:Nat):Int)))),(3,.m (.d (.sl (aE a)))),(1,.m (.d (.bM (mU q (.sl (bA q.ck))) 0)))],[],[]⟩/\a=(q.rs.take i).foldl bt b/\i<=q.rs.length/\k=q.rs.length-i) q.rs.length _
  ⟨0,b,rfl,rfl,by omega,rfl⟩ W ?_
 rintro k s ⟨i,r,rfl,j,m,rfl⟩;refine Ms ?_;refine TC.region<|aq W W<|aG W W<|aI W W W ?_
 (refine aY W W W ?_;rw[B])
 refine MX ?_;refine Ms ?_;refine TC.cond W (λd=>?_) (λd=>?_)
 .have f:i<q.rs.length:=by grind
  have o:=fF f;have p:=dl (q.rs.take i) b;simp only[ait]at p;have y:=u4 r q.rs[i] (by grind);have n:(q.rs.take (i+1)).foldl bt b=bt r q.rs[i]:=by rw[ah5 f,aiC,j];rfl
  generalize q.rs[i]=E at o y n;refine TC.skip ?_;refine Ms ?_;refine TC.block ?_;refine MD ?_;refine Ms ?_;refine TC.region<|TL.go ?_;refine TL.nil<|again (k':=q.rs.length-(i+1)) (by omega) ⟨i+1,_,rfl,n.symm,by omega,rfl⟩ W W
 refine TC.exit ?_;obtain rfl:i=q.rs.length:=by grind
 rw[aih]at j;rw[<-j];refine Ms ?_;refine TC.region<|TL.go ?_;refine TL.nil<|TC.ret ⟨_,W,[_],W,W⟩
end Go.Proofs.Pz
namespace Go.Ps
open Go.Mt Go.Sm
def Hx{l:List Nm}{x y:Nm} :y∈bt l x↔y∈l\/y=x:=by
 unfold bt;split
 .next h=>rw[gX]at h;exact⟨.inl,λa=>a.elim id λa=>a▸h⟩
 .simp
def xi(o l:List Nm)(y:Nm):y∈o.foldl bt l↔y∈l\/y∈o:=by
 induction o generalizing l with
 |nil=>simp
 |cons b o a=>rw[aii,a,Hx,aib,or_assoc]
def u6(o l:List Nm):(o.foldl bt []).foldl bt l=o.foldl bt l:=by
 have d:∀(o p:List Nm),(o.foldl bt p).foldl bt l=o.foldl bt (p.foldl bt l):=by
  intro o
  induction o with
  |nil=>intro p;rfl
  |cons a o b=>
   intro p;rw[aii,aii,b]
   congr 1
   unfold bt;cases c:cW p a with
   |true=>
    have:cW (List.foldl bt l p) a=true:=gX.2 ((xi p l a).2 (.inr (gX.1 c)));unfold bt at this;rw[this];rfl
   |false=>simp
 exact d o []
def E8{f:List Nm->List Nm}(h:∃o:List Nm,∀l,f l=o.foldl bt l)(l:List Nm):f l=(f []).foldl bt l:=by
 obtain⟨o,h⟩:=h;rw[h,h,u6]
mutual
def Bj:∀e:Xp,∃o:List Nm,∀l,hM e l=o.foldl bt l
 |.mk k d n x f c p=>by
  obtain⟨o,h⟩:=zC c;by_cases a:k=4\/k=13
  .exact⟨x::o,λl=>by rw[hM,air a,h];rfl⟩
  .by_cases b:k=12
   .exact⟨o++[x],λl=>by rw[hM,aid a,air b,h,aiC];rfl⟩
   .exact⟨o,λl=>by rw[hM,aid a,aid b,h]⟩
def zC:∀r:List Xp,∃o:List Nm,∀l,cu r l=o.foldl bt l
 |[]=>⟨[],λl=>by rw[cu];rfl⟩
 |e::r=>by
  obtain⟨a,b⟩:=Bj e;obtain⟨c,d⟩:=zC r;exact⟨a++c,λl=>by rw[cu,b,d,aiC]⟩
end
def E9(e:Xp)(l:List Nm):hM e l=(hM e []).foldl bt l:=E8 (Bj e) l
end Go.Ps
namespace Go.Mt
def DC.DI{P:Program}{n B:Nat}{sl:List (Nat×V)}{bx:List (Nat×List M)}{H:Hp}{post:Exit->St->Prop}{c:Code}(j:Nat){ec MF:Nat}{cs:List M}(a:H[j]?=some (.row false ec MF cs))(k:DC P n B c ⟨sl,bx,H.set j (.row true ec MF cs)⟩ post):DC P n B c ⟨sl,bx,H⟩ post:=
 NC _ (λ_ _ _ b w b=>b.ki a) k
def Hy{H:Hp}{i MF k n:Nat}{rs:List (List D)}(a:H[i]?=some (.row true n MF (aM rs)))(b:k=rs.length)(c:rs≠[])(d:∀r∈rs,r.length=n):ep H (.bZ i MF k)=some (.sl rs):=
 Acc.view (n:=n) (i:=i) (.inr ⟨c,MF,by rw[b],a⟩) d
end Go.Mt
namespace Go.Proofs.Pz
open Go.Mt Go.Sm Go.Ps Go.Proofs
open Tryz
theorem wi(c:Nat)(l:List Nm)(x:Nm)(g:l.length<=10000000)(m:M):
  Dt prog 81 [.d (.str x),.ref c 0] [.ob c (.box [m]),.acc 1 (aE l) m] λr b=>∃a,b=[.ob c (.box [a]),.acc 1 (aE (bt l x)) a]:=by
 intro H F h;have w:=Wk.start h;have j:=w.ob;have d:=(w.pick [1,0]).view (cU l);have a:=jg l x g;refine MG func81 W ntmps81 W ?_;cases b:cW l x with
 |true=>
  rw[b]at a;have e:bt l x=l:=by rw[bt,air b]
  rw[e];refine Mo ?_;apply Mn
  .intro f i;refine TL.go ?_
   (refine TL.aR 3 W d ?_;refine aX a W W ?_)
   refine TL.au
  refine Mo ?_;refine DC.cond W (λf=>by cases f) (λa=>?_);refine DC.skip<|⟨_,W,_,⟨_,W⟩,w⟩
 |false=>
  rw[b]at a;have e:aE (bt l x)=aE l++[[.str x]]:=by rw[bt,aid (by rw[b];simp)];simp[aE]
  rw[e];have n:(aE l).length=l.length:=by simp[aE]
  have f:=(w.pick [1,0]).app [[.str x]];refine Mo ?_;apply Mn
  .intro i k;refine TL.go ?_
   (refine TL.aR 3 W d ?_;refine aX a W W ?_)
   refine TL.au
  refine Mo ?_;refine DC.cond W (λa=>?_) (λi=>by cases i);refine Mo ?_;apply Mn
  .intro i k;refine TL.go ?_;refine cT (w.pick [1,0]) W W W W W W (by exact bS W) (by grind)<|cd W W ((f.pick [1,0]).ob) (aN _ _ _) W W<|TL.nil W
  exact⟨_,W,_,⟨_,W⟩,((f.pick [1,0]).set (.box [cJ m H [[.str x]]]))⟩
theorem zD(q:Fq)(L:u5 q):PT prog 32 [.agg q.cells] (·=[.sl (aE (rA q))]):=by
 obtain⟨Z,ha,N5,hn⟩:=L;refine PT.ro (ds:=[_]) ?_;intro H F N;obtain⟨c,A⟩:∃b,b=H.length:=⟨_,rfl⟩;have w:=((Wk.start N).nil 1).new (.box [.d (.sl [])]);rw[<-A]at w;have ac:(bA q.ck).length=q.ck.length:=by simp[bA]
 have am:(aE q.rs).length=q.rs.length:=by simp[aE]
 have g:∀r∈q.args.map Xp.cells,r.length=8:=by
  intro r u;obtain⟨e,_,rfl⟩:=aij.1 u;exact e.len
 rw[show Fq.cells q=mU q (.sl (bA q.ck))from ez q];obtain⟨b,o⟩:∃b,b=q.e::q.args:=⟨_,rfl⟩;have ce:aM (b.map Xp.cells)=aM [xC q.e]++aM (q.args.map Xp.cells):=by rw[o,aiq,q.e.ah];simp[aM]
 have O:1+(q.args.map Xp.cells).length=b.length:=by rw[o];simp;omega
 have Ok:aP b=bJ q.e+aP q.args:=by rw[o,aP]
 have P:∀e∈b,fG e:=by
  simp_all
 have Q:rA q=q.rs.foldl bt ((q.ck.map (·.2)).foldl bt (cu b [])):=by rw[o];rfl
 rw[Q];refine MG func32 W ntmps32 W ?_;refine Mx ?_;refine Mo ?_;apply Mn
 .intro d j;refine o0 W<|TL.nil W
 rw[<-A];generalize H++[Ob.box [.d (.sl [])]]=K at w;refine Mo ?_;apply Mn
 .intro d j;refine pH W W<|TL.au
 refine Mo ?_;apply Mn
 .intro d j;refine aG W W<|eh W W W<|qF (n:=8) (cs:=aM [xC q.e]) W W W W W W<|aG W W<|aI W W W<|dr (acc:=false) (cs:=aM [xC q.e]) W W W (by simp_all) (by rfl) (by exact g) (by rw[ah8];omega) (by rw[ah8];omega) ?_;refine Fm W W<|TL.au
 have R:(K++[Ob.row false 8 0 (aM [xC q.e])]).set K.length (Ob.row false 8 1 (aM [xC q.e]++aM (q.args.map Xp.cells)))=K++[Ob.row false 8 1 (aM (b.map Xp.cells))]:=by
  simp_all
 refine M5 [(21,.m (.d (.int .i64 ((0:Nat):Int)))),(20,.m (.d (.int .i64 ((b.length:Nat):Int)))),(19,.m (.bZ K.length 1 b.length)),(4,.m (.fn 81 [.ref c 0])),(3,.m (.ref c 0)),(2,.m (.d (.sl []))),(1,.m (.d (.bM (mU q (.sl (bA q.ck))) 0)))] (K++[Ob.row false 8 1 (aM (b.map Xp.cells))]) (by rw[<-O];rfl) R<|DC.DI K.length (ec:=8) (MF:=1) (cs:=aM (b.map Xp.cells)) (by simp) ?_;have Y:(K++[Ob.row false 8 1 (aM (b.map Xp.cells))]).set K.length (Ob.row true 8 1 (aM (b.map Xp.cells)))=K++[Ob.row true 8 1 (aM (b.map Xp.cells))]:=by
  simp_all
 rw[Y];refine DC.aR 19 (x:=.sl (b.map Xp.cells)) W (Hy (n:=8) (rs:=b.map Xp.cells) (by simp) (by simp) (by simp_all) (by intro r u;obtain⟨e,_,rfl⟩:=aij.1 u;exact e.len)) ?_;have w:=(w.new (Ob.row true 8 1 (aM (b.map Xp.cells)))).drop;generalize K++[Ob.row true 8 1 (aM (b.map Xp.cells))]=K at w;have hE:b.length<=1000001:=by grind
 have co:(b.map Xp.cells).length=b.length:=by simp
 refine Mo ?_;refine DC.block<|DC.loop (λk d=>∃(i:Nat) (m:M) (f:List (Nat×List M)) (K:Hp),d=⟨[(21,.m (.d (.int .i64 ((i:Nat):Int)))),(20,.m (.d (.int .i64 ((b.length:Nat):Int)))),(19,.m (.d (.sl (b.map Xp.cells)))),(4,.m (.fn 81 [.ref c 0])),(3,.m (.ref c 0)),(1,.m (.d (.bM (mU q (.sl (bA q.ck))) 0)))],f,K⟩/\
   Wk F H [.ob c (.box [m]),.acc 1 (aE (cu (b.take i) [])) m] K/\i<=b.length/\k=b.length-i) b.length _
  ⟨0,.d (.sl []),_,_,rfl,by rw[aiD,cu];exact w,by omega,rfl⟩ W ?_
 rintro t v ⟨i,m,y,K,rfl,w,B,rfl⟩;refine Mx ?_;refine Mo ?_;refine DC.cond W (λh=>?_) (λh=>?_)
 .have p:i<b.length:=by grind
  have C:(b.map Xp.cells)[((i:Nat):Int).toNat]?=some b[i].cells:=by simp[p]
  have k:=gJ (b.take i) [];have S:=rY p;have D:=P _ (aif p);have s:cu (b.take (i+1)) []=(hM b[i] []).foldl bt (cu (b.take i) []):=by rw[ah5 p,nL,cu,cu,<-E9]
  generalize cu (b.take i) []=f at w k s;generalize b[i]=e at C S D s;simp only[List.length_nil]at k;obtain⟨x,T,U,⟨rfl,rfl⟩,w,g⟩:=Wk.call (a:=[]) w (FG e D (by omega));have E:=lK e [];simp only[List.length_nil]at E;generalize hM e []=d at g s E;rw[e.ah]at C g;have ZR:(aE d).length=d.length:=by simp[aE]
  refine DC.skip ?_;refine Mo ?_;refine DC.block ?_
  repeat refine Mx ?_
  refine Mo ?_;refine DC.block<|DC.loop (λk g=>∃(j:Nat) (m:M) (h:List (Nat×List M)) (K:Hp),g=⟨[(28,.m (.d (.int .i64 ((j:Nat):Int)))),(27,.m (.d (.int .i64 ((d.length:Nat):Int)))),(26,.m (.d (.sl (aE d)))),(21,.m (.d (.int .i64 ((i:Nat):Int)))),(20,.m (.d (.int .i64 ((b.length:Nat):Int)))),(19,.m (.d (.sl (b.map Xp.cells)))),(4,.m (.fn 81 [.ref c 0])),(3,.m (.ref c 0)),(1,.m (.d (.bM (mU q (.sl (bA q.ck))) 0)))],h,K⟩/\
    Wk F H [.ob c (.box [m]),.acc 1 (aE ((d.take j).foldl bt f)) m] K/\j<=d.length/\k=d.length-j) d.length _
   ⟨0,m,_,_,rfl,w,by omega,rfl⟩ W ?_
  rintro t v ⟨j,m,y,K,rfl,w,hj,rfl⟩;refine Mx ?_;refine Mo ?_;refine DC.cond W (λh=>?_) (λh=>?_)
  .have G:j<d.length:=by grind
   have V:=fF G;have I:=dl (d.take j) f;rw[ait]at I;have z:(d.take (j+1)).foldl bt f=bt ((d.take j).foldl bt f) d[j]:=by rw[ah5 G,aiC];rfl
   generalize (d.take j).foldl bt f=X at w I z;generalize d[j]=x at V z;obtain⟨x',T,U,⟨m',rfl⟩,w,g⟩:=Wk.call (r:=[]) w (wi c X x (by omega) m);refine DC.skip ?_;refine Mo ?_;refine DC.block ?_;refine Mx ?_;refine Mo ?_;apply Mn
   .intro s0 Oo;refine aq W W<|aq W W<|rH g W W W<|TL.nil W
   refine Mx ?_;exact bf (k':=d.length-(j+1)) (by omega) ⟨j+1,_,_,_,rfl,by rw[z];exact w,by omega,rfl⟩ W W
  refine DC.exit ?_;obtain rfl:j=d.length:=by grind
  rw[aih,<-s]at w;refine Mx ?_;exact bf (k':=b.length-(i+1)) (by omega) ⟨i+1,_,_,_,rfl,w,by omega,rfl⟩ W W
 refine DC.exit ?_;obtain rfl:i=b.length:=by grind
 rw[aih]at w;have k:=gJ b [];simp only[List.length_nil]at k;generalize cu b []=f at w k⊢;refine Mx ?_;refine Mo ?_;refine DC.block<|DC.loop (λk b=>∃(i:Nat) (m:M) (d:List (Nat×List M)) (K:Hp),b=⟨[(40,.m (.d (.int .i64 ((i:Nat):Int)))),(39,.m (.d (.int .i64 ((q.ck.length:Nat):Int)))),(38,.m (.d (.sl (bA q.ck)))),(4,.m (.fn 81 [.ref c 0])),(3,.m (.ref c 0)),(1,.m (.d (.bM (mU q (.sl (bA q.ck))) 0)))],d,K⟩/\
   Wk F H [.ob c (.box [m]),.acc 1 (aE (((q.ck.take i).map (·.2)).foldl bt f)) m] K/\i<=q.ck.length/\k=q.ck.length-i) q.ck.length _
  ⟨0,m,_,_,rfl,w,by omega,rfl⟩ W ?_
 rintro t v ⟨i,m,y,K,rfl,w,B,rfl⟩;refine Mx ?_;refine Mo ?_;refine DC.cond W (λh=>?_) (λh=>?_)
 .have s:i<q.ck.length:=by grind
  have z:(bA q.ck)[((i:Nat):Int).toNat]?=some [.str q.ck[i].1,.str q.ck[i].2]:=by grind
  have j:=dl ((q.ck.take i).map (·.2)) f;simp only[ah8,ait]at j;have d:((q.ck.take (i+1)).map (·.2)).foldl bt f=bt (((q.ck.take i).map (·.2)).foldl bt f) q.ck[i].2:=by rw[ah5 s,aio,aiC];rfl
  generalize ((q.ck.take i).map (·.2)).foldl bt f=C at w j d;generalize q.ck[i]=p at z d;obtain⟨S,G,I,⟨T,rfl⟩,w,g⟩:=Wk.call (r:=[]) w (wi c C p.2 (by omega) m);refine DC.skip ?_;refine Mo ?_;refine DC.block ?_;refine Mx ?_;refine Mo ?_;apply Mn
  .intro D E;refine TL.go ?_;refine rH g W W W<|TL.nil W
  refine Mx ?_;exact bf (k':=q.ck.length-(i+1)) (by omega) ⟨i+1,_,_,_,rfl,by rw[d];exact w,by omega,rfl⟩ W W
 refine DC.exit ?_;obtain rfl:i=q.ck.length:=by grind
 rw[aih]at w;have J:=dl (q.ck.map (·.2)) f;simp only[ah8]at J;generalize (q.ck.map (·.2)).foldl bt f=l at w J⊢;refine Mx ?_;refine Mo ?_;refine DC.block<|DC.loop (λk b=>∃(i:Nat) (m:M) (d:List (Nat×List M)) (K:Hp),b=⟨[(52,.m (.d (.int .i64 ((i:Nat):Int)))),(51,.m (.d (.int .i64 ((q.rs.length:Nat):Int)))),(50,.m (.d (.sl (aE q.rs)))),(4,.m (.fn 81 [.ref c 0])),(3,.m (.ref c 0)),(1,.m (.d (.bM (mU q (.sl (bA q.ck))) 0)))],d,K⟩/\
   Wk F H [.ob c (.box [m]),.acc 1 (aE ((q.rs.take i).foldl bt l)) m] K/\i<=q.rs.length/\k=q.rs.length-i) q.rs.length _
  ⟨0,m,_,_,rfl,w,by omega,rfl⟩ W ?_
 rintro t v ⟨i,m,y,K,rfl,w,B,rfl⟩;refine Mx ?_;refine Mo ?_;refine DC.cond W (λh=>?_) (λh=>?_)
 .have j:i<q.rs.length:=by grind
  have z:=fF j;have p:=dl (q.rs.take i) l;simp only[ait]at p;have d:(q.rs.take (i+1)).foldl bt l=bt ((q.rs.take i).foldl bt l) q.rs[i]:=by rw[ah5 j,aiC];rfl
  generalize (q.rs.take i).foldl bt l=C at w p d;generalize q.rs[i]=s at z d;obtain⟨S,G,I,⟨T,rfl⟩,w,g⟩:=Wk.call (r:=[]) w (wi c C s (by omega) m);refine DC.skip ?_;refine Mo ?_;refine DC.block ?_;refine Mx ?_;refine Mo ?_;apply Mn
  .intro D E;refine TL.go ?_;refine rH g W W W<|TL.nil W
  refine Mx ?_;exact bf (k':=q.rs.length-(i+1)) (by omega) ⟨i+1,_,_,_,rfl,by rw[d];exact w,by omega,rfl⟩ W W
 refine DC.exit ?_;obtain rfl:i=q.rs.length:=by grind
 rw[aih]at w;refine Mo ?_;apply Mn
 .intro d j;refine bK W W w.ob W<|TL.au
 refine DC.aR 2 W ((w.pick [1,0]).view (cU _))<|DC.ret ⟨_,W,_,⟨W,W⟩,w.drop.drop⟩
end Go.Proofs.Pz
