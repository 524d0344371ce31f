/- A part of the proof of the last text of this claim, without conditions. -/
import Derived.Test.YtbafhpblecdbbaaGreatDoorI
set_option maxRecDepth 4000
set_option linter.all false
namespace Go.Ex
open Go.Mt Go.Mk
abbrev e0:Nm:=⟨#[]⟩
abbrev z2:Int×Int:=(0,0)
def cB:E->Sm.Xp
 |.nil=>.mk 0 0 0 e0 [] [] z2
 |.int n=>.mk 1 0 n e0 [] [] z2
 |.bool n=>.mk 2 0 n e0 [] [] z2
 |.ctor s=>.mk 3 0 0 s [] [] z2
 |.var s=>.mk 4 0 0 s [] [] z2
 |.last s=>.mk 5 0 0 s [] [] z2
 |.un d a=>.mk 6 d 0 e0 [] [cB a] z2
 |.bin d a b=>.mk 7 d 0 e0 [] [cB a,cB b] z2
 |.ite c a b=>.mk 8 0 0 e0 [] [cB c,cB a,cB b] z2
 |.rC a b=>.mk 9 0 0 e0 [] [cB a,cB b] z2
 |.pre a=>.mk 10 0 0 e0 [] [cB a] z2
 |.arrow a b=>.mk 11 0 0 e0 [] [cB a,cB b] z2
 |.lS x c a=>.mk 12 0 0 x [c] [cB a] z2
 |.merge x d e f a b c=>.mk 13 0 0 x [d,e,f] [cB a,cB b,cB c] z2
def t':Option (Nm×Nm)->List (Nm×Nm)
 |none=>[]
 |some c=>[c]
def kR(v:Va):Sm.Va:=⟨v.name,v.ty.kind,v.ty.nm,t' v.clock,v.last,cB v.first,z2⟩
def H8(t:Tr):Sm.Tr:=⟨cB t.e,t.to,t.A',z2⟩
mutual
def jD:aJ->Sm.aJ
 |.df x e=>.mk 1 [x] e0 [] false (cB e) [] z2
 |.call x y f a b c e=>.mk 2 [x,y] f [cB a,cB b] c (cB e) [] z2
 |.sw e a=>.mk 3 [] e0 [] false (cB e) (gH a) z2
 |.wg a=>.mk 4 [] e0 [] false (cB .nil) (gH a) z2
 |.reset e b=>.mk 5 [] e0 [] false (cB e) [.mk e0 (nt b) [] [] z2] z2
def zk:aP->Sm.aP
 |.mk d b a c=>.mk d (nt b) (a.map H8) (c.map H8) z2
def gH:List aP->List Sm.aP
 |[]=>[]
 |a::l=>zk a::gH l
def nt:bT->Sm.bT
 |.mk b a=>.mk (b.map kR) (dN a)
def dN:List aJ->List Sm.aJ
 |[]=>[]
 |q::l=>jD q::dN l
end
def mR(l:List aP):gH l=l.map zk:=by induction l with
 |nil=>rfl
 |cons b l a=>simp[gH,a]
def vo(l:List aJ):dN l=l.map jD:=by induction l with
 |nil=>rfl
 |cons b l a=>simp[dN,a]
def kB(d:Nd):Sm.Nd:=⟨d.name,d.ins.map kR,d.outs.map kR,nt d.b,z2⟩
abbrev vp:Sm.En:=⟨lR,[cS,ci,eF],z2⟩
def nu(l:List Nd):Sm.Pg:=⟨[vp],l.map kB⟩
def de:∀e:E,(cB e).cells=e.cells
 |.nil=>rfl
 |.int n=>rfl
 |.bool n=>rfl
 |.ctor s=>rfl
 |.var s=>rfl
 |.last s=>rfl
 |.un d a=>by simp only[cB,Sm.Xp.cells,Sm.pK,de a];rfl
 |.bin d a b=>by simp only[cB,Sm.Xp.cells,Sm.pK,de a,de b];rfl
 |.ite c a b=>by simp only[cB,Sm.Xp.cells,Sm.pK,de a,de b,de c];rfl
 |.rC a b=>by simp only[cB,Sm.Xp.cells,Sm.pK,de a,de b];rfl
 |.pre a=>by simp only[cB,Sm.Xp.cells,Sm.pK,de a];rfl
 |.arrow a b=>by simp only[cB,Sm.Xp.cells,Sm.pK,de a,de b];rfl
 |.lS x c a=>by simp only[cB,Sm.Xp.cells,Sm.pK,de a];rfl
 |.merge x d f g a b c=>by simp only[cB,Sm.Xp.cells,Sm.pK,de a,de b,de c];rfl
def D8(v:Va):(kR v).cells=v.cells:=by
 obtain⟨n,t,a,l,f⟩:=v;have:Sm.bW (t' a)=bW a:=by cases a<;>rfl
 simp only[kR,Sm.Va.cells,Va.cells,de,this]
def yB(l:List Va):Sm.aB (l.map kR)=aB l:=by simp[Sm.aB,aB,Function.comp_def,D8]
def D9(l:List Tr):Sm.eG (l.map H8)=eG l:=by
 simp only[Sm.eG,eG,aiS];exact List.map_congr_left λt _=>by simp[H8,Sm.Tr.cells,Tr.cells,de]
mutual
def D_:∀q:aJ,(jD q).cells=q.cells
 |.df x e=>by simp only[jD,Sm.aJ.cells,aJ.cells,de];try rfl
 |.call x y f a b c e=>by simp only[jD,Sm.aJ.cells,aJ.cells,de,agH,ag1];try rfl
 |.sw e a=>by simp only[jD,Sm.aJ.cells,aJ.cells,de,qR a];try rfl
 |.wg a=>by simp only[jD,Sm.aJ.cells,aJ.cells,de,qR a];try rfl
 |.reset e b=>by simp only[jD,Sm.aJ.cells,aJ.cells,de,Sm.cr,Sm.aP.cells,sT b];try rfl
def D':∀a:aP,(zk a).cells=a.cells
 |.mk e b c d=>by simp only[zk,Sm.aP.cells,aP.cells,sT b,D9]
def qR:∀l:List aP,Sm.cr (gH l)=cr l
 |[]=>rfl
 |a::l=>by simp only[gH,Sm.cr,cr,D' a,qR l]
def sT:∀b:bT,(nt b).cells=b.cells
 |.mk c a=>by simp only[nt,Sm.bT.cells,bT.cells,yB,wk a]
def wk:∀l:List aJ,Sm.bU (dN l)=bU l
 |[]=>rfl
 |q::l=>by simp only[dN,Sm.bU,bU,D_ q,wk l]
end
def Ea(d:Nd):(kB d).cells=d.cells:=by
 have h:=sT d.b;rw[Sm.bT.aj]at h;have a:d.cells=[.str d.name,.sl (aB d.ins),.sl (aB d.outs)]++d.b.cells++[.int .i64 0,.int .i64 0]:=rfl;rw[a,<-h];simp only[kB,Sm.Nd.cells,yB];rfl
def Eb(l:List Nd):(nu l).cells=HR l:=by
 have:(l.map kB).map Sm.Nd.cells=ku l:=by
  simp only[ku,aiS];exact List.map_congr_left λd _=>Ea d
 show [D.sl [Sm.En.cells vp],D.sl ((l.map kB).map Sm.Nd.cells)]=_;rw[this];rfl
variable{x:Nm}{n n' m:Nat}{vars:List Sm.Va}
def Ar(l:List UInt8):Nat:=l.foldl (λa b=>10*a+(b.toNat-48)) 0
def pF(d:Nat)(h:d<10):(strOfNums [IntKind.u8.wrap (48+(d:Int))]).data.toList=[UInt8.ofNat (48+d)]:=by
 match d,h with
 |0,_=>rfl
 |1,_=>rfl
 |2,_=>rfl
 |3,_=>rfl
 |4,_=>rfl
 |5,_=>rfl
 |6,_=>rfl
 |7,_=>rfl
 |8,_=>rfl
 |9,_=>rfl
def ua(d:Nat)(h:d<10):(UInt8.ofNat (48+d)).toNat-48=d:=by
 match d,h with
 |0,_=>rfl
 |1,_=>rfl
 |2,_=>rfl
 |3,_=>rfl
 |4,_=>rfl
 |5,_=>rfl
 |6,_=>rfl
 |7,_=>rfl
 |8,_=>rfl
 |9,_=>rfl
def EU(n:Nat):Ar (dg n).data.toList=n:=by
 induction n using Nat.strongRecOn with
 |ind n b=>
  rw[dg];split
  .rename_i h;rw[pF n h];simp only[Ar,agy,ah2];rw[ua n h];omega
  .rename_i h;have a:=b (n/10) (by omega);rw[aih,air,pF (n%10) (by omega)];unfold Ar at a⊢;rw[ag7,a];simp only[agy,ah2];rw[ua (n%10) (by omega)];omega
def ub(c:UInt8)(k:Nat):(nm c k).data.toList=c::(dg k).data.toList:=by
 unfold nm;rw[aih,air];rfl
def pG{c a:UInt8}{k k':Nat}(h:nm c k=nm a k'):c=a/\k=k':=by
 have b:(nm c k).data.toList=(nm a k').data.toList:=by rw[h]
 rw[ub,ub]at b;injection b with d e
 exact⟨d,by rw[<-EU k,e,EU k']⟩
def JZ(k:Nat):(dg k).data.toList≠[]:=by
 rw[dg];split
 .rename_i h;rw[pF k h];simp
 .rw[aih,air,pF _ (by omega)];simp
def I5(c a:UInt8)(k:Nat):nm c k≠⟨#[a]⟩:=by
 intro h;have b:(nm c k).data.toList=[a]:=by rw[h]
 rw[ub]at b;injection b with _ d
 exact JZ k d
def Gt(n:Nat)(x:Nm):Prop:=∃a k,n<k/\x=nm a k
def qS(n b:Nat)(x:Nm):Prop:=∃a k,a≠95/\n<k/\k<=b/\x=nm a k
def qS.gt(h:qS n n' x):Gt n x:=by obtain⟨c,k,_,a,_,b⟩:=h;exact⟨c,k,a,b⟩
def qS.not(h:qS n n' x):¬Gt n' x:=by
 rintro⟨d,e,f,a⟩;obtain⟨c,k,_,g,i,b⟩:=h;rw[b]at a;have:=(pG a).2;omega
def qS.mono{a:Nat}(h:qS n n' x)(e:m<=n)(f:n'<=a):qS m a x:=by obtain⟨c,k,b,g,i,d⟩:=h;exact⟨c,k,b,by omega,by omega,d⟩
def Gt.mono(h:Gt n x)(b:m<=n):Gt m x:=by obtain⟨c,k,d,a⟩:=h;exact⟨c,k,by omega,a⟩
def At{l:List Nm}{y:Nm} :y∈Sm.dh l x↔y∈l\/y=x:=by
 unfold Sm.dh;split
 .rename_i h;rw[Sm.ki]at h;constructor
  .exact .inl
  .rintro(a|rfl)
   .exact a
   .exact h
 .simp
def sU{r:List Nm} :∀{l:List Nm} {y:Nm},y∈r.foldl Sm.dh l↔y∈l\/y∈r:=by
 induction r with
 |nil=>intro l y;simp
 |cons x r a=>intro l y;rw[agy,a,At,agu,or_assoc]
def eO{aq:List Sm.aP} :∀{l:List Nm} {x:Nm},x∈Sm.aZ l aq↔x∈l\/∃a∈aq,x∈Sm.cE a.a_:=by
 induction aq with
 |nil=>intro l x;simp[Sm.aZ]
 |cons a r d=>
  intro l x;rw[Sm.aZ,d,sU];have e:Sm.pj a=Sm.cE a.a_:=by cases a;rw[Sm.pj];rfl
  rw[e];constructor
  .rintro((h|h)|⟨b,c,h⟩)
   .exact .inl h
   .exact .inr ⟨a,ahn ..,h⟩
   .exact .inr ⟨b,aht _ c,h⟩
  .rintro(h|⟨b,c,h⟩)
   .exact .inl (.inl h)
   .rcases agu.1 c with rfl|c
    .exact .inl (.inr h)
    .exact .inr ⟨b,c,h⟩
def CC{a:List Sm.aJ} :∀{l:List Nm} {x:Nm},x∈Sm.jR vars l a↔x∈l\/∃q∈a,x∈Sm.cp q/\(Sm.rA vars x).isNone=true:=by
 induction a with
 |nil=>intro l x;simp[Sm.jR]
 |cons q r d=>
  intro l x;rw[Sm.jR,d,sU,aiN];constructor
  .rintro((h|⟨h,c⟩)|⟨b,e,h⟩)
   .exact .inl h
   .exact .inr ⟨q,ahn ..,h,c⟩
   .exact .inr ⟨b,aht _ e,h⟩
  .rintro(h|⟨b,c,h⟩)
   .exact .inl (.inl h)
   .rcases agu.1 c with rfl|c
    .exact .inl (.inr h)
    .exact .inr ⟨b,c,h⟩
def j5{b:Sm.bT} :x∈Sm.cE b↔(∃q∈b.eqs,x∈Sm.cp q)/\(Sm.rA b.vars x).isNone=true:=by
 obtain⟨f,e⟩:=b;rw[Sm.cE,CC];simp only[agE,false_or,Sm.bT.eqs,Sm.bT.vars];exact⟨λ⟨q,a,c,d⟩=>⟨⟨q,a,c⟩,d⟩,λ⟨⟨q,a,c⟩,d⟩=>⟨q,a,c,d⟩⟩
def rq:(Sm.rA vars x).isNone=true↔ ∀v∈vars,v.name≠x:=by
 unfold Sm.rA;rw[Option.isNone_iff_eq_none,ahF];simp
def uc(x:Nm):Prop:=x.data.toList.head?≠some 95
def qS.I6(h:qS n n' x):uc x:=by
 obtain⟨c,k,a,_,_,rfl⟩:=h;unfold uc;rw[ub];simpa using a
def rr(c:UInt8)(k:Nat):(Ps.lN c k).data.toList=95::c::Lib.decDigits k:=by
 unfold Ps.lN;rw[aih,air];rfl
def uc.ne(h:uc x)(c:UInt8)(k:Nat):x≠Ps.lN c k:=by
 rintro rfl;apply h;rw[rr];rfl
end Go.Ex
namespace Go.Pm
open Go.Mt Go.Sm Go.Ps
variable{T:TE}{x:Nm}
mutual
def eJ:Xp->Nat->Prop
 |.mk k d n x b a p,c=>(1<=k/\k<=13/\(k=3\/k=5->a=[])/\(k=6\/k=7->1<=d/\d<=16)/\(k=8->2<=a.length)/\(k=9\/k=10->a≠[])/\(k=11->a.length=2)/\
   (k=12->1<=c/\b≠[]/\a.length=1/\bh a=0)/\(k=13->a.length<=b.length)/\a.length<=1000/\b.length<=1000)/\fF a (if k=12 then c-1 else if k=13 then c+1 else c)
def fF:List Xp->Nat->Prop
 |[],_=>True
 |e::l,c=>eJ e c/\fF l c
end
mutual
theorem eJ.mono:∀(e:Xp) {c a:Nat},eJ e c->c<=a->eJ e a
 |.mk q u r x w p s,c,t,h,v=>by
  rw[eJ]at h⊢;obtain⟨⟨a,b,d,f,g,i,j,k,l,m,n⟩,o⟩:=h;exact⟨⟨a,b,d,f,g,i,j,λa=>⟨by grind,(k a).2⟩,l,m,n⟩,fF.mono p o (by grind)⟩
theorem fF.mono:∀(l:List Xp) {c a:Nat},fF l c->c<=a->fF l a
 |[],_,_,_,_=>by rw[fF];trivial
 |e::l,c,b,h,a=>by rw[fF]at h⊢;exact⟨eJ.mono e h.1 a,fF.mono l h.2 a⟩
end
mutual
def eJ.sh:∀(e:Xp) {c:Nat},eJ e c->iW e/\xJ e
 |.mk k j n x w a p,c,h=>by
  rw[eJ]at h;obtain⟨⟨l,m,o,q,r,f,s,g,t,u,v⟩,b⟩:=h;refine⟨.mk (λi=>?_) (by simp only[Xp.kids];omega) (by simp only[Xp.names];omega) λe d=>(fF.sh a b e d).1,.mk (λa=>f (.inl a)) (by omega) (by omega) λe d=>(fF.sh a b e d).2⟩;have:=(g i).2.2.1
  match a,this with
  |[d],_=>exact⟨d,W⟩
def fF.sh:∀(l:List Xp) {c:Nat},fF l c->∀e∈l,iW e/\xJ e
 |[],_,_,e,a=>by simp at a
 |b::l,c,h,e,a=>by
  rw[fF]at h;rcases agu.1 a with a|a
  .rw[a];exact eJ.sh b h.1
  .exact fF.sh l h.2 e a
end
def yC:iW cg/\xJ cg:=⟨.mk (λh=>by simp[Xp.kd]at h) (by simp[Xp.kids]) (by simp[Xp.names]) (λk a=>by simp[Xp.kids]at a),.mk (λh=>by simp at h) (by simp) (by simp) (λe a=>by simp at a)⟩
abbrev KE:=Nm->Nat
def KE.add(K:KE)(v:Va):KE:= λy=>if y=v.name then v.clock.length else K y
def ru:∀{l:List Va},(∀v∈l,v.name≠x)->(l.foldl TE.add T) x=T x:=by
 intro l
 induction l generalizing T with
 |nil=>intro _;rfl
 |cons a l b=>
  intro h;rw[agy,b (λv a=>h v (by simp[a]))];unfold TE.add;rw[agw (λe=>h a (by simp) e.symm)]
theorem vq:∀{l:List Va},(l.map (·.name)).Nodup->∀v∈l,(l.foldl TE.add T) v.name=some (v.tk,v.tn):=by
 intro l
 induction l generalizing T with
 |nil=>intro _ v a;simp at a
 |cons c l d=>
  intro b v a;rw[agH,ahB]at b;rw[agy];rcases agu.1 a with rfl|a
  .rw[ru (λw a e=>b.1 (by grind))];unfold TE.add;rw[agK W]
  .grind
def yD:∀{l:List Va},(T x).isSome=true->((l.foldl TE.add T) x).isSome=true:=by
 intro l
 induction l generalizing T with
 |nil=>exact id
 |cons b l a=>intro h;rw[agy];refine a ?_;unfold TE.add;split;rfl;exact h
def nx{K:KE} :∀{l:List Va},(∀v∈l,v.name≠x)->(l.foldl KE.add K) x=K x:=by
 intro l
 induction l generalizing K with
 |nil=>intro _;rfl
 |cons a l b=>
  intro h;rw[agy,b (λv a=>h v (by simp[a]))];unfold KE.add;rw[agw (λe=>h a (by simp) e.symm)]
theorem yE{K:KE} :∀{l:List Va},(l.map (·.name)).Nodup->∀v∈l,(l.foldl KE.add K) v.name=v.clock.length:=by
 intro l
 induction l generalizing K with
 |nil=>intro _ v a;simp at a
 |cons c l d=>
  intro b v a;rw[agH,ahB]at b;rw[agy];rcases agu.1 a with rfl|a
  .rw[nx (λw a e=>b.1 (by grind))];unfold KE.add;rw[agK W]
  .grind
def Bx(e:Xp):Prop:=(1<=e.kd/\e.kd<=3)/\e.kids=[]/\e.names=[]
structure wz where
 us:Nm->Prop
 KR:Nat
 au:Prop
 bB:Nm->Prop
structure Au(P:wz)(a:List Va):Prop where
 nd:(a.map (·.name)).Nodup
 n:a.length<=P.KR
 us:∀v∈a,P.us v.name
 ck:∀v∈a,v.clock.length<=1/\∀o∈v.clock,∃w∈a,w.name=o.2
 la:∀v∈a,v.last=true->Bx v.first
def yF(t:Tr):Prop:=eJ t.e 0/\cm t.e<=17/\t.to.size<=1000
structure EV(P:wz)(a:aP):Prop where
 nm:P.au->a.name.size<=1000
 u:a.eL.length<=2
 w:a.et.length<=2
 t:∀t∈a.eL++a.et,yF t
section
variable(en:List En)(P:wz)
mutual
def lT(T:TE)(K:KE):bT->Prop
 |.mk a b=>Au P a/\fh (a.foldl TE.add T) (a.foldl KE.add K) b
def fh(T:TE)(K:KE):List aJ->Prop
 |[]=>True
 |q::l=>mG T K q/\fh T K l
def mG(T:TE)(K:KE):aJ->Prop
 |.mk k a f c d e b p=>((∀x∈a,(T x).isSome=true)/\a.length<=2/\a.Nodup/\c.length<=2/\cm e<=100/\(∀a∈c,eJ a 0/\cm a<=100)/\b.length<=3/\∀a∈b,EV P a)/\
   ((k=1/\(∃x,a=[x]/\eJ e (K x))/\c=[]/\b=[])\/
   (k=2/\a≠[]/\(eJ e 0\/d=false/\e=cg)/\b=[]/\P.bB f/\c.length=2)\/
   (k=3/\a=[]/\c=[]/\eJ e 0/\ou en T.ty (λx=>(T x).isSome=true) e)\/
   (k=5/\a=[]/\c=[]/\eJ e 0/\b.length=1)\/
   (P.au/\k=4/\a=[]/\c=[]/\b≠[]/\e=cg))/\gx T K b
def gx(T:TE)(K:KE):List aP->Prop
 |[]=>True
 |.mk _ b _ _ _::l=>lT T K b/\gx T K l
end
variable{en P}
def fh.app{K:KE} :∀{a b:List aJ},fh en P T K (a++b)↔fh en P T K a/\fh en P T K b
 |[],b=>by simp[fh]
 |q::a,b=>by simp only[agQ,fh,fh.app (a:=a),and_assoc]
def gx.app{K:KE} :∀{a b:List aP},gx en P T K (a++b)↔gx en P T K a/\gx en P T K b
 |[],b=>by simp[gx]
 |.mk _ _ _ _ _::a,b=>by simp only[agQ,gx,gx.app (a:=a),and_assoc]
end
mutual
def ud:bT->Nat
 |.mk b a=>6*b.length+iF a
def iF:List aJ->Nat
 |[]=>0
 |q::l=>pS q+iF l
def pS:aJ->Nat
 |.mk k b _ c _ e a _=>(if k=4 then 1200+30*(aZ b a).length else 4+2*cm e+2*bF c+b.length+c.length+(aZ b a).length)+kY (aZ b a).length a
def kY(n:Nat):List aP->Nat
 |[]=>0
 |.mk _ b _ _ _::l=>10+3*n+ud b+kY n l
end
def vr:∀a b:List aJ,iF (a++b)=iF a+iF b
 |[],b=>by simp[iF]
 |q::a,b=>by simp only[agQ,iF,vr a b,ahR]
def Av(n:Nat):∀a b:List aP,kY n (a++b)=kY n a+kY n b
 |[],b=>by simp[kY]
 |.mk _ _ _ _ _::a,b=>by simp only[agQ,kY,Av n a b,ahR]
end Go.Pm
namespace Go.Ex
open Go.Mt Go.Mk Go.Pm
variable{T:Ps.TE}{n m d:Nat}{s:Sc}{t:Ty}{e:E}{l:List Va}{st:Bool}{r:List Sm.En}
def Kn(T:Ps.TE)(n:Nat)(v:Va):Prop:=T v.name=some (v.ty.kind,v.ty.nm)/\¬Gt n v.name
def pH(T:Ps.TE)(n:Nat)(s:Sc):Prop:=∀v,v∈s.ready\/v∈s.all\/v∈s.aY->Kn T n v
def Kn.mono{v:Va}(h:Kn T n v)(a:n<=m):Kn T m v:=⟨h.1,λg=>h.2 (g.mono a)⟩
def pH.mono(h:pH T n s)(a:n<=m):pH T m s:= λv b=>(h v b).mono a
def pH.more(h:pH T n s)(b:∀v∈l,Kn T n v):pH T n (s.more l):=by
 rintro v (a|a)
 .rcases agG.1 a with a|a
  .exact h v (.inl a)
  .exact b v a
 .exact h v (.inr a)
def pH.Jv(h:pH T n s):pH T n ⟨s.all,s.all,s.aY⟩:= λv a=>by rcases a with a|a|a<;>exact h v (by simp[a])
def pH.jZ(h:pH T n s):pH T n s.jZ:= λv a=>by rcases a with a|a|a;exact h v (.inl a);simp at a;exact h v (.inr (.inr a))
def gs:Nat->Nat
 |0=>1
 |d+1=>3*gs d+2
def wP(d:Nat):1<=gs d:=by cases d<;>simp[gs]
abbrev iI(r:List Sm.En):List Sm.En:=vp::r
def sV(h:GC t e):(eJ (cB e) 0/\Ps.cm (cB e)<=1/\Ps.cC (cB e)=0)/\Bx (cB e):=by
 cases h<;>simp[cB,eJ,fF,Ps.cm,Ps.bF,Ps.cC,Ps.bh,Bx,Sm.Xp.kd,Sm.Xp.kids,Sm.Xp.names]
theorem oy(h:GE s t st d e):eJ (cB e) 0/\Ps.cm (cB e)<=gs d/\(st=false->Ps.cC (cB e)=0):=by
 induction h with
 |v h=>cases h with
  |JU h=>obtain⟨⟨a,b,c⟩,_⟩:=sV h;exact⟨a,agW b (wP _),λ_=>c⟩
  |var h=>refine⟨by simp[cB,eJ,fF],?_,by simp[cB,Ps.cC,Ps.bh]⟩;simp only[cB,Ps.cm,Ps.bF];exact wP _
 |c h=>obtain⟨⟨a,b,c⟩,_⟩:=sV h;exact⟨a,agW b (wP _),λ_=>c⟩
 |ite _ _ _ a f g=>
  refine⟨?_,?_,λh=>?_⟩
  .simp[cB,eJ,fF,a.1,f.1,g.1]
  .have:=a.2.1;have:=f.2.1;have:=g.2.1;simp only[cB,Ps.cm,Ps.bF,gs];omega
  .simp[cB,Ps.cC,Ps.bh,a.2.2 h,f.2.2 h,g.2.2 h]
 |rC g _ a=>
  obtain⟨⟨f,b,c⟩,_⟩:=sV g;refine⟨?_,?_,λh=>by simp at h⟩
  .simp[cB,eJ,fF,f,a.1]
  .have:=a.2.1;simp only[cB,Ps.cm,Ps.bF,gs];omega
 |arrow _ _ a f=>
  refine⟨?_,?_,λh=>by simp at h⟩
  .simp[cB,eJ,fF,a.1,f.1]
  .have:=a.2.1;have:=f.2.1;simp only[cB,Ps.cm,Ps.bF,gs];omega
 |last h=>refine⟨by simp[cB,eJ,fF],?_,by simp[cB,Ps.cC,Ps.bh]⟩;simp only[cB,Ps.cm,Ps.bF];exact wP _
 |neg _ a=>
  refine⟨by simp[cB,eJ,fF,a.1],?_,λh=>by simp[cB,Ps.cC,Ps.bh,a.2.2 h]⟩;have:=a.2.1;simp only[cB,Ps.cm,Ps.bF,gs];omega
 |arith g i _ _ a f=>
  refine⟨?_,?_,λh=>by simp[cB,Ps.cC,Ps.bh,a.2.2 h,f.2.2 h]⟩
  .have:1<=g/\g<=16:=by grind
   simp[cB,eJ,fF,a.1,f.1,this]
  .have:=a.2.1;have:=f.2.1;simp only[cB,Ps.cm,Ps.bF,gs];omega
 |not _ a=>
  refine⟨by simp[cB,eJ,fF,a.1],?_,λh=>by simp[cB,Ps.cC,Ps.bh,a.2.2 h]⟩;have:=a.2.1;simp only[cB,Ps.cm,Ps.bF,gs];omega
 |qM g u i _ _ a f=>
  refine⟨?_,?_,λh=>by simp[cB,Ps.cC,Ps.bh,a.2.2 h,f.2.2 h]⟩
  .have:1<=g/\g<=16:=by grind
   simp[cB,eJ,fF,a.1,f.1,this]
  .have:=a.2.1;have:=f.2.1;simp only[cB,Ps.cm,Ps.bF,gs];omega
abbrev Ku(r:List Sm.En)(T:Ps.TE)(e:E)(t:Ty):Prop:=Ps.ou (iI r) T.ty (λx=>(T x).isSome=true) (cB e)/\Ps.dD (iI r) T.ty (cB e)=(t.kind,t.nm)
def Ec(h:GC t e):Ku r T e t:=by
 cases h with
 |bool h=>exact⟨.mk (λk a=>by simp[cB,Sm.Xp.kids]at a) (by simp[cB,Sm.Xp.kids]) (.inr (.inl W)),rfl⟩
 |int h=>exact⟨.mk (λk a=>by simp[cB,Sm.Xp.kids]at a) (by simp[cB,Sm.Xp.kids]) (.inl W),rfl⟩
 | @iO s h=>
  have a:Sm.di vp.fo s=true:=by rw[Sm.ki];exact h
  refine⟨.mk (λk a=>by simp[cB,Sm.Xp.kids]at a) (by simp[cB,Sm.Xp.kids]) (.inr (.inr (.inl ⟨rfl,vp,by simp,a⟩))),?_⟩;show((3:Int),Ps.nZ (iI r) s)=(3,lR);unfold Ps.nZ iI;rw[ajk,a]
theorem CD{x:Nm}(h:EP l t x)(a:∀v∈l,Kn T n v):(T x).isSome=true/\T.ty x=(t.kind,t.nm):=by
 obtain⟨v,b,rfl,_,rfl⟩:=h;have:=(a v b).1;exact⟨by grind,by unfold Ps.TE.ty;rw[this]⟩
def J0(h:GE s t st d e)(a:pH T n s):Ku r T e t:=by
 induction h with
 |v h=>cases h with
  |JU h=>exact Ec h
  |var h=>
   obtain⟨f,g⟩:=CD h (λv f=>a v (.inl f));exact⟨.mk (λk a=>by simp[cB,Sm.Xp.kids]at a) (by simp[cB,Sm.Xp.kids]) (.inr (.inr (.inr (.inl ⟨rfl,f⟩)))),g⟩
 |c h=>exact Ec h
 |last h=>
  obtain⟨f,g⟩:=CD h (λv f=>a v (.inr (.inr f)));exact⟨.mk (λk a=>by simp[cB,Sm.Xp.kids]at a) (by simp[cB,Sm.Xp.kids]) (.inr (.inr (.inr (.inr (.inl ⟨rfl,f⟩))))),g⟩
 |ite _ _ _ g i j=>
  obtain⟨o,k⟩:=g a;obtain⟨p,f⟩:=i a;obtain⟨q,l⟩:=j a;refine⟨.mk (λm a=>?_) (by simp[cB,Sm.Xp.kids]) (.inr (.inr (.inr (.inr (.inr (.inr (.inl ⟨rfl,_,_,_,rfl,by rw[k];rfl,by rw[f,l]⟩))))))),?_⟩
  .simp only[cB,Sm.Xp.kids,agu,agE,ag0]at a;rcases a with rfl|rfl|rfl<;>assumption
  .rw[<-f];rfl
 |rC g _ i=>
  obtain⟨l,f⟩:=Ec (r:=r) (T:=T) g;obtain⟨m,j⟩:=i a.Jv;refine⟨.mk (λk a=>?_) (by simp[cB,Sm.Xp.kids]) (.inr (.inr (.inr (.inr (.inr (.inr (.inr (.inl ⟨.inl W,_,_,rfl,by rw[f,j]⟩)))))))),?_⟩
  .simp only[cB,Sm.Xp.kids,agu,agE,ag0]at a;rcases a with rfl|rfl<;>assumption
  .rw[<-f];rfl
 | @arrow s t d q b _ _ g i=>
  obtain⟨j,f⟩:=g a;obtain⟨k,l⟩:=i a.Jv;have m:Ps.ou (iI r) T.ty (λx=>(T x).isSome=true) (cB (.pre b)):=.mk (λa a=>by simp only[cB,Sm.Xp.kids,agu,agE,ag0]at a;rw[a];exact k) (by simp[cB,Sm.Xp.kids]) (.inr (.inr (.inr (.inr (.inr (.inr (.inr (.inr ⟨rfl,_,rfl⟩))))))));have o:Ps.dD (iI r) T.ty (cB (.pre b))=(t.kind,t.nm):=by rw[<-l];rfl
  refine⟨.mk (λp a=>?_) (by simp[cB,Sm.Xp.kids]) (.inr (.inr (.inr (.inr (.inr (.inr (.inr (.inl ⟨.inr W,_,_,rfl,by rw[f];exact o.symm⟩)))))))),?_⟩
  .simp only[cB,Sm.Xp.kids,agu,agE,ag0]at a;rcases a with rfl|rfl
   .exact j
   .exact m
  .rw[<-f];rfl
 |neg _ f=>
  obtain⟨g,i⟩:=f a;refine⟨.mk (λk a=>?_) (by simp[cB,Sm.Xp.kids]) (.inr (.inr (.inr (.inr (.inr (.inl ⟨.inl W,⟨by simp[cB,Sm.Xp.op],by simp[cB,Sm.Xp.op]⟩,_,_,rfl,λk a=>?_⟩)))))),rfl⟩
  .simp only[cB,Sm.Xp.kids,agu,agE,ag0]at a;rw[a];exact g
  .simp only[cB,Sm.Xp.kids,agu,agE,ag0]at a;rw[a];exact⟨λ_=>by rw[i];rfl,rfl⟩
 |arith f k _ _ m o=>
  obtain⟨p,i⟩:=m a;obtain⟨q,j⟩:=o a;have g:(1<=f/\f<=16)/\Ps.rB f=2/\Ps.qm f=2:=by simp at k;rcases k with rfl|rfl|rfl|rfl|rfl<;>decide
  refine⟨.mk (λl a=>?_) (by simp[cB,Sm.Xp.kids]) (.inr (.inr (.inr (.inr (.inr (.inl ⟨.inr W,g.1,_,_,rfl,λl a=>?_⟩)))))),?_⟩
  .simp only[cB,Sm.Xp.kids,agu,agE,ag0]at a;rcases a with rfl|rfl<;>assumption
  .simp only[cB,Sm.Xp.kids,agu,agE,ag0]at a;rcases a with rfl|rfl
   .exact⟨λ_=>by rw[i];exact g.2.1.symm,W⟩
   .exact⟨λ_=>by rw[j];exact g.2.1.symm,by rw[i,j]⟩
  .show(Ps.qm f,_)=_;rw[g.2.2];rfl
 |not _ f=>
  obtain⟨g,i⟩:=f a;refine⟨.mk (λk a=>?_) (by simp[cB,Sm.Xp.kids]) (.inr (.inr (.inr (.inr (.inr (.inl ⟨.inl W,⟨by simp[cB,Sm.Xp.op],by simp[cB,Sm.Xp.op]⟩,_,_,rfl,λk a=>?_⟩)))))),rfl⟩
  .simp only[cB,Sm.Xp.kids,agu,agE,ag0]at a;rw[a];exact g
  .simp only[cB,Sm.Xp.kids,agu,agE,ag0]at a;rw[a];exact⟨λ_=>by rw[i];rfl,rfl⟩
 |qM f u k _ _ m o=>
  obtain⟨p,i⟩:=m a;obtain⟨q,j⟩:=o a;have g:(1<=f/\f<=16)/\(Ps.rB f≠0->u.kind=Ps.rB f)/\Ps.qm f=1:=by
   simp at k;rcases k with⟨rfl|rfl|rfl,rfl⟩|⟨rfl|rfl,rfl⟩|rfl
   .decide
   .decide
   .decide
   .decide
   .decide
   .exact⟨by decide,λh=>absurd W h,rfl⟩
  refine⟨.mk (λl a=>?_) (by simp[cB,Sm.Xp.kids]) (.inr (.inr (.inr (.inr (.inr (.inl ⟨.inr W,g.1,_,_,rfl,λl a=>?_⟩)))))),?_⟩
  .simp only[cB,Sm.Xp.kids,agu,agE,ag0]at a;rcases a with rfl|rfl<;>assumption
  .simp only[cB,Sm.Xp.kids,agu,agE,ag0]at a;rcases a with rfl|rfl
   .exact⟨λh=>by rw[i];exact g.2.1 h,W⟩
   .exact⟨λh=>by rw[j];exact g.2.1 h,by rw[i,j]⟩
  .show(Ps.qm f,_)=_;rw[g.2.2];rfl
end Go.Ex
namespace Go.Ex
open Go.Mt Go.Mk Go.Pm
variable{s:Sc}{α δ n n' N:Nat}{outs:List Va}{l:List Nm}{aq:List Sm.aP}{Sub:Sc->List Va->Nat->Nat->bT->Prop}
theorem CE{x:Nm}(h:l.Nodup):(Sm.dh l x).Nodup:=by
 unfold Sm.dh;split
 .exact h
 .rename_i a;rw[Sm.ki]at a;rw[ah6];exact⟨h,by simp,λc c b c e=>a (by grind)⟩
def By{r:List Nm} :∀{l:List Nm},l.Nodup->(r.foldl Sm.dh l).Nodup:=by
 induction r with
 |nil=>intro l h;exact h
 |cons x r a=>intro l h;rw[agy];exact a (CE h)
def jP:∀{l:List Nm},l.Nodup->(Sm.aZ l aq).Nodup:=by
 induction aq with
 |nil=>intro l h;rw[Sm.aZ];exact h
 |cons b r a=>intro l h;rw[Sm.aZ];exact a (By h)
theorem j7:∀(l L:List Nm),l.Nodup->(∀x∈l,x∈L)->l.length<=L.length
 |[],L,_,_=>by simp
 |a::l,L,h,b=>by
  rw[ahB]at h;obtain⟨s,u,rfl⟩:=List.append_of_mem (b a (by simp));have:=j7 l (s++u) h.2 λx a=>by
   grind
  simp only[agq,agA]at this⊢;omega
abbrev js(l:List Va):List Nm:=l.map (·.name)
def vt(h:∀a∈aq,∀x∈Sm.cE a.a_,x∈l):(Sm.aZ [] aq).length<=l.length:=
 j7 _ _ (jP (by simp)) λx a=>by
  rw[eO]at a;rcases a with a|⟨b,c,a⟩
  .simp at a
  .grind
section
variable(r:List Sm.En)(az:Nat)
abbrev wl:wz:=⟨uc,3000,True,λf=>∃j,j<az/\f=nm 102 j⟩
structure Kv(α d:Nat)(s:Sc)(a:List Va)(n c:Nat)(b:bT):Prop where
 le:n<=c
 df:∀x∈Sm.cE (nt b),x∈js a
 w:ud (nt b)<=α*(a.length+3)+80*(c-n)
 dp:Ps.iX (nt b)<=d
 pr:∀T K,pH T n s->(∀v∈a,Kn T n v)->lT (iI r) (wl az) T K (nt b)
def wm(e:Sc->List Va->Nat->Nat->bT->Prop)(α d:Nat):Prop:=∀s c n a b,e s c n a b->a<=3000->Kv r az α d s c n a b
structure CF(α d:Nat)(s:Sc)(b:List Va)(n c:Nat)(aq:List aP):Prop where
 le:n<=c
 df:∀a∈gH aq,∀x∈Sm.cE a.a_,x∈js b
 w:∀D,kY D (gH aq)<=aq.length*(10+3*D+α*(b.length+3))+80*(c-n)
 dp:Ps.dJ (gH aq)<=1+d
 pr:∀T K,pH T n s->(∀v∈b,Kn T n v)->gx (iI r) (wl az) T K (gH aq)
variable{r az}
def mS(a b:List aP):gH (a++b)=gH a++gH b:=by rw[mR,mR,mR,agI]
def kw(a b:List aJ):dN (a++b)=dN a++dN b:=by rw[vo,vo,vo,agI]
def Aw:∀a b:List Sm.aP,Ps.dJ (a++b)=max (Ps.dJ a) (Ps.dJ b)
 |[],b=>by simp[Ps.dJ]
 |.mk _ _ _ _ _::a,b=>by simp only[agQ,Ps.dJ,Aw a b];omega
def oU:∀a b:List Sm.aJ,Ps.eH (a++b)=max (Ps.eH a) (Ps.eH b)
 |[],b=>by simp[Ps.eH]
 |q::a,b=>by simp only[agQ,Ps.eH,oU a b];omega
def CF.nil:CF r az α δ s outs n n []:=
 ⟨ags _,λa a=>by simp[gH]at a,λD=>by simp[gH,kY],by simp[gH,Ps.dJ],λT K _ _=>by simp[gH,gx]⟩
def CF.snoc{α g:Nat}{s:Sc}{f l:List Va}{n k m:Nat}{aq:List aP}(h:CF r az α g s f n k aq)(i:LS f l){b:bT}(d:Kv r az α g s.jZ l k m b)(c:Nm)(u w:List Tr):
  CF r az α g s f n m (aq++[.mk c b u w]):=by
 have q:=h.le;have z:=d.le;refine⟨by omega,λt a x j=>?_,λD=>?_,?_,λT K o p=>?_⟩
 .rw[mS,agG]at a;rcases a with a|a
  .exact h.df t a x j
  .simp only[gH,zk,agu,agE,ag0]at a;rw[a]at j;have:=d.df x j;rw[agC]at this⊢;obtain⟨v,y,e⟩:=this;exact⟨v,i.mem v y,e⟩
 .rw[mS,Av,agq];have y:=h.w D;have A:=d.w;have B:α*(l.length+3)<=α*(f.length+3):=ahV _ (by have:=i.len;omega);simp only[gH,zk,kY,agB,ahp,Nat.one_mul]at y⊢;omega
 .rw[mS,Aw];have y:=h.dp;have A:=d.dp;simp only[gH,zk,Ps.dJ];omega
 .rw[mS,gx.app];refine⟨h.pr T K o p,?_⟩;simp only[gH,zk,gx,aic];exact d.pr T K (o.jZ.mono q) λv a=>(p v (i.mem v a)).mono q
def Ax(i:wm r az Sub α δ){g:List Nm}{aq:List aP}(h:qO Sub s outs g n aq n')(j:n'<=3000)(k:∀c∈g,c.size<=1000):
  CF r az α δ s outs n n' aq/\(aq≠[]->∃s o n n' b,Sub s o n n' b)/\∀a∈gH aq,EV (wl az) a:=by
 induction h with
 |nil=>exact⟨.nil,λh=>absurd W h,λa d=>by simp[gH]at d⟩
 |snoc h c l u m _ b e p=>
  have f:=i _ _ _ _ _ e j;obtain⟨q,_,t⟩:=p (by have:=f.le;omega);refine⟨q.snoc m f c [] [],λ_=>⟨_,_,_,_,_,e⟩,λa d=>?_⟩;rw[mS,agG]at d;rcases d with d|d
  .exact t a d
  .simp only[gH,zk,agu,agE,ag0]at d;subst d;exact⟨λ_=>k c (agN l),by simp[Sm.aP.eL],by simp[Sm.aP.et],λt d=>by simp[Sm.aP.eL,Sm.aP.et]at d⟩
def CG{l:List Tr}(h:Bs s N l)(f:N<=3):l.length<=2/\∀t∈l.map H8,yF t:=by
 refine⟨h.1,λt b=>?_⟩;obtain⟨u,c,rfl⟩:=agC.1 b;obtain⟨d,k,g,e⟩:=h.2 u c;have a:=oy d;refine⟨a.1,a.2.1,?_⟩;show u.to.size<=_;rw[e];unfold nm;rw[ah4];have:=gR k;have:ByteArray.size ⟨#[(83:UInt8)]⟩=1:=rfl;omega
def H_(k:wm r az Sub α δ){aq:List aP}(h:Am Sub s outs N n aq n')(l:n'<=3000)(e:N<=3):
  CF r az α δ s outs n n' aq/\(aq≠[]->∃s o n n' b,Sub s o n n' b)/\∀a∈gH aq,a.name.size<=aq.length+2/\a.eL.length<=2/\a.et.length<=2/\∀t∈a.eL++a.et,yF t:=by
 induction h with
 |nil=>exact⟨.nil,λh=>absurd W h,λa c=>by simp[gH]at c⟩
 | @snoc aq x y h w m _ z p b f A q u=>
  have g:=k _ _ _ _ _ f l;obtain⟨v,B,C⟩:=u (by have:=g.le;omega);refine⟨v.snoc m g _ _ _,λ_=>⟨_,_,_,_,_,f⟩,λa c=>?_⟩;rw[mS,agG]at c;rw[agq];rcases c with c|c
  .grind
  .simp only[gH,zk,agu,agE,ag0]at c;subst c;have i:=CG p e;have j:=CG q e;refine⟨?_,by simpa [Sm.aP.eL] using i.1,by simpa [Sm.aP.et] using j.1,λt d=>?_⟩
   .show(nm 83 aq.length).size<=_;unfold nm;rw[ah4];have:=gR aq.length;have:ByteArray.size ⟨#[(83:UInt8)]⟩=1:=rfl;simp only[agB];omega
   .rcases agG.1 d with d|d
    .exact i.2 t d
    .exact j.2 t d
variable(r az)
structure Kw(β d:Nat)(s:Sc)(c:List Va)(n b:Nat)(q:List aJ)(a:List Va):Prop where
 le:n<=b
 df:∀u∈dN q,∀x∈Sm.cp u,x∈js c\/x∈js a
 w:iF (dN q)+6*a.length<=β*c.length+80*(b-n)
 dp:Ps.eH (dN q)<=1+d
 vn:(js a).Nodup
 vb:∀v∈a,qS n b v.name
 vl:a.length<=b-n
 ck:∀v∈a,(t' v.clock).length<=1/\∀o∈t' v.clock,∃w∈a,w.name=o.2
 la:∀v∈a,v.last=false
 pr:∀T K,pH T n s->(∀v∈c,Kn T n v)->(∀v∈a,T v.name=some (v.ty.kind,v.ty.nm)/\K v.name=(t' v.clock).length)->fh (iI r) (wl az) T K (dN q)
end
end Go.Ex
namespace Go.Ex
open Go.Mt Go.Mk Go.Pm
variable{s:Sc}{T:Ps.TE}{e:E}{q:List aJ}{α β δ n n':Nat}{outs:List Va}
section
variable{r:List Sm.En}{az:Nat}
def rv{m k:Nat}{c:UInt8}(h:k<=m):¬Gt m (nm c k):=by
 rintro⟨b,d,e,a⟩;have:=(pG a).2;omega
def Jw(x:Nm)(e:E):pS (jD (.df x e))=6+2*Ps.cm (cB e):=by
 simp[jD,pS,kY,Sm.aZ,Ps.bF];omega
theorem Bz{K:KE}{x:Nm}(b:(T x).isSome=true)(h:eJ (cB e) (K x))(a:Ps.cm (cB e)<=100):mG (iI r) (wl az) T K (jD (.df x e)):=by
 rw[jD,mG];refine⟨⟨by grind,by simp,by simp,by simp,a,by simp,by simp,λa a=>by simp at a⟩,.inl ⟨rfl,⟨x,rfl,h⟩,rfl,rfl⟩,by simp[gx]⟩
def oV{v:Va}(h:T v.name=some (v.ty.kind,v.ty.nm)):(T v.name).isSome=true:=by rw[h];rfl
def Ia{l:List Va}(h:rP s l q):(∀u∈dN q,∀x∈Sm.cp u,x∈js l)/\iF (dN q)<=112*l.length/\Ps.eH (dN q)=0/\
  ∀T K,(∀v∈l,T v.name=some (v.ty.kind,v.ty.nm))->fh (iI r) (wl az) T K (dN q):=by
 induction h with
 |nil=>exact⟨λu a=>by simp[dN]at a,by simp[dN,iF],by simp[dN,Ps.eH],λT K _=>by simp[dN,fh]⟩
 |snoc h w e d f=>
  obtain⟨k,m,g,i⟩:=f;have j:=oy d;have n:gs 3=53:=rfl;refine⟨λu a x b=>?_,?_,?_,λT K c=>?_⟩
  .rw[kw,agG]at a;simp only[js,agI,agG];rcases a with a|a
   .grind
   .simp only[dN,agu,agE,ag0]at a;rw[a]at b;simp[jD,Sm.cp,Sm.aZ]at b;exact .inr (by simp[b])
  .rw[kw,vr,agq];simp only[dN,iF,Jw,agB];omega
  .rw[kw,oU,g];simp[dN,jD,Ps.eH,Ps.nh,Ps.dJ]
  .rw[kw,fh.app];refine⟨i T K λv a=>c v (by simp[a]),?_⟩;simp only[dN,fh,aic];exact Bz (oV (c w (by simp))) (eJ.mono _ j.1 (ahy _)) (by omega)
theorem Ib{aq:List aP}{t:Ty}(b:GE s t true 2 e)(h:CF r az α δ s outs n n' aq)(g:∀a∈gH aq,EV (wl az) a)(i:aq.length<=3)(j:12*α+1270<=β)(p:1<=outs.length)(q:outs.length<=3):
  Kw r az β δ s outs n n' [.sw e aq] []:=by
 have k:=vt h.df;have l:=oy b;have w:gs 2=17:=rfl;refine⟨h.le,λu c x a=>.inl ?_,?_,?_,by simp,λv a=>by simp at a,by simp,λv a=>by simp at a,λv a=>by simp at a,λT K d m _=>?_⟩
 .simp only[dN,jD,agu,agE,ag0]at c;rw[c,Sm.cp,eO]at a;rcases a with a|⟨f,o,a⟩
  .simp at a
  .exact h.df f o x a
 .simp only[dN,jD,iF,pS,ahW,List.length_nil,Ps.bF,aji];rw[agw (by decide)];have f:=h.w (Sm.aZ [] (gH aq)).length;simp only[agt]at k;have:aq.length*(10+3*(Sm.aZ [] (gH aq)).length+α*(outs.length+3))<=3*(10+3*outs.length+α*(4*outs.length)):=
   ah0 i (Nat.add_le_add (by omega) (ahV _ (by omega)))
  have o:α*(4*outs.length)=4*(α*outs.length):=by grind
  have y:(12*α+1270)*outs.length<=β*outs.length:=agR _ j;have z:(12*α+1270)*outs.length=12*(α*outs.length)+1270*outs.length:=by grind
  omega
 .have:=h.dp;simp only[dN,jD,Ps.eH,Ps.nh];omega
 .simp only[dN,fh,aic,jD];rw[mG];refine⟨⟨by simp,by simp,by simp,by simp,by omega,by simp,by rw[mR,agt];omega,g⟩,.inr (.inr (.inl ⟨rfl,rfl,rfl,l.1,(J0 b d).1⟩)),h.pr T K d m⟩
def J1{y:Sc->List Va->Nat->Nat->bT->Prop}(k:wm r az y α δ)(G:112<=β)(l:(∃s o n n' b,y s o n n' b)->12*α+1270<=β){g:List Va}
  (h:GQ y az s outs n n' q g) (i:n'<=3000) (j:1<=outs.length) (m:outs.length<=3):Kw r az β δ s outs n n' q g:=by
 have g2:gs 2=17:=rfl;have g3:gs 3=53:=rfl
 induction h with
 | @tZ s outs n q h=>
  obtain⟨a,f,o,d⟩:=Ia (r:=r) (az:=az) h;refine⟨ags _,λu d x f=>.inl (a u d x f),?_,by omega,by simp,λv a=>by simp at a,by simp,λv a=>by simp at a,λv a=>by simp at a,λT K a f _=>d T K λv a=>(f v a).1⟩;have:112*outs.length<=β*outs.length:=agR _ G;simp only[List.length_nil];omega
 |HV d f a=>
  obtain⟨o,p,t⟩:=Ax k f i (by decide);exact Ib d o t (by omega) (l (p (λe=>by rw[e]at a;simp at a))) j m
 |EQ d f a=>
  obtain⟨o,p,t⟩:=Ax k f i (by decide);exact Ib d o t (by omega) (l (p (λe=>by rw[e]at a;simp at a))) j m
 | @wg s outs n n' f N D d t=>
  obtain⟨h,B,C⟩:=H_ k d i D.2;have u:f≠[]:= λe=>by rw[e]at t;simp at t;omega
  have E:=l (B u);have F:=vt h.df;refine⟨h.le,λH p x a=>.inl ?_,?_,?_,by simp,λv a=>by simp at a,by simp,λv a=>by simp at a,λv a=>by simp at a,λT K z A _=>?_⟩
  .simp only[dN,jD,agu,agE,ag0]at p;rw[p,Sm.cp,eO]at a;rcases a with a|⟨o,d,a⟩
   .simp at a
   .exact h.df o d x a
  .simp only[dN,jD,iF,pS,ahW,List.length_nil,Ps.bF,aji];rw[agK trivial];have o:=h.w (Sm.aZ [] (gH f)).length;simp only[agt]at F;have:f.length*(10+3*(Sm.aZ [] (gH f)).length+α*(outs.length+3))<=3*(10+3*outs.length+α*(4*outs.length)):=
    ah0 (by omega) (Nat.add_le_add (by omega) (ahV _ (by omega)))
   have w:α*(4*outs.length)=4*(α*outs.length):=by rw[Nat.mul_left_comm]
   have I:(12*α+1270)*outs.length<=β*outs.length:=agR _ E;have J:(12*α+1270)*outs.length=12*(α*outs.length)+1270*outs.length:=by rw[ahp,aiI]
   omega
  .have:=h.dp;simp only[dN,jD,Ps.eH,Ps.nh];omega
  .simp only[dN,fh,aic,jD];rw[mG];refine⟨⟨by simp,by simp,by simp,by simp,by simp[cB,Ps.cm,Ps.bF],by simp,by rw[mR,agt];omega,λw d=>?_⟩,.inr (.inr (.inr (.inr ⟨trivial,rfl,rfl,rfl,?_,rfl⟩))),h.pr T K z A⟩
   .obtain⟨I,o⟩:=C w d;exact⟨λ_=>by omega,o.1,o.2.1,o.2.2⟩
   .rw[mR];simpa using u
 | @reset s outs n n' e b w o=>
  have h:=k _ _ _ _ _ o i;have A:=l ⟨_,_,_,_,_,o⟩;have C:=oy w;have p:∀a∈([Sm.aP.mk e0 (nt b) [] [] z2]:List Sm.aP),∀x∈Sm.cE a.a_,x∈js outs:= λa d x a=>by
   simp only[agu,agE,ag0]at d;rw[d]at a;exact h.df x a
  have B:=vt p;refine⟨h.le,λD d x a=>.inl ?_,?_,?_,by simp,λv a=>by simp at a,by simp,λv a=>by simp at a,λv a=>by simp at a,λT K t u _=>?_⟩
  .simp only[dN,jD,agu,agE,ag0]at d;rw[d,Sm.cp,eO]at a;rcases a with a|⟨f,z,a⟩
   .simp at a
   .exact p f z x a
  .simp only[dN,jD,iF,pS,kY,ahW,List.length_nil,Ps.bF,aji];rw[agw (by decide)];have f:=h.w;simp only[agt]at B;have H:α*(outs.length+3)<=α*(4*outs.length):=ahV _ (by omega);have z:α*(4*outs.length)=4*(α*outs.length):=by rw[Nat.mul_left_comm]
   have E:(12*α+1270)*outs.length<=β*outs.length:=agR _ A;have F:(12*α+1270)*outs.length=12*(α*outs.length)+1270*outs.length:=by rw[ahp,aiI]
   omega
  .have:=h.dp;simp only[dN,jD,Ps.eH,Ps.nh,Ps.dJ];omega
  .simp only[dN,fh,aic,jD];rw[mG];refine⟨⟨by simp,by simp,by simp,by simp,by omega,by simp,by simp,λz f=>by simp only[agu,agE,ag0]at f;subst f;exact⟨λ_=>(by decide:ByteArray.size ⟨#[]⟩<=1000),by simp[Sm.aP.eL],by simp[Sm.aP.et],λt a=>by simp[Sm.aP.eL,Sm.aP.et]at a⟩⟩,.inr (.inr (.inr (.inl ⟨rfl,rfl,rfl,C.1,by simp⟩))),?_⟩;simp only[gx,aic];exact h.pr T K t u
 | @call s outs n n' R g D L Q b F J P e t h d=>
  have d:=d i j m;have S:=d.le;have M:=oy F;have N:=oy J;have O:Ps.cm (cB e)<=17/\(eJ (cB e) 0\/P=false/\cB e=Sm.cg):=by
   rcases t with⟨j,rfl⟩|⟨_,t⟩
   .exact⟨by simp[cB,Ps.cm,Ps.bF],.inr ⟨j,rfl⟩⟩
   .have:=oy t;exact⟨this.2.1,.inl this.1⟩
  have u:nm 117 (n+1)≠nm 117 (n+2):= λe=>by have:=(pG e).2;omega
  have H:qS n n' (nm 117 (n+1)):=⟨117,n+1,by decide,by omega,by omega,rfl⟩;have I:qS n n' (nm 117 (n+2)):=⟨117,n+2,by decide,by omega,by omega,rfl⟩;have w:∀k,k<=n+2->nm 117 k∉js g:= λp f o=>by
   obtain⟨v,a,e⟩:=agC.1 o;exact rv f (e▸(d.vb v a).gt)
  refine⟨by omega,λC o x f=>?_,?_,?_,?_,λv a=>?_,?_,λv a=>?_,λv a=>?_,λT K E p a=>?_⟩
  .simp only[dN,agu]at o;rcases o with rfl|o
   .simp[jD,Sm.cp,Sm.aZ]at f;rcases f with rfl|rfl
    .exact .inr (by simp[js])
    .exact .inr (by simp[js])
   .rcases d.df C o x f with h|h
    .exact .inl h
    .exact .inr (by simp only[js,agH,agu];exact .inr (.inr h))
  .have:=d.w;simp only[dN,iF,jD,pS,kY,Sm.aZ,Ps.bF,agA,List.length_nil];rw[agw (by decide)];omega
  .have:=d.dp;simp only[dN,jD,Ps.eH,Ps.nh,Ps.dJ];omega
  .simp only[js,agH,ahB,agu,ajv];exact⟨⟨u,w _ (by omega)⟩,w _ (by omega),d.vn⟩
  .simp only[agu]at a;rcases a with rfl|rfl|a
   .exact H
   .exact I
   .exact(d.vb v a).mono (by omega) (by omega)
  .have:=d.vl;simp only[agA];omega
  .simp only[agu]at a;rcases a with rfl|rfl|a
   .simp[t']
   .simp[t']
   .refine⟨(d.ck v a).1,λz p=>?_⟩;obtain⟨A,B,e⟩:=(d.ck v a).2 z p;exact⟨A,by simp[B],e⟩
  .simp only[agu]at a;rcases a with rfl|rfl|a
   .rfl
   .rfl
   .exact d.la v a
  .have z:=a (eu 117 (n+1) .int) (by simp);have A:=a (eu 117 (n+2) .iO) (by simp);simp only[dN,fh,jD];rw[mG];refine⟨⟨⟨?_,by simp,by simpa using u,by simp,by omega,?_,by simp,λa a=>by simp at a⟩,.inr (.inl ⟨rfl,by simp,O.2,rfl,⟨D,L,rfl⟩,rfl⟩),by simp[gx]⟩,?_⟩
   .intro x f;simp only[agu,agE,ag0]at f;rcases f with rfl|rfl
    .exact oV z.1
    .exact oV A.1
   .intro x f;simp only[agu,agE,ag0]at f;rcases f with rfl|rfl
    .exact⟨M.1,by omega⟩
    .exact⟨N.1,by omega⟩
   .refine d.pr T K ((E.mono (by omega)).more λv B=>?_) (λv a=>(p v a).mono (by omega)) λv d=>a v (by simp[d])
    simp only[agu,agE,ag0]at B;rcases B with rfl|rfl
    .exact⟨z.1,rv (by omega)⟩
    .exact⟨A.1,rv (by omega)⟩
 | @yw s outs n n' Z g Y b x w e fT J N P Q I R h d=>
  have d:=d i j m;have ac:=d.le;have t:=oy J;have z:=oy N;have O:=oy I;obtain⟨S,_⟩:=sV P;obtain⟨U,_⟩:=sV Q;have C:=t.2.2 W;have V:eJ (cB fT) 1/\Ps.cm (cB fT)<=22:=by
   rcases R with rfl|rfl
   .exact⟨by simp[cB,eJ,fF,t.1,Ps.bh,C],by simp only[cB,Ps.cm,Ps.bF];omega⟩
   .exact⟨by simp[cB,eJ,fF,t.1,Ps.bh,C,eJ.mono _ U.1 (ahy 1)],by simp only[cB,Ps.cm,Ps.bF];omega⟩
  have X:eJ (cB (.merge (nm 99 (n+1)) ci cS eF (.lS (nm 99 (n+1)) ci b) (.var (nm 119 (n+2))) x)) 0/\Ps.cm (cB (.merge (nm 99 (n+1)) ci cS eF (.lS (nm 99 (n+1)) ci b) (.var (nm 119 (n+2))) x))<=21:=
   ⟨by simp[cB,eJ,fF,z.1,Ps.bh,z.2.2 W,eJ.mono _ S.1 (ahy 1)],by simp only[cB,Ps.cm,Ps.bF];omega⟩
  have L:qS n n' (nm 99 (n+1)):=⟨99,n+1,by decide,by omega,by omega,rfl⟩;have M:qS n n' (nm 119 (n+2)):=⟨119,n+2,by decide,by omega,by omega,rfl⟩;have u:∀c k,k<=n+3->nm c k∉js g:= λc p f o=>by
   obtain⟨v,a,e⟩:=agC.1 o;exact rv f (e▸(d.vb v a).gt)
  refine⟨by omega,λE o F f=>?_,?_,?_,?_,λv a=>?_,?_,λv a=>?_,λv a=>?_,λT K H p a=>?_⟩
  .simp only[dN,agu]at o;rcases o with rfl|rfl|rfl|o
   .simp[jD,Sm.cp,Sm.aZ]at f;exact .inr (by simp[js,f])
   .simp[jD,Sm.cp,Sm.aZ]at f;exact .inr (by simp[js,f])
   .simp[jD,Sm.cp,Sm.aZ]at f;exact .inr (by simp[js,f])
   .rcases d.df E o F f with h|h
    .exact .inl h
    .exact .inr (by simp only[js,agH,agu];exact .inr (.inr (.inr h)))
  .have:=d.w;simp only[dN,iF,Jw,agA];omega
  .have:=d.dp;simp only[dN,jD,Ps.eH,Ps.nh,Ps.dJ];omega
  .simp only[js,agH,ahB,agu,ajv];exact⟨⟨(λe=>absurd (pG e).1 (by decide)),(λe=>absurd (pG e).1 (by decide)),u _ _ (by omega)⟩,⟨(λe=>absurd (pG e).1 (by decide)),u _ _ (by omega)⟩,u _ _ (by omega),d.vn⟩
  .simp only[agu]at a;rcases a with rfl|rfl|rfl|a
   .exact L
   .exact M
   .exact(⟨122,n+3,by decide,by omega,by omega,rfl⟩)
   .exact(d.vb v a).mono (by omega) (by omega)
  .have:=d.vl;simp only[agA];omega
  .simp only[agu]at a;rcases a with rfl|rfl|rfl|a
   .simp[t']
   .simp[t']
   .simp[t']
   .refine⟨(d.ck v a).1,λA p=>?_⟩;obtain⟨B,D,e⟩:=(d.ck v a).2 A p;exact⟨B,by simp[D],e⟩
  .simp only[agu]at a;rcases a with rfl|rfl|rfl|a
   .rfl
   .rfl
   .rfl
   .exact d.la v a
  .have A:=a (eu 99 (n+1) .iO) (by simp);have w:=a ⟨nm 119 (n+2),.int,some (cS,nm 99 (n+1)),false,.nil⟩ (by simp);have D:=a (eu 122 (n+3) .int) (by simp);simp only[dN,fh];refine⟨Bz (oV A.1) (eJ.mono _ O.1 (ahy _)) (by omega),Bz (oV w.1) (by rw[w.2];exact V.1) (by omega),Bz (oV D.1) (eJ.mono _ X.1 (ahy _)) (by omega),?_⟩;refine d.pr T K ((H.mono (by omega)).more λv B=>?_) (λv a=>(p v a).mono (by omega)) λv d=>a v (by simp[d])
   simp only[agu,agE,ag0]at B;rcases B with rfl|rfl
   .exact⟨A.1,rv (by omega)⟩
   .exact⟨D.1,rv (by omega)⟩
end
end Go.Ex
namespace Go.Ex
open Go.Mt Go.Mk Go.Pm
variable{Sub:Sc->List Va->Nat->Nat->bT->Prop}{α β δ n:Nat}{vs:List Va}
section
variable{r:List Sm.En}{az:Nat}
variable(r az)
structure KS(β e:Nat)(f:Sc)(c:List Va)(b:Nat)(s:Sc)(d:List Va)(n:Nat)(q:List aJ)(a:List Va):Prop where
 le:b<=n
 sub:∀v∈d,v∈c
 df:∀u∈dN q,∀x∈Sm.cp u,x∈js c\/x∈js a
 w:iF (dN q)+6*a.length+β*d.length<=β*c.length+80*(n-b)
 dp:Ps.eH (dN q)<=1+e
 vn:(js a).Nodup
 vb:∀v∈a,qS b n v.name
 vl:a.length<=n-b
 ck:∀v∈a,(t' v.clock).length<=1/\∀o∈t' v.clock,∃w∈a,w.name=o.2
 la:∀v∈a,v.last=false
 pr:∀T K,pH T b f->(∀v∈c,Kn T b v)->(∀v∈a,T v.name=some (v.ty.kind,v.ty.nm)/\K v.name=(t' v.clock).length)->fh (iI r) (wl az) T K (dN q)/\pH T n s
variable{r az}
theorem ny{a b:List Nm}(c:a.Nodup)(d:b.Nodup)(h:∀x∈a,x∉b):(a++b).Nodup:=by
 grind
def J2(A:wm r az Sub α δ)(B:112<=β)(C:(∃s o n a b,Sub s o n a b)->12*α+1270<=β){l s:Sc}{j d:List Va}{m:Nat}{q:List aJ}
  (h:GL (GQ Sub az) l j m s d n q vs) (D:n<=3000):KS r az β δ l j m s d n q vs:=by
 induction h with
 |start=>exact⟨ags _,λv a=>a,λu a=>by simp[dN]at a,by simp[dN,iF],by simp[dN,Ps.eH],by simp,λv a=>by simp at a,by simp,λv a=>by simp at a,λv a=>by simp at a,λT K a _ _=>⟨by simp[dN,fh],a⟩⟩
 | @step s d n L q vs M F h k N O P G c=>
  have H:(d.take k).length=k:=by rw[agM];omega
  have g:=J1 A B C G D (by omega) (by omega);have o:=g.le;have c:=c (by omega);have y:=c.le;have p:∀v∈d.take k,v∈j:= λv a=>c.sub v (List.mem_of_mem_take a)
  have J:∀x∈js vs,x∉js F:= λx f i=>by
   obtain⟨v,a,rfl⟩:=agC.1 f;obtain⟨w,z,e⟩:=agC.1 i;exact(c.vb v a).not (e▸(g.vb w z).gt)
  refine⟨by omega,λv a=>c.sub v (List.mem_of_mem_drop a),λu f x t=>?_,?_,?_,?_,λv a=>?_,?_,λv a=>?_,λv a=>?_,λT K E i a=>?_⟩
  .rw[kw,agG]at f;simp only[js,agI,agG];rcases f with f|f
   .rcases c.df u f x t with h|h
    .exact .inl h
    .exact .inr (.inl h)
   .rcases g.df u f x t with h|h
    .obtain⟨v,a,e⟩:=agC.1 h;exact .inl (e▸ag4 (p v a))
    .exact .inr (.inr h)
  .rw[kw,vr,agq,aiH];have z:=c.w;have w:=g.w;rw[H]at w;have I:β*d.length=β*(d.length-k)+β*k:=by rw[<-Nat.mul_add];congr 1;omega
   omega
  .rw[kw,oU];have w:=c.dp;have z:=g.dp;omega
  .simp only[js,agI];exact ny c.vn g.vn J
  .rcases agG.1 a with a|a
   .exact(c.vb v a).mono (ags _) o
   .exact(g.vb v a).mono y (ags _)
  .have w:=c.vl;have z:=g.vl;rw[agq];omega
  .rcases agG.1 a with a|a
   .refine⟨(c.ck v a).1,λw i=>?_⟩;obtain⟨z,I,e⟩:=(c.ck v a).2 w i;exact⟨z,by simp[I],e⟩
   .refine⟨(g.ck v a).1,λw i=>?_⟩;obtain⟨z,I,e⟩:=(g.ck v a).2 w i;exact⟨z,by simp[I],e⟩
  .rcases agG.1 a with a|a
   .exact c.la v a
   .exact g.la v a
  .obtain⟨I,w⟩:=c.pr T K E i λv c=>a v (by simp[c])
   have z:∀v∈d.take k,Kn T n v:= λv a=>(i v (p v a)).mono y
   rw[kw,fh.app];exact⟨⟨I,g.pr T K w z λv c=>a v (by simp[c])⟩,(w.more z).mono o⟩
def zl{v:Va} :∀{r l:List Va},v∈e_ l r->v∈l\/v∈r:=by
 intro r
 induction r with
 |nil=>intro l h;exact .inl h
 |cons w r a=>
  intro l h;rw[e_]at h;rcases a h with h|h
  .grind
  .grind
theorem J3{b:Nat}(h:NV n vs b):(n<=b/\vs.length=b-n)/\(js vs).Nodup/\∀v∈vs,qS n b v.name/\v.clock=none/\(v.last=true->Bx (cB v.first)):=by
 induction h with
 |nil=>exact⟨⟨ags _,by simp⟩,by simp,λv a=>by simp at a⟩
 | @snoc vs b h w f g i j=>
  obtain⟨⟨m,o⟩,k,c⟩:=j;refine⟨⟨by omega,by grind⟩,?_,λv a=>?_⟩
  .simp only[js,agI,agH,ag1];refine ny k (by simp) λx l d=>?_
   obtain⟨v,a,rfl⟩:=agC.1 l;simp only[agu,agE,ag0]at d;rw[f]at d;exact(c v a).1.not ⟨118,b+1,by omega,d⟩
  .rcases agG.1 a with a|a
   .exact⟨(c v a).1.mono (ags _) (by omega),(c v a).2⟩
   .simp only[agu,agE,ag0]at a;subst a;refine⟨⟨118,b+1,by decide,by omega,by omega,f⟩,g,λe=>?_⟩;rcases i with⟨d,_⟩|⟨_,d⟩
    .grind
    .exact(sV d).2
def Ic(l:List Va):(l.map kR).map (·.name)=js l:=by simp[js,kR,Function.comp_def]
def wQ(A:wm r az Sub α δ)(B:112<=β)(C:(∃s o n a b,Sub s o n a b)->12*α+1270<=β):wm r az (I3 (GQ Sub az)) (β+6) (1+δ):=by
 rintro s i n D b ⟨d,q,O,M,f,a,P,E,rfl⟩ F;obtain⟨⟨l,Q⟩,G,k⟩:=J3 a;have g:=J2 A B C E F;have H:=g.le;have I:(js (d++f)).Nodup:=by
  simp only[js,agI];refine ny G g.vn λx j c=>?_
  obtain⟨v,a,rfl⟩:=agC.1 j;obtain⟨w,h,e⟩:=agC.1 c;exact(k v a).1.not (e▸(g.vb w h).gt)
 have t:∀v∈d++f,qS n D v.name:= λv c=>by
  rcases agG.1 c with c|c
  .exact(k v c).1.mono (ags _) H
  .exact(g.vb v c).mono l (ags _)
 refine⟨by omega,λx j=>?_,?_,?_,λT N K m=>?_⟩
 .rw[nt,j5]at j;obtain⟨⟨u,p,j⟩,o⟩:=j;rw[rq]at o;have c:x∉js (d++f):= λh=>by
   obtain⟨v,a,e⟩:=agC.1 h;exact o (kR v) (ag4 a) e
  simp only[js,agI,agG,ajv]at c;rcases g.df u p x j with h|h
  .simp only[js,agI,agG]at h;rcases h with h|h
   .exact absurd h c.1
   .exact h
  .exact absurd h c.2
 .rw[nt,ud,agt,agq];have c:=g.w;have h:=g.vl;simp only[agq,List.length_nil,aji,ahW]at c;have o:β*(d.length+i.length)<=β*(i.length+3):=ahV _ (by omega);have p:(β+6)*(i.length+3)=β*(i.length+3)+6*(i.length+3):=ahp _ _ _;omega
 .rw[nt,Ps.iX];exact g.dp
 .rw[nt,lT];have o:(((d++f).map kR).map (·.name)).Nodup:=by rw[Ic];exact I
  have w:∀v∈d++f,(((d++f).map kR).foldl Ps.TE.add T) v.name=some (v.ty.kind,v.ty.nm):= λv a=>vq o (kR v) (ag4 a)
  have p:∀v,Kn T n v->Kn (((d++f).map kR).foldl Ps.TE.add T) n v:= λv a=>by
   refine⟨?_,a.2⟩;rw[ru (λz c e=>?_)]
   .exact a.1
   .obtain⟨u,h,rfl⟩:=agC.1 c;exact a.2 (e▸(t u h).gt)
  have y:∀v∈d,Kn (((d++f).map kR).foldl Ps.TE.add T) q v:= λv a=>⟨w v (by simp[a]),(k v a).1.not⟩
  have L:pH (((d++f).map kR).foldl Ps.TE.add T) q (I2 s d i):= λv c=>by
   have h:(v∈s.ready\/v∈s.all\/v∈s.aY)\/v∈d\/v∈i:=by
    rcases c with c|c|c
    .exact .inl (.inl c)
    .simp only[I2,agG]at c;rcases c with(c|c)|c
     .exact .inl (.inl c)
     .exact .inr (.inl c)
     .exact .inr (.inr c)
    .rcases zl c with c|c
     .exact .inl (.inr (.inr c))
     .exact .inr (agG.1 c)
   rcases h with h|h|h
   .exact(p v (K v h)).mono l
   .exact y v h
   .exact(p v (m v h)).mono l
  refine⟨⟨o,?_,λv a=>?_,λv a=>?_,λv a=>?_⟩,(g.pr _ _ L (λv a=>?_) λv a=>⟨w v (by simp[a]),(λv a=>yE o (kR v) (ag4 a)) v (by simp[a])⟩).1⟩
  .have c:=g.vl;rw[agt,agq];show _<=3000;omega
  .obtain⟨u,c,rfl⟩:=agC.1 a;exact(t u c).I6
  .obtain⟨u,c,rfl⟩:=agC.1 a;rcases agG.1 c with c|c
   .have:=(k u c).2.1;simp only[kR,this,t'];simp
   .refine⟨(g.ck u c).1,λh m=>?_⟩;obtain⟨z,J,e⟩:=(g.ck u c).2 h m;exact⟨kR z,ag4 (by simp[J]),e⟩
  .obtain⟨u,c,rfl⟩:=agC.1 a;rcases agG.1 c with c|c
   .exact(k u c).2.2
   .intro e;have:=g.la u c;simp[kR,this]at e
  .rcases agG.1 a with a|a
   .exact y v a
   .exact(p v (m v a)).mono l
def I7:wm r az (GB az 3) 404236 4:=by
 have a:wm r az (λ_ _ _ _ _=>False) 0 0:= λ_ _ _ _ _ h=>h.elim
 have b:=wQ (β:=112) a (by decide) (λ⟨_,_,_,_,_,h⟩=>h.elim);have a:=wQ (β:=33574) (wQ (β:=2686) b (by decide) (λ_=>by decide)) (by decide) (λ_=>by decide);exact wQ (β:=404230) a (by decide) (λ_=>by decide)
end
end Go.Ex
namespace Go.Pm
open Go.Mt Go.Sm Go.Ps Go.Ex
variable{T T':TE}{K':KE}{e:Xp}{n n':Nat}{v:Va}{en:List En}{x:Nm}
def CH(n:Nat):Ar (Lib.decDigits n)=n:=by
 induction n using Nat.strongRecOn with
 |ind n b=>
  rw[Lib.decDigits];split
  .rename_i h;simp only[Ar,agy,ah2];rw[ua n h];omega
  .rename_i h;have a:=b (n/10) (by omega);unfold Ar at a⊢;rw[ag7,a];simp only[agy,ah2];rw[ua (n%10) (by omega)];omega
def ue{c b:UInt8}{k k':Nat}(h:lN c k=lN b k'):c=b/\k=k':=by
 have a:(lN c k).data.toList=(lN b k').data.toList:=by rw[h]
 rw[rr,rr]at a;injection a with _ a
 injection a with d e
 exact⟨d,by rw[<-CH k,e,CH k']⟩
def pO(T:TE):Prop:=∀x,(T x).isSome=true->uc x
def rD(T:TE)(K:KE)(a:TE)(b:KE):Prop:=∀x,uc x->a x=T x/\b x=K x
theorem Ie(h:∀x,(T x).isSome=true->T' x=T x)(p:ou en T.ty (λx=>(T x).isSome=true) e):ou en T'.ty (λx=>(T' x).isSome=true) e/\dD en T'.ty e=dD en T.ty e:=by
 induction p with
 | @mk e s q m n=>
  have j:∀x,(T x).isSome=true->(T' x).isSome=true/\T'.ty x=T.ty x:= λx a=>by
   have:=h x a;exact⟨by grind,by unfold TE.ty;rw[this]⟩
  have g:∀k∈e.kids,dD en T'.ty k=dD en T.ty k:= λk a=>(n k a).2
  have r:dD en T'.ty e=dD en T.ty e:=by
   rw[Bj,Bj en T.ty];split
   .rfl
   split
   .rfl
   split
   .rfl
   split
   .rename_i k;rcases m with h|h|h|h|h|h|h|h|h
    all_goals first|exact(j _ h.2).2|(exfalso;omega)
   split
   .rfl
   cases t:e.kids with
   |nil=>rfl
   |cons a l=>
    have o:=g a (by grind);cases l with
    |nil=>simp only[o]
    |cons b l=>
     simp only[o,g b (by grind)]
  refine⟨.mk (λk a=>(n k a).1) q ?_,r⟩;rcases m with h|h|h|h|h|⟨d,f,a,l,i,k⟩|⟨d,a,b,c,f,i,k⟩|⟨d,a,b,f,i⟩|h
  .exact .inl h
  .exact .inr (.inl h)
  .exact .inr (.inr (.inl h))
  .exact .inr (.inr (.inr (.inl ⟨h.1,(j _ h.2).1⟩)))
  .exact .inr (.inr (.inr (.inr (.inl ⟨h.1,(j _ h.2).1⟩))))
  .exact .inr (.inr (.inr (.inr (.inr (.inl ⟨d,f,a,l,i,λd f=>by rw[g d f,g a (by rw[i];simp)];exact k d f⟩)))))
  .exact .inr (.inr (.inr (.inr (.inr (.inr (.inl ⟨d,a,b,c,f,by grind,by grind⟩))))))
  .exact .inr (.inr (.inr (.inr (.inr (.inr (.inr (.inl ⟨d,a,b,f,by grind⟩)))))))
  .exact .inr (.inr (.inr (.inr (.inr (.inr (.inr (.inr h)))))))
theorem rD.some{K:KE}(h:rD T K T' K')(a:pO T)(b:(T x).isSome=true):(T' x).isSome=true/\K' x=K x:=by
 have:=h x (a x b);exact⟨by grind,this.2⟩
def rD.KT{K:KE}(h:rD T K T' K')(a:pO T)(b:ou en T.ty (λx=>(T x).isSome=true) e):ou en T'.ty (λx=>(T' x).isSome=true) e:=
 (Ie (λx b=>(h x (a x b)).1) b).1
def rD.vV{K:KE}(h:rD T K T' K'):∀l:List Va,rD (l.foldl TE.add T) (l.foldl KE.add K) (l.foldl TE.add T') (l.foldl KE.add K'):=by
 intro l
 induction l generalizing T K T' K' with
 |nil=>exact h
 |cons v l a=>
  refine a λx b=>?_
  unfold TE.add KE.add;split
  .grind
  .exact h x b
def rD.new{K:KE}(h:rD T K T' K'){l:List Va}(b:∀v∈l,¬uc v.name):rD T K (l.foldl TE.add T') (l.foldl KE.add K'):= λx a=>by
 rw[ru (λv c e=>b v c (e▸a)),nx (λv c e=>b v c (e▸a))];exact h x a
def pO.vV(h:pO T):∀{l:List Va},(∀v∈l,uc v.name)->pO (l.foldl TE.add T):=by
 intro l
 induction l generalizing T with
 |nil=>intro _;exact h
 |cons v l b=>
  intro c;refine b (λx a=>?_) λw a=>c w (by simp[a])
  unfold TE.add at a;split at a
  .grind
  .exact h x a
def rD.refl(T:TE)(K:KE):rD T K T K:= λ_ _=>⟨rfl,rfl⟩
def rR(x:Nm):Prop:=∀j,x≠nV j
abbrev mx(bB:Nm->Prop):wz:=⟨rR,20000,False,bB⟩
structure CI(n a:Nat)(v:Va):Prop where
 nm:∃c k,c≠118/\n<k/\k<=a/\v.name=lN c k
 ck:v.clock=[]
 la:v.last=false
def CI.mono{m a:Nat}(h:CI n n' v)(i:m<=n)(j:n'<=a):CI m a v:=by
 obtain⟨⟨c,k,f,b,l,d⟩,e,g⟩:=h;exact⟨⟨c,k,f,by omega,by omega,d⟩,e,g⟩
def CI.I6(h:CI n n' v):¬uc v.name:=by
 obtain⟨⟨c,k,_,_,_,e⟩,_,_⟩:=h;intro a;exact a.ne c k e
def CI.Kx(h:CI n n' v):rR v.name:=by
 obtain⟨⟨c,k,b,_,_,e⟩,_,_⟩:=h;intro j a;rw[e]at a;exact b (ue a).1
def uf(l:List aP):Nat:=vJ (l.map λa=>ib a.a_)
def bws(l:List aP):Nat:=vJ (l.map λa=>ud a.a_)
def ug(n:Nat):∀l:List aP,fL n l=l.length*(1+3*n)+uf l
 |[]=>by simp[fL,uf,vJ]
 |.mk _ b _ _ _::l=>by rw[fL,ug n l,uf,uf,agH,pi,agA,ahp];simp only[aP.a_];omega
def uh(n:Nat):∀l:List aP,kY n l=l.length*(10+3*n)+bws l
 |[]=>by simp[kY,bws,vJ]
 |.mk _ b _ _ _::l=>by rw[kY,uh n l,bws,bws,agH,pi,agA,ahp];simp only[aP.a_];omega
section
variable(en:List En)(bB:Nm->Prop)
structure Ky(T:TE)(K:KE)(b:bT)(s:DS):Prop where
 le:s.n<=(fX b s).2.n
 n:1000*(fX b s).2.n<=1000*s.n+ud b
 es:(∀e∈s.aG,e.fo.length<=3)->∀e∈(fX b s).2.aG,e.fo.length<=3
 df:∀x∈cE (fX b s).1,x∈cE b
 w:ib (fX b s).1<=ud b
 dp:iX (fX b s).1<=2*iX b
 pr:∀a c,rD T K a c->lT en (mx bB) a c (fX b s).1
structure If(T:TE)(K:KE)(l:List aP)(s:DS):Prop where
 le:s.n<=(cu l s).2.n
 n:1000*(cu l s).2.n<=1000*s.n+bws l
 es:(∀e∈s.aG,e.fo.length<=3)->∀e∈(cu l s).2.aG,e.fo.length<=3
 len:(cu l s).1.length=l.length
 df:∀b∈(cu l s).1,∃a∈l,b.name=a.name/\b.eL=a.eL/\b.et=a.et/\∀x∈cE b.a_,x∈cE a.a_
 w:uf (cu l s).1<=bws l
 dp:dJ (cu l s).1<=2*dJ l-1
 pr:∀b c,rD T K b c->gx en (mx bB) b c (cu l s).1
structure I8(T:TE)(K:KE)(a:List Va)(c:List aJ)(s b:DS)(w dp:Nat)(D:Nm->Prop):Prop where
 le:s.n<=b.n
 n:1000*b.n<=1000*s.n+w
 es:(∀e∈s.aG,e.fo.length<=3)->∀e∈b.aG,e.fo.length<=3
 nw:∀v∈a,CI s.n b.n v
 nd:(a.map (·.name)).Nodup
 nl:a.length<=6*(b.n-s.n)
 df:∀u∈c,∀x∈cp u,D x\/x∈a.map (·.name)
 w:gg c+4*a.length<=w
 dp:eH c<=2*dp
 pr:∀b d,rD T K b d->(∀v∈a,(b v.name).isSome=true)->fh en (mx bB) b d c
variable{en bB}
def If.tZ{T:TE}{K:KE}{l:List aP}{s:DS}(h:If en bB T K l s){lhs:List Nm}(e:lhs.Nodup):(∀x∈aZ lhs (cu l s).1,x∈aZ lhs l)/\(aZ lhs (cu l s).1).length<=(aZ lhs l).length:=by
 have c:∀x∈aZ lhs (cu l s).1,x∈aZ lhs l:= λx a=>by
  rw[eO]at a⊢;rcases a with a|⟨f,b,a⟩
  .exact .inl a
  .obtain⟨d,b,_,_,_,g⟩:=h.df f b;exact .inr ⟨d,b,g x a⟩
 exact⟨c,j7 _ _ (jP e) c⟩
theorem BA(k:Nat):∀(l:List Tr) (r:Xp×Xp),(∀t∈l,yF t)->eJ r.1 0/\eJ r.2 0->cm r.1<=1/\cm r.2<=1->(eJ (pP k l r).1 0/\eJ (pP k l r).2 0)/\cm (pP k l r).1<=1+19*l.length/\cm (pP k l r).2<=1+19*l.length
 |[],r,_,h,a=>by rw[pP];exact⟨h,by grind⟩
 |t::l,r,a,h,d=>by
  obtain⟨b,e⟩:=BA k l r (λu b=>a u (by simp[b])) h d;obtain⟨c,f,_⟩:=a t (by simp);rw[pP];refine⟨⟨by simp[eJ,fF,c,b.1],by simp[eJ,fF,c,b.2]⟩,?_⟩;simp only[cm,bF,agA];omega
theorem vu{P:wz}{K:KE}{p:Int×Int}(b:(T x).isSome=true)(h:eJ e 0)(a:cm e<=100):mG en P T K (gQ x e p):=by
 rw[mG];exact⟨⟨by grind,by simp,by simp,by simp,a,by simp,by simp,λa a=>by simp at a⟩,.inl ⟨rfl,⟨x,rfl,eJ.mono _ h (ahy _)⟩,rfl,rfl⟩,by simp[gx]⟩
def Ig(x:Nm)(e:Xp)(p:Int×Int):mg (gQ x e p)=4+2*cm e:=by simp[mg,fL,bF,aZ];omega
def Au.nil(P:wz):Au P []:=⟨by simp,by simp,λv a=>by simp at a,λv a=>by simp at a,λv a=>by simp at a⟩
def wR(x:Nm)(c:Nat):eJ (bz x) c:=by simp[eJ,fF]
end
end Go.Pm
namespace Go.Pm
open Go.Mt Go.Sm Go.Ps Go.Ex
variable{T:TE}{f:aP->aP}{c:Nat}{en:List En}{P:wz}{a:aP}
theorem CJ:∀l:List aP,(∀a∈l,ib (f a).a_<=ib a.a_+c)->uf (l.map f)<=uf l+l.length*c
 |[],_=>by grind
 |a::l,h=>by
  have d:=h a (by simp);have d:=CJ l λb d=>h b (by simp[d])
  simp only[uf,agH,pi,agA,ahp]at d⊢;omega
def EW:∀l:List aP,(∀a∈l,ib (f a).a_<=c)->uf (l.map f)<=l.length*c
 |[],_=>by simp[uf,vJ]
 |a::l,h=>by
  have d:=h a (by simp);have d:=EW l λb d=>h b (by simp[d])
  simp only[uf,agH,pi,agA,ahp]at d⊢;omega
def ry{K:KE} :∀{l:List aP},gx en P T K l↔ ∀a∈l,lT en P T K a.a_
 |[]=>by simp[gx]
 |.mk _ b _ _ _::l=>by rw[gx,ry];simp[aP.a_]
def I9{K:KE}{b:bT} :lT en P T K b↔Au P b.vars/\fh en P (b.vars.foldl TE.add T) (b.vars.foldl KE.add K) b.eqs:=by cases b;rw[lT];rfl
def vv:∀a b:List aJ,gg (a++b)=gg a+gg b
 |[],b=>by simp[gg]
 |q::a,b=>by simp only[agQ,gg,vv a b,ahR]
def I_(b:bT):ib b=4*b.vars.length+(b.vars.flatMap l_).length+gg b.eqs:=by cases b;rw[ib];rfl
def EX(b:bT):iX b=eH b.eqs:=by cases b;rw[iX];rfl
def yG{n:Nat} :∀l:List aP,(∀a∈l,1+iX a.a_<=n)->dJ l<=n
 |[],_=>by simp[dJ]
 |.mk _ b _ _ _::l,h=>by
  have c:=h _ (ahn ..);have d:=yG l λa c=>h a (by simp[c])
  simp only[aP.a_]at c;rw[dJ];omega
def kp:∀{l:List aP},∀a∈l,1+iX a.a_<=dJ l
 |.mk _ b _ _ _::l,a,h=>by
  rw[dJ];rcases agu.1 h with rfl|h
  .simp only[aP.a_];omega
  .have:=kp a h;omega
def Ed(k:Nat)(p:Int×Int):((gL k p).map (·.name)).Nodup:=by
 have:(gL k p).map (·.name)=([115,97,110,114,98,109]:List UInt8).map λc=>lN c k:=rfl
 rw[this];refine List.pairwise_map.2 (List.Pairwise.imp (R:=(·≠ ·)) (λh e=>h (ue e).1) (by decide))
def oW{x y:Nm}{e:Xp}{p:Int×Int}(h:x∈cp (gQ y e p)):x=y:=by simpa [cp,aZ] using h
section
variable{en:List En}{bB:Nm->Prop}
def Jx(l:List aP):Prop:=∀a∈l,a.eL.length<=2/\a.et.length<=2/\∀t∈a.eL++a.et,yF t
def pI(k:Nat)(c:a.eL.length<=2/\a.et.length<=2/\∀t∈a.eL++a.et,yF t):(∀x∈cE (cR k a).a_,x=nA k\/x=nB k)/\ib (cR k a).a_<=164/\iX (cR k a).a_=0/\
  ∀T K,(T (nA k)).isSome=true->(T (nB k)).isSome=true->lT en (mx bB) T K (cR k a).a_:=by
 obtain⟨d,h,i⟩:=BA k a.eL (gB (ig k a.name),bz (nR k)) (λt b=>c.2.2 t (by simp[b])) ⟨by simp[eJ,fF],wR _ _⟩ ⟨by simp[cm,bF],by simp[cm,bF]⟩;have e:=c.1;refine⟨λx b=>?_,?_,?_,λT K e g=>?_⟩
 .unfold cR at b;simp only[aP.a_]at b;rw[j5]at b;obtain⟨⟨q,f,b⟩,_⟩:=b;simp only[bT.eqs,agu,agE,ag0]at f;rcases f with rfl|rfl
  .exact .inl (oW b)
  .exact .inr (oW b)
 .unfold cR;simp only[aP.a_];rw[ib];simp only[List.length_nil,List.flatMap_nil,gg,Ig];omega
 .unfold cR;simp[aP.a_,iX,eH,nh,dJ]
 .unfold cR;simp only[aP.a_];rw[lT];refine⟨.nil _,?_⟩;simp only[ah2,fh,aic];exact⟨vu e d.1 (by omega),vu g d.2 (by omega)⟩
def ui(k:Nat)(i:a.eL.length<=2/\a.et.length<=2/\∀t∈a.eL++a.et,yF t){L:List Nm}(n:∀x∈cE a.a_,x∈L):(∀x∈cE (eD k a).a_,x∈L++[nN k,nM k])/\ib (eD k a).a_<=ib a.a_+(4*L.length+177)/\iX (eD k a).a_=1+iX a.a_/\
  ∀T K,(T (nB k)).isSome=true->(T (nN k)).isSome=true->(T (nM k)).isSome=true->lT en (mx bB) T K a.a_->lT en (mx bB) T K (eD k a).a_:=by
 obtain⟨g,o,p⟩:=BA k a.et (gB (ig k a.name),dS false) (λt b=>i.2.2 t (by simp[b])) ⟨by simp[eJ,fF],by simp[eJ,fF]⟩ ⟨by simp[cm,bF],by simp[cm,bF]⟩;have r:=i.2.1;have e:(eD k a).a_=.mk [] [.mk 5 [] ⟨#[]⟩ [] false (bz (nB k)) [.mk ⟨#[]⟩ (.mk a.a_.vars (a.a_.eqs++[gQ (nN k) (pP k a.et (gB (ig k a.name),dS false)).1 a.ps,gQ (nM k) (pP k a.et (gB (ig k a.name),dS false)).2 a.ps])) [] [] a.ps] a.ps]:=rfl;generalize pP k a.et (gB (ig k a.name),dS false)=w at g o p e;generalize f:bT.mk a.a_.vars (a.a_.eqs++[gQ (nN k) w.1 a.ps,gQ (nM k) w.2 a.ps])=c at e;have s:∀x∈cE c,x∈L++[nN k,nM k]:= λx b=>by
  rw[j5]at b;obtain⟨⟨q,d,b⟩,j⟩:=b;rw[<-f]at d j;simp only[bT.eqs,agG,agu,agE,ag0]at d;rcases d with d|rfl|rfl
  .exact ahm _ (n x (j5.2 ⟨⟨q,d,b⟩,j⟩))
  .rw[oW b];simp
  .rw[oW b];simp
 have m:∀x∈aZ [] [aP.mk ⟨#[]⟩ c [] [] a.ps],x∈L++[nN k,nM k]:= λx b=>by
  rw[eO]at b;rcases b with b|⟨j,d,b⟩
  .simp at b
  .simp only[agu,agE,ag0]at d;rw[d]at b;exact s x b
 have t:=j7 _ _ (jP (aq:=[aP.mk ⟨#[]⟩ c [] [] a.ps]) (l:=[]) (by simp)) m;have y:ib c<=ib a.a_+164:=by
  rw[I_ a.a_,<-f];simp only[ib,vv,gg,Ig];omega
 rw[e];refine⟨λx b=>?_,?_,?_,λT K r u v h=>?_⟩
 .rw[j5]at b;obtain⟨⟨q,d,b⟩,_⟩:=b;simp only[bT.eqs,agu,agE,ag0]at d;rw[d]at b;exact m x b
 .rw[ib];simp only[agq,agA,List.length_nil]at t;simp only[List.length_nil,List.flatMap_nil,gg,mg,fL,cm,bF];omega
 .rw[iX,eH,eH,nh,dJ,dJ,EX c,EX a.a_];rw[<-f];simp only[bT.eqs];rw[oU];simp only[eH,nh,dJ];omega
 .rw[I9]at h;rw[lT];refine⟨.nil _,?_⟩;simp only[ah2,fh,aic];rw[mG];refine⟨⟨by simp,by simp,by simp,by simp,by simp[cm,bF],by simp,by simp,λa d=>by simp only[agu,agE,ag0]at d;subst d;exact⟨λh=>h.elim,by simp[aP.eL],by simp[aP.et],λt b=>by simp[aP.eL,aP.et]at b⟩⟩,.inr (.inr (.inr (.inl ⟨rfl,rfl,rfl,wR _ _,by simp⟩))),?_⟩;rw[<-f];simp only[gx,aic,lT];refine⟨h.1,?_⟩;rw[fh.app];refine⟨h.2,?_⟩;simp only[fh,aic];exact⟨vu (yD u) g.1 (by omega),vu (yD v) g.2 (by omega)⟩
def Ih{K:KE}{aq:List aP}{s:DS}(h:If en bB T K aq s)(r:aq.length<=3)(H:aq≠[])(t:Jx aq)(f:Nm)(D:Bool)(e:Xp)(p:Int×Int):
  I8 en bB T K (gL ((cu aq s).2.n+1) p) (li ((cu aq s).2.n+1) (cu aq s).1 p) s ⟨(cu aq s).2.n+1,(cu aq s).2.aG++[rI ((cu aq s).2.n+1) (cu aq s).1 p]⟩ (pS (.mk 4 [] f [] D e aq p)) (dJ aq) (λx=>x∈aZ [] aq):=by
 have V:=h.le;have J:=h.n;have L:=h.w;have M:=h.tZ (lhs:=[]) (by simp);have G:=h.len;have N:=h.dp;have i:Jx (cu aq s).1:= λg b=>by
  obtain⟨d,b,C,j,o,_⟩:=h.df g b;rw[j,o];exact t d b
 have E:=h.pr;have n:∀a∈(cu aq s).1,∀x∈cE a.a_,x∈aZ [] aq:= λg b x a=>by
  obtain⟨d,b,_,_,_,j⟩:=h.df g b;rw[eO];exact .inr ⟨d,b,j x a⟩
 have O:pS (.mk 4 [] f [] D e aq p)=1200+30*(aZ [] aq).length+(aq.length*(10+3*(aZ [] aq).length)+bws aq):=by rw[pS,uh];rfl
 rw[O];have w:=h.es;generalize (cu aq s).1=A at L M G N i E n⊢;generalize (cu aq s).2=P at V J w⊢;generalize Z:P.n+1=k at⊢;have y:∀a∈A.map (cR k),∀x∈cE a.a_,x=nA k\/x=nB k:= λd b x a=>by
  obtain⟨g,j,rfl⟩:=agC.1 b;exact(pI (en:=en) (bB:=bB) k (i g j)).1 x a
 have z:∀a∈A.map (eD k),∀x∈cE a.a_,x∈aZ [] aq++[nN k,nM k]:= λd b x a=>by
  obtain⟨g,j,rfl⟩:=agC.1 b;exact(ui (en:=en) (bB:=bB) k (i g j) (n g j)).1 x a
 have d3:(aZ [] (A.map (cR k))).length<=2:=j7 _ [nA k,nB k] (jP (by simp)) λx a=>by
  rw[eO]at a;rcases a with a|⟨d,b,a⟩
  .simp at a
  .simpa using y d b x a
 have d4:(aZ [] (A.map (eD k))).length<=(aZ [] aq).length+2:=by
  have:=j7 _ (aZ [] aq++[nN k,nM k]) (jP (aq:=A.map (eD k)) (l:=[]) (by simp)) λx j=>by
   rw[eO]at j;rcases j with j|⟨d,b,j⟩
   .simp at j
   .exact z d b x j
  simpa using this
 have Q:=EW (f:=cR k) (c:=164) A λd b=>(pI (en:=en) (bB:=bB) k (i d b)).2.1
 have R:=CJ (f:=eD k) (c:=4*(aZ [] aq).length+177) A λd b=>(ui (en:=en) (bB:=bB) k (i d b) (n d b)).2.1
 refine⟨by simp only;omega,by simp only;omega,λS x a=>?_,λv q=>?_,Ed _ _,?_,λY B x a=>?_,?_,?_,λm u a q=>?_⟩
 .rcases agG.1 a with a|a
  .exact w S x a
  .simp only[agu,agE,ag0]at a;rw[a];simp only[rI,agt];omega
 .simp only[gL,agu,agE,ag0]at q;rcases q with rfl|rfl|rfl|rfl|rfl|rfl<;>exact⟨⟨_,k,by decide,by omega,by simp only;omega,rfl⟩,rfl,rfl⟩
 .simp only[gL,agA,List.length_nil];omega
 .simp only[li,agu,agE,ag0]at B;have j:∀c∈([115,97,110,114,98,109]:List UInt8),lN c k∈(gL k p).map (·.name):= λc o=>by
   have:(gL k p).map (·.name)=([115,97,110,114,98,109]:List UInt8).map λc=>lN c k:=rfl
   rw[this];exact ag4 o
  rcases B with rfl|rfl|rfl|rfl
  .rw[oW a];exact .inr (j 115 (by decide))
  .rw[oW a];exact .inr (j 114 (by decide))
  .rw[cp,eO]at a;rcases a with a|⟨d,b,a⟩
   .simp at a
   .rcases y d b x a with rfl|rfl
    .exact .inr (j 97 (by decide))
    .exact .inr (j 98 (by decide))
  .rw[cp,eO]at a;rcases a with a|⟨d,b,a⟩
   .simp at a
   .rcases agG.1 (z d b x a)with h|h
    .exact .inl h
    .simp only[agu,agE,ag0]at h;rcases h with rfl|rfl
     .exact .inr (j 110 (by decide))
     .exact .inr (j 109 (by decide))
 .simp only[li,gL,gg,Ig,agA,List.length_nil];rw[mg,mg,ug,ug];simp only[cm,bF,List.length_nil,agt];rw[G]at Q R⊢;have j:aq.length*(1+3*(aZ [] (A.map (cR k))).length)<=3*(1+3*2):=ah0 r (by omega);have o:aq.length*(1+3*(aZ [] (A.map (eD k))).length)<=3*(1+3*((aZ [] aq).length+2)):=ah0 r (by omega);have C:aq.length*(4*(aZ [] aq).length+177)<=3*(4*(aZ [] aq).length+177):=agR _ r;omega
 .have F:dJ (A.map (cR k))<=1:=yG _ λd b=>by
   obtain⟨g,j,rfl⟩:=agC.1 b;rw[(pI (en:=en) (bB:=bB) k (i g j)).2.2.1];omega
  have I:dJ (A.map (eD k))<=1+dJ A:=yG _ λC o=>by
   obtain⟨g,j,rfl⟩:=agC.1 o;rw[(ui (en:=en) (bB:=bB) k (i g j) (n g j)).2.2.1];have:=kp g j;omega
  have o:1<=dJ aq:=by
   obtain⟨d,t⟩:=List.exists_mem_of_ne_nil _ H;have:=kp d t;omega
  simp only[li,eH,nh,dJ];omega
 .have j:∀c∈([115,97,110,114,98,109]:List UInt8),(m (lN c k)).isSome=true:= λc U=>by
   have o:lN c k∈(gL k p).map (·.name):=by
    have:(gL k p).map (·.name)=([115,97,110,114,98,109]:List UInt8).map λc=>lN c k:=rfl
    rw[this];exact ag4 U
   obtain⟨v,b,e⟩:=agC.1 o;rw[<-e];exact q v b
  have C:=E m u a;rw[ry]at C;have F:∀x,(m x).isSome=true->ou en m.ty (λx=>(m x).isSome=true) (bz x):= λx h=>.mk (λk a=>by simp[Xp.kids]at a) (by simp[Xp.kids]) (.inr (.inr (.inr (.inl ⟨rfl,h⟩))))
  simp only[li,fh,aic];refine⟨vu (j 115 (by decide)) (by simp[eJ,fF]) (by simp[cm,bF]),vu (j 114 (by decide)) (by simp[eJ,fF]) (by simp[cm,bF]),?_,?_⟩
  .rw[mG];refine⟨⟨by simp,by simp,by simp,by simp,by simp[cm,bF],by simp,by rw[agt];omega,λX I=>by obtain⟨g,o,rfl⟩:=agC.1 I;exact⟨λh=>h.elim,by simp[aP.eL,cR,eD],by simp[aP.et,cR,eD],λt a=>by simp[aP.eL,aP.et,cR,eD]at a⟩⟩,.inr (.inr (.inl ⟨rfl,rfl,rfl,wR _ _,F _ (j 115 (by decide))⟩)),?_⟩;rw[ry];intro d b;obtain⟨g,o,rfl⟩:=agC.1 b;exact(pI k (i g o)).2.2.2 m u (j 97 (by decide)) (j 98 (by decide))
  .rw[mG];refine⟨⟨by simp,by simp,by simp,by simp,by simp[cm,bF],by simp,by rw[agt];omega,λX I=>by obtain⟨g,o,rfl⟩:=agC.1 I;exact⟨λh=>h.elim,by simp[aP.eL,cR,eD],by simp[aP.et,cR,eD],λt a=>by simp[aP.eL,aP.et,cR,eD]at a⟩⟩,.inr (.inr (.inl ⟨rfl,rfl,rfl,wR _ _,F _ (j 97 (by decide))⟩)),?_⟩;rw[ry];intro d b;obtain⟨g,o,rfl⟩:=agC.1 b;exact(ui k (i g o) (n g o)).2.2.2 m u (j 98 (by decide)) (j 110 (by decide)) (j 109 (by decide)) (C g o)
end
end Go.Pm
namespace Go.Pm
open Go.Mt Go.Sm Go.Ps Go.Ex
abbrev uj(bB:Nm->Prop):wz:=⟨uc,3000,True,bB⟩
section
variable{en:List En}{bB:Nm->Prop}
theorem Ii{T:TE}{K:KE}{k:Int}{lhs:List Nm}{f:Nm}{args:List Xp}{j:Bool}{e:Xp}{aq:List aP}{p:Int×Int}{s:DS}(l:pO T)(h:mG en (uj bB) T K (.mk k lhs f args j e aq p))(t:k≠4)(a:If en bB T K aq s):
  I8 en bB T K [] [.mk k lhs f args j e (cu aq s).1 p] s (cu aq s).2 (pS (.mk k lhs f args j e aq p)) (dJ aq) (λx=>x∈aZ lhs aq):=by
 rw[mG]at h;obtain⟨⟨m,u,n,w,y,z,M,A⟩,B,_⟩:=h;have C:=a.tZ n;have N:=a.n;have O:=a.w;have J:=a.len;have P:=a.dp;have D:pS (.mk k lhs f args j e aq p)=4+2*cm e+2*bF args+lhs.length+args.length+(aZ lhs aq).length+(aq.length*(10+3*(aZ lhs aq).length)+bws aq):=by rw[pS,uh,agw t]
 rw[D];refine⟨a.le,by omega,a.es,λv a=>by simp at a,by simp,by simp,λL o x i=>?_,?_,?_,λE F i _=>?_⟩
 .simp only[agu,agE,ag0]at o;rw[o,cp]at i;exact .inl (C.1 x i)
 .simp only[gg,List.length_nil];rw[mg,ug,J];have:aq.length*(1+3*(aZ lhs (cu aq s).1).length)<=aq.length*(10+3*(aZ lhs aq).length):=ahV _ (by omega);omega
 .simp only[eH,nh];omega
 .simp only[fh,aic];rw[mG];refine⟨⟨λx h=>(i.some l (m x h)).1,u,n,w,y,z,by grind,λG H=>?_⟩,?_,a.pr E F i⟩
  .obtain⟨g,I,Q,q,r,_⟩:=a.df G H;have:=A g I;exact⟨λh=>h.elim,by rw[q];exact this.u,by rw[r];exact this.w,by rw[q,r];exact this.t⟩
  rcases B with⟨g,⟨x,b,c⟩,d,e⟩|⟨g,b,c,d,e,f⟩|⟨g,b,c,d,e⟩|⟨g,b,c,d,e⟩|⟨_,g,_⟩
  .refine .inl ⟨g,⟨x,b,?_⟩,d,?_⟩
   .rw[(i.some l (m x (by rw[b];simp))).2];exact c
   .grind
  .grind
  .exact .inr (.inr (.inl ⟨g,b,c,d,i.KT l e⟩))
  .grind
  .grind
mutual
def EY:∀(b:bT) (T:TE) (K:KE) (s:DS),pO T->lT en (uj bB) T K b->ud b<=2500000->Ky en bB T K b s
 |.mk f i,T,K,s,m,h,j=>by
  rw[lT]at h;obtain⟨c,n⟩:=h;rw[ud]at j;have g:=CK i _ (f.foldl KE.add K) s (m.vV c.us) n (by omega);have t:=g.n;have y:=g.w;have z:=g.nl;have r:=c.n
  dsimp only at r
  have A:(((f++(dA i s).1).flatMap l_)).length<=f.length:=by
   rw[aia,agq];have o:∀l:List Va,(∀v∈l,v.clock.length<=1)->(l.flatMap l_).length<=l.length:=by
    intro l
    induction l with
    |nil=>simp
    |cons a l p=>
     intro h;have:=h a (by simp);have:=p λv a=>h v (by simp[a])
     simp only[ah9,agq,agt,agA];omega
   have q:∀l:List Va,(∀v∈l,v.clock=[])->(l.flatMap l_).length=0:=by
    intro l
    induction l with
    |nil=>simp
    |cons a l p=>
     intro h;have:=p λv a=>h v (by simp[a])
     simp only[ah9,agq,agt,h a (by simp),List.length_nil];omega
   have:=o f λv a=>(c.ck v a).1
   have:=q (dA i s).1 λv a=>(g.nw v a).ck
   omega
  have k:((f++(dA i s).1).map (·.name)).Nodup:=by
   rw[agI];refine ny c.nd g.nd λx a l=>?_
   obtain⟨v,o,rfl⟩:=agC.1 a;obtain⟨w,p,e⟩:=agC.1 l;exact(g.nw w p).I6 (e▸c.us v o)
  refine⟨?_,?_,?_,λx d=>?_,?_,?_,λB C d=>?_⟩
  .rw[fX];exact g.le
  .rw[fX,ud];dsimp only;omega
  .rw[fX];exact g.es
  .rw[fX]at d;rw[j5]at d⊢;obtain⟨⟨u,l,d⟩,a⟩:=d;rw[rq]at a;simp only[bT.vars,agG]at a;refine⟨?_,rq.2 λv c=>a v (.inl c)⟩;rcases g.df u l x d with h|h
   .exact h
   .obtain⟨v,c,e⟩:=agC.1 h;exact absurd e (a v (.inr c))
  .rw[fX,ib,ud];rw[agq];omega
  .rw[fX,iX,iX];exact g.dp
  .rw[fX];rw[lT];refine⟨⟨k,?_,λv a=>?_,λv a=>?_,λv a=>?_⟩,g.pr _ _ ?_ λv a=>?_⟩
   .rw[agq];show _<=20000;omega
   .rcases agG.1 a with a|a
    .exactλj=>(c.us v a).ne 118 j
    .exact(g.nw v a).Kx
   .rcases agG.1 a with a|a
    .refine⟨(c.ck v a).1,λo l=>?_⟩;obtain⟨w,j,e⟩:=(c.ck v a).2 o l;exact⟨w,ahm _ j,e⟩
    .rw[(g.nw v a).ck];simp
   .rcases agG.1 a with a|a
    .exact c.la v a
    .rw[(g.nw v a).la];intro e;simp at e
   .rw[ag7,ag7];exact(d.vV f).new λv a=>(g.nw v a).I6
   .rw[vq k v (ahz _ a)];rfl
def CK:∀(l:List aJ) (T:TE) (K:KE) (s:DS),pO T->fh en (uj bB) T K l->iF l<=2500000->I8 en bB T K (dA l s).1 (dA l s).2.1 s (dA l s).2.2 (iF l) (eH l) (λx=>∃q∈l,x∈cp q)
 |[],T,K,s,a,h,d=>by
  rw[dA,iF,eH];exact⟨ags _,by simp,λh=>h,λv a=>by simp at a,by simp,by simp,λu a=>by simp at a,by simp[gg],by simp[eH],λa a _ _=>by simp[fh]⟩
 |q::l,T,K,s,i,h,m=>by
  rw[fh]at h;rw[iF]at m;have a:=I' q T K s i h.1 (by omega);have b:=CK l T K (mC q s).2.2 i h.2 (by omega);have z:=a.le;have A:=b.le;have C:=a.n;have D:=b.n;have E:=a.nl;have F:=b.nl;have G:=a.w;have H:=b.w;have N:=a.dp;have O:=b.dp;rw[dA,iF,eH]
  dsimp only
  refine⟨by omega,by omega,λh=>b.es (a.es h),λv d=>?_,?_,by rw[agq];omega,λu f x g=>?_,?_,?_,λj k g d=>?_⟩
  .rcases agG.1 d with d|d
   .exact(a.nw v d).mono (ags _) A
   .exact(b.nw v d).mono z (ags _)
  .rw[agI];refine ny a.nd b.nd λx n o=>?_
   obtain⟨v,p,rfl⟩:=agC.1 n;obtain⟨w,r,e⟩:=agC.1 o;obtain⟨⟨c,B,_,_,I,t⟩,_,_⟩:=a.nw v p;obtain⟨⟨J,L,_,M,_,y⟩,_,_⟩:=b.nw w r;have e:=e;rw[t,y]at e;have:=(ue e).2;omega
  .rw[agI,agG];rcases agG.1 f with f|f
   .rcases a.df u f x g with h|h
    .grind
    .grind
   .rcases b.df u f x g with⟨n,o,h⟩|h
    .grind
    .grind
  .rw[vv,agq];omega
  .rw[oU];omega
  .rw[fh.app];exact⟨a.pr j k g λv h=>d v (ahm _ h),b.pr j k g λv h=>d v (ahz _ h)⟩
def I':∀(q:aJ) (T:TE) (K:KE) (s:DS),pO T->mG en (uj bB) T K q->pS q<=2500000->I8 en bB T K (mC q s).1 (mC q s).2.1 s (mC q s).2.2 (pS q) (nh q) (λx=>x∈cp q)
 |.mk k l f m g e c p,T,K,s,i,h,n=>by
  have j:=Ay c T K s i (by rw[mG]at h;exact h.2.2) (by rw[pS,uh]at n;omega);rw[mC,nh];simp only[cp];unfold tA;by_cases a:k=4
  .rw[agK (show(aJ.mk k l f m g e (cu c s).1 p).kd=4 from a)];rw[mG]at h;obtain⟨⟨_,_,_,_,_,_,o,d⟩,q,_⟩:=h;rcases q with⟨b,_⟩|⟨b,_⟩|⟨b,_⟩|⟨b,_⟩|⟨_,_,r,u,t,_⟩
   .omega
   .omega
   .omega
   .omega
   subst a r u;exact Ih j o t (λa b=>⟨(d a b).u,(d a b).w,(d a b).t⟩) f g e p
  .rw[agw (show ¬(aJ.mk k l f m g e (cu c s).1 p).kd=4 from a)];exact Ii i h a j
def Ay:∀(l:List aP) (T:TE) (K:KE) (s:DS),pO T->gx en (uj bB) T K l->bws l<=2500000->If en bB T K l s
 |[],T,K,s,a,h,d=>by
  constructor<;>rw[cu]
  .grind
  .grind
  .grind
  .grind
  .simp[uf,vJ]
  .simp[dJ]
  .exactλa a _=>by simp[gx]
 |.mk n b u w p::l,T,K,s,e,h,g=>by
  rw[gx]at h;have f:bws (.mk n b u w p::l)=ud b+bws l:=rfl;rw[f]at g;have a:=EY b T K s e h.1 (by omega);have c:=Ay l T K (fX b s).2 e h.2 (by omega);have v:=a.le;have y:=c.le;have o:=a.n;have q:=c.n;have r:=a.w;have t:=c.w;have z:=a.dp;have A:=c.dp;have i:cu (.mk n b u w p::l) s=(.mk n (fX b s).1 u w p::(cu l (fX b s).2).1,(cu l (fX b s).2).2):=by rw[cu,uT]
  constructor<;>rw[i]<;>dsimp only
  .omega
  .grind
  .exactλh=>c.es (a.es h)
  .rw[agA,agA,c.len]
  .intro j d;rcases agu.1 d with rfl|d
   .exact⟨_,ahn ..,W,W,W,a.df⟩
   .obtain⟨x,k,m⟩:=c.df j d;exact⟨x,by simp[k],m⟩
  .rw[f];have:uf (.mk n (fX b s).1 u w p::(cu l (fX b s).2).1)=ib (fX b s).1+uf (cu l (fX b s).2).1:=rfl;omega
  .rw[dJ,dJ];omega
  .exactλd e f=>by rw[gx];exact⟨a.pr d e f,c.pr d e f⟩
end
end
def uk(e:Xp):1<=cm e:=by cases e;rw[cm];omega
def yH{c:Nat} :∀{l:List Xp},(∀a∈l,cm a<=c)->l.length<=bF l/\bF l<=l.length*c
 |[],_=>by simp[bF]
 |a::l,h=>by
  have d:=h a (by simp);have d:=yH (l:=l) λb d=>h b (by simp[d])
  have d:=uk a;rw[bF,agA,ahp];omega
section
variable{en:List En}{P:wz}
def Ij{T:TE}{K:KE}{q:aJ}(h:mG en P T K q):(iW q.ex/\xJ q.ex)/\(∀a∈q.args,iW a/\xJ a)/\cm q.ex<=100/\q.args.length<=2/\(q.args.length<=bF q.args/\bF q.args<=200)/\q.lhs.length<=2/\q.aq.length<=3/\∀a∈q.aq,EV P a:=by
 cases q with|mk k g f j i e b p=>
 rw[mG]at h;obtain⟨⟨t,l,u,m,n,c,o,r⟩,s,_⟩:=h;have d:=yH λa b=>(c a b).2
 refine⟨?_,λa b=>eJ.sh a (c a b).1,n,m,?_,l,o,r⟩
 .rcases s with⟨_,⟨_,_,h⟩,_⟩|⟨_,_,h|⟨_,h⟩,_⟩|⟨_,_,_,h,_⟩|⟨_,_,_,h,_⟩|⟨_,_,_,_,_,h⟩
  .exact eJ.sh e h
  .exact eJ.sh e h
  .rw[show(aJ.mk k g f j i e b p).ex=e from rfl,h];exact yC
  .exact eJ.sh e h
  .exact eJ.sh e h
  .rw[show(aJ.mk k g f j i e b p).ex=e from rfl,h];exact yC
 .refine⟨d.1,agW d.2 ?_⟩;omega
def KU(q:aJ):Prop:=(∀a∈q.aq,yZ a.a_)/\q.aq.length<=3/\(xJ q.ex/\q.args.length<=1000000/\∀e∈q.args,xJ e)/\q.lhs.length<=1000000/\∀a∈q.aq,a.eL.length<=1000000/\a.et.length<=1000000
variable(en)
structure KV(T:TE)(b:bT):Prop where
 wf:zh en T b
 sm:yZ b
 df:∀x∈cE b,(T x).isSome=true
 dn:6*kM b<=ib b
structure Kz(T:TE)(l:List aJ):Prop where
 wf:kW en T l
 sm:∀q∈l,KU q
 df:∀q∈l,∀x∈cp q,(T x).isSome=true
 dn:6*nf l<=gg l
 ln:4*l.length<=gg l
structure KA(T:TE)(l:List aP):Prop where
 wf:kn en T l
 sm:∀a∈l,yZ a.a_
 df:∀a∈l,∀x∈cE a.a_,(T x).isSome=true
 dn:∀n,6*jX l<=fL n l
variable{en}
mutual
def EZ{bB:Nm->Prop} :∀(b:bT) (T:TE) (K:KE),lT en (mx bB) T K b->ib b<=2500000->KV en T b
 |.mk l i,T,K,h,f=>by
  rw[lT]at h;rw[ib]at f;obtain⟨e,c⟩:=h;have d:=e.n
  dsimp only at d
  have g:=CL i _ _ c (by omega);have j:=g.ln;have k:=g.dn;refine⟨?_,.mk (by omega) (by omega) (λq a=>(g.sm q a).1) (λq a=>by have:=(g.sm q a).2.1;omega) (λq a=>(g.sm q a).2.2.1) (λq a=>(g.sm q a).2.2.2.1) λq a=>(g.sm q a).2.2.2.2,λx a=>?_,?_⟩
  .rw[zh];exact⟨λv h=>by have:=(e.ck v h).1;omega,by omega,by omega,g.wf⟩
  .rw[j5]at a;obtain⟨⟨q,c,a⟩,d⟩:=a;have:=g.df q c x a;rw[<-ru (T:=T) (rq.1 d)];exact this
  .rw[kM,ib];omega
def CL{bB:Nm->Prop} :∀(l:List aJ) (T:TE) (K:KE),fh en (mx bB) T K l->gg l<=2500000->Kz en T l
 |[],T,K,h,a=>⟨by rw[kW];trivial,λq h=>by simp at h,λq h=>by simp at h,by simp[nf,gg],by simp[gg]⟩
 |.mk k c i m j e a p::l,T,K,h,B=>by
  rw[fh]at h;rw[gg,mg]at B;have b:=CL l T K h.2 (by omega);have g:=Ij h.1;obtain⟨n,o,C,D,t,E,u,r⟩:=g;simp only[aJ.ex,aJ.args,aJ.lhs,aJ.aq]at n o C D t E u r;have v:=h.1;rw[mG]at v;obtain⟨⟨F,_,w,_⟩,y,G⟩:=v;have f:=CM a T K G (aZ c a).length (by omega);have L:=b.dn;have M:=b.ln;have z:∀x∈aZ c a,(T x).isSome=true:= λx d=>by
   rw[eO]at d;rcases d with d|⟨s,H,d⟩
   .exact F x d
   .exact f.df s H x d
  have I:=uk e;have J:6*(c.length+jX a)<=mg (.mk k c i m j e a p):=by
   have:=f.dn (aZ c a).length;rw[mg];rcases y with⟨_,⟨x,h,_⟩,_⟩|⟨_,_,_,_,_,h⟩|⟨_,h,_⟩|⟨_,h,_⟩|⟨h,_⟩
   .rw[h]at this⊢;have s:1<=(aZ [x] a).length:=aje (eO.2 (.inl (ahn ..)));simp only[agA,List.length_nil];omega
   .have s:c.length<=(aZ c a).length:=j7 _ _ w λx a=>eO.2 (.inl a)
    rw[h]at t⊢;omega
   .rw[h]at this⊢;simp only[List.length_nil];omega
   .rw[h]at this⊢;simp only[List.length_nil];omega
   .exact h.elim
  have A:∀q∈aJ.mk k c i m j e a p::l,q=aJ.mk k c i m j e a p\/q∈l:= λq a=>agu.1 a
  refine⟨?_,λq d=>?_,λq d x g=>?_,?_,?_⟩
  .rw[kW];refine⟨?_,b.wf⟩;rw[Cc];refine⟨n.1,λa c=>(o a c).1,⟨by omega,by omega,by omega,by omega⟩,?_,f.wf⟩;rcases y with⟨h,_⟩|⟨h,_⟩|⟨h,s,_,_,H⟩|⟨h,_,_,_,s⟩|⟨h,_⟩
   .exact .inl h
   .exact .inr (.inl h)
   .refine .inr (.inr (.inr ⟨h,H,z,by omega,f.sm,?_,w⟩));have:mg (.mk k c i m j e a p)<=2500000:=by rw[mg];omega
    omega
   .exact .inr (.inr (.inl ⟨h,λe=>by rw[e]at s;simp at s⟩))
   .exact h.elim
  .rcases A q d with rfl|d
   .exact⟨f.sm,u,⟨n.2,by simp only[aJ.args];omega,λe a=>(o e a).2⟩,by simp only[aJ.lhs];omega,λa c=>⟨by have:=(r a c).u;omega,by have:=(r a c).w;omega⟩⟩
   .exact b.sm q d
  .rcases A q d with rfl|d
   .rw[cp]at g;exact z x g
   .exact b.df q d x g
  .rw[nf,gg,pM];omega
  .rw[gg,agA,mg];omega
def CM{bB:Nm->Prop} :∀(l:List aP) (T:TE) (K:KE),gx en (mx bB) T K l->∀n,fL n l<=2500000->KA en T l
 |[],T,K,h,n,a=>⟨by rw[kn];trivial,λa h=>by simp at h,λa h=>by simp at h,λn=>by simp[jX,fL]⟩
 |.mk f b u w p::l,T,K,h,n,e=>by
  rw[gx]at h;rw[fL]at e;have d:=EZ b T K h.1 (by omega);have c:=CM l T K h.2 n (by omega);have g:=d.dn;refine⟨by rw[kn];exact⟨d.wf,c.wf⟩,λx a=>?_,λx a=>?_,λn=>?_⟩
  .rcases agu.1 a with rfl|a
   .exact d.sm
   .exact c.sm x a
  .rcases agu.1 a with rfl|a
   .exact d.df
   .exact c.df x a
  .have:=c.dn n;rw[jX,qt,fL];omega
end
mutual
def E0{bB:Nm->Prop} :∀(b:bT) (T:TE) (K:KE),lT en (uj bB) T K b->ud b<=2500000->B3 b
 |.mk j g,T,K,h,c=>by
  rw[lT]at h;rw[ud]at c;obtain⟨d,e⟩:=h;obtain⟨i,a⟩:=CN g _ _ e (by omega);have f:=d.n
  dsimp only at f
  exact .mk (by simp only[bT.vars];omega) (by simp only[bT.eqs];omega) (λq c=>(a q c).1) λq c=>(a q c).2
def CN{bB:Nm->Prop} :∀(l:List aJ) (T:TE) (K:KE),fh en (uj bB) T K l->iF l<=2500000->4*l.length<=iF l/\∀q∈l,(q.aq.length<=1000/\(q.kd=4->q.aq≠[])/\∀a∈q.aq,a.name.size<=1000000000/\a.eL.length<=1000000/\a.et.length<=1000000/\(∀t∈a.eL,t.to.size<=1000000000)/\(∀t∈a.et,t.to.size<=1000000000))/\∀a∈q.aq,B3 a.a_
 |[],T,K,h,b=>⟨by simp,λq h=>by simp at h⟩
 |.mk r p s D C e c u::l,T,K,h,g=>by
  rw[fh]at h;rw[iF,pS]at g;obtain⟨v,i⟩:=CN l T K h.2 (by omega);obtain⟨w,x,y,z,A,B,j,d⟩:=Ij h.1;simp only[aJ.aq]at j d;have f:=h.1;rw[mG]at f;obtain⟨_,k,m⟩:=f;refine⟨by rw[iF,pS,agA];split<;>omega,λq b=>?_⟩;rcases agu.1 b with rfl|b
  .refine⟨⟨by simp only[aJ.aq];omega,λn=>?_,λa o=>?_⟩,(CO c T K m (aZ p c).length (by omega))⟩
   .simp only[aJ.kd]at n;rcases k with⟨h,_⟩|⟨h,_⟩|⟨h,_⟩|⟨h,_⟩|⟨_,_,_,_,h,_⟩
    .omega
    .omega
    .omega
    .omega
    .exact h
   .have h:=d a o;exact⟨by have:=h.nm trivial;omega,by have:=h.u;omega,by have:=h.w;omega,λt b=>by have:=(h.t t (by simp[b])).2.2;omega,λt b=>by have:=(h.t t (by simp[b])).2.2;omega⟩
  .exact i q b
def CO{bB:Nm->Prop} :∀(l:List aP) (T:TE) (K:KE),gx en (uj bB) T K l->∀n,kY n l<=2500000->∀a∈l,B3 a.a_
 |[],T,K,h,n,c=> λa h=>by simp at h
 |.mk e b u w p::l,T,K,h,n,d=>by
  rw[gx]at h;rw[kY]at d;intro a c;rcases agu.1 c with rfl|c
  .exact E0 b T K h.1 (by omega)
  .exact CO l T K h.2 n (by omega) a c
end
end
variable{N n n' i j:Nat}{κ Ms:KE}{y:Nm}{r:R}
def ly(n:Nat)(y:Nm):Prop:=∀j,n<j->y≠nV j
def ly.mono(h:ly n y)(a:n<=n'):ly n' y:= λj a=>h j (by omega)
def ly.new(n:Nat):ly (n+1) (nV (n+1)):= λj a e=>by have:=(ue e).2;omega
def ly.ne(h:ly n y):y≠nV (n+1):=h _ (aib _)
structure Gk(κ a:KE)(n b:Nat):Prop where
 le:n<=b
 eq:∀y,ly n y->a y=κ y
def Gk.refl(κ:KE)(n:Nat):Gk κ κ n n:=⟨ags _,λ_ _=>rfl⟩
def Gk.trans{a b c:KE}{k:Nat}(h:Gk a b i j)(g:Gk b c j k):Gk a c i k:=⟨agW h.le g.le,λy d=>by rw[g.eq y (d.mono h.le),h.eq y d]⟩
mutual
theorem qT(en:List En)(s:Sc):∀(e:Xp) (c:Nat),eJ e c->dK en (cA s e) c/\cC (cA s e)=cC e
 |.mk v z w x C b y,c,h=>by
  rw[eJ]at h;obtain⟨⟨d,f,r,g,i,j,k,a,l,A,B⟩,t⟩:=h;obtain⟨m,n⟩:=Az en s b _ t;have q:=yI s b;have o:b≠[]->gU s b≠[]:= λh e=>h (ahT.1 (by grind))
  rw[cA];split
  .rw[dK,cC,cC,q,n];refine⟨⟨⟨d,f,by omega,λh=>by omega,g,i,λh=>o (j h),k,λh=>⟨(a h).1,(a h).2.1,(a h).2.2.1,(a h).2.2.2⟩,l,by omega,by omega⟩,m⟩,rfl⟩
  .split
   .rename_i p;have u:=r (.inr p);subst u;subst p;rw[dK,cC,cC];refine⟨⟨by grind,by grind⟩,by grind⟩
   .rename_i u p;rw[dK,cC,cC,q,n];refine⟨⟨⟨d,f,p,λh=>by grind,g,i,λh=>o (j h),k,λh=>⟨(a h).1,(a h).2.1,(a h).2.2.1,(a h).2.2.2⟩,l,by omega,by omega⟩,m⟩,rfl⟩
theorem Az(en:List En)(s:Sc):∀(l:List Xp) (c:Nat),fF l c->eR en (gU s l) c/\bh (gU s l)=bh l
 |[],c,h=>by rw[gU,eR,bh];exact⟨trivial,W⟩
 |e::l,c,h=>by
  rw[fF]at h;have a:=qT en s e c h.1;have b:=Az en s l c h.2;rw[gU,eR,bh,bh,a.2,b.2];exact⟨⟨a.1,b.1⟩,W⟩
theorem yI(s:Sc):∀l:List Xp,(gU s l).length=l.length
 |[]=>by rw[gU]
 |e::l=>by rw[gU,agA,agA,yI s l]
end
mutual
def qU(s:Sc):∀e:Xp,cm (cA s e)=cm e
 |.mk k b n x c a p=>by
  have h:=AA s a;rw[cA];split
  .rw[cm,cm,h]
  .split<;>rw[cm,cm,h]
def AA(s:Sc):∀l:List Xp,bF (gU s l)=bF l
 |[]=>by rw[gU]
 |e::l=>by rw[gU,bF,bF,qU s e,AA s l]
end
def AB:∀(l:List (Nm×Nm)) (e:Xp),cm (l.foldl iM e)=cm e+l.length
 |[],e=>rfl
 |o::l,e=>by rw[agy,AB l,agA];simp only[iM,cm,bF];omega
def CP(s:Sc)(b:Bd):cm (oj s b)<=1+s.ck.length:=by
 unfold oj;rw[AB,aiH];simp only[cm,bF];omega
mutual
theorem dK.mono(en:List En):∀(e:Xp) {c a:Nat},dK en e c->c<=a->dK en e a
 |.mk q u r x w p s,c,t,h,v=>by
  rw[dK]at h⊢;obtain⟨⟨a,b,d,f,g,i,j,k,l,m,n⟩,o⟩:=h;exact⟨⟨a,b,d,f,g,i,j,k,λa=>⟨by grind,(l a).2⟩,m,n⟩,eR.mono en p o (by grind)⟩
theorem eR.mono(en:List En):∀(l:List Xp) {c a:Nat},eR en l c->c<=a->eR en l a
 |[],_,_,_,_=>by rw[eR];trivial
 |e::l,c,b,h,a=>by rw[eR]at h⊢;exact⟨dK.mono en e h.1 a,eR.mono en l h.2 a⟩
end
mutual
def rz:∀e:Xp,cC e<=cm e
 |.mk k b n x c a p=>by rw[cC,cm];have:=ul a;split<;>omega
def ul:∀l:List Xp,bh l<=bF l
 |[]=>by simp[bh,bF]
 |e::l=>by rw[bh,bF];have:=rz e;have:=ul l;omega
end
def um(en:List En)(x:Nm)(c:Nat):dK en (bz x) c:=by simp[dK,eR]
def AC(en:List En):∀(l:List (Nm×Nm)) (e:Xp) (c:Nat),dK en e c->cC e=0->dK en (l.foldl iM e) (c+l.length)/\cC (l.foldl iM e)=0
 |[],e,c,h,a=>⟨h,a⟩
 |o::l,e,c,h,a=>by
  have:=AC en l (iM e o) (c+1) (by simp[dK,eR,bh,a,h]) (by simp[cC,bh,a]);rw[agy,agA,show c+(l.length+1)=c+1+l.length by omega];exact this
section
variable(en:List En)(bB:Nm->Prop)
mutual
def rE(κ:KE)(n:Nat):aJ->Prop
 |.mk k c f a d e b p=>((k=1/\(∃y,c=[y]/\ly n y/\dK en e (κ y))/\a=[]/\b=[])\/
   (k=2/\c≠[]/\a.length=2/\(∀b∈a,dK en b 0)/\(d=true->dK en e 0)/\bB f/\b=[])\/(k=5/\a=[]/\b.length=1))/\cm e+bF a<=400/\kx κ n b
def kx(κ:KE)(n:Nat):List aP->Prop
 |[]=>True
 |.mk _ b _ _ _::l=>sW κ n b/\kx κ n l
def sW(κ:KE)(n:Nat):bT->Prop
 |.mk _ a=>dc κ n a
def dc(κ:KE)(n:Nat):List aJ->Prop
 |[]=>True
 |q::l=>rE κ n q/\dc κ n l
end
variable{en bB}
mutual
def rE.grow(g:Gk κ Ms n n'):∀q:aJ,rE en bB κ n q->rE en bB Ms n' q
 |.mk k j i m l e f p,h=>by
  rw[rE]at h⊢;refine⟨?_,h.2.1,kx.grow g f h.2.2⟩;rcases h.1 with⟨a,⟨y,b,c,d⟩,e⟩|h|h
  .exact .inl ⟨a,⟨y,b,c.mono g.le,by rw[g.eq y c];exact d⟩,e⟩
  .grind
  .grind
def kx.grow(g:Gk κ Ms n n'):∀l:List aP,kx en bB κ n l->kx en bB Ms n' l
 |[],h=>by rw[kx];trivial
 |.mk _ b _ _ _::l,h=>by rw[kx]at h⊢;exact⟨sW.grow g b h.1,kx.grow g l h.2⟩
def sW.grow(g:Gk κ Ms n n'):∀b:bT,sW en bB κ n b->sW en bB Ms n' b
 |.mk _ a,h=>by rw[sW]at h⊢;exact dc.grow g a h
def dc.grow(g:Gk κ Ms n n'):∀l:List aJ,dc en bB κ n l->dc en bB Ms n' l
 |[],h=>by rw[dc];trivial
 |q::l,h=>by rw[dc]at h⊢;exact⟨rE.grow g q h.1,dc.grow g l h.2⟩
end
def dc.app:∀{a b:List aJ},dc en bB κ n (a++b)↔dc en bB κ n a/\dc en bB κ n b
 |[],b=>by simp[dc]
 |q::a,b=>by simp only[agQ,dc,dc.app (a:=a),and_assoc]
mutual
def vw:aJ->Nat
 |.mk _ _ _ a _ e b _=>a.length+2+cC e+bh a+nz b
def nz:List aP->Nat
 |[]=>0
 |.mk _ b _ _ _::l=>zm b+nz l
def zm:bT->Nat
 |.mk _ a=>ew a
def ew:List aJ->Nat
 |[]=>0
 |q::l=>vw q+ew l
end
def gy:∀a b:List aJ,ew (a++b)=ew a+ew b
 |[],b=>by simp[ew]
 |q::a,b=>by simp only[agQ,ew,gy a b,ahR]
def ky:∀a b:List aJ,gh (a++b)=max (gh a) (gh b)
 |[],b=>by simp[gh]
 |q::a,b=>by simp only[agQ,gh,ky a b];omega
variable(en bB)
structure MI(κ:KE)(m:MS):Prop where
 a:∀v∈m.vars,κ v.name<=v.clock.length/\v.clock.length<=100/\ly m.n v.name
 d:∀y,0<κ y->∃v∈m.vars,v.name=y
structure Iv(κ K:KE)(N:Nat)(r:R):Prop where
 m:MI κ r.m
 s:∀x,K x<=κ (r.s.vars.nm x)/\ly r.m.n (r.s.vars.nm x)
 q:dc en bB κ r.m.n r.q
 dd:gh r.q<=N
 sc:dZ r.s
 cl:r.s.ck.length<=90
variable{en bB}
def MI.fresh{m:MS}(h:MI κ m)(t:Int×Nm)(b:List (Nm×Nm))(f:b.length<=100):MI (λy=>if y=nV (m.n+1)then b.length else κ y) (m.fresh t b)/\Gk κ (λy=>if y=nV (m.n+1)then b.length else κ y) m.n (m.n+1):=by
 refine⟨⟨λv a=>?_,λy c=>?_⟩,⟨by omega,λy a=>agw a.ne⟩⟩
 .simp only[MS.fresh,agG,agu,agE,ag0]at a;rcases a with a|rfl
  .obtain⟨g,i,d⟩:=h.a v a;exact⟨by simp only[agw d.ne];exact g,i,d.mono (by simp[MS.fresh])⟩
  .exact⟨by simp,f,ly.new _⟩
 .simp only[MS.fresh]at c⊢;split at c
  .rename_i e;exact⟨_,ahz _ (ahn ..),e.symm⟩
  .obtain⟨v,a,e⟩:=h.d y c;exact⟨v,ahm _ a,e⟩
def Iv.add{K:KE}(h:Iv en bB κ K N r)(f:∀x,K x<=1)(a:Sc)(t:Int×Nm)(b:List (Nm×Nm))(c:List aJ)(g:∀x,a.vars.nm x=r.s.vars.nm x\/a.vars.nm x=nV (r.m.n+1)/\1<=b.length)
  (i:b.length<=100) (j:dZ a) (k:a.ck=r.s.ck) (l:∀a:KE,a (nV (r.m.n+1))=b.length->dc en bB a (r.m.n+1) c) (o:gh c=0):
  ∃d,Iv en bB d K N ⟨a,r.m.fresh t b,r.q++c⟩/\Gk κ d r.m.n (r.m.n+1):=by
 obtain⟨m,d⟩:=h.m.fresh t b i;refine⟨_,⟨m,λx=>?_,?_,?_,j,by rw[k];exact h.cl⟩,d⟩
 .dsimp only[MS.fresh]
  rcases g x with e|⟨e,n⟩
  .rw[e];have:=(h.s x).2;rw[agw this.ne];exact⟨(h.s x).1,this.mono (by omega)⟩
  .rw[e,agK W];exact⟨agW (f x) n,ly.new _⟩
 .rw[dc.app];exact⟨dc.grow d _ h.q,l _ (by simp)⟩
 .have:=h.dd;rw[ky];omega
def Iv.put{K:KE}(h:Iv en bB κ K N r)(a:List aJ)(b:dc en bB κ r.m.n a)(c:gh a<=N):Iv en bB κ K N ⟨r.s,r.m,r.q++a⟩:=
 ⟨h.m,h.s,by rw[dc.app];exact⟨h.q,b⟩,by have:=h.dd;rw[ky];omega,h.sc,h.cl⟩
def To(en:List En)(bB:Nm->Prop)(K:KE)(N:Nat)(r a:R)(w:Nat):Prop:=∀b,Iv en bB b K N r->∃c,Iv en bB c K N a/\Gk b c r.m.n a.m.n/\ew a.q<=ew r.q+w/\a.s.ck=r.s.ck
def To.refl{K:KE}(r:R):To en bB K N r r 0:= λa h=>⟨a,h,.refl _ _,ags _,rfl⟩
def To.trans{K:KE}{a b c:R}(h:To en bB K N a b i)(g:To en bB K N b c j):To en bB K N a c (i+j):= λd e=>by
 obtain⟨f,k,l,r,m⟩:=h d e;obtain⟨n,o,p,s,q⟩:=g f k;exact⟨n,o,l.trans p,by omega,q.trans m⟩
def To.fold{α:Type}{K:KE}{N w:Nat}{f:R->α->R}(h:∀r x,To en bB K N r (f r x) w):∀(l:List α) (r:R),To en bB K N r (l.foldl f r) (l.length*w)
 |[],r=>by simpa using To.refl (en:=en) (bB:=bB) (K:=K) (N:=N) r
 |x::l,r=>by
  have:=(h r x).trans (To.fold h l (f r x));rw[agy,agA,ahp,aio,Nat.one_mul];exact this
def qV{e:Xp}{p:Int×Int}(h:ly n y)(a:dK en e (κ y))(hi:cm e<=400):dc en bB κ n [gQ y e p]:=by
 rw[dc,rE];exact⟨⟨.inl ⟨W,⟨y,W,h,a⟩,W,W⟩,by simpa [bF] using hi,by simp[kx]⟩,by simp[dc]⟩
def sX(y:Nm)(e:Xp)(p:Int×Int):gh [gQ y e p]=0:=by simp[gh,wy,qD]
def sY(y:Nm)(e:Xp)(p:Int×Int):ew [gQ y e p]=2+cC e:=by simp[ew,vw,nz,bh]
theorem CQ(s:Sc)(b:Bd){c:Nat}(e:s.ck.length<=c):dK en (oj s b) c/\cC (oj s b)=0:=by
 obtain⟨a,d⟩:=AC en (s.ck.drop b.kK) (bz b.name) 0 (um _ _ _) (by simp[cC,bh]);exact⟨dK.mono en _ a (by grind),d⟩
def uo(f:Env)(x y:Nm)(b:Bd):(f.set x b).nm y=if y=x then b.name else f.nm y:=by
 unfold Env.set Env.nm;by_cases h:y=x
 .simp[h]
 .simp[h]
def To.cO{K:KE}(i:∀x,K x<=1)(r:R)(x:Nm):To en bB K N r (cO r x) 2:=by
 intro c h;have a:=(bN.cO h.sc x).sc;unfold Go.Ps.cO at a⊢;cases d:r.s.vars x with
 |none=>exact⟨c,h,.refl _ _,by simp,rfl⟩
 |some b=>
  rw[d]at a
  dsimp only at a⊢
  by_cases f:b.kK=r.s.ck.length
  .rw[agK f];exact⟨c,h,.refl _ _,by omega,rfl⟩
  .rw[agw f]at a⊢;have n:=h.sc.v x b d;have m:=h.cl;have g:=CQ (en:=en) r.s b (ags _);obtain⟨j,k,l⟩:=h.add i _ (b.tk,b.tn) r.s.ck _ (λy=>by
    dsimp only
    rw[uo];split
    .exact .inr ⟨W,by omega⟩
    .exact .inl W) (by omega) a W (λa a=>qV (y:=nV (r.m.n+1)) (e:=oj r.s b) (p:=(0,0)) (ly.new _) (by rw[a];exact g.1) (by have:=CP r.s b;omega)) (sX _ _ _)
   exact⟨j,k,l,by rw[gy,sY,g.2];omega,rfl⟩
def To.ff{K:KE}(g:∀x,K x<=1)(r:R)(x:Nm):To en bB K N r (ff r x) 2:=by
 intro c h;have a:=(bN.ff h.sc x).sc;unfold Go.Ps.ff at a⊢;cases i:r.s.aY x with
 |none=>exact⟨c,h,.refl _ _,by simp,rfl⟩
 |some b=>
  rw[i]at a
  dsimp only at a⊢
  by_cases d:b.kK=r.s.ck.length
  .rw[agK d];exact⟨c,h,.refl _ _,by omega,rfl⟩
  .rw[agw d]at a⊢;have m:=h.cl;have f:=CQ (en:=en) r.s b (ags _);obtain⟨j,k,l⟩:=h.add g ⟨r.s.vars,r.s.aY.set x ⟨nV (r.m.n+1),r.s.ck.length,b.tk,b.tn⟩,r.s.ck⟩ (b.tk,b.tn) r.s.ck _ (λy=>.inl W) (by omega) a W (λa a=>qV (y:=nV (r.m.n+1)) (e:=oj r.s b) (p:=(0,0)) (ly.new _) (by rw[a];exact f.1) (by have:=CP r.s b;omega)) (sX _ _ _);exact⟨j,k,l,by rw[gy,sY,f.2];omega,rfl⟩
def To.gN{K:KE}{a:R}(h:To en bB K N r a i)(k:i<=j):To en bB K N r a j:= λb c=>by
 obtain⟨d,e,f,l,g⟩:=h b c;exact⟨d,e,f,by omega,g⟩
def To.fU{K:KE}(a:∀x,K x<=1)(r:R)(e:Xp):To en bB K N r (cG r e) (4*cm e):=by
 have b:=oN e [];have c:=px e [];refine((To.fold (en:=en) (bB:=bB) (K:=K) (N:=N) (λr x=>To.cO a r x) (lP e []) r).trans (To.fold (en:=en) (bB:=bB) (K:=K) (N:=N) (λr x=>To.ff a r x) (kJ e []) ((lP e []).foldl Go.Ps.cO r))).gN ?_;simp only[List.length_nil]at b c;omega
def To.val{K:KE}(b:∀x,K x<=1)(r:R)(e:Xp)(t:Int×Nm)(f:eJ e 0)(m:cm e<=100):To en bB K N r (gG r e t) (5*cm e+2):=by
 intro d h;obtain⟨n,a,g,o,i⟩:=To.fU b r e d h;have p:=a.cl;have c:=qT en (cG r e).s e 0 f;obtain⟨j,k,l⟩:=a.add b (cG r e).s t (cG r e).s.ck [gQ (nV ((cG r e).m.n+1)) (cA (cG r e).s e) e.ps] (λy=>.inl W) (by omega) a.sc W
  (λa a=>qV (ly.new _) (dK.mono en _ c.1 (ahy _)) (by rw[qU];omega)) (sX _ _ _)
 refine⟨j,k,g.trans l,?_,i⟩;have:=rz e;unfold Ps.gG
 dsimp only
 rw[gy,sY,c.2];omega
end
end Go.Pm
namespace Go.Pm
open Go.Mt Go.Sm Go.Ps Go.Ex
variable{r:R}{κ:KE}{N:Nat}{P:List Va}{e:Xp}
section
variable(en:List En)(bB:Nm->Prop)
structure Pd(κ K:KE)(P:List Va)(r:R):Prop where
 a:∀v∈r.m.vars,κ v.name<=v.clock.length/\v.clock.length<=100/\ly r.m.n v.name
 d:∀y,0<κ y->(∃v∈r.m.vars,v.name=y)\/∃v∈P,r.s.vars.nm v.name=y
 p:∀v∈P,κ (r.s.vars.nm v.name)<=v.clock.length/\∃b,r.s.vars v.name=some b/\b.kK=r.s.ck.length
 s:∀x,K x<=κ (r.s.vars.nm x)/\ly r.m.n (r.s.vars.nm x)
 q:dc en bB κ r.m.n r.q
 dd:gh r.q=0
variable{en bB}
def Pd.bind{K:KE}(h:Pd en bB κ K P r)(v:Va)(d:∀w∈P,w.name≠v.name):∃a,Pd en bB a (K.add v) (P++[v]) (dj false r v)/\Gk κ a r.m.n (r.m.n+1):=by
 have g:Gk κ (λy=>if y=nV (r.m.n+1)then v.clock.length else κ y) r.m.n (r.m.n+1):=⟨by omega,λy a=>agw a.ne⟩;have e:∀x,(dj false r v).s.vars.nm x=if x=v.name then nV (r.m.n+1)else r.s.vars.nm x:= λx=>uo _ _ _ _
 refine⟨_,⟨λw a=>?_,λy f=>?_,λw a=>?_,λx=>?_,dc.grow g _ h.q,h.dd⟩,g⟩
 .obtain⟨i,j,c⟩:=h.a w a;exact⟨by rw[agw c.ne];exact i,j,c.mono (by simp[dj])⟩
 .split at f
  .grind
  .rcases h.d y f with c|⟨w,a,c⟩
   .exact .inl c
   .grind
 .rw[e];rcases agG.1 a with a|a
  .obtain⟨c,b,i,j⟩:=h.p w a;rw[agw (d w a),agw (h.s w.name).2.ne];refine⟨c,b,?_,j⟩;show(Env.set _ _ _) _=_;unfold Env.set;rw[agw (d w a)];exact i
  .simp only[agu,agE,ag0]at a;subst a;rw[agK W,agK W];refine⟨ags _,⟨nV (r.m.n+1),r.s.ck.length,w.tk,w.tn⟩,?_,W⟩;show(Env.set _ _ _) _=_;unfold Env.set;rw[agK W];rfl
 .rw[e];unfold KE.add;by_cases c:x=v.name
  .rw[agK c,agK c,agK W];exact⟨ags _,ly.new _⟩
  .rw[agw c,agw c,agw (h.s x).2.ne];exact⟨(h.s x).1,(h.s x).2.mono (by simp[dj])⟩
theorem Pd.binds:∀(l:List Va) {κ K:KE} {P:List Va} {r:R},Pd en bB κ K P r->(l.map (·.name)).Nodup->(∀v∈l,∀w∈P,w.name≠v.name)->∃a,Pd en bB a (l.foldl KE.add K) (P++l) (l.foldl (dj false) r)/\Gk κ a r.m.n (l.foldl (dj false) r).m.n
 |[],κ,K,P,r,h,_,_=>⟨κ,by simpa using h,.refl _ _⟩
 |v::l,κ,K,P,r,h,a,b=>by
  rw[agH,ahB]at a;obtain⟨g,c,d⟩:=h.bind v (b v (by simp));obtain⟨e,i,f⟩:=Pd.binds l c a.2 λw a u a=>by
   grind
  exact⟨e,by grind,d.trans f⟩
def AD:∀l:List Nm,(∀x∈l,∃b,r.s.vars x=some b/\b.kK=r.s.ck.length)->l.foldl cO r=r
 |[],_=>rfl
 |x::l,h=>by
  obtain⟨b,a,c⟩:=h x (by simp);have:cO r x=r:=by unfold cO;rw[a];dsimp only;rw[agK c]
  rw[agy,this];exact AD l λy a=>h y (by simp[a])
def E1(h:Bx e)(c:Nat):dK en e c/\cC e=0:=by
 obtain⟨⟨a,f⟩,b,d⟩:=h;cases e with|mk k g n x j i p=>
 simp only[Xp.kd,Xp.kids,Xp.names]at a f b d;subst b d;rw[dK,cC];refine⟨⟨⟨a,by omega,by omega,λ_=>rfl,by omega,by omega,by omega,by omega,by omega,by omega,by simp,by simp⟩,by simp[eR]⟩,?_⟩;rw[agw (by omega)];rfl
def E2(h:Bx e):cm e=1:=by
 obtain⟨_,a,_⟩:=h;rw[Bg,a,bF]
def Pd.decl{K:KE}{v:Va}(h:Pd en bB κ K (v::P) r)(n:r.s.ck.length<=90)(o:v.clock.length<=1)(d:v.last=true->Bx v.first):
  ∃a,Pd en bB a K P (dT r v)/\Gk κ a r.m.n (dT r v).m.n/\ew (dT r v).q<=ew r.q+3/\(dT r v).s.ck=r.s.ck:=by
 obtain⟨p,_⟩:=h.p v (by simp);have k:=(h.s v.name).2;have b:Pd en bB κ K P ⟨r.s,⟨r.m.n,r.m.vars++[⟨r.s.vars.nm v.name,v.tk,v.tn,r.s.ck++v.clock.map λo=>(o.1,r.s.vars.nm o.2),false,cg,v.ps⟩]⟩,r.q⟩:=by
  refine⟨λw a=>?_,λy f=>?_,λw a=>h.p w (by simp[a]),h.s,h.q,h.dd⟩
  .rcases agG.1 a with a|a
   .exact h.a w a
   .simp only[agu,agE,ag0]at a;subst a;refine⟨?_,?_,k⟩
    .simp only[agq,agt];omega
    .simp only[agq,agt];omega
  .rcases h.d y f with⟨w,a,e⟩|⟨w,a,e⟩
   .exact .inl ⟨w,ahm _ a,e⟩
   .rcases agu.1 a with rfl|a
    .exact .inl ⟨_,ahz _ (ahn ..),e⟩
    .exact .inr ⟨w,a,e⟩
 unfold dT iz;by_cases c:v.last=true
 .rw[agK c]
  dsimp only[MS.fresh]
  have g:Gk κ (λy=>if y=nV (r.m.n+1)then(r.s.ck++v.clock.map λo=>(o.1,r.s.vars.nm o.2)).length else κ y) r.m.n (r.m.n+1):=⟨by omega,λy a=>agw a.ne⟩;have i:=E1 (en:=en) (d c) (r.s.ck++v.clock.map λo=>(o.1,r.s.vars.nm o.2)).length;refine⟨_,⟨λw a=>?_,λy f=>?_,λw a=>?_,λx=>?_,?_,?_⟩,g,?_,rfl⟩
  .rcases agG.1 a with a|a
   .obtain⟨l,m,j⟩:=b.a w a;exact⟨by rw[agw j.ne];exact l,m,j.mono (ah8 _)⟩
   .simp only[agu,agE,ag0]at a;subst a;exact⟨by simp,by simp only[agq,agt];omega,ly.new _⟩
  .split at f
   .rename_i e;exact .inl ⟨_,ahz _ (ahn ..),e.symm⟩
   .rcases b.d y f with⟨w,a,e⟩|j
    .exact .inl ⟨w,ahm _ a,e⟩
    .exact .inr j
  .obtain⟨j,l⟩:=b.p w a;exact⟨by rw[agw (b.s w.name).2.ne];exact j,l⟩
  .rw[agw (b.s x).2.ne];exact⟨(b.s x).1,(b.s x).2.mono (ah8 _)⟩
  .rw[dc.app];refine⟨dc.grow g _ h.q,qV (ly.new _) ?_ (by simp only[jE,cm,bF];rw[E2 (d c)];omega)⟩;rw[agK W];simp only[jE,dK,eR];have j:=i.1;simp only[agq,agt]at j⊢;simp[j]
  .rw[ky,sX,h.dd];rfl
  .rw[gy,sY];simp[jE,cC,bh,i.2]
 .rw[agw c];exact⟨κ,b,.refl _ _,by dsimp only;omega,rfl⟩
def Pd.decls:∀(P:List Va) {κ K:KE} {r:R},Pd en bB κ K P r->r.s.ck.length<=90->(∀v∈P,v.clock.length<=1/\(v.last=true->Bx v.first))->
  ∃a,Pd en bB a K [] (P.foldl dT r)/\Gk κ a r.m.n (P.foldl dT r).m.n/\ew (P.foldl dT r).q<=ew r.q+3*P.length/\(P.foldl dT r).s.ck=r.s.ck
 |[],κ,K,r,h,_,_=>⟨κ,h,.refl _ _,by simp,rfl⟩
 |v::P,κ,K,r,h,b,a=>by
  obtain⟨k,d,e,l,c⟩:=h.decl b (a v (by simp)).1 (a v (by simp)).2;obtain⟨f,g,i,m,j⟩:=Pd.decls P d (by rw[c];exact b) λw b=>a w (by simp[b])
  exact⟨f,g,e.trans i,by rw[agy,agA];omega,by rw[agy,j,c]⟩
def Pd.opened{K:KE}{i:wz}(h:Pd en bB κ K P r)(c:Au i P)(d:r.s.ck.length<=90):
  ∃a,Pd en bB a K [] (P.foldl dT ((P.flatMap λv=>v.clock.map λo=>o.2).foldl cO r))/\Gk κ a r.m.n (P.foldl dT ((P.flatMap λv=>v.clock.map λo=>o.2).foldl cO r)).m.n/\
   ew (P.foldl dT ((P.flatMap λv=>v.clock.map λo=>o.2).foldl cO r)).q<=ew r.q+3*P.length/\(P.foldl dT ((P.flatMap λv=>v.clock.map λo=>o.2).foldl cO r)).s.ck=r.s.ck:=by
 rw[AD _ λx a=>?_]
 .exact h.decls P d λv b=>⟨(c.ck v b).1,c.la v b⟩
 .rw[List.mem_flatMap]at a;obtain⟨v,b,a⟩:=a;obtain⟨o,f,rfl⟩:=agC.1 a;obtain⟨w,g,e⟩:=(c.ck v b).2 o f;rw[<-e];exact(h.p w g).2
def Ik{K:KE}{s:Sc}{m:MS}{a:List Va}{P:wz}(h:Iv en bB κ K N ⟨s,m,[]⟩)(c:Au P a):∃b,Iv en bB b (a.foldl KE.add K) N (iA false ⟨s,m,[]⟩ a)/\Gk κ b m.n (iA false ⟨s,m,[]⟩ a).m.n/\
  ew (iA false ⟨s,m,[]⟩ a).q<=3*a.length/\(iA false ⟨s,m,[]⟩ a).s.ck=s.ck:=by
 have i:Pd en bB κ K [] ⟨s,m,[]⟩:=⟨h.m.a,λy a=>.inl (h.m.d y a),λv a=>by simp at a,h.s,h.q,by simp[gh]⟩;obtain⟨u,f,k⟩:=i.binds a c.nd λv _ w n=>by simp at n
 have d:(a.foldl (dj false) ⟨s,m,[]⟩).s.ck=s.ck:=(bN.binds false a h.sc).ck;have o:(a.foldl (dj false) ⟨s,m,[]⟩).q=[]:=by
  have:∀(l:List Va) (r:R),(l.foldl (dj false) r).q=r.q:= λl=>by
   induction l with
   |nil=>intro r;rfl
   |cons v l p=>intro r;rw[agy,p];rfl
  exact this a _
 rw[ag2]at f;obtain⟨l,b,q,e,g⟩:=f.opened c (by rw[d];exact h.cl);have t:=(bN.open (r:=⟨s,m,[]⟩) h.sc false a).sc;refine⟨l,⟨⟨b.a,λy j=>?_⟩,b.s,b.q,?_,t,?_⟩,k.trans q,?_,g.trans d⟩
 .rcases b.d y j with h|⟨v,c,_⟩
  .exact h
  .simp at c
 .show gh (a.foldl dT _).q<=N;rw[b.dd];omega
 .show(a.foldl dT _).s.ck.length<=90;rw[g,d];exact h.cl
 .rw[o]at e;simp only[ew,ahq]at e;exact e
def AE{K:KE}(a:∀x,K x<=1):∀l:List Va,(∀v∈l,v.clock.length<=1)->∀x,(l.foldl KE.add K) x<=1:=by
 intro l
 induction l generalizing K with
 |nil=>intro _;exact a
 |cons v l b=>
  intro h;refine b (λx=>?_) λw a=>h w (by simp[a])
  unfold KE.add;split
  .grind
  .exact a x
def To.ov{K:KE}(c:∀x,K x<=1)(a:Sc):∀(l:List Nm) (r:R),1<=r.s.ck.length->To en bB K N r (l.foldl (ek a) r) 0
 |[],r,_=>To.refl r
 |x::l,r,d=>by
  have b:To en bB K N r (ek a r x) 0:=by
   intro g h;have i:=h.cl;obtain⟨e,b,f⟩:=h.add c ⟨r.s.vars.set x ⟨nV (r.m.n+1),r.s.ck.length,(a.vars.ty x).1,(a.vars.ty x).2⟩,r.s.aY,r.s.ck⟩ (a.vars.ty x) r.s.ck [] (λy=>by
    dsimp only
    rw[uo];split
    .grind
    .grind) (by omega) (bN.ek h.sc a x).sc W (λa _=>by simp[dc]) (by simp[gh])
   rw[agL]at b;exact⟨e,b,f,ags _,W⟩
  exact b.trans (To.ov c a l (ek a r x) d)
def To.fq{K:KE}(c:∀x,K x<=1)(p:Int×Int)(r:R)(x:Nm):To en bB K N r (fq p r x) 4:=by
 intro b h;obtain⟨d,a,e,i,f⟩:=To.ff c r x b h;have g:=a.put [gQ ((Go.Ps.ff r x).s.vars.nm x) (bz ((Go.Ps.ff r x).s.aY.nm x)) p] (qV (a.s x).2 (um _ _ _) (by simp[cm,bF])) (by rw[sX];omega);refine⟨d,g,e,?_,f⟩;unfold Go.Ps.fq
 dsimp only
 rw[gy,sY];simp only[cC,bh];simp;omega
def Iv.more{K:KE}(h:Iv en bB κ K N r)(o:Nm×Nm)(a:r.s.ck.length+1<=90):Iv en bB κ K N ⟨⟨r.s.vars,r.s.aY,r.s.ck++[o]⟩,r.m,r.q⟩:=
 ⟨h.m,h.s,h.q,h.dd,h.sc.more o (by omega),by simp only[agq,agB];exact a⟩
def J4(en:List En)(bB:Nm->Prop)(κ:KE)(m:MS)(z:MS×List aJ)(b w:Nat):Prop:=∃a,MI a z.1/\Gk κ a m.n z.1.n/\dc en bB a z.1.n z.2/\gh z.2<=b/\ew z.2<=w
def To.jZ{K:KE}(d:∀x,K x<=1){all:List Nm}{n c:Nm}{b:bT}{p:Int×Int}{w:Nat}(j:r.s.ck.length+1<=90)(B:iX b<=N)
  (k:∀a,Iv en bB a K (iX b) ⟨(eM all b p (eb c all n r)).s,(eM all b p (eb c all n r)).m,[]⟩->J4 en bB a (eM all b p (eb c all n r)).m (h_ en false b (eM all b p (eb c all n r)).s (eM all b p (eb c all n r)).m) (iX b) w):
  To en bB K N r ⟨r.s,(h_ en false b (eM all b p (eb c all n r)).s (eM all b p (eb c all n r)).m).1,(eM all b p (eb c all n r)).q++(h_ en false b (eM all b p (eb c all n r)).s (eM all b p (eb c all n r)).m).2⟩ (4*all.length+w):=by
 intro i h;have l:=h.more (n,c) j;obtain⟨m,o,q,s,C⟩:=To.ov d r.s all _ (by simp) i l;obtain⟨e,a,t,u,D⟩:=To.fold (w:=4) (λr x=>To.fq (en:=en) (bB:=bB) (N:=N) d p r x) (all.filter λx=> !(di (cE b) x)) _ m o;have E:=aif (λx=> !(di (cE b) x)) all;have v:Iv en bB e K (iX b) ⟨(eM all b p (eb c all n r)).s,(eM all b p (eb c all n r)).m,[]⟩:=⟨a.m,a.s,by simp[dc],by simp[gh],a.sc,a.cl⟩;obtain⟨y,z,f,A,F,G⟩:=k e v;have g:=(q.trans t).trans f;refine⟨y,⟨z,λx=>?_,?_,?_,h.sc,h.cl⟩,g,?_,rfl⟩
 .have:=h.s x;rw[g.eq _ this.2];exact⟨this.1,this.2.mono g.le⟩
 .rw[dc.app];exact⟨dc.grow f _ a.q,A⟩
 .have:gh (eM all b p (eb c all n r)).q<=N:=a.dd;rw[ky];omega
 .have H:ew (eb c all n r).q<=ew r.q+0:=s;have I:ew (eM all b p (eb c all n r)).q<=ew (eb c all n r).q+(all.filter λx=> !(di (cE b) x)).length*4:=u;rw[gy];omega
end
end Go.Pm
namespace Go.Pm
open Go.Mt Go.Sm Go.Ps Go.Ex
variable{N:Nat}{f:Nm}{args:List Xp}{e:Xp}{p:Int×Int}
section
variable{en:List En}{bB:Nm->Prop}
def CR{K:KE}(c:∀x,K x<=1):∀(l:List Xp) (r:R) (xs:List Xp),(∀a∈l,eJ a 0)->To en bB K N r (l.foldl eZ (r,xs)).1 (4*bF l)/\
  ∃b,(l.foldl eZ (r,xs)).2=xs++b/\b.length=l.length/\(∀y∈b,dK en y 0)/\bh b=bh l/\bF b=bF l
 |[],r,xs,_=>⟨by simpa [bF] using To.refl r,[],by simp,rfl,λy h=>by simp at h,rfl,rfl⟩
 |e::l,r,xs,h=>by
  obtain⟨g,f,i,j,k,m,n⟩:=CR c l (cG r e) (xs++[cA (cG r e).s e]) λa b=>h a (by simp[b])
  have d:=qT en (cG r e).s e 0 (h e (by simp));refine⟨(To.fU c r e).trans g|>.gN (by rw[bF];omega),cA (cG r e).s e::f,?_,by simp[j],λy b=>?_,by rw[bh,bh,d.2,m],by rw[bF,bF,qU,n]⟩
  .rw[agy];show(l.foldl eZ (cG r e,xs++[cA (cG r e).s e])).2=_;rw[i];simp
  .rcases agu.1 b with rfl|b
   .exact d.1
   .exact k y b
def Il{K:KE}(c:∀x,K x<=1){lhs:List Nm}{b:Bool}(x:lhs≠[])(d:args.length=2)(y:∀a∈args,eJ a 0)(F:bF args<=200/\cm e<=100)(a:eJ e 0\/b=false/\e=cg)(g:bB f)(aq:List aP)(r:R):
  To en bB K N r (iB en (.mk 2 lhs f args b e aq p) r) (6*(1+bF args+cm e)):=by
 intro w h;obtain⟨z,i,j,k,l,m,n⟩:=CR (en:=en) (bB:=bB) (N:=N) c args r [] y;obtain⟨o,q,s,G,t⟩:=z w h;have H:=ul args;have u:lhs.map r.s.vars.nm≠[]:=by simpa using x
 rw[ag2]at j;rw[iB,agw (by decide),agK W]
 dsimp only
 rw[j];cases b with
 |true=>
  have a:eJ e 0:=by
   rcases a with h|⟨h,_⟩
   .exact h
   .simp at h
  obtain⟨A,B,C,I,D⟩:=To.fU c (args.foldl eZ (r,[])).1 e o q;have v:=qT en (cG (args.foldl eZ (r,[])).1 e).s e 0 a;have J:=rz e;rw[agK W];have E:=B.put [.mk 2 (lhs.map r.s.vars.nm) f i true (cA (cG (args.foldl eZ (r,[])).1 e).s e) [] p]
   (by rw[dc,rE];exact⟨⟨.inr (.inl ⟨W,u,k.trans d,l,λ_=>v.1,g,rfl⟩),by rw[qU,n];omega,by simp[kx]⟩,by simp[dc]⟩) (by simp[gh,wy,qD])
  refine⟨A,E,s.trans C,?_,D.trans t⟩
  dsimp only
  rw[gy];simp only[ew,vw,nz,v.2,m];omega
 |false=>
  rw[agw (by decide)];have v:=q.put [.mk 2 (lhs.map r.s.vars.nm) f i false cg [] p]
   (by rw[dc,rE];exact⟨⟨.inr (.inl ⟨W,u,k.trans d,l,λh=>by simp at h,g,rfl⟩),by rw[n];simp only[cm,bF];omega,by simp[kx]⟩,by simp[dc]⟩) (by simp[gh,wy,qD])
  refine⟨o,v,s,?_,t⟩
  dsimp only
  rw[gy];simp only[ew,vw,nz,m,cC,bh];simp;omega
def Ja{K:KE}(g:∀x,K x<=1){x:Nm}{n:Bool}{aq:List aP}(i:eJ e (K x))(o:cm e<=100)(r:R):To en bB K N r (iB en (.mk 1 [x] f args n e aq p) r) (5*cm e+2):=by
 intro d h;obtain⟨j,a,k,q,l⟩:=To.fU g r e d h;have b:=qT en (cG r e).s e _ i;have c:=a.s x;have s:=rz e;rw[iB,agK W]
 dsimp only
 have m:=a.put [gQ ((cG r e).s.vars.nm x) (cA (cG r e).s e) p] (qV c.2 (dK.mono en _ b.1 c.1) (by rw[qU];omega)) (by rw[sX];omega);refine⟨j,m,k,?_,l⟩;simp only[agH,ag1];rw[gy,sY,b.2];omega
def yJ{κ:KE}{n:Nat}(c:Nm)(b:List Nm)(a:List (List Nm))(e:a.length<=b.length)(j:b.length<=100)(f:Nat->Nm)(p:Int×Int):∀l:List Nat,(∀i∈l,ly n (f i))->
  dc en bB κ n (l.map λi=>gQ (f i) (.mk 13 0 0 c b (a.map λv=>bz (v[i]?.getD ⟨#[]⟩)) p) p)/\gh (l.map λi=>gQ (f i) (.mk 13 0 0 c b (a.map λv=>bz (v[i]?.getD ⟨#[]⟩)) p) p)=0/\ew (l.map λi=>gQ (f i) (.mk 13 0 0 c b (a.map λv=>bz (v[i]?.getD ⟨#[]⟩)) p) p)=3*l.length
 |[],_=>⟨by simp[dc],by simp[gh],by simp[ew]⟩
 |i::l,h=>by
  obtain⟨k,m,o⟩:=yJ c b a e j f p l λj a=>h j (by simp[a])
  have g:∀(a:List (List Nm)) (c:Nat),eR en (a.map λv=>bz (v[i]?.getD ⟨#[]⟩)) c/\bh (a.map λv=>bz (v[i]?.getD ⟨#[]⟩))=0:=by
   intro a c
   induction a with
   |nil=>simp[eR,bh]
   |cons v a q=>simp only[agH,eR,bh,q];exact⟨⟨um _ _ _,trivial⟩,by simp[cC,bh]⟩
  have r:∀a:List (List Nm),bF (a.map λv=>bz (v[i]?.getD ⟨#[]⟩))=a.length:= λd=>by
   induction d with
   |nil=>rfl
   |cons v d q=>rw[agH,bF,q,agA,cm,bF];omega
  have s:dK en (.mk 13 0 0 c b (a.map λv=>bz (v[i]?.getD ⟨#[]⟩)) p) (κ (f i)):=by
   rw[dK,agt];refine⟨⟨by omega,by omega,by omega,by omega,by omega,by omega,by omega,by omega,by omega,λ_=>e,by omega,by omega⟩,(g a _).1⟩
  have d:=qV (bB:=bB) (p:=p) (h i (by simp)) s (by rw[cm,r];omega);simp only[agH];refine⟨?_,?_,?_⟩
  .rw[dc]at d⊢;exact⟨d.1,k⟩
  .rw[gh,m];simp[wy,qD]
  .rw[ew,o];simp only[vw,nz,cC,bh,(g a 0).2,agA,List.length_nil];simp;omega
def Im(p:Int×Int)(r:R)(x:Nm):(fq p r x).s.ck=r.s.ck:=by
 unfold fq ff
 dsimp only
 cases r.s.aY x with
 |none=>rfl
 |some b=>dsimp only;split<;>rfl
def Io(all:List Nm)(b:bT)(p:Int×Int)(c n:Nm)(r:R):(eM all b p (eb c all n r)).s.ck.length=r.s.ck.length+1:=by
 have a:∀(l:List Nm) (a:R),(l.foldl (fq p) a).s.ck=a.s.ck:= λl=>by
  induction l with
  |nil=>intro d;rfl
  |cons x l d=>intro f;rw[agy,d,Im]
 have e:∀(s:Sc) (l:List Nm) (a:R),(l.foldl (ek s) a).s.ck=a.s.ck:= λs l=>by
  induction l with
  |nil=>intro d;rfl
  |cons x l d=>intro f;rw[agy,d];rfl
 rw[a,e];simp
mutual
def E3:∀(b:bT) (T:TE) (K:KE) (s:Sc) (m:MS) (κ:KE),(∀x,K x<=1)->lT en (mx bB) T K b->s.ck.length+iX b<=90->Iv en bB κ K (iX b) ⟨s,m,[]⟩->J4 en bB κ m (h_ en false b s m) (iX b) (3*ib b)
 |.mk f e,T,K,s,m,κ,g,a,d,h=>by
  rw[lT]at a;rw[iX]at d h⊢;obtain⟨i,j,k,p,l⟩:=Ik h a.1;obtain⟨n,c,o,q,r⟩:=yK e _ _ (eH e) (AE g f λv c=>(a.1.ck v c).1) a.2 (iA false ⟨s,m,[]⟩ f) (by rw[l];exact d) (ags _) i j;rw[h_,ib];exact⟨n,c.m,k.trans o,c.q,c.dd,by dsimp only;omega⟩
def yK:∀(l:List aJ) (T:TE) (K:KE) (N:Nat),(∀x,K x<=1)->fh en (mx bB) T K l->∀r:R,r.s.ck.length+eH l<=90->eH l<=N->To en bB K N r (gf en l r) (3*gg l)
 |[],T,K,N,a,b,r,c,d=>by rw[gf,gg];exact To.refl r
 |q::l,T,K,N,b,a,r,f,g=>by
  rw[fh]at a;rw[eH]at f g;have d:=Jb q T K N b a.1 r (by omega) (by omega);intro e h;obtain⟨i,j,k,s,c⟩:=d e h;obtain⟨m,n,o,t,p⟩:=yK l T K N b a.2 (iB en q r) (by rw[c];omega) (by omega) i j;rw[gf,gg];exact⟨m,n,k.trans o,by omega,p.trans c⟩
def Jb:∀(q:aJ) (T:TE) (K:KE) (N:Nat),(∀x,K x<=1)->mG en (mx bB) T K q->∀r:R,r.s.ck.length+nh q<=90->nh q<=N->To en bB K N r (iB en q r) (3*mg q)
 |.mk P j Q Z Y e a C,T,K,N,d,q,r,o,s=>by
  rw[mG]at q;rw[nh]at o s;obtain⟨⟨_,_,_,D,k,t,S,_⟩,E,u⟩:=q;have U:=(yH λa b=>(t a b).2).2;have V:=agR 100 D;have X:=uk e;rw[mg];rcases E with⟨rfl,⟨x,rfl,c⟩,_,_⟩|⟨rfl,m,c,_,F,g⟩|⟨rfl,_,_,c,_⟩|⟨rfl,_,_,c,m⟩|⟨h,_⟩
  .exact(Ja d c k r).gN (by omega)
  .exact(Il d m g (λa b=>(t a b).1) ⟨by omega,k⟩ c F a r).gN (by omega)
  .intro κ h;obtain⟨G,i,p,H,f⟩:=To.val d r e (dD en r.s.vars.ty e) c k κ h;rw[iB,agw (by decide),agw (by decide),agw (by decide)]
   dsimp only
   generalize Ps.gG r e (dD en r.s.vars.ty e)=b at i p H f⊢;obtain⟨I,v⟩:=CS a T K N d u (nV b.m.n) (aZ j a) ⟨b.s,b.m,b.q⟩ [] (by dsimp only;rw[f];exact o) s;obtain⟨w,g,y,A,B⟩:=I G i;generalize c7 en (nV b.m.n) (aZ j a) a ⟨b.s,b.m,b.q⟩ []=z at g y A B v⊢;obtain⟨J,L,M⟩:=yJ (en:=en) (bB:=bB) (κ:=w) (n:=z.1.m.n) (nV b.m.n) (a.map aP.name) z.2 (by rw[v,agt];simp) (by rw[agt];omega) (λi=>z.1.s.vars.nm ((aZ j a)[i]?.getD ⟨#[]⟩)) C (List.range (aZ j a).length) λi _=>(g.s _).2
   have O:=g.put _ J (by rw[L];omega);refine⟨w,O,p.trans y,?_,B.trans f⟩
   dsimp only at A⊢
   rw[gy,M,aij];omega
  .intro κ h;obtain⟨v,b,w,G,p⟩:=To.val d r e (1,⟨#[]⟩) c k κ h;rw[iB,agw (by decide),agw (by decide),agK W]
   dsimp only
   generalize Ps.gG r e (1,⟨#[]⟩)=f at b w G p⊢;have J:∀n,Iv en bB v K n ⟨f.s,f.m,[]⟩:= λn=>⟨b.m,b.s,by simp[dc],by simp[gh],b.sc,b.cl⟩
   obtain⟨H,y,i,z,L,I⟩:=Jc a T K f.s f.m v d u (by rw[p];exact o) J (λe=>by rw[e]at m;simp at m) (aZ j a).length;generalize y7 en a f.s f.m=M at y i z L I⊢;refine⟨H,⟨y,λx=>?_,?_,?_,b.sc,b.cl⟩,w.trans i,?_,p⟩
   .have:=b.s x;rw[i.eq _ this.2];exact⟨this.1,this.2.mono i.le⟩
   .rw[dc.app];refine⟨dc.grow i _ b.q,?_⟩;rw[dc,rE,kx,sW];exact⟨⟨.inr (.inr ⟨W,W,W⟩),by simp[cm,bF],z,by simp[kx]⟩,by simp[dc]⟩
   .have:=b.dd;have:1<=dJ a:=by
     obtain⟨A,B⟩:=List.exists_mem_of_length_pos (l:=a) (by omega);have:=kp A B;omega
    rw[ky];simp only[gh,wy,qD,zj];omega
   .rw[gy];simp only[ew,vw,nz,zm,cC,bh,List.length_nil];simp;omega
  .exact h.elim
def Jc:∀(l:List aP) (T:TE) (K:KE) (s:Sc) (m:MS) (κ:KE),(∀x,K x<=1)->gx en (mx bB) T K l->s.ck.length+dJ l<=90->(∀n,Iv en bB κ K n ⟨s,m,[]⟩)->l≠[]->∀n,J4 en bB κ m (y7 en l s m) (dJ l-1) (3*fL n l)
 |[],T,K,s,m,κ,c,d,e,h,a,n=>absurd W a
 |.mk _ b _ _ _::l,T,K,s,m,κ,c,a,d,h,j,n=>by
  rw[gx]at a;rw[dJ]at d⊢;obtain⟨e,f,g,i,k,o⟩:=E3 b T K s m κ c a.1 (by omega) (h _);rw[y7,fL];exact⟨e,f,g,i,by omega,by omega⟩
def CS:∀(l:List aP) (T:TE) (K:KE) (N:Nat),(∀x,K x<=1)->gx en (mx bB) T K l->∀(c:Nm) (all:List Nm) (r:R) (a:List (List Nm)),r.s.ck.length+dJ l<=90->dJ l<=N->To en bB K N r (c7 en c all l r a).1 (3*fL all.length l)/\(c7 en c all l r a).2.length=a.length+l.length
 |[],T,K,N,d,f,c,all,r,a,g,h=>by rw[c7,fL];exact⟨To.refl r,W⟩
 |.mk n b u w p::l,T,K,N,a,d,c,all,r,g,h,i=>by
  rw[gx]at d;rw[dJ]at h i;have j:=Io all b p c n r;have f:=To.jZ (en:=en) (bB:=bB) (N:=N) (r:=r) (all:=all) (n:=n) (c:=c) (b:=b) (p:=p) (w:=3*ib b) a (by omega) (by omega) λf h=>E3 b T K _ _ f a d.1 (by rw[j];omega) h
  rw[c7,fL];obtain⟨t,e⟩:=CS l T K N a d.2 c all ⟨r.s,(h_ en false b (eM all b p (eb c all n r)).s (eM all b p (eb c all n r)).m).1,(eM all b p (eb c all n r)).q++(h_ en false b (eM all b p (eb c all n r)).s (eM all b p (eb c all n r)).m).2⟩ (g++[all.map (eb c all n r).s.vars.nm]) (by dsimp only;omega) (by omega);refine⟨(f.trans t).gN (by omega),?_⟩;rw[e,agq,agA];simp;omega
end
end
end Go.Pm
namespace Go.Pm
open Go.Mt Go.Sm Go.Ps Go.Ex
section
variable{en:List En}{bB:Nm->Prop}
def rR.iG{y:Nm}(h:rR y)(n:Nat):ly n y:= λj _=>h j
variable(en bB)
structure Pt(κ:KE)(r:R):Prop where
 a:∀v∈r.m.vars,κ v.name<=v.clock.length/\v.clock.length<=100/\ly r.m.n v.name
 s:∀x,rR (r.s.vars.nm x)
 q:dc en bB κ r.m.n r.q
 dd:gh r.q=0
 ck:r.s.ck=[]
structure CU(v:Va):Prop where
 nm:rR v.name
 ck:v.clock=[]
 la:v.last=true->Bx v.first
variable{en bB}
def Pt.Hv{κ:KE}(d:∀j,κ (nV j)=0){r:R}(h:Pt en bB κ r){v:Va}(b:CU v):Pt en bB κ (e8 r v)/\ew (e8 r v).q<=ew r.q+3/\r.m.n<=(e8 r v).m.n:=by
 have e:∀x,rR ((r.s.vars.set v.name ⟨v.name,0,v.tk,v.tn⟩).nm x):= λx=>by
  rw[uo];split
  .exact b.nm
  .exact h.s x
 unfold e8 iz;by_cases c:v.last=true
 .rw[agK c]
  dsimp only[MS.fresh]
  have f:=E1 (en:=en) (b.la c) 0;have g:Gk κ κ r.m.n (r.m.n+1):=⟨by omega,λ_ _=>rfl⟩;refine⟨⟨λw a=>?_,e,?_,?_,h.ck⟩,?_,by omega⟩
  .rcases agG.1 a with a|a
   .obtain⟨i,j,k⟩:=h.a w a;exact⟨i,j,k.mono (ah8 _)⟩
   .simp only[agu,agE,ag0]at a;subst a;exact⟨by rw[d];omega,by simp[h.ck,b.ck],ly.new _⟩
  .rw[dc.app];refine⟨dc.grow g _ h.q,qV (ly.new _) ?_ (by simp only[jE,cm,bF];rw[E2 (b.la c)];omega)⟩;rw[d];simp[jE,dK,eR,f.1]
  .rw[ky,sX,h.dd];rfl
  .rw[gy,sY];simp[jE,cC,bh,f.2]
 .rw[agw c];exact⟨⟨h.a,e,h.q,h.dd,h.ck⟩,by dsimp only;omega,by dsimp only;omega⟩
def Pt.pN{κ:KE}(a:∀j,κ (nV j)=0):∀(l:List Va) {r:R},Pt en bB κ r->(∀v∈l,CU v)->Pt en bB κ (l.foldl e8 r)/\ew (l.foldl e8 r).q<=ew r.q+3*l.length/\r.m.n<=(l.foldl e8 r).m.n
 |[],r,h,_=>⟨h,by simp,ags _⟩
 |v::l,r,h,b=>by
  obtain⟨c,e,f⟩:=h.Hv a (b v (by simp));obtain⟨d,g,i⟩:=Pt.pN a l c λw a=>b w (by simp[a])
  rw[agy,agA];exact⟨d,by omega,by omega⟩
def Pt.binds{κ:KE} :∀(l:List Va) {r:R},Pt en bB κ r->(∀v∈l,rR v.name)->Pt en bB κ (l.foldl (dj true) r)/\(l.foldl (dj true) r).q=r.q/\r.m.n<=(l.foldl (dj true) r).m.n
 |[],r,h,_=>⟨h,rfl,ags _⟩
 |v::l,r,h,d=>by
  have a:Pt en bB κ (dj true r v):=by
   refine⟨λw e=>?_,λx=>?_,dc.grow ⟨by simp[dj],λ_ _=>rfl⟩ _ h.q,h.dd,h.ck⟩
   .obtain⟨a,b,c⟩:=h.a w e;exact⟨a,b,c.mono (by simp[dj])⟩
   .show rR ((Env.set _ _ _).nm x);rw[uo];split
    .grind
    .exact h.s x
  obtain⟨b,c,f⟩:=Pt.binds l a λw a=>d w (by simp[a])
  rw[agy];have:r.m.n<=(dj true r v).m.n:=by simp[dj]
  exact⟨b,c,by omega⟩
def AF:∀(l:List Va) (r:R),(l.foldl (dj true) r).s.ck=r.s.ck
 |[],r=>rfl
 |v::l,r=>by rw[agy,AF l];rfl
def uq{x:Nm} :∀(l:List Va) (r:R),(∀v∈l,v.name≠x)->(l.foldl (dj true) r).s.vars x=r.s.vars x
 |[],r,_=>rfl
 |v::l,r,h=>by
  rw[agy,uq l _ λw a=>h w (by simp[a])];show(Env.set _ _ _) x=_;unfold Env.set;rw[agw λe=>h v (by simp) e.symm]
theorem AG:∀(l:List Va) (r:R),(l.map (·.name)).Nodup->∀v∈l,(l.foldl (dj true) r).s.vars v.name=some ⟨v.name,r.s.ck.length,v.tk,v.tn⟩
 |[],r,_,v,a=>by simp at a
 |c::l,r,b,v,a=>by
  rw[agH,ahB]at b;rw[agy];rcases agu.1 a with rfl|a
  .rw[uq l _ λw a e=>b.1 (by grind)];show(Env.set _ _ _) v.name=_;unfold Env.set;rw[agK W];rfl
  .exact AG l (dj true r c) b.2 v a
structure J5(en:List En)(bB:Nm->Prop)(d:Nd)(a w:Nat):Prop where
 ot:∃(κ:KE) (n:Nat),dc en bB κ n d.b.eqs/\(∀v∈d.b.vars,κ v.name<=v.clock.length/\v.clock.length<=100)/\∀y,0<κ y->∃v∈d.b.vars,v.name=y
 dd:gh d.b.eqs<=a
 wo:ew d.b.eqs<=w
def Jd{d:Nd}{T:TE}(t:∀v∈d.ins++d.outs,CU v)(m:lT en (mx bB) T (λ_=>0) d.b)(u:iX d.b<=90):J5 en bB (nF en d) (iX d.b) (3*(d.ins.length+d.outs.length)+3*ib d.b):=by
 obtain⟨D,b,c,⟨a,i⟩,w⟩:=d
 dsimp only at t m u⊢
 rw[lT]at m;obtain⟨f,F⟩:=m;rw[iX]at u;have G:∀j,(a.foldl KE.add (λ_=>0)) (nV j)=0:= λj=>nx λv a e=>f.us v a j e
 have U:∀x,(a.foldl KE.add (λ_=>0)) x<=1:=AE (λ_=>ahy _) a λv h=>(f.ck v h).1
 have V:=yE (K:= λ_=>0) f.nd;have X:∀y,0<(a.foldl KE.add (λ_=>0)) y->∃v∈a,v.name=y:= λy b=>by
  by_cases h:∃v∈a,v.name=y
  .exact h
  .rw[nx λv a e=>h ⟨v,a,e⟩]at b;omega
 have I:Pt en bB (a.foldl KE.add (λ_=>0)) ⟨⟨λ_=>none,λ_=>none,[]⟩,⟨0,[]⟩,[]⟩:=⟨λv h=>by simp at h,λx j e=>by
  have p:([]:List UInt8)=(nV j).data.toList:=by rw[<-e];rfl
  rw[rr]at p;simp at p,by simp[dc],by simp[gh],rfl⟩
 obtain⟨g,n,J⟩:=I.pN G (b++c) t;have Y:=(bN.pN (b++c) wK).sc;have L:nF en ⟨D,b,c,.mk a i,w⟩=⟨D,b,c.map λv=>⟨v.name,v.tk,v.tn,v.clock,false,cg,v.ps⟩,
  .mk (h_ en true (.mk a i) ((b++c).foldl e8 ⟨⟨λ_=>none,λ_=>none,[]⟩,⟨0,[]⟩,[]⟩).s ((b++c).foldl e8 ⟨⟨λ_=>none,λ_=>none,[]⟩,⟨0,[]⟩,[]⟩).m).1.vars
   (((b++c).foldl e8 ⟨⟨λ_=>none,λ_=>none,[]⟩,⟨0,[]⟩,[]⟩).q++(h_ en true (.mk a i) ((b++c).foldl e8 ⟨⟨λ_=>none,λ_=>none,[]⟩,⟨0,[]⟩,[]⟩).s ((b++c).foldl e8 ⟨⟨λ_=>none,λ_=>none,[]⟩,⟨0,[]⟩,[]⟩).m).2),w⟩:=rfl
 rw[L];have B:dZ ((b++c).foldl e8 ⟨⟨λ_=>none,λ_=>none,[]⟩,⟨0,[]⟩,[]⟩).s:=Y;generalize (b++c).foldl e8 ⟨⟨λ_=>none,λ_=>none,[]⟩,⟨0,[]⟩,[]⟩=r at g n J B⊢;have Z:Pt en bB (a.foldl KE.add (λ_=>0)) ⟨r.s,r.m,[]⟩:=⟨g.a,g.s,by simp[dc],by simp[gh],g.ck⟩;obtain⟨k,M,N⟩:=Z.binds a f.us;have o:=AF a ⟨r.s,r.m,[]⟩;have C:=AG a ⟨r.s,r.m,[]⟩ f.nd;have O:Pd en bB (a.foldl KE.add (λ_=>0)) (a.foldl KE.add (λ_=>0)) a (a.foldl (dj true) ⟨r.s,r.m,[]⟩):=by
  have p:∀v∈a,(a.foldl (dj true) ⟨r.s,r.m,[]⟩).s.vars.nm v.name=v.name:= λv h=>by unfold Env.nm;rw[C v h]
  refine⟨k.a,λE H=>?_,λv h=>?_,λx=>⟨?_,(k.s x).iG _⟩,k.q,k.dd⟩
  .obtain⟨v,h,e⟩:=X E H;exact .inr ⟨v,h,by rw[p v h];exact e⟩
  .rw[p v h,V v h];exact⟨ags _,_,C v h,by rw[o]⟩
  .by_cases h:∃v∈a,v.name=x
   .obtain⟨v,h,rfl⟩:=h;rw[p v h];exact ags _
   .rw[nx λv a e=>h ⟨v,a,e⟩];omega
 obtain⟨y,j,z,q,s⟩:=O.opened f (by rw[o];show r.s.ck.length<=90;rw[g.ck];simp);have P:iA true ⟨r.s,r.m,[]⟩ a=a.foldl dT ((a.flatMap λv=>v.clock.map λo=>o.2).foldl cO (a.foldl (dj true) ⟨r.s,r.m,[]⟩)):=rfl;have ac:=(bN.open (r:=⟨r.s,r.m,[]⟩) B true a).sc;rw[<-P]at j z q s;rw[o]at s;rw[M]at q;simp only[ew,ahq]at n q;have Ln:(iA true ⟨r.s,r.m,[]⟩ a).s.ck.length=0:=by rw[s];show r.s.ck.length=0;rw[g.ck];rfl
 have Q:Iv en bB y (a.foldl KE.add (λ_=>0)) (eH i) (iA true ⟨r.s,r.m,[]⟩ a):=⟨⟨j.a,λl p=>by
  rcases j.d l p with h|⟨v,f,_⟩
  .exact h
  .simp at f⟩,j.s,j.q,by rw[j.dd];omega,ac,by omega⟩
 obtain⟨A,l,R,w3,c3⟩:=yK i _ _ (eH i) U F (iA true ⟨r.s,r.m,[]⟩ a) (by omega) (ags _) y Q;rw[h_,ib,iX]
 dsimp only
 have S:Gk (a.foldl KE.add (λ_=>0)) A r.m.n (gf en i (iA true ⟨r.s,r.m,[]⟩ a)).m.n:=(Gk.trans ⟨N,λ_ _=>rfl⟩ z).trans R;refine⟨⟨A,(gf en i (iA true ⟨r.s,r.m,[]⟩ a)).m.n,?_,λv h=>?_,l.m.d⟩,?_,?_⟩
 .simp only[bT.eqs];rw[dc.app];exact⟨dc.grow S _ g.q,l.q⟩
 .have:=l.m.a v h;exact⟨this.1,this.2.1⟩
 .simp only[bT.eqs];have:=l.dd;rw[ky,g.dd];omega
 .simp only[bT.eqs];rw[gy];simp only[agq]at n;omega
end
variable{w:Nat}{u:Ps.US}{en:List En}{e:Xp}{ck:List (Nm×Nm)}
mutual
def dK.sh:∀(e:Xp) {c:Nat},dK en e c->iW e
 |.mk k l n x y a p,c,h=>by
  rw[dK]at h;obtain⟨⟨m,o,q,r,s,t,u,v,d,w,f,g⟩,i⟩:=h;refine .mk (λj=>?_) f g λe b=>eR.sh a i e b
  have:=(d j).2.2.1
  match a,this with
  |[b],_=>exact⟨b,W⟩
def eR.sh:∀(l:List Xp) {c:Nat},eR en l c->∀e∈l,iW e
 |[],_,_,e,a=>by simp at a
 |b::l,c,h,e,a=>by
  rw[eR]at h;rcases agu.1 a with a|a
  .rw[a];exact dK.sh b h.1
  .exact eR.sh l h.2 e a
end
mutual
def J6:∀q:aJ,pB q<=vw q
 |.mk k b f d c e a p=>by rw[pB,vw];have:=E4 a;omega
def E4:∀l:List aP,jq l<=nz l
 |[]=>by simp[jq,nz]
 |.mk _ b _ _ _::l=>by rw[jq,nz];have:=E5 b;have:=E4 l;omega
def E5:∀b:bT,nI b<=zm b
 |.mk _ a=>by rw[nI,zm];exact yL a
def yL:∀l:List aJ,kq l<=ew l
 |[]=>by simp[kq,ew]
 |q::l=>by rw[kq,ew];have:=J6 q;have:=yL l;omega
end
def E6:∀l:List aJ,2*l.length<=ew l
 |[]=>by simp
 |.mk k b f d c e a p::l=>by rw[ew,vw,agA];have:=E6 l;omega
def Gh(q:Fq):Prop:=iW q.e/\q.args.length<=2/\(∀a∈q.args,iW a)/\cm q.e+bF q.args<=401/\q.ck.length<=100/\q.rs.length<=100
section
variable{en:List En}{bB:Nm->Prop}{κ:KE}{n:Nat}
mutual
def Ee:∀(q:aJ) (l:List Nm),rE en bB κ n q->(∀f∈l,bB f)->∀f∈ow q l,bB f
 |.mk k j f o m e a p,l,h,c=>by
  rw[rE]at h;obtain⟨d,_,g⟩:=h;have i:ow (.mk k j f o m e a p) l=fy a (if k=2 then dh l f else l):=by rw[ow.eq_def]
  rw[i];refine wq a _ g ?_;split
  .rename_i q;rcases d with⟨h,_⟩|⟨_,_,_,_,_,h,_⟩|⟨h,_⟩
   .omega
   .intro x b;rcases At.1 b with b|rfl
    .exact c x b
    .exact h
   .omega
  .exact c
def wq:∀(r:List aP) (l:List Nm),kx en bB κ n r->(∀f∈l,bB f)->∀f∈fy r l,bB f
 |[],l,h,a=>by rw[fy.eq_def];exact a
 |.mk _ b _ _ _::r,l,h,c=>by
  rw[kx]at h;rw[fy.eq_def];refine wq r _ h.2 λx a=>?_
  rcases sU.1 a with a|a
  .exact c x a
  .exact yM b h.1 x a
def yM:∀b:bT,sW en bB κ n b->∀f∈iD b,bB f
 |.mk _ a,h=>by
  rw[sW]at h;rw[iD.eq_def];exact wu a [] h λf a=>by simp at a
def wu:∀(r:List aJ) (l:List Nm),dc en bB κ n r->(∀f∈l,bB f)->∀f∈fI r l,bB f
 |[],l,h,a=>by rw[fI.eq_def];exact a
 |q::r,l,h,a=>by
  rw[dc]at h;rw[fI.eq_def];exact wu r _ h.2 (Ee q l h.1 a)
end
def yN(bB:Nm->Prop)(ns:List Nd):Prop:=∀f,bB f->∃j d,gu ns f=some j/\ns[j]?=some d/\d.ins.length=2
variable{ns:List Nd}
mutual
def J7(a:yN bB ns):∀q:aJ,rE en bB κ n q->vw q<=10000000->DP ns q/\q.aq.length<=1/\qH q.aq
 |.mk s v f x w e b t,h,c=>by
  rw[rE]at h;rw[vw]at c;obtain⟨g,_,i⟩:=h;obtain⟨k,l⟩:=CV a b i (by omega);rw[DP];simp only[aJ.aq];rcases g with⟨rfl,_,_,rfl⟩|⟨rfl,_,m,o,_,p,rfl⟩|⟨rfl,_,m⟩
  .grind
  .obtain⟨j,d,q,r,u⟩:=a f p;exact⟨⟨.inr (.inl ⟨W,λa b=>dK.sh a (o a b),j,d,q,r,by omega,by omega⟩),k⟩,by simp,l⟩
  .grind
def CV(d:yN bB ns):∀l:List aP,kx en bB κ n l->nz l<=10000000->yi ns l/\qH l
 |[],h,a=>by rw[yi,qH];exact⟨trivial,trivial⟩
 |.mk _ b _ _ _::l,h,a=>by
  rw[kx]at h;rw[nz]at a;have a:=E7 d b h.1 (by omega);have c:=CV d l h.2 (by omega);rw[yi,qH];exact⟨⟨a.1,c.1⟩,a.2,c.2⟩
def E7(e:yN bB ns):∀b:bT,sW en bB κ n b->zm b<=10000000->Bn ns b/\Bo b
 |.mk _ d,h,c=>by
  rw[sW]at h;rw[zm]at c;have a:=CW e d h c;have:=E6 d;rw[Bn,Bo];exact⟨⟨by omega,a.1⟩,by omega,a.2⟩
def CW(a:yN bB ns):∀l:List aJ,dc en bB κ n l->ew l<=10000000->rM ns l/\rN l
 |[],h,b=>by rw[rM,rN];exact⟨trivial,trivial⟩
 |.mk k m f q o e g p::l,h,d=>by
  rw[dc]at h;rw[ew]at d;obtain⟨i,j,b⟩:=J7 a (.mk k m f q o e g p) h.1 (by omega);have c:=CW a l h.2 (by omega);rw[rM,rN];simp only[aJ.aq]at j b;exact⟨⟨i,c.1⟩,⟨by omega,b⟩,c.2⟩
end
variable(en)
structure Uf(u:Ps.US)(w:Nat):Prop where
 q:∀q∈u.eqs,IY en q/\Gh q
 s:(u.eqs.map kU).sum<=w
variable{en}
def Uf.put(h:Uf en u w)(q:Fq)(c:IY en q/\Gh q)(k:Nat)(b:List Va):Uf en ⟨k,b,u.eqs++[q]⟩ (w+kU q):=by
 refine⟨λx a=>?_,?_⟩
 .rcases agG.1 a with a|a
  .exact h.q x a
  .grind
 .have:=h.s;simp only[agI,List.sum_append,agH,ag1,ai4,List.sum_nil];omega
def Uf.val(h:Uf en u w)(t:Int×Nm)(rs:List Nm)(a:dK en e 0)(hi:cm e<=400)(b:ck.length<=100)(c:rs.length<=99):Uf en (iN u e t ck rs) (w+cC e):=by
 have d:=rz e;have:=h.put ⟨1,[nE (u.n+1)],⟨#[]⟩,cg,e,[],ck,rs⟩ ⟨⟨λh=>by simp at h,λ_=>dK.mono en e a (ahy _),λ_ _=>by simp,by simp only[kU,bh];omega⟩,dK.sh e a,by simp,by simp,by simp only[bF];omega,b,agW c (by decide)⟩ (u.n+1) (u.vars++[⟨nE (u.n+1),t.1,t.2,ck,false,cg,(0,0)⟩]);have a:kU ⟨1,[nE (u.n+1)],⟨#[]⟩,cg,e,[],ck,rs⟩=cC e:=by simp[kU,bh]
 rw[a]at this;exact this
def vx:∀a b:List Xp,bh (a++b)=bh a+bh b
 |[],b=>by simp[bh]
 |q::a,b=>by simp only[agQ,bh,vx a b,ahR]
def sZ(d:ck.length<=100)(rs:List Nm)(e:rs.length<=99):∀(l:List (Xp×(Int×Nm))) (r:Ps.US×List Xp) (w:Nat),(∀a∈l,dK en a.1 0/\cm a.1<=400)->Uf en r.1 w->(∀x∈r.2,dK en x ck.length)->
  ∃w',w<=w'/\Uf en (l.foldl (dx ck rs) r).1 w'/\(∀x∈(l.foldl (dx ck rs) r).2,dK en x ck.length)/\w'+bh (l.foldl (dx ck rs) r).2<=w+bh r.2+bh (l.map λa=>a.1)/\bF (l.foldl (dx ck rs) r).2<=bF r.2+bF (l.map λa=>a.1)
 |[],r,w,_,h,c=>⟨w,ags _,h,c,by simp[bh],by simp[bF]⟩
 |a::l,r,w,g,h,f=>by
  obtain⟨i,o⟩:=g a (by simp);have j:= λb c=>g b (aht _ c)
  rw[agy,agH,bh,bF];have t:=uk a.1;by_cases k:qn a.1=true
  .have p:dx ck rs r a=(r.1,r.2++[a.1]):=by unfold dx;rw[agK k]
   rw[p];obtain⟨w',u,q,s,m,n⟩:=sZ d rs e l (r.1,r.2++[a.1]) w j h λx c=>by
    rcases agG.1 c with c|c
    .exact f x c
    .simp only[agu,agE,ag0]at c;rw[c];exact dK.mono en _ i (ahy _)
   rw[vx]at m;rw[kj]at n;simp only[bh,bF]at m n;exact⟨w',by omega,q,s,by omega,by omega⟩
  .have p:dx ck rs r a=(iN r.1 a.1 a.2 ck rs,r.2++[bz (nE (r.1.n+1))]):=by unfold dx;rw[agw k]
   rw[p];obtain⟨w',u,q,s,m,n⟩:=sZ d rs e l (iN r.1 a.1 a.2 ck rs,r.2++[bz (nE (r.1.n+1))]) (w+cC a.1) j (h.val a.2 rs i o d e) λx c=>by
    rcases agG.1 c with c|c
    .exact f x c
    .simp only[agu,agE,ag0]at c;rw[c];exact um _ _ _
   rw[vx]at m;rw[kj]at n;simp[bh,cC]at m;simp only[bF,cm]at n;exact⟨w',by omega,q,s,by omega,by omega⟩
def E8:∀(l:List Xp) (t:List (Int×Nm)),bh ((l.zip t).map λa=>a.1)<=bh l
 |[],t=>by simp[bh]
 |a::l,[]=>by simp[bh]
 |a::l,b::t=>by have:=E8 l t;simp only[List.zip_cons_cons,agH,bh];omega
def E9:∀(l:List Xp) (t:List (Int×Nm)),bF ((l.zip t).map λa=>a.1)<=bF l
 |[],t=>by simp[bF]
 |a::l,[]=>by simp[bF]
 |a::l,b::t=>by have:=E9 l t;simp only[List.zip_cons_cons,agH,bF];omega
def CX:∀{l:List Xp},∀a∈l,cm a<=bF l
 |a::l,x,h=>by
  rw[bF];rcases agu.1 h with rfl|h
  .omega
  .have:=CX x h;omega
variable{iT:Nm->List (Int×Nm)}{cl:oJ}
theorem Eg(t:∀y,(cl y).length<=100){k:Int}{lhs:List Nm}{f:Nm}{args:List Xp}{j:Bool}{aq:List aP}{p:Int×Int}(y:k=2)(z:∀a∈args,dK en a 0)(A:j=true->dK en e 0)(F:args.length<=2)(hi:cm e+bF args<=400)(rs:List Nm)(l:rs.length<=99)(h:Uf en u w):
  Uf en (oK iT cl rs (.mk k lhs f args j e aq p) u) (w+(cC e+bh args)):=by
 subst y;have c:(mu cl lhs).length<=100:=by
  unfold mu;cases lhs with
  |nil=>simp
  |cons x i=>exact t x
 have G:=ul args;obtain⟨H,I,d,g,m,n⟩:=sZ c rs l (args.zip (iT f)) (u,[]) w (λa h=>by
  have i:=(List.of_mem_zip (a:=a.1) (b:=a.2) h).1;have:=CX a.1 i;exact⟨z a.1 i,by omega⟩) h (λx c=>by simp at c)
 have J:=E8 args (iT f);have K:=E9 args (iT f);simp only[bh,ahW]at m;simp only[bF,ahq]at n;rw[oK];simp only;rw[agw (by decide),agK trivial];have s:=(kQ (mu cl lhs) rs (args.zip (iT f)) (u,[])).2.2.2;rw[List.length_zip,List.length_nil]at s;generalize (args.zip (iT f)).foldl (dx (mu cl lhs) rs) (u,[])=r at d g m n s⊢;have q:∀{v:Ps.US} {x:Nat} (c:List Nm),c.length<=100->Uf en v x->x+bh r.2<=w+(cC e+bh args)->Uf en ⟨v.n,v.vars,v.eqs++[⟨3,lhs,f,cg,cg,r.2,mu cl lhs,c⟩]⟩ (w+(cC e+bh args)):= λ{v E} o B C x=>by
  have D:kU ⟨3,lhs,f,cg,cg,r.2,mu cl lhs,o⟩=bh r.2:=by simp[kU,cC,bh]
  have i:=C.put ⟨3,lhs,f,cg,cg,r.2,mu cl lhs,o⟩ ⟨⟨λ_=>⟨by grind,g⟩,λh=>absurd W h,λ_ h=>absurd W h,by grind⟩,yC.1,by grind,λa c=>dK.sh a (g a c),by simp only[cm,bF];omega,c,B⟩ v.n v.vars;rw[D]at i;exact⟨i.q,agW i.s x⟩
 cases j with
 |true=>
  rw[agK W];by_cases i:e.kd=4
  .grind
  .rw[agw i];exact q _ (by simp;omega) (d.val (1,⟨#[]⟩) rs (A W) (by omega) c l) (by omega)
 |false=>
  rw[agw (by decide)];exact q _ (by omega) d (by omega)
mutual
theorem Je(a:∀y,κ y<=(cl y).length/\(cl y).length<=100):∀(q:aJ) (rs:List Nm) (u:Ps.US) (w:Nat),rs.length+wy q<=99->rE en bB κ n q->Uf en u w->Uf en (oK iT cl rs q u) (w+vw q)
 |.mk k lhs f s i e aq p,rs,u,w,j,h,b=>by
  rw[wy]at j;rw[rE]at h;obtain⟨l,d,m⟩:=h;rw[vw];rcases l with⟨rfl,⟨y,rfl,_,c⟩,rfl,rfl⟩|⟨rfl,_,c,o,q,_,rfl⟩|⟨rfl,rfl,_⟩
  .have r:oK iT cl rs (.mk 1 [y] f [] i e [] p) u=⟨u.n,u.vars,u.eqs++[⟨1,[y],⟨#[]⟩,cg,e,[],cl y,rs⟩]⟩:=by rw[oK];rfl
   rw[r];have g:kU ⟨1,[y],⟨#[]⟩,cg,e,[],cl y,rs⟩=cC e:=by simp[kU,bh]
   have:=b.put ⟨1,[y],⟨#[]⟩,cg,e,[],cl y,rs⟩ ⟨⟨λh=>by simp at h,λ_=>dK.mono en e c (a y).1,λ_ _=>by simp,by rw[g];have:=(a y).2;have:=rz e;simp only[bF]at d;simp only;omega⟩,dK.sh e c,by simp,by simp,by grind,(a y).2,by grind⟩ u.n u.vars;exact⟨this.q,by have:=this.s;rw[g]at this;omega⟩
  .have:=Eg (iT:=iT) (λy=>(a y).2) (k:=2) (lhs:=lhs) (f:=f) (aq:=[]) (p:=p) W o q (by omega) d rs (by omega) b;exact⟨this.q,by have:=this.s;omega⟩
  .have:=Jf a aq (rs++[e.nm]) u w (by grind) m b;have g:oK iT cl rs (.mk 5 lhs f [] i e aq p) u=Ba iT cl (rs++[e.nm]) aq u:=by rw[oK];rfl
   rw[g];exact⟨this.q,by have:=this.s;omega⟩
theorem Jf(a:∀y,κ y<=(cl y).length/\(cl y).length<=100):∀(l:List aP) (rs:List Nm) (u:Ps.US) (w:Nat),rs.length+qD l<=100->kx en bB κ n l->Uf en u w->Uf en (Ba iT cl rs l u) (w+nz l)
 |[],rs,u,w,_,h,a=>by rw[Ba,nz];exact a
 |.mk _ b _ _ _::l,rs,u,w,d,h,c=>by
  rw[qD]at d;rw[kx]at h;rw[Ba,nz];have:=Jg a b rs u w (by omega) h.1 c;exact⟨this.q,by have:=this.s;omega⟩
theorem Jg(c:∀y,κ y<=(cl y).length/\(cl y).length<=100):∀(b:bT) (rs:List Nm) (u:Ps.US) (w:Nat),rs.length+zj b<=99->sW en bB κ n b->Uf en u w->Uf en (Fs iT cl rs b u) (w+zm b)
 |.mk _ e,rs,u,w,a,h,d=>by
  rw[zj]at a;rw[sW]at h;rw[Fs,zm];exact yO c e rs u w a h d
theorem yO(a:∀y,κ y<=(cl y).length/\(cl y).length<=100):∀(l:List aJ) (rs:List Nm) (u:Ps.US) (w:Nat),rs.length+gh l<=99->dc en bB κ n l->Uf en u w->Uf en (fV iT cl rs l u) (w+ew l)
 |[],rs,u,w,_,h,a=>by rw[fV,ew];exact a
 |q::l,rs,u,w,d,h,c=>by
  rw[gh]at d;rw[dc]at h;rw[fV,ew];have b:=yO a l rs _ _ (by omega) h.2 (Je a q rs u w (by omega) h.1 c);exact⟨b.q,by have:=b.s;omega⟩
end
def Eh(a b:List Va)(y:Nm):eT (a++b) y=match b.reverse.find? (λv=>decide (v.name=y))with|some v=>v.clock|none=>eT a y:=by
 unfold eT;rw[aiR,List.find?_append];cases b.reverse.find? (λv=>decide (v.name=y))<;>rfl
def sP{a:List Va}(h:∀v∈a,v.clock=[])(y:Nm):eT a y=[]:=by
 unfold eT;split
 .grind
 .rfl
theorem Jh{d:Nd}{c:Nat}(h:J5 en bB d c w)(p:c<=99)(e:∀v∈d.ins++d.outs,v.clock=[])(q:w<=9000000)(r:d.ins.length+d.outs.length+d.b.vars.length<=9000000):D5 en (sG ns d)/\∀q∈(sG ns d).eqs,Gh q:=by
 obtain⟨⟨b,o,f,i,s⟩,t,u⟩:=h;have j:∀y,b y<=(eT (d.ins++d.outs++d.b.vars) y).length/\(eT (d.ins++d.outs++d.b.vars) y).length<=100:= λy=>by
  rw[Eh];cases x:d.b.vars.reverse.find? (λv=>decide (v.name=y))with
  |some v=>
   have k:v.name=y:=by grind
   have:=i v (by grind);rw[k]at this;exact this
  |none=>
   rw[sP e];refine⟨?_,by simp⟩;by_cases k:0<b y
   .grind
   .grind
 have l:Uf en ⟨0,d.b.vars,[]⟩ 0:=⟨λq h=>by simp at h,by simp⟩;have a:=yO (iT:=fr ns) j d.b.eqs [] _ _ (by grind) f l;have g:=qE (fr ns) (eT (d.ins++d.outs++d.b.vars)) d.b.eqs [] ⟨0,d.b.vars,[]⟩;have m:=g.vs;have n:=g.q;have z:=yL d.b.eqs;have A:=a.s;unfold sG D5
 dsimp only[List.length_nil]at m n⊢
 exact⟨⟨by omega,by omega,by omega,λq b=>(a.q q b).1⟩,λq b=>(a.q q b).2⟩
end
end Go.Pm
namespace Go.Pm
open Go.Mt Go.Sm Go.Ps Go.Ex
variable{k:Nat}{d:Nd}{en:List En}
abbrev bB(k:Nat):Nm->Prop:= λf=>∃j,j<k/\f=Mk.nm 102 j
structure N1(en:List En)(k:Nat)(d:Nd):Prop where
 nm:d.name=Mk.nm 102 k
 il:d.ins.length=2
 ol:d.outs.length=2
 fc:∀v∈d.ins++d.outs,CU v
 pr:lT en (mx (bB k)) ((d.ins++d.outs).foldl TE.add T0) (λ_=>0) d.b
 wt:ib d.b<=2500000
 dp:iX d.b<=8
def CY{c:UInt8}(h:c≠95):uc ⟨#[c]⟩:=by
 unfold uc;simpa using h
def Gi{x:Nm}(h:uc x):rR x:= λj=>h.ne 118 j
def uu(r:List En){d:Mk.Nd}(h:Mk.GN k d):ud (nt d.b)<=2500000/\pO (((kB d).ins++(kB d).outs).foldl TE.add T0)/\lT (iI r) (uj (bB k)) (((kB d).ins++(kB d).outs).foldl TE.add T0) (λ_=>0) (nt d.b)/\iX (nt d.b)<=4/\
  (kB d).ins.length=2/\(kB d).outs.length=2/\∀v∈(kB d).ins++(kB d).outs,CU v:=by
 obtain⟨z,o,⟨p,first,b,l⟩,A,q,s⟩:=h;have i:=I7 (r:=r) _ _ _ _ _ s q;have f:(kB d).ins=[kR Mk.aV,kR Mk.bV]:=by unfold kB;rw[o];rfl
 have g:(kB d).outs=[kR ⟨⟨#[120]⟩,.int,none,p,first⟩,kR Mk.yV]:=by unfold kB;rw[l];rfl
 have t:((((kB d).ins++(kB d).outs)).map (·.name)).Nodup:=by
  rw[f,g];show([⟨#[97]⟩,⟨#[98]⟩,⟨#[120]⟩,⟨#[121]⟩]:List Nm).Nodup
  decide
 have j:∀v∈(kB d).ins++(kB d).outs,∃c:UInt8,c≠95/\v.name=⟨#[c]⟩:=by
  rw[f,g];intro v a;simp only[agQ,ag2,agu,agE,ag0]at a;rcases a with rfl|rfl|rfl|rfl
  .exact⟨97,by decide,rfl⟩
  .exact⟨98,by decide,rfl⟩
  .exact⟨120,by decide,rfl⟩
  .exact⟨121,by decide,rfl⟩
 have m:∀v,v∈d.ins\/v∈d.outs->Kn (((kB d).ins++(kB d).outs).foldl TE.add T0) 0 v:= λv a=>by
  have n:kR v∈(kB d).ins++(kB d).outs:=by
   rcases a with a|a
   .exact ahm _ (ag4 a)
   .exact ahz _ (ag4 a)
  refine⟨vq t (kR v) n,?_⟩;obtain⟨c,_,e⟩:=j _ n;rintro⟨u,w,_,x⟩;exact I5 u c w (x.symm.trans e)
 have y:d.outs.length=2:=by rw[l];rfl
 refine⟨?_,?_,i.pr _ _ (λv a=>?_) λv a=>m v (.inr a),i.dp,by rw[f];rfl,by rw[g];rfl,?_⟩
 .have:=i.w;rw[y]at this;omega
 .refine pO.vV (λx h=>by simp at h) λv a=>?_
  obtain⟨c,n,e⟩:=j v a;rw[e];exact CY n
 .rcases a with a|a|a
  .exact m v (.inl a)
  .simp at a
  .simp at a
 .intro v a;obtain⟨c,n,e⟩:=j v a;refine⟨by rw[e];exact Gi (CY n),?_,?_⟩
  .rw[f,g]at a;simp only[agQ,ag2,agu,agE,ag0]at a;rcases a with rfl|rfl|rfl|rfl<;>rfl
  .rw[f,g]at a;simp only[agQ,ag2,agu,agE,ag0]at a;rcases a with rfl|rfl|rfl|rfl
   .intro e;simp[kR,Mk.aV]at e
   .intro e;simp[kR,Mk.bV]at e
   .intro e;rcases b with⟨b,_⟩|⟨_,b⟩
    .simp[kR,b]at e
    .exact(sV b).2
   .intro e;simp[kR,Mk.yV]at e
def AH:∀(l:List Nd) (s:DS) (k:Nat) (a:Nd),(ei l s).1[k]?=some a->∃d b,l[k]?=some d/\a=(xK d b).1
 |[],s,k,a,h=>by rw[ei]at h;simp at h
 |d::l,s,0,a,h=>by rw[ei]at h;simp at h;exact⟨d,s,by simp,h.symm⟩
 |d::l,s,k+1,a,h=>by
  rw[ei]at h;simp at h;obtain⟨c,b,e,f⟩:=AH l _ k a h;exact⟨c,b,by simpa using e,f⟩
def AI:∀(l:List Nd) (s:DS),(∀d∈l,∀s:DS,1000*(fX d.b s).2.n<=1000*s.n+2500000/\((∀e∈s.aG,e.fo.length<=3)->∀e∈(fX d.b s).2.aG,e.fo.length<=3))->
  1000*(ei l s).2.n<=1000*s.n+l.length*2500000/\((∀e∈s.aG,e.fo.length<=3)->∀e∈(ei l s).2.aG,e.fo.length<=3)
 |[],s,_=>by rw[ei];exact⟨by simp,λh=>h⟩
 |d::l,s,h=>by
  obtain⟨f,a⟩:=h d (by simp) s;obtain⟨b,c⟩:=AI l (xK d s).2 λx a=>h x (by simp[a])
  rw[ei];refine⟨?_,λb=>c (a b)⟩;rw[agA,ahp];have:(xK d s).2=(fX d.b s).2:=rfl;rw[this]at b⊢
  dsimp only
  omega
def N1.ds(h:N1 en k d):Jt en d:=by
 have:=h.il;have:=h.ol;have:=h.wt;have:=h.dp;exact⟨by omega,λv a=>by rw[(h.fc v a).ck];simp,(EZ d.b _ _ h.pr h.wt).wf,by omega,by omega⟩
def N1.out(h:N1 en k d):J5 en (bB k) (nF en d) 8 7600000/\(nF en d).b.vars.length<=2600000:=by
 have a:=h.il;have a:=h.ol;have a:=h.wt;have b:=h.dp;have a:=Jd h.fc h.pr (by omega);refine⟨⟨a.ot,agW a.dd b,agW a.wo (by omega)⟩,?_⟩;have g:=bN.pN (d.ins++d.outs) wK;have a:=g.vs;have b:=(wL en d.b true _ ((d.ins++d.outs).foldl e8 mE).m _ g.sc (dI.pN (d.ins++d.outs) (r:=mE) (T:=T0) (λ_=>rfl)) h.ds.wf (by rw[g.ck];simp only[List.length_nil];omega)).vs;rw[agq]at a
 dsimp only[List.length_nil]at a
 show(h_ en true d.b ((d.ins++d.outs).foldl e8 mE).s ((d.ins++d.outs).foldl e8 mE).m).1.vars.length<=_;omega
structure Made(p:Pg):Prop where
 da:Js p
 ds:Ju (lO p)
 ur:HJ (tB (lO p))
 en:kL (lO p).aG
 nk:∀f∈(BX (tB (lO p))).nodes,D5 (lO p).aG f/\∀q∈f.eqs,Gh q
 nl:(BX (tB (lO p))).nodes.length<=3
def Ip{l:List Mk.Nd}(h:Mk.GP l):Made (nu l):=by
 obtain⟨h1,T,U⟩:=h;generalize C:(ei (nu l).nodes ⟨0,[]⟩).2.aG=r;have m:(lO (nu l)).aG=iI r:=by rw[<-C];rfl
 have p:∀(k:Nat) (d:Nd),(nu l).nodes[k]?=some d->∃a,d=kB a/\Mk.GN k a:= λk d a=>by
  have g:(l.map kB)[k]?=some d:=a;rw[ahh,agU]at g;obtain⟨f,i,s⟩:=g;exact⟨f,s.symm,U k f i⟩
 have q:∀(k:Nat) (a:Mk.Nd),Mk.GN k a->∀s,Ky (iI r) (bB k) (((kB a).ins++(kB a).outs).foldl TE.add T0) (λ_=>0) (nt a.b) s:= λk a b s=>by
  obtain⟨f,g,i,_⟩:=uu r b;exact EY (nt a.b) _ _ s g i f
 have t:(nu l).nodes.length<=3:=by show(l.map kB).length<=3;rw[agt];exact T
 obtain⟨E,V⟩:=AI (nu l).nodes ⟨0,[]⟩ λd a s=>by
  obtain⟨k,b⟩:=ahS a;obtain⟨f,rfl,g⟩:=p k d b;have:=(q k f g s).n;have i:=(uu r g).1;exact⟨by show 1000*(fX (nt f.b) s).2.n<=_;omega,(q k f g s).es⟩
 have F:∀(k:Nat) (d:Nd),(lO (nu l)).nodes[k]?=some d->N1 (iI r) k d:= λa d c=>by
  obtain⟨z,i,y,rfl⟩:=AH _ _ a d c;obtain⟨f,rfl,g⟩:=p a z y;obtain⟨L,M,N,P,A,J,K⟩:=uu r g;have s:=q a f g i;have O:=s.w;have Q:=s.dp;exact⟨g.1,A,J,K,s.pr _ _ (rD.refl _ _),by show ib (fX (nt f.b) i).1<=_;omega,by show iX (fX (nt f.b) i).1<=_;omega⟩
 have X:(lO (nu l)).nodes.length<=3:=by show(ei (nu l).nodes ⟨0,[]⟩).1.length<=3;rw[u5];exact t
 have ac:∀d∈(lO (nu l)).nodes,∃k,N1 (iI r) k d:= λd a=>by
  obtain⟨k,b⟩:=ahS a;exact⟨k,F k d b⟩
 have G:kL (lO (nu l)).aG:=by
  rw[m,<-C];have g:=(tF (nu l).nodes ⟨0,[]⟩).2 (by simp);refine⟨?_,λe f=>?_⟩
  .rw[agA];have:=agR 2500000 t
   dsimp only at E
   omega
  .rcases agu.1 f with rfl|f
   .show([_,_,_]:List Nm).length<=_;simp
   .have:=V (λe a=>by simp at a) e f;omega
 have n:∀(k:Nat) (d:Nd),(tB (lO (nu l))).nodes[k]?=some d->∃a,N1 (iI r) k a/\d=nF (iI r) a:= λa d c=>by
  have f:((lO (nu l)).nodes.map (nF (lO (nu l)).aG))[a]?=some d:=c;rw[ahh,agU]at f;obtain⟨i,s,g⟩:=f;rw[m]at g;exact⟨i,F a i s,g.symm⟩
 have H:(tB (lO (nu l))).nodes.length<=3:=by show((lO (nu l)).nodes.map _).length<=3;rw[agt];exact X
 generalize u:tB (lO (nu l))=a at n H;have o:∀(k:Nat) (b:k<a.nodes.length),a.nodes[k].name=Mk.nm 102 k:= λc f=>by
  obtain⟨i,g,e⟩:=n c _ (ag3 f);rw[e];exact g.nm
 have I:(a.nodes.map (·.name)).Nodup:=by
  rw[aiW,aiq];intro i j f w g e;rw[aip,aip,o i (by simpa using f),o j (by simpa using w)]at e;have:=(pG e).2;omega
 have am:∀k,k<=a.nodes.length->yN (bB k) a.nodes:= λk b B ⟨j,w,e⟩=>by
  have f:j<a.nodes.length:=by omega
  have g:=rO I f;rw[o j f]at g;obtain⟨y,s,i⟩:=n j _ (ag3 f);exact⟨j,a.nodes[j],by rw[e];exact g,ag3 f,by rw[i];exact s.il⟩
 have x:∀(k:Nat) (d:Nd),a.nodes[k]?=some d->(d.ins.length+d.outs.length+d.b.vars.length<=9000000/\Bn a.nodes d.b/\zj d.b<=80000/\nI d.b<=8000000/\Bo d.b)/\(∀s∈iD d.b,bB k s)/\D5 (iI r) (sG a.nodes d)/\∀q∈(sG a.nodes d).eqs,Gh q:= λi d D=>by
  obtain⟨f,g,rfl⟩:=n i d D;obtain⟨J,K⟩:=g.out;have b:i<a.nodes.length:=(ahk.1 D).1;have L:(nF (iI r) f).ins.length=2:=g.il;have M:(nF (iI r) f).outs.length=2:=by show(f.outs.map _).length=2;rw[agt];exact g.ol
  have Y:∀v∈(nF (iI r) f).ins++(nF (iI r) f).outs,v.clock=[]:= λv c=>by
   rcases agG.1 c with c|c
   .exact(g.fc v (ahm _ c)).ck
   .obtain⟨Q,Z,rfl⟩:=agC.1 (show v∈f.outs.map _ from c);exact(g.fc Q (ahz _ Z)).ck
  have N:=Jh (ns:=a.nodes) J (by omega) Y (by omega) (by omega);obtain⟨⟨R,S,s,_,_⟩,O,y⟩:=J;generalize (nF (iI r) f)=d at s O y K L M N⊢;obtain⟨d6,co,d7,⟨A,z⟩,ps⟩:=d;simp only[bT.eqs,bT.vars]at s O y K;have P:sW (iI r) (bB i) R S (.mk A z):=by rw[sW];exact s
  have d5:zm (.mk A z)<=7600000:=by rw[zm];exact y
  obtain⟨u1,u2⟩:=E7 (am i (by omega)) _ P (by omega);have Vs:=E5 (.mk A z);exact⟨⟨by dsimp only[bT.vars]at L M⊢;omega,u1,by rw[zj];omega,by dsimp only;omega,u2⟩,yM _ P,N⟩
 have ce:HJ a:=by
  refine⟨by omega,⟨I,λi f s g=>.inl ?_⟩,λd c=>?_⟩
  .obtain⟨j,w,e⟩:=(x i _ (ag3 f)).2.1 s g;rw[e,<-o j (by omega),agC];exact⟨a.nodes[j],by rw[aiY];exact⟨j,by omega,rfl⟩,rfl⟩
  .obtain⟨k,b⟩:=ahS c;exact(x k d b).1
 refine⟨⟨by show([vp]:List En).length<=_;simp,by omega,λd c=>?_,?_⟩,⟨G,by omega,λd c=>?_⟩,by rw[u];exact ce,G,λB D=>?_,?_⟩
 .obtain⟨k,b⟩:=ahS c;obtain⟨f,rfl,s⟩:=p k d b;obtain⟨g,y,i,_⟩:=uu r s;exact E0 (nt f.b) _ _ i g
 .have:=agR 2500000 t
  dsimp only at E
  omega
 .obtain⟨k,b⟩:=ac d c;rw[m];exact b.ds
 .rw[u]at D;obtain⟨d,c,rfl⟩:=agC.1 (show B∈a.nodes.map (sG a.nodes)from D);obtain⟨k,b⟩:=ahS c;rw[m];exact(x k d b).2.2
 .rw[u];show(a.nodes.map _).length<=3;rw[agt];exact H
end Go.Pm
