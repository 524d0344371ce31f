/- A part of the proof of the last text of this claim, without conditions. -/
import Derived.Test.YtjbigbaipmiihaaGreatI
set_option maxRecDepth 4000
set_option linter.all false
namespace Go.Ex
open Go.Mt Go.Mk
structure Rs where
 rd:Nat->Int
 rp:Nat->Bool
 rs:Nat->Option Sm.US
def CC(F:List (Option Int))(s:Rs)(lo hi:Nat):Rs:=
 ⟨λk=>if lo<=k/\k<hi then Sm.bZ F k else s.rd k,λk=>if(lo<=k/\k<hi)/\F[k]?=some none then false else s.rp k,λk=>if(lo<=k/\k<hi)/\F[k]?=some none then none else s.rs k⟩
def Mem(T:fB)(G:Nat->Sm.US->Prop)(s:Rs):Prop:=∀k,match T.pt k with
 |.val t=>VT t (s.rd k)
 |.any=>True
 |.aN N=>0<=s.rd k/\s.rd k<N
 |.call j=>∀u,s.rs k=some u->u.i=j/\G j u
def iA(T:fB):E->Nat->Prop
 |.un _ a,p=>iA T a p
 |.bin _ a b,p=>iA T a p/\iA T b (p+xE a)
 |.ite c a b,p=>iA T c p/\iA T a (p+xE c)/\iA T b (p+xE c+xE a)
 |.fO c y,p=>T.pt p=.val (qh T c)/\iA T y (p+1+xE c)
 |.pre y,p=>T.pt p=.val (qh T y)/\iA T y (p+1)
 |.arrow a b,p=>T.pt p=.any/\iA T a (p+1)/\iA T b (p+1+xE a)
 |.fq _ _ a,p=>iA T a p
 |.merge _ _ _ _ a b c,p=>iA T a p/\iA T b (p+xE a)/\iA T c (p+xE a+xE b)
 |_,_=>True
def j5{T:fB}{G:Nat->Sm.US->Prop}{s:Rs}(h:Mem T G s):∀{e:E} {p:Nat},iA T e p->ot T s.rd e p
 |.nil,_,_=>trivial
 |.int _,_,_=>trivial
 |.bool _,_,_=>trivial
 |.ctor _,_,_=>trivial
 |.var _,_,_=>trivial
 |.last _,_,_=>trivial
 |.un f a,p,d=>j5 h (e:=a) d
 |.bin f d b,p,a=>⟨j5 h a.1,j5 h a.2⟩
 |.ite c d b,p,a=>⟨j5 h a.1,j5 h a.2.1,j5 h a.2.2⟩
 |.fO c y,p,a=>⟨by have:=h p;rw[a.1]at this;exact this,j5 h a.2⟩
 |.pre y,p,a=>⟨by have:=h p;rw[a.1]at this;exact this,j5 h a.2⟩
 |.arrow d b,p,a=>⟨j5 h a.2.1,j5 h a.2.2⟩
 |.fq _ _ a,p,d=>j5 h (e:=a) d
 |.merge _ _ _ _ d b c,p,a=>⟨j5 h a.1,j5 h a.2.1,j5 h a.2.2⟩
def cB:aB->List a_
 |.sw _ a=>a
 |.aN a=>a
 |.reset _ b=>[.mk e0 b [] []]
 |_=>[]
def dP:a_->bF|.mk _ b _ _=>b
def jW:a_->Nm|.mk n _ _ _=>n
def jF:a_->List Tr|.mk _ _ u _=>u
def kS:a_->List Tr|.mk _ _ _ w=>w
def dr:bF->List Va|.mk v _=>v
def cP:bF->List aB|.mk _ q=>q
abbrev cQ:List Sm.En:=[CA]
section
variable(T:fB)(F:List (Option Int))(A:Env)
def je(rd:Nat->Int):List Tr->Option Tr
 |[]=>none
 |t::l=>if cE T A rd t.e 0≠0 then some t else je rd l
def rN(l:List a_)(x:Nm):Nat:=(l.findIdx? λa=>decide (jW a=x)).getD 0
def fC(s:Rs)(p:Nat):aB->Nat
 |.sw e a=>(a.findIdx? λa=>decide (Sm.gV cQ (jW a)=cE T A s.rd e p)).getD 0
 |.aN a=>match je T A s.rd (((a[(s.rd p).toNat]?).map jF).getD [])with
  |none=>(s.rd p).toNat
  |some t=>rN a t.to
 |_=>0
def Aw(s:Rs)(p:Nat):aB->Bool
 |.aN a=>match je T A s.rd (((a[(s.rd p).toNat]?).map jF).getD [])with
  |none=>s.rp p
  |some t=> !t.fF
 |.reset e _=>decide (cE T A s.rd e p≠0)
 |_=>false
abbrev nL(q:aB)(p k:Nat):Nat:=Sm.cG (dx q) p k
def oG(s:Rs)(p:Nat)(q:aB)(a:a_):Rs:=if Aw T A s p q then CC F s (nL q p (fC T A s p q)) (nL q p (fC T A s p q)+Sm.bP (eD (dP a)))else s
def iU(x:Nm):Nat:=match get A x with
 |some (_,sb,_)=>sb
 |none=>0
abbrev dQ(q:aB):List Nm:=Sm.cm (dx q)
abbrev dA(a:a_):List Nm:=Sm.kp (eD (dP a))
def zx(s:Rs)(q:aB)(a:a_):Prop:=∀x∈dQ q,x∉dA a->T.ls x=true/\∃i,get A x=some (some (s.rd (T.lp x)),i,i)
variable(Ov:Nat->Sm.US->List Int->List Int->Sm.US->Prop)(az:Nat->Sm.US)
def zy(V:Nm->Prop)(s:Rs)(p:Nat):aB->Prop
 |.df x e=>V x/\((∃i,get A x=some (some (cE T A s.rd e p),i,i)/\eI T A V (A.length+1) i e)\/∃i,get A x=some (none,i,i))
 |.call x y g a b f e=>V x/\V y/\x≠y/\∃j i c d h,g=nm 102 j/\get A x=some (some c,i,i)/\get A y=some (some d,i,i+1)/\(f=true->eI T A V (A.length+1) i e)/\eI T A V (A.length+1) i a/\eI T A V (A.length+1) i b
   /\Ov j ((if f=true/\cE T A s.rd e (p+1)≠0 then none else s.rs p).getD (az j)) [cE T A s.rd a (p+1+xE e),cE T A s.rd b (p+1+xE e+xE a)] [c,d] h/\∀u,s.rs p=some u->u.i=j
 |.sw e a=>∃t c,t<=A.length/\eI T A V (A.length+1) t e/\(∀x∈dQ (.sw e a),V x/\t<=iU A x)/\a[fC T A s p (.sw e a)]?=some c/\Sm.gV cQ (jW c)=cE T A s.rd e p
   /\(∀(i:Nat) (b:a_),i<fC T A s p (.sw e a)->a[i]?=some b->Sm.gV cQ (jW b)≠cE T A s.rd e p)/\zx T A s (.sw e a) c
 |.aN a=>∃t c d,t<=A.length/\0<=s.rd p/\a[(s.rd p).toNat]?=some d/\(∀w∈jF d,eI T A V (A.length+1) t w.e/\xE w.e=0/\dU T A s.rd w.e 0=[]/\∃k,Sm.mP (eG a) w.to=some k/\k=rN a w.to)/\(∀x∈dQ (.aN a),V x/\t<=iU A x)/\a[fC T A s p (.aN a)]?=some c
   /\(∀w∈kS c,eI T A (λx=>V x\/∃v∈dr (dP c),v.name=x) (A.length+1) (A.length+1) w.e/\xE w.e=0/\dU T A (oG T F A s p (.aN a) c).rd w.e 0=[]/\∃k,Sm.mP (eG a) w.to=some k/\k=rN a w.to)/\zx T A s (.aN a) c
 |.reset e b=>∃t,t<=A.length/\eI T A V (A.length+1) t e/\(∀x∈dQ (.reset e b),V x/\t<=iU A x)/\zx T A s (.reset e b) (.mk e0 b [] [])
def MT(k:Nat)(v:Int):Prop:=match T.pt k with
 |.val t=>VT t v
 |.any=>True
 |_=>False
def Og(s:Rs)(p:Nat):aB->Prop
 |.df x e=>(∃v sb i,get A x=some (some v,sb,i))->∀a∈dU T A s.rd e p,MT T a.1 a.2
 |.call _ _ _ c b d e=>(d=true->∀a∈dU T A s.rd e (p+1),MT T a.1 a.2)/\(∀a∈dU T A s.rd c (p+1+xE e),MT T a.1 a.2)/\∀a∈dU T A s.rd b (p+1+xE e+xE c),MT T a.1 a.2
 |.sw e _=>∀a∈dU T A s.rd e p,MT T a.1 a.2
 |.aN _=>True
 |.reset e _=>∀a∈dU T A s.rd e p,MT T a.1 a.2
def Bk(V:Nm->Prop)(s:Rs)(p:Nat)(q:aB):Prop:=zy T F A Ov az V s p q/\Og T A s p q
def Mb(V:Nm->Prop)(v:Va):Prop:=T.ty v.name=v.ty/\T.ls v.name=v.last/\∃o sb i,get A v.name=some (o,sb,i)/\sb<=i/\match v.clock with
 |none=>o.isSome=true
 |some (k,x)=>V x/\T.ty x=.ft/\Kn A x sb/\(o.isSome=true↔iz k=val A x)
inductive sd:(Nm->Prop)->Rs->Nat->bF->Prop where
 |mk {V:Nm->Prop} {s:Rs} {a:Nat} {b:bF} (c:∀v∈dr b,Mb T A (λx=>V x\/∃v∈dr b,v.name=x) v)
   (hl:∀(i:Nat) (v:Va),(dr b)[i]?=some v->v.last=true->(Sm.b_ ((dr b).map d_) a)[i]?=some (some (T.lp v.name))/\T.pt (T.lp v.name)=.val v.ty/\VT v.ty (val A v.name))
   (hq:∀(j:Nat) (q:aB) (p:Nat),(cP b)[j]?=some q->(Sm.dJ (fy (cP b)) (a+Sm.aS ((dr b).map d_)))[j]?=some p->Bk T F A Ov az (λx=>V x\/∃v∈dr b,v.name=x) s p q)
   (hb:∀(j:Nat) (q:aB) (p:Nat) (c:a_),(cP b)[j]?=some q->(Sm.dJ (fy (cP b)) (a+Sm.aS ((dr b).map d_)))[j]?=some p->(cB q)[fC T A s p q]?=some c->
    sd (λx=>V x\/∃v∈dr b,v.name=x) (oG T F A s p q c) (nL q p (fC T A s p q)) (dP c)):sd V s a b
end
def zA(T:fB):aB->Nat->Prop
 |.df _ e,p=>iA T e p
 |.call _ _ f a b _ e,p=>(∀j,f=nm 102 j->T.pt p=.call j)/\iA T e (p+1)/\iA T a (p+1+xE e)/\iA T b (p+1+xE e+xE a)
 |.sw e _,p=>iA T e p
 |.aN a,p=>T.pt p=.aN a.length
 |.reset e _,p=>iA T e p
inductive qj(T:fB):Nat->bF->Prop where
 |mk {a:Nat} {b:bF} (c:∀(i:Nat) (v:Va),(dr b)[i]?=some v->T.ty v.name=v.ty/\T.ls v.name=v.last/\(v.last=true->(Sm.b_ ((dr b).map d_) a)[i]?=some (some (T.lp v.name))/\T.pt (T.lp v.name)=.val v.ty))
   (hq:∀(j:Nat) (q:aB) (p:Nat),(cP b)[j]?=some q->(Sm.dJ (fy (cP b)) (a+Sm.aS ((dr b).map d_)))[j]?=some p->zA T q p)
   (hb:∀(j:Nat) (q:aB) (p k:Nat) (c:a_),(cP b)[j]?=some q->(Sm.dJ (fy (cP b)) (a+Sm.aS ((dr b).map d_)))[j]?=some p->(cB q)[k]?=some c->qj T (nL q p k) (dP c)):qj T a b
variable{x:Nm}{n n':Nat}
def JY(l:List UInt8):Nat:=l.foldl (λa b=>10*a+(b.toNat-48)) 0
def rO(d:Nat)(h:d<10):(strOfNums [IntKind.u8.wrap (48+(d:Int))]).data.toList=[UInt8.ofNat (48+d)]:=by
 match d,h with
 |0,_=>rfl
 |1,_=>rfl
 |2,_=>rfl
 |3,_=>rfl
 |4,_=>rfl
 |5,_=>rfl
 |6,_=>rfl
 |7,_=>rfl
 |8,_=>rfl
 |9,_=>rfl
def DS(d:Nat)(h:d<10):(UInt8.ofNat (48+d)).toNat-48=d:=by
 match d,h with
 |0,_=>rfl
 |1,_=>rfl
 |2,_=>rfl
 |3,_=>rfl
 |4,_=>rfl
 |5,_=>rfl
 |6,_=>rfl
 |7,_=>rfl
 |8,_=>rfl
 |9,_=>rfl
def GD(n:Nat):JY (dg n).data.toList=n:=by
 induction n using Nat.strongRecOn with
 |ind n b=>
  rw[dg];split
  .rename_i h;rw[rO n h];simp only[JY,aty,List.foldl_nil];rw[DS n h];omega
  .rename_i h;have a:=b (n/10) (by omega);rw[auy,auF,rO (n%10) (by omega)];unfold JY at a⊢;rw[auM,a];simp only[aty,List.foldl_nil];rw[DS (n%10) (by omega)];omega
def zC(c:UInt8)(k:Nat):(nm c k).data.toList=c::(dg k).data.toList:=by
 unfold nm;rw[auy,auF];rfl
def iC{c a:UInt8}{k k':Nat}(h:nm c k=nm a k'):c=a/\k=k':=by
 have b:(nm c k).data.toList=(nm a k').data.toList:=by rw[h]
 rw[zC,zC]at b;injection b with d e
 exact⟨d,by rw[<-GD k,e,GD k']⟩
def M0(k:Nat):(dg k).data.toList≠[]:=by
 rw[dg];split
 .rename_i h;rw[rO k h];simp
 .rw[auy,auF,rO _ (by omega)];simp
def Ln(c a:UInt8)(k:Nat):nm c k≠⟨#[a]⟩:=by
 intro h;have b:(nm c k).data.toList=[a]:=by rw[h]
 rw[zC]at b;injection b with _ d
 exact M0 k d
def Gt(n:Nat)(x:Nm):Prop:=∃a k,n<k/\x=nm a k
def gD(n n':Nat)(x:Nm):Prop:=∃a k,n<k/\k<=n'/\x=nm a k
def gD.gt(h:gD n n' x):Gt n x:=by obtain⟨c,k,a,_,b⟩:=h;exact⟨c,k,a,b⟩
def gD.not{n n':Nat}{x:Nm}(h:gD n n' x):¬Gt n' x:=by
 rintro⟨d,e,f,a⟩;obtain⟨c,k,g,i,b⟩:=h;rw[b]at a;have:=(iC a).2;omega
def gD.mono{m a:Nat}(h:gD n n' x)(d:m<=n)(e:n'<=a):gD m a x:=by obtain⟨c,k,f,g,b⟩:=h;exact⟨c,k,by omega,by omega,b⟩
def If{l:List Nm}{y:Nm} :y∈Sm.la l x↔y∈l\/y=x:=by
 unfold Sm.la;split
 .rename_i h;rw[Sm.oL]at h;constructor
  .exact .inl
  .grind
 .simp
def zD{r:List Nm} :∀{l:List Nm} {y:Nm},y∈r.foldl Sm.la l↔y∈l\/y∈r:=by
 induction r with
 |nil=>intro l y;simp
 |cons x r a=>intro l y;rw[aty,a,If,asQ,or_assoc]
def tu{aj:List Sm.a_} :∀{l:List Nm} {x:Nm},x∈Sm.jZ l aj↔x∈l\/∃a∈aj,x∈Sm.kp a.cy:=by
 induction aj with
 |nil=>intro l x;simp[Sm.jZ]
 |cons a r b=>
  intro l x;rw[Sm.jZ,b,zD];have e:Sm.rz a=Sm.kp a.cy:=by cases a;rw[Sm.rz];rfl
  rw[e];constructor
  .grind
  .grind
def DU{b:List Sm.Va}{a:List Sm.aB} :∀{l:List Nm} {x:Nm},x∈Sm.lu b l a↔x∈l\/∃q∈a,x∈Sm.cm q/\(Sm.fN b x).isNone=true:=by
 induction a with
 |nil=>intro l x;simp[Sm.lu]
 |cons q r c=>
  intro l x;rw[Sm.lu,c,zD,aum];constructor
  .grind
  .grind
def mV{b:bF} :x∈Sm.kp (eD b)↔(∃q∈cP b,x∈dQ q)/\∀v∈dr b,v.name≠x:=by
 obtain⟨a,f⟩:=b;rw[eD,Sm.kp,DU];have g:(Sm.fN (a.map d_) x).isNone=true↔ ∀v∈a,v.name≠x:=by
  unfold Sm.fN;rw[Option.isNone_iff_eq_none,atE];constructor
  .intro h v c e;have:=h (d_ v) (as1 c);simp[d_,e]at this
  .intro h w d;obtain⟨v,c,rfl⟩:=asK.1 d;simp[d_,h v c]
 simp only[cP,dr];rw[io];constructor
 .grind
 .grind
def eh{q:aB} :x∈dQ q↔(match q with|.df y _=>x=y|.call y z _ _ _ _ _=>x=y\/x=z|_=>∃a∈cB q,x∈dA a):=by
 have c:∀c:List a_,(∃a∈eG c,x∈Sm.kp a.cy)↔ ∃a∈c,x∈dA a:= λi=>by
  rw[oS];constructor
  .rintro⟨a,f,h⟩;obtain⟨d,g,rfl⟩:=asK.1 f;exact⟨d,g,by cases d;exact h⟩
  .rintro⟨a,d,h⟩;exact⟨oF a,as1 d,by cases a;exact h⟩
 cases q with
 |df y e=>simp[dQ,dx,Sm.cm,Sm.jZ]
 |call y z f a b d e=>simp[dQ,dx,Sm.cm,Sm.jZ]
 |sw e d=>simp only[dQ,dx,Sm.cm,tu,atS,false_or];exact c d
 |aN d=>simp only[dQ,dx,Sm.cm,tu,atS,false_or];exact c d
 |reset e b=>
  have:=c [.mk e0 b [] []];simp only[dQ,dx,Sm.cm,tu,atS,false_or];exact this
def qS(l r:List Sm.aB):∀a,Sm.dJ (l++r) a=Sm.dJ l a++Sm.dJ r (a+Sm.aR (l.map Sm.qP)):=by
 induction l with
 |nil=>intro a;simp[Sm.dJ,Sm.aR]
 |cons q l b=>intro a;simp only[atp,Sm.dJ,asT,Sm.i_];rw[b,atd]
end Go.Ex
namespace Go.Ex
open Go.Mt Go.Mk
variable{n n' an:Nat}{s:Sc}{outs vs:List Va}{aj:List a_}{qs:List aB}{Q:Sc->List Va->Nat->Nat->List aB->List Va->Prop}
abbrev eZ(l:List Va)(x:Nm):Prop:=∃v∈l,v.name=x
abbrev DV(V:Nm->Prop)(b:bF)(x:Nm):Prop:=V x\/∃v∈dr b,v.name=x
inductive vW:(Nm->Prop)->bF->Prop where
 |mk {V:Nm->Prop} {b:bF} (a:((dr b).map (·.name)).Nodup) (c:∀v∈dr b,¬V v.name) (d:∀(i j:Nat) (q a:aB) (x:Nm),(cP b)[i]?=some q->(cP b)[j]?=some a->x∈dQ q->x∈dQ a->i=j)
   (hs:∀q∈cP b,∀x∈dQ q,DV V b x) (hb:∀q∈cP b,∀a∈cB q,vW (DV V b) (dP a)) (hx:∀v∈dr b,∃q∈cP b,v.name∈dQ q):vW V b
def Uq(a:List aB):Prop:=∀(i j:Nat) (q b:aB) (x:Nm),a[i]?=some q->a[j]?=some b->x∈dQ q->x∈dQ b->i=j
def Uq.nil:Uq []:= λi j q a x h=>by simp at h
def Uq.one(q:aB):Uq [q]:= λi j f b x a d _ _=>by
 have e:∀{k:Nat} {c:aB},[q][k]?=some c->k=0:= λ{k c} h=>by cases k with
  |zero=>rfl
  |succ k=>simp at h
 rw[e a,e d]
def Uq.app{l r:List aB}(h:Uq l)(k:Uq r)(m:∀q∈l,∀a∈r,∀x,x∈dQ q->x∈dQ a->False):Uq (l++r):=by
 intro i j q d x a b e f;rcases asp i l.length with c|c
 .rw[asl c]at a;rcases asp j l.length with g|g
  .rw[asl g]at b;exact h i j q d x a b e f
  .grind
 .rw[ass c]at a;rcases asp j l.length with g|g
  .grind
  .rw[ass g]at b;have:=k _ _ q d x a b e f;omega
theorem Uq.cons{q:aB}{r:List aB}(a:Uq r)(b:∀a∈r,∀x,x∈dQ q->x∈dQ a->False):Uq (q::r):=by
 have:=Uq.app (Uq.one q) a (λa a a a x a a=>by grind);simpa using this
structure mz(a:Sc->List Va->Nat->Nat->bF->Prop):Prop where
 le:∀s outs n n' b,a s outs n n' b->n<=n'
 st:∀s outs n n' b,a s outs n n' b->∀V:Nm->Prop,(∀v∈outs,V v.name)->(∀x,V x->¬gD n n' x)->(outs.map (·.name)).Nodup->
  (∀v∈dr b,gD n n' v.name)/\(∀x,x∈Sm.kp (eD b)↔eZ outs x)/\vW V b
def LS.names{a b:List Va}(h:LS a b):(b.map (·.name)).Sublist (a.map (·.name)):=by
 induction h with
 |nil=>exact List.Sublist.refl _
 |cH h w c=>simp only[asN];exact List.Sublist.append c (List.Sublist.refl _)
 |drop h w d c=>simp;exact c.trans (List.sublist_append_left _ _)
section
variable{Sub:Sc->List Va->Nat->Nat->bF->Prop}
def lK(g:∀s outs n n' b,Sub s outs n n' b->n<=n'){names:List Nm}(h:mT Sub s outs names n aj n'):
  n<=n'/\∀(i:Nat) (a:a_),aj[i]?=some a->∃c b l d e,names[i]?=some c/\a=.mk c b [] []/\LS outs l/\(i=0->l=outs)/\n<=d/\e<=n'/\Sub s.br l d e b:=by
 induction h with
 |nil=>exact⟨asj _,λi a h=>by simp at h⟩
 | @snoc aj j k h c m l o p b d e=>
  obtain⟨q,r⟩:=e;have t:=g _ _ _ _ _ d;refine⟨by omega,λi a u=>?_⟩;rcases asp i aj.length with f|f
  .grind
  .grind
theorem wS(H:∀s outs n n' b,Sub s outs n n' b->n<=n'){N:Nat}(h:uq Sub s outs N n aj n'):
  n<=n'/\∀(i:Nat) (a:a_),aj[i]?=some a->∃b l c d f g,a=.mk (nm 83 i) b f g/\LS outs l/\(i=0->l=outs)/\n<=c/\d<=n'/\Sub s.br l c d b/\zm s N f/\zm (s.more l) N g:=by
 induction h with
 |nil=>exact⟨asj _,λi a h=>by simp at h⟩
 | @snoc aj g j h l o p k q b f m r t=>
  obtain⟨u,v⟩:=t;have I:=H _ _ _ _ _ f;refine⟨by omega,λi a c=>?_⟩;rcases asp i aj.length with d|d
  .rw[asl d]at c;obtain⟨w,x,y,z,A,B,C,D,E,F,J,G⟩:=v i a c;exact⟨w,x,y,z,A,B,C,D,E,F,by omega,G⟩
  .rw[ass d]at c;have w:i=aj.length:=by
    grind
   subst w;simp at c;subst c;exact⟨b,l,g,j,k,m,W,o,λe=>p (atb e),u,asj _,f,q,r⟩
structure zE(outs:List Va)(n n':Nat)(e:List aB)(c:List Va):Prop where
 v:∀v∈c,gD n n' v.name
 nd:(c.map (·.name)).Nodup
 d:(∀x,eZ outs x->¬gD n n' x)->(outs.map (·.name)).Nodup->∀x,(∃q∈e,x∈dQ q)↔eZ outs x\/eZ c x
 u:(∀x,eZ outs x->¬gD n n' x)->(outs.map (·.name)).Nodup->Uq e
 b:∀V:Nm->Prop,(∀v∈outs,V v.name)->(∀x,eZ outs x->¬gD n n' x)->(outs.map (·.name)).Nodup->(∀x,V x->gD n n' x->eZ c x)->∀q∈e,∀a∈cB q,vW V (dP a)
def zE.pre{outs:List Va}{n m n':Nat}{q0 l:List aB}{v0 f:List Va}(c:n<=m)(o:m<=n')(d:∀v∈v0,gD n m v.name)(t:(v0.map (·.name)).Nodup)(i:∀x,(∃q∈q0,x∈dQ q)↔eZ v0 x)(u:Uq q0)(z:∀q∈q0,∀a∈cB q,False)
  (h:zE outs m n' l f):zE outs n n' (q0++l) (v0++f):=by
 have s:∀x,eZ v0 x->eZ f x->False:=by
  rintro x ⟨v,j,rfl⟩ ⟨w,r,e⟩;have y:=d v j;have g:=h.v w r;rw[e]at g;exact y.not g.gt
 refine⟨λv C=>?_,?_,λa b x=>?_,λa b=>?_,λV D a b E q F k p=>?_⟩
 .rcases ast.1 C with g|g
  .exact(d v g).mono (asj _) o
  .exact(h.v v g).mono c (asj _)
 .rw[asN,ati];refine⟨t,h.nd,λx r G y e=>?_⟩;subst e;obtain⟨v,g,A⟩:=asK.1 r;obtain⟨w,j,B⟩:=asK.1 y;exact s x ⟨v,g,A⟩ ⟨w,j,B⟩
 .have j:=h.d (λy b d=>a y b (d.mono c (asj _))) b x;constructor
  .rintro⟨q,y,r⟩;rcases ast.1 y with g|g
   .obtain⟨v,w,e⟩:=(i x).1 ⟨q,g,r⟩;exact .inr ⟨v,asw _ w,e⟩
   .rcases j.1 ⟨q,g,r⟩with g|⟨v,w,e⟩
    .exact .inl g
    .exact .inr ⟨v,asz _ w,e⟩
  .rintro(g|⟨v,r,e⟩)
   .obtain⟨q,w,y⟩:=j.2 (.inl g);exact⟨q,asz _ w,y⟩
   .rcases ast.1 r with g|g
    .obtain⟨q,w,y⟩:=(i x).2 ⟨v,g,e⟩;exact⟨q,asw _ w,y⟩
    .obtain⟨q,w,y⟩:=j.2 (.inr ⟨v,g,e⟩);exact⟨q,asz _ w,y⟩
 .have r:∀x,eZ outs x->¬gD m n' x:= λy G H=>a y G (H.mono c (asj _))
  refine Uq.app u (h.u r b) λq I J K x A B=>?_
  obtain j:=(i x).1 ⟨q,I,A⟩;rcases(h.d r b x).1 ⟨J,K,B⟩with g|g
  .obtain⟨v,w,e⟩:=j;exact a x g (e▸(d v w).mono (asj _) o)
  .exact s x j g
 .rcases ast.1 F with g|g
  .exact(z q g k p).elim
  .refine h.b V D (λy b d=>a y b (d.mono c (asj _))) b (λx w j=>?_) q g k p;obtain⟨v,r,e⟩:=E x w (j.mono c (asj _));rcases ast.1 r with g|g
   .exact((d v g).not (e▸j.gt)).elim
   .exact⟨v,g,e⟩
def tv(a:mz Sub)(h:GQ Sub an s outs n n' qs vs):n<=n':=by
 induction h with
 |sc h=>exact asj _
 |tm d c f=>exact(lK a.le c).1
 |pV d c f=>exact(lK a.le c).1
 |aN N f c d=>exact(wS a.le c).1
 |reset d c=>exact a.le _ _ _ _ _ c
 |call j i c b f g l e d h k=>omega
 |mx c b k j e cH f g l m d o h i=>omega
theorem vX(f:mz Sub)(i:0<aj.length)(g:∀(i:Nat) (a:a_),aj[i]?=some a->∃b l c d,dP a=b/\LS outs l/\(i=0->l=outs)/\n<=c/\d<=n'/\∃f,Sub f l c d b):
  ((∀x,eZ outs x->¬gD n n' x)->(outs.map (·.name)).Nodup->∀x,(∃a∈aj,x∈dA a)↔eZ outs x)/\∀V:Nm->Prop,(∀v∈outs,V v.name)->(outs.map (·.name)).Nodup->(∀x,V x->¬gD n n' x)->∀a∈aj,vW V (dP a):=by
 refine⟨λj d x=>⟨?_,λk=>?_⟩,λV m d o a c=>?_⟩
 .rintro⟨a,c,k⟩;obtain⟨l,p⟩:=asJ.1 c;obtain⟨b,u,w,y,rfl,h,A,q,r,z,s⟩:=g l a p;have:=f.st _ _ _ _ _ s (eZ outs) (λv c=>⟨v,h.mem v c,rfl⟩) (λy c d=>j y c (d.mono q r)) ((LS.names h).nodup d);obtain⟨v,t,e⟩:=(this.2.1 x).1 k;exact⟨v,h.mem v t,e⟩
 .have c:=aso i;obtain⟨b,l,s,t,y,w,h,p,q,u,r⟩:=g 0 _ c;have e:=h W;subst e;have:=f.st _ _ _ _ _ r (eZ l) (λv c=>⟨v,c,rfl⟩) (λy c d=>j y c (d.mono p q)) d;exact⟨aj[0],asE i,by grind⟩
 .obtain⟨l,p⟩:=asJ.1 c;obtain⟨b,t,u,w,rfl,h,z,q,r,y,s⟩:=g l a p;exact(f.st _ _ _ _ _ s V (λv c=>m v (h.mem v c)) (λy c d=>o y c (d.mono q r)) ((LS.names h).nodup d)).2.2
def CD(d:mz Sub)(h:GQ Sub an s outs n n' qs vs):zE outs n n' qs vs:=by
 have l:∀{outs:List Va} {n n':Nat} {q:aB},(∀x,x∈dQ q↔ ∃a∈cB q,x∈dA a)->0<(cB q).length->(∀(i:Nat) (a:a_),(cB q)[i]?=some a->∃b l d f,dP a=b/\LS outs l/\(i=0->l=outs)/\n<=d/\f<=n'/\∃a,Sub a l d f b)->zE outs n n' [q] []:=by
  intro outs n n' q k r t;have i:=vX d r t;refine⟨λv a=>(by cases a),aus,λj g x=>?_,λ_ _=>Uq.one q,λV u j g w y f p z=>?_⟩
  .constructor
   .rintro⟨y,f,o⟩;rw[asx]at f;subst f;exact .inl ((i.1 j g x).1 ((k x).1 o))
   .rintro(o|⟨v,a,_⟩)
    .exact⟨q,atw _,(k x).2 ((i.1 j g x).2 o)⟩
    .cases a
  .rw[asx]at f;subst f;exact i.2 V u g (λo A B=>by obtain⟨v,a,_⟩:=w o A B;cases a) p z
 induction h with
 | @sc s outs n q h=>
  have E:∀{outs:List Va} {q:List aB},py s outs q->q.length=outs.length/\(∀(i:Nat) (e:aB),q[i]?=some e->∃w a,outs[i]?=some w/\e=.df w.name a):=by
   intro outs q h
   induction h with
   |nil=>exact⟨W,λi e h=>by simp at h⟩
   | @snoc C q h w e D g=>
    refine⟨by simp[g.1],λk x a=>?_⟩;rcases asp k q.length with i|i
    .rw[asl i]at a;obtain⟨z,t,A,B⟩:=g.2 k x a;exact⟨z,t,by rw[asl (by rw[<-g.1];exact i)];exact A,B⟩
    .rw[ass i]at a;have t:k-q.length=0:=by
      rcases asR (k-q.length)with e|e
      .exact e
      .rw[asr (by simp;omega)]at a;cases a
     rw[t]at a;simp at a;subst a;exact⟨w,e,by rw[ass (by rw[<-g.1];exact i),<-g.1,t];rfl,rfl⟩
  obtain⟨I,j⟩:=E h;refine⟨λv f=>(by cases f),aus,λ_ _ x=>?_,λ_ u=>?_,λV _ _ _ _ o p r y=>?_⟩
  .constructor
   .rintro⟨o,p,a⟩;obtain⟨i,g⟩:=asJ.1 p;obtain⟨w,t,k,rfl⟩:=j i o g;have:x=w.name:=eh.1 a;exact .inl ⟨w,asn k,this.symm⟩
   .rintro(⟨v,f,rfl⟩|⟨v,f,_⟩)
    .obtain⟨i,g⟩:=asJ.1 f;have k:i<q.length:=by
      rcases asp i outs.length with h|h
      .omega
      .rw[asr h]at g;cases g
     obtain⟨w,z,a,t⟩:=j i q[i] (aso k);rw[g]at a;injection a with a
     subst a;refine⟨q[i],asE k,?_⟩;rw[t];exact eh.2 W
    .cases f
  .intro i g r b x k t z A;obtain⟨F,G,B,rfl⟩:=j i r k;obtain⟨H,J,C,rfl⟩:=j g b t;have a:(outs.map (·.name))[i]?=some x:=by simp[B,eh.1 z]
   have D:(outs.map (·.name))[g]?=some x:=by simp[C,eh.1 A]
   have w:i<(outs.map (·.name)).length:=by
    rcases asp i (outs.map (·.name)).length with h|h
    .exact h
    .rw[asr h]at a;cases a
   exact(aut w u).1 (a.trans D.symm)
  .obtain⟨i,a⟩:=asJ.1 p;obtain⟨w,g,k,rfl⟩:=j i o a;cases y
 | @tm s outs n n' e r x k y=>
  exact l (λx=>eh) (by show 0<r.length;omega) (λi a o=>by obtain⟨c,b,f,g,j,_,rfl,p,q,t,u,w⟩:=(lK d.le k).2 i a o;exact⟨b,f,g,j,W,p,q,t,u,_,w⟩)
 | @pV s outs n n' e r x k y=>
  exact l (λx=>eh) (by show 0<r.length;omega) (λi a o=>by obtain⟨c,b,f,g,j,_,rfl,p,q,t,u,w⟩:=(lK d.le k).2 i a o;exact⟨b,f,g,j,W,p,q,t,u,_,w⟩)
 | @aN s outs n n' r N y k x=>
  exact l (λx=>eh) (by show 0<r.length;omega) (λi a o=>by obtain⟨b,f,g,j,z,A,rfl,p,q,t,u,w,_⟩:=(wS d.le k).2 i a o;exact⟨b,f,g,j,W,p,q,t,u,_,w⟩)
 | @reset s outs n n' e b k f=>
  refine l (λx=>eh) Nat.one_pos (λi j a=>?_);have g:i=0:=by
   cases i with
   |zero=>rfl
   |succ i=>simp[cB]at a
  subst g;simp[cB]at a;subst a;exact⟨b,outs,n,n',W,LS.refl _,λ_=>rfl,asj _,asj _,_,f⟩
 | @call s outs n n' k vs o t g b f p u e r h i=>
  have j:=tv d h;refine zE.pre (m:=n+2) (q0:=[_]) (v0:=[_,_]) (by omega) j ?_ ?_ ?_ (Uq.one _) ?_ i
  .intro v a;simp at a;rcases a with rfl|rfl
   .exact⟨117,n+1,by omega,by omega,rfl⟩
   .exact⟨117,n+2,by omega,by omega,rfl⟩
  .simp;intro e;have:=(iC e).2;omega
  .intro x;simp only[asx,exists_eq_left,eh,eZ,asQ,atS,ave,exists_eq_or_imp];constructor
   .rintro(h|h)<;>simp[cY,h]
   .rintro(h|h)
    .exact .inl h.symm
    .exact .inr h.symm
  .intro q a g f;rw[asx]at a;subst a;cases f
 | @mx s outs n n' t vs p b u A e cH i y B C z D h q=>
  have r:=tv d h;have j:nm 99 (n+1)≠nm 119 (n+2):= λe=>by have:=(iC e).2;omega
  have k:nm 99 (n+1)≠nm 122 (n+3):= λe=>by have:=(iC e).2;omega
  have o:nm 119 (n+2)≠nm 122 (n+3):= λe=>by have:=(iC e).2;omega
  refine zE.pre (m:=n+3) (q0:=[_,_,_]) (v0:=[_,_,_]) (by omega) r ?_ ?_ ?_ ?_ ?_ q
  .intro v a;simp at a;rcases a with rfl|rfl|rfl
   .exact⟨99,n+1,by omega,by omega,rfl⟩
   .exact⟨119,n+2,by omega,by omega,rfl⟩
   .exact⟨122,n+3,by omega,by omega,rfl⟩
  .simp;exact⟨⟨j,k⟩,o⟩
  .intro x;simp only[eZ,asQ,atS,ave,exists_eq_or_imp,exists_eq_left,eh];constructor
   .rintro(h|h|h)<;>simp[cY,h]
   .rintro(h|h|h)
    .exact .inl h.symm
    .exact .inr (.inl h.symm)
    .exact .inr (.inr h.symm)
  .refine Uq.cons (Uq.cons (Uq.one _) ?_) ?_
   .intro w g x a f;rw[asx]at g;subst g;have a:=eh.1 a;have f:=eh.1 f;exact o (a.symm.trans f)
   .intro w f x a g;have a:=eh.1 a;simp at f;rcases f with rfl|rfl
    .exact j (a.symm.trans (eh.1 g))
    .exact k (a.symm.trans (eh.1 g))
  .intro f a p i;simp at a;rcases a with rfl|rfl|rfl<;>cases i
def CE(I:∀s d n a c vs,Q s d n a c vs->n<=a/\zE d n a c vs){J:Sc}{B:List Va}{o:Nat}{m:List Va}{q:List aB}(h:GL Q J B o s m n q vs):
  o<=n/\∃a,B=a++m/\zE a o n q vs:=by
 induction h with
 |start=>
  refine⟨asj _,[],W,λv c=>(by cases c),aus,λ_ _ x=>?_,λ_ _=>Uq.nil,λV _ _ _ _ q a=>(by cases a)⟩;constructor
  .rintro⟨q,a,_⟩;cases a
  .rintro(⟨q,a,_⟩|⟨q,a,_⟩)<;>cases a
 | @step s m n C q vs R L h y t S T K M=>
  obtain⟨k,z,N,f⟩:=M;obtain⟨l,i⟩:=I _ _ _ _ _ _ K;have H:∀x,eZ vs x->eZ L x->False:=by
   rintro x ⟨v,p,rfl⟩ ⟨w,F,e⟩;have G:=f.v v p;have g:=i.v w F;rw[e]at g;exact G.not g.gt
  have inl:∀{a b:List Va} {x:Nm},eZ (a++b) x↔eZ a x\/eZ b x:= λ{c b a} =>by
   constructor
   .rintro⟨v,j,e⟩;rcases ast.1 j with g|g
    .exact .inl ⟨v,g,e⟩
    .exact .inr ⟨v,g,e⟩
   .rintro(⟨v,j,e⟩|⟨v,j,e⟩)
    .exact⟨v,asw _ j,e⟩
    .exact⟨v,asz _ j,e⟩
  refine⟨by omega,z++m.take y,by rw[asM,as9];exact N,λv j=>?_,?_,λd a x=>?_,λd a=>?_,λV D d a E c A r u=>?_⟩
  .rcases ast.1 j with g|g
   .exact(f.v v g).mono (asj _) l
   .exact(i.v v g).mono k (asj _)
  .rw[asN,ati];refine⟨f.nd,i.nd,λx g P p e=>?_⟩;subst e;obtain⟨v,t,F⟩:=asK.1 g;obtain⟨w,G,O⟩:=asK.1 p;exact H x ⟨v,t,F⟩ ⟨w,G,O⟩
  .rw[asN,ati]at a;have p:=f.d (λy a c=>d y (inl.2 (.inl a)) (c.mono (asj _) l)) a.1 x;have w:=i.d (λy a c=>d y (inl.2 (.inr a)) (c.mono k (asj _))) a.2.1 x;rw[inl,inl];constructor
   .rintro⟨c,A,F⟩;rcases ast.1 A with g|g
    .rcases p.1 ⟨c,g,F⟩with g|g
     .exact .inl (.inl g)
     .exact .inr (.inl g)
    .rcases w.1 ⟨c,g,F⟩with g|g
     .exact .inl (.inr g)
     .exact .inr (.inr g)
   .rintro((g|g)|(g|g))
    .obtain⟨c,F,G⟩:=p.2 (.inl g);exact⟨c,asw _ F,G⟩
    .obtain⟨c,F,G⟩:=w.2 (.inl g);exact⟨c,asz _ F,G⟩
    .obtain⟨c,F,G⟩:=p.2 (.inr g);exact⟨c,asw _ F,G⟩
    .obtain⟨c,F,G⟩:=w.2 (.inr g);exact⟨c,asz _ F,G⟩
  .rw[asN,ati]at a;have F:∀x,eZ z x->¬gD o n x:= λy a c=>d y (inl.2 (.inl a)) (c.mono (asj _) l)
   have G:∀x,eZ (m.take y) x->¬gD n C x:= λy a c=>d y (inl.2 (.inr a)) (c.mono k (asj _))
   refine Uq.app (f.u F a.1) (i.u G a.2.1) λr u b P x t O=>?_
   rcases(f.d F a.1 x).1 ⟨r,u,t⟩with⟨v,g,rfl⟩|⟨v,g,rfl⟩<;>rcases(i.d G a.2.1 _).1 ⟨b,P,O⟩with⟨w,p,e⟩|⟨w,p,e⟩
   .exact a.2.2 _ (as1 g) _ (as1 p) e.symm
   .exact d _ (inl.2 (.inl ⟨v,g,W⟩)) (e▸(i.v w p).mono k (asj _))
   .exact d _ (inl.2 (.inr ⟨w,p,W⟩)) (e▸(f.v v g).mono (asj _) l)
   .exact H v.name ⟨v,g,W⟩ ⟨w,p,e⟩
  .rw[asN,ati]at a;have G:∀x,eZ z x->¬gD o n x:= λy a c=>d y (inl.2 (.inl a)) (c.mono (asj _) l)
   have O:∀x,eZ (m.take y) x->¬gD n C x:= λy a c=>d y (inl.2 (.inr a)) (c.mono k (asj _))
   rcases ast.1 A with g|g
   .refine f.b V (λv a=>D v (asw _ a)) G a.1 (λx F p=>?_) c g r u;rcases inl.1 (E x F (p.mono (asj _) l))with g|⟨w,P,e⟩
    .exact g
    .exact(p.not (e▸(i.v w P).gt)).elim
   .refine i.b V (λv a=>D v (asz _ a)) O a.2.1 (λx F p=>?_) c g r u;rcases inl.1 (E x F (p.mono k (asj _)))with⟨w,P,e⟩|g
    .exact((e▸f.v w P).not p.gt).elim
    .exact g
def CF{m:Nat}(h:NV n vs m):n<=m/\(∀v∈vs,gD n m v.name)/\(vs.map (·.name)).Nodup:=by
 induction h with
 |nil=>exact⟨asj _,λv a=>(by cases a),aus⟩
 | @snoc vs a h w i p q j=>
  obtain⟨k,b,l⟩:=j;have d:gD a (a+1) w.name:=⟨118,a+1,by omega,by omega,i⟩;refine⟨by omega,λv f=>?_,?_⟩
  .rcases ast.1 f with g|g
   .exact(b v g).mono (asj _) (by omega)
   .rw[asx]at g;subst g;exact d.mono k (asj _)
  .rw[asN,ati];refine⟨l,by simp,λx g y c e=>?_⟩;subst e;obtain⟨v,o,rfl⟩:=asK.1 g;simp at c;exact(b v o).not (c▸d.gt)
def GF(t:∀s f n a c d,Q s f n a c d->n<=a/\zE f n a c d):mz (DJ Q):=by
 constructor
 .rintro s j n d b ⟨f,g,h,q,k,a,i,c,rfl⟩;have:=(CF a).1;have:=(CE t c).1;omega
 .rintro O r B u b ⟨f,D,S,P,s,E,T,F,rfl⟩ V h i G;obtain⟨l,j,w⟩:=CF E;obtain⟨H,U,y,d⟩:=CE t F;rw[asL]at y;subst y;have m:∀v∈f++s,gD B u v.name:= λv a=>by
   rcases ast.1 a with g|g
   .exact(j v g).mono (asj _) H
   .exact(d.v v g).mono l (asj _)
  have A:∀x,eZ r x->∀v∈f++s,v.name≠x:=by
   rintro x ⟨k,z,rfl⟩ v a e;exact i _ (h k z) (e▸m v a)
  have n:((f++r).map (·.name)).Nodup:=by
   rw[asN,ati];refine⟨w,G,λx c R z e=>?_⟩;subst e;obtain⟨v,I,J⟩:=asK.1 c;obtain⟨k,K,L⟩:=asK.1 z;exact A x ⟨k,K,L⟩ v (asw _ I) J
  have o:∀x,eZ (f++r) x->¬gD D u x:=by
   rintro x ⟨v,a,rfl⟩ z;rcases ast.1 a with k|k
   .exact(j v k).not z.gt
   .exact i _ (h v k) (z.mono l (asj _))
  have g:=d.d o n;refine⟨m,λx=>?_,⟨?_,λv a M=>i _ M (m v a),d.u o n,λp q x c=>?_,λp q C N=>?_,λv a=>?_⟩⟩
  .rw[mV];constructor
   .rintro⟨I,z⟩;rcases(g x).1 I with⟨v,a,e⟩|⟨v,a,e⟩
    .rcases ast.1 a with k|k
     .exact(z v (asw _ k) e).elim
     .exact⟨v,k,e⟩
    .exact(z v (asz _ a) e).elim
   .intro k;refine⟨(g x).2 (.inl ?_),A x k⟩;obtain⟨v,a,e⟩:=k;exact⟨v,asz _ a,e⟩
  .show((f++s).map (·.name)).Nodup;rw[asN,ati];refine⟨w,d.nd,λx c R z e=>?_⟩;subst e;obtain⟨v,I,J⟩:=asK.1 c;obtain⟨k,K,L⟩:=asK.1 z;have:=j v I;rw[J,<-L]at this;exact this.not (d.v k K).gt
  .rcases(g x).1 ⟨p,q,c⟩with⟨v,a,e⟩|⟨v,a,e⟩
   .rcases ast.1 a with k|k
    .exact .inr ⟨v,asw _ k,e⟩
    .exact .inl (e▸h v k)
   .exact .inr ⟨v,asz _ a,e⟩
  .refine d.b _ (λv a=>?_) o n (λx c z=>?_) p q C N
   .rcases ast.1 a with k|k
    .exact .inr ⟨v,asw _ k,W⟩
    .exact .inl (h v k)
   .rcases c with c|⟨v,a,e⟩
    .exact(i x c (z.mono l (asj _))).elim
    .rcases ast.1 a with k|k
     .exact((j v k).not (e▸z.gt)).elim
     .exact⟨v,k,e⟩
  .rcases ast.1 a with k|k
   .exact(g v.name).2 (.inl ⟨v,asw _ k,W⟩)
   .exact(g v.name).2 (.inr ⟨v,k,W⟩)
def zG(a:Nat):∀d,mz (GB a d)
 |0=>GF λs f n b c e h=>by
  have a:mz (λ_ _ _ _ _=>False):=⟨λ_ _ _ _ _ h=>h.elim,λ_ _ _ _ _ h=>h.elim⟩;exact⟨tv a h,CD a h⟩
 |d+1=>GF λs f n b c e h=>⟨tv (zG a d) h,CD (zG a d) h⟩
end
end Go.Ex
namespace Go.Ex
open Go.Mt Go.Mk
variable{r d c p:Nat}{A:Env}{t:Ty}{st:Bool}{e:E}{q:aB}
def At(a:List aB)(c:Nat)(q:aB)(p:Nat):Prop:=∃j:Nat,a[j]?=some q/\(Sm.dJ (fy a) c)[j]?=some p
def Ax(a:List aB):Nat:=Sm.aR ((fy a).map Sm.qP)
def il(l:List Sm.aB):∀c,(Sm.dJ l c).length=l.length:=by
 induction l with
 |nil=>intro c;rfl
 |cons q l a=>intro c;simp[Sm.dJ,a]
def At.nil{c q p} :¬At [] c q p:=by rintro⟨j,h,_⟩;simp at h
def At.one{q0:aB} :At [q0] c q p↔q=q0/\p=c:=by
 constructor
 .rintro⟨j,a,b⟩;cases j with
  |zero=>simp[fy,Sm.dJ]at a b;exact⟨a.symm,b.symm⟩
  |succ j=>simp at a
 .rintro⟨rfl,rfl⟩;exact⟨0,W,W⟩
theorem At.app{l r:List aB} :At (l++r) c q p↔At l c q p\/At r (c+Ax l) q p:=by
 have e:(Sm.dJ (fy l) c).length=l.length:=by rw[il,io,asD]
 have a:Sm.dJ (fy (l++r)) c=Sm.dJ (fy l) c++Sm.dJ (fy r) (c+Ax l):=by
  rw[io,asN,<-io,<-io];exact qS _ _ _
 unfold At;rw[a];constructor
 .grind
 .rintro(⟨j,b,d⟩|⟨j,b,d⟩)
  .have f:j<l.length:=by
    grind
   exact⟨j,by grind,by grind⟩
  .exact⟨l.length+j,by grind,by grind⟩
def At.cons{q0:aB}{r:List aB}{c:Nat}{q:aB}{p:Nat} :At (q0::r) c q p↔(q=q0/\p=c)\/At r (c+Sm.qP (dx q0)) q p:=by
 have h:=At.app (l:=[q0]) (r:=r) (c:=c) (q:=q) (p:=p);rw[At.one]at h;have e:Ax [q0]=Sm.qP (dx q0):=by simp[Ax,fy,Sm.aR]
 rw[e]at h;exact h
structure Wd(T:fB)(F:List (Option Int))(G:Nat->Sm.US->Prop)(Ov:Nat->Sm.US->List Int->List Int->Sm.US->Prop)(az:Nat->Sm.US)(c:Nat):Prop where
 fv:∀k t,T.pt k=.val t->VT t (Sm.bZ F k)
 fa:∀k N,T.pt k=.aN N->0<=Sm.bZ F k/\Sm.bZ F k<N
 fc:∀k j,T.pt k=.call j->F[k]?=some none
 az:∀j,j<c->G j (az j)/\(az j).i=j
 Oh:∀j,j<c->∀u,G j u->∀a b,VT .int a->VT .bool b->∃c d u',Ov j u [a,b] [c,d] u'/\VT .int c/\VT .ft d
def Ig(T:fB)(v:Va):Prop:=T.ty v.name=v.ty/\T.ls v.name=v.last/\(v.last=true->T.pt (T.lp v.name)=.val v.ty)
structure lL(T:fB)(A:Env)(V:Nm->Prop)(s:Sc)(r:Nat):Prop where
 t:MZ T s
 xx:∀v∈s.ready,v.clock=none->V v.name/\Kn A v.name r/\VT v.ty (val A v.name)
 vV:∀v∈s.da,V v.name/\T.ls v.name=true/\T.pt (T.lp v.name)=.val v.ty
section
variable{T:fB}{F:List (Option Int)}{G:Nat->Sm.US->Prop}{Ov:Nat->Sm.US->List Int->List Int->Sm.US->Prop}{az:Nat->Sm.US}{an:Nat}
def DW(c:Wd T F G Ov az an){s:Rs}(h:Mem T G s)(lo hi:Nat):Mem T G (CC F s lo hi):=by
 intro k;have a:=h k;cases b:T.pt k with
 |val t=>
  rw[b]at a;show VT t (if lo<=k/\k<hi then Sm.bZ F k else s.rd k);split
  .exact c.fv k t b
  .exact a
 |any=>trivial
 |aN N=>
  rw[b]at a;show 0<=(if lo<=k/\k<hi then Sm.bZ F k else s.rd k)/\(if lo<=k/\k<hi then Sm.bZ F k else s.rd k)<(N:Int);split
  .exact c.fa k N b
  .exact a
 |call j=>
  rw[b]at a;intro u e;have d:(if(lo<=k/\k<hi)/\F[k]?=some none then none else s.rs k)=some u:=e;split at d
  .cases d
  .grind
def lL.s{V:Nm->Prop}{s:Sc}(h:lL T A V s r){rs:Rs}(a:Mem T G rs):Ic T A rs.rd V s r:=
 ⟨h.t,h.xx,λv b=>by
  obtain⟨c,d,e⟩:=h.vV v b;have:=a (T.lp v.name);rw[e]at this;exact⟨c,d,this⟩⟩
def lL.app{V:Nm->Prop}{s:Sc}{r':Nat}(h:lL T A V s r)(B:Env)(b:r<=r'):lL T (A++B) V s r':=
 ⟨h.t,λv c d=>by
  obtain⟨e,a,f⟩:=h.xx v c d;exact⟨e,a.app B b,by rw[a.val B];exact f⟩,h.vV⟩
def lL.sn{V V':Nm->Prop}{s:Sc}(h:lL T A V s r)(e:∀x,V x->V' x):lL T A V' s r:=
 ⟨h.t,λv a f=>by obtain⟨b,c,d⟩:=h.xx v a f;exact⟨e _ b,c,d⟩,λv a=>by obtain⟨b,c,d⟩:=h.vV v a;exact⟨e _ b,c,d⟩⟩
def lL.br{A:Env}{V:Nm->Prop}{s:Sc}{r:Nat}(h:lL T A V s r):lL T A V s.br r:=⟨⟨h.t.1,λv a=>(by cases a),h.t.2.2⟩,h.xx,h.vV⟩
def lL.more{V:Nm->Prop}{s:Sc}(h:lL T A V s r){l:List Va}(a:∀v∈l,T.ty v.name=v.ty/\(v.clock=none->V v.name/\Kn A v.name r/\VT v.ty (val A v.name))):lL T A V (s.more l) r:=
 ⟨⟨λv b=>by
   rcases ast.1 b with g|g
   .exact h.t.1 v g
   .exact(a v g).1,h.t.2.1,h.t.2.2⟩,λv c b=>by
  rcases ast.1 c with g|g
  .exact h.xx v g b
  .exact(a v g).2 b,h.vV⟩
def M1{s:Sc}(h:GE s t st d e):∀{A:Env} {rd:Nat->Int} {V:Nm->Prop} {r:Nat} (B:Env) (p:Nat),lL T A V s r->cE T (A++B) rd e p=cE T A rd e p:=by
 induction h with
 |v h=>intro A rd V r B p a;cases h with
  |uO h=>cases h<;>rfl
  |var h=>obtain⟨v,b,g,f,rfl⟩:=h;exact(a.xx v b f).2.1.val B
 |c h=>intro A rd V r B p a;cases h<;>rfl
 |ite i j k b f g=>intro A rd V r B p a;simp only[cE];rw[b B _ a,f B _ a,g B _ a]
 |fO b f g=>intro A rd V r B p a;rfl
 |arrow f g b i=>
  intro A rd V r B p a;simp only[cE];rw[b B _ a]
 |last h=>intro A rd V r B p a;obtain⟨v,b,f,g,rfl⟩:=h;rfl
 |neg f b=>intro A rd V r B p a;simp only[cE];rw[b B _ a]
 |arith j k g i b f=>intro A rd V r B p a;simp only[cE];rw[b B _ a,f B _ a]
 |not f b=>intro A rd V r B p a;simp only[cE];rw[b B _ a]
 |k8 j u k g i b f=>intro A rd V r B p a;simp only[cE];rw[b B _ a,f B _ a]
def uY{s:Sc}(h:GE s t st d e):∀{A:Env} {rs:Rs} {V:Nm->Prop} {r R p:Nat},Mem T G rs->Ic T A rs.rd V s r->qR A V s R->iA T e p->∀a∈dU T A rs.rd e p,MT T a.1 a.2:=by
 induction h with
 |v h=>intro A rs V r R p f g i j b a;cases h with
  |uO h=>cases h<;>cases a
  |var h=>obtain⟨v,k,l,m,rfl⟩:=h;cases a
 |c h=>intro A rs V r R p f g i j b a;cases h<;>cases a
 |ite o q u l m n=>
  intro A rs V r R p b f i j a k;simp only[dU,ast]at k;rcases k with(g|g)|g
  .exact l b f i j.1 a g
  .exact m b f i j.2.1 a g
  .exact n b f i j.2.2 a g
 |fO m n o=>
  intro A rs V r R p f a g b l i;have j:=(⟨⟨a.t.2.1,a.t.2.1,a.t.2.2⟩,g,a.vV⟩:Ic T A rs.rd V ⟨_,_,_⟩ R);simp only[dU,asQ]at i;rcases i with rfl|k
  .show MT T p _;unfold MT;rw[b.1,tt m];exact nu n j (j5 f b.2)
  .exact o f j g b.2 l k
 |arrow w k x o=>
  intro A rs V r R p f a i n m j;have b:=(⟨⟨a.t.2.1,a.t.2.1,a.t.2.2⟩,i,a.vV⟩:Ic T A rs.rd V ⟨_,_,_⟩ R);simp only[dU,asQ,ast]at j;obtain⟨q,y,u,l⟩:=n;rcases j with rfl|g|rfl|g
  .show MT T p _;unfold MT;rw[q];trivial
  .grind
  .unfold MT;simp only;rw[u,JX k b.t];exact nu k b (j5 f l)
  .exact o f b i l m g
 |last h=>intro A rs V r R p f g i j b a;obtain⟨v,k,l,m,rfl⟩:=h;cases a
 |neg l k=>intro A rs V r R p b f g i a j;exact k b f g i a j
 |arith q u n o l m=>
  intro A rs V r R p b f i j a k;simp only[dU,ast]at k;rcases k with g|g
  .exact l b f i j.1 a g
  .exact m b f i j.2 a g
 |not l k=>intro A rs V r R p b f g i a j;exact k b f g i a j
 |k8 q u w n o l m=>
  intro A rs V r R p b f i j a k;simp only[dU,ast]at k;rcases k with g|g
  .exact l b f i j.1 a g
  .exact m b f i j.2 a g
def ny{s:Sc}(h:GE s t st d e):st=false->xE e=0/\∀(A:Env) (rd:Nat->Int) (p:Nat),dU T A rd e p=[]:=by
 induction h with
 |v h=>intro _;cases h with
  |uO h=>cases h<;>exact⟨W,λ_ _ _=>rfl⟩
  |var h=>obtain⟨v,a,b,f,rfl⟩:=h;exact⟨W,λ_ _ _=>rfl⟩
 |c h=>intro _;cases h<;>exact⟨W,λ_ _ _=>rfl⟩
 |ite n o q g i j=>
  intro h;obtain⟨a,k⟩:=g h;obtain⟨b,l⟩:=i h;obtain⟨f,m⟩:=j h;refine⟨?_,λA rd p=>by simp only[dU,k,l,m];rfl⟩;simp only[xE]at a b f;simp[xE,cx,Sm.xP,Sm.dS,Sm.dh,a,b,f]
 |fO a b f=>intro h;cases h
 |arrow a b f g=>intro h;cases h
 |last h=>intro _;obtain⟨v,a,b,f,rfl⟩:=h;exact⟨W,λ_ _ _=>rfl⟩
 |neg g b=>intro h;obtain⟨a,f⟩:=b h;exact⟨by simp only[xE]at a;simp[xE,cx,Sm.xP,Sm.dS,Sm.dh,a],λA rd p=>by simp only[dU,f]⟩
 |arith m n k l f g=>intro h;obtain⟨a,i⟩:=f h;obtain⟨b,j⟩:=g h;exact⟨by simp only[xE]at a b;simp[xE,cx,Sm.xP,Sm.dS,Sm.dh,a,b],λA rd p=>by simp only[dU,i,j];rfl⟩
 |not g b=>intro h;obtain⟨a,f⟩:=b h;exact⟨by simp only[xE]at a;simp[xE,cx,Sm.xP,Sm.dS,Sm.dh,a],λA rd p=>by simp only[dU,f]⟩
 |k8 m u n k l f g=>intro h;obtain⟨a,i⟩:=f h;obtain⟨b,j⟩:=g h;exact⟨by simp only[xE]at a b;simp[xE,cx,Sm.xP,Sm.dS,Sm.dh,a,b],λA rd p=>by simp only[dU,i,j];rfl⟩
end
end Go.Ex
namespace Go.Ex
open Go.Mt Go.Mk
variable{A E':Env}{x y:Nm}{r sb r' d a n n' n1 n2:Nat}{T:fB}{s:Sc}{o:Option Int}{v:Va}{t:Ty}{st:Bool}{G:Nat->Sm.US->Prop}{outs l:List Va}{rs:Rs}
def bf(A E:Env):Prop:=∃C,E=A++C
def bf.refl(A:Env):bf A A:=⟨[],by simp⟩
def bf.trans{B C:Env}(h:bf A B)(g:bf B C):bf A C:=by obtain⟨x,rfl⟩:=h;obtain⟨y,rfl⟩:=g;exact⟨x++y,by simp⟩
def bf.app(A B:Env):bf A (A++B):=⟨B,rfl⟩
def bf.get{E:Env}(h:bf A E){e:Option Int×Nat×Nat}(g:Ex.get A x=some e):Ex.get E x=some e:=by obtain⟨C,rfl⟩:=h;exact pj g
def bf.len{E:Env}(h:bf A E):A.length<=E.length:=by obtain⟨C,rfl⟩:=h;simp
def bf.kn{E:Env}(h:bf A E)(g:Kn A x r)(a:r<=r'):Kn E x r':=by obtain⟨C,rfl⟩:=h;exact g.app C a
def bf.val{E:Env}(h:bf A E)(g:Kn A x r):Ex.val E x=Ex.val A x:=by obtain⟨C,rfl⟩:=h;exact g.val C
def lL.ext{E:Env}{V:Nm->Prop}(h:lL T A V s r)(g:bf A E)(a:r<=r'):lL T E V s r':=by obtain⟨C,rfl⟩:=g;exact h.app C a
def oH{e:E}(h:GE s t st d e){a:Env}{rd:Nat->Int}{V:Nm->Prop}(g:bf A a)(p:Nat)(b:lL T A V s r):cE T a rd e p=cE T A rd e p:=by obtain⟨C,rfl⟩:=g;exact M1 h C p b
def GG{e:E}(h:GE s t st d e):st=false->GE s.br t st d e:=by
 induction h with
 |v h=>intro _;exact .v h
 |c h=>intro _;exact .c h
 |ite g i j a b f=>intro h;exact .ite (a h) (b h) (f h)
 |fO a b f=>intro h;cases h
 |arrow a b f g=>intro h;cases h
 |last h=>intro _;exact .last h
 |neg b a=>intro h;exact .neg (a h)
 |arith f g i j a b=>intro h;exact .arith f g (a h) (b h)
 |not b a=>intro h;exact .not (a h)
 |k8 f u g i j a b=>intro h;exact .k8 f u g (a h) (b h)
def qR.br{A:Env}{V:Nm->Prop}{s:Sc}{R:Nat} :qR A V s.br R:= λv a=>by cases a
def Bl(E:Env)(y:Nm)(o:Option Int)(sb:Nat)(x:Nm):get (E++[(y,o,sb)]) x=match get E x with|some e=>some e|none=>if y=x then some (o,sb,E.length)else none:=by
 unfold get;rw[uX];simp<;>cases rM E 0 x<;>rfl
def ie{E:Env}(h:get E y=none):get (E++[(y,o,sb)]) y=some (o,sb,E.length):=by rw[Bl,h];simp
def ig{E:Env}(h:get (E++[(y,o,sb)]) x≠none):get E x≠none\/x=y:=by
 rw[Bl]at h;cases a:get E x with
 |some e=>exact .inl (by simp)
 |none=>rw[a]at h;simp at h;exact .inr h.symm
def ku{E:Env}(h:get E x=none)(b:x≠y):get (E++[(y,o,sb)]) x=none:=by
 cases a:get (E++[(y,o,sb)]) x with
 |none=>rfl
 |some e=>
  rcases ig (x:=x) (E:=E) (y:=y) (o:=o) (sb:=sb) (by rw[a];simp)with h1|h1
  .grind
  .grind
def DX(a:Nat)(E:Env)(v:Va):Prop:=∃o sb i,get E v.name=some (some o,sb,i)/\a<=sb/\sb<=i/\VT v.ty o
def DX.mono{b:Nat}{E:Env}(h:DX a E v)(g:bf E E')(f:b<=a):DX b E' v:=by obtain⟨o,sb,i,c,j,d,e⟩:=h;exact⟨o,sb,i,g.get c,by omega,d,e⟩
def DX.kn{E:Env}(h:DX a E v)(d:E.length<=r):Kn E v.name r/\VT v.ty (val E v.name):=by
 obtain⟨o,sb,i,b,e,f,c⟩:=h;have:=ub b;refine⟨⟨o,sb,i,b,by omega⟩,?_⟩;unfold val;rw[b];exact c
structure DY(A E:Env)(outs:List Va)(n n':Nat):Prop where
 o:∀v∈outs,DX A.length E v
 FC:∀x,get E x≠none->get A x≠none\/eZ outs x\/gD n n' x
def Md(f:Va->Int):∀(L:List Va) (E:Env),(L.map (·.name)).Nodup->(∀v∈L,get E v.name=none)->∃a,bf E a/\(∀v∈L,∃i,E.length<=i/\get a v.name=some (some (f v),i,i))/\∀x,get a x≠none->get E x≠none\/eZ L x
 |[],E,_,_=>⟨E,bf.refl E,λv b=>(by cases b),λx h=>.inl h⟩
 |w::L,E,b,c=>by
  rw[asT,List.nodup_cons]at b;obtain⟨h,d,l,j⟩:=Md f L (E++[(w.name,some (f w),E.length)]) b.2 (λv a=>ku (c v (asI _ a)) (λe=>b.1 (e▸as1 a)));refine⟨h,(bf.app _ _).trans d,λv a=>?_,λx k=>?_⟩
  .rcases asQ.1 a with rfl|a
   .exact⟨E.length,asj _,d.get (ie (c v (asV ..)))⟩
   .grind
  .rcases j x k with g|⟨v,a,e⟩
   .rcases ig g with g|rfl
    .exact .inl g
    .grind
   .grind
def LS.Lo{a b:List Va}(h:LS a b):∀v∈a,v∈b\/v.last=true:=by
 induction h with
 |nil=>intro v c;cases c
 |cH h w d=>
  intro v c;rcases ast.1 c with g|g
  .grind
  .grind
 |drop h w e d=>
  intro v c;rcases ast.1 c with g|g
  .exact d v g
  .grind
def Lp{E:Env}(y:Mem T G rs)(j:LS outs l)(o:(outs.map (·.name)).Nodup)(k:∀v∈outs,Ig T v/\get A v.name=none)(z:∀x,eZ outs x->¬gD n n' x)
  (p:n<=n1) (q:n2<=n') (m:bf A E) (h:DY A E l n1 n2):∃a,bf E a/\DY A a outs n n'/\∀v∈outs,¬eZ l v.name->T.ls v.name=true/\∃i,get a v.name=some (some (rs.rd (T.lp v.name)),i,i):=by
 have d:∀v,v∈outs.filter (λv=>l.all λw=> !decide (w.name=v.name))↔v∈outs/\¬eZ l v.name:= λv=>by
  rw[aum,atC];constructor
  .rintro⟨c,f⟩;refine⟨c,?_⟩;rintro⟨w,g,e⟩;have:=f w g;simp[e]at this
  .rintro⟨c,f⟩;refine⟨c,λw g=>?_⟩;simp;exactλe=>f ⟨w,g,e⟩
 obtain⟨B,r,s,C⟩:=Md (λv=>rs.rd (T.lp v.name)) (outs.filter (λv=>l.all λw=> !decide (w.name=v.name))) E ((List.Sublist.map _ List.filter_sublist).nodup o) (λv a=>by
  obtain⟨c,f⟩:=(d v).1 a;cases u:get E v.name with
  |none=>rfl
  |some e=>
   rcases h.FC v.name (by rw[u];simp)with g|g|g
   .exact(g (k v c).2).elim
   .exact(f g).elim
   .exact(z _ ⟨v,c,W⟩ (g.mono p q)).elim)
 have t:∀v∈outs,¬eZ l v.name->v.last=true:= λv a b=>by
  rcases LS.Lo j v a with g|g
  .exact(b ⟨v,g,W⟩).elim
  .exact g
 refine⟨B,r,⟨λv a=>?_,λx m=>?_⟩,λv a b=>?_⟩
 .by_cases b:eZ l v.name
  .obtain⟨w,g,e⟩:=b;obtain⟨i,f⟩:=asJ.1 (j.mem w g);obtain⟨u,c⟩:=asJ.1 a;have D:i<(outs.map (·.name)).length:=by
    rcases asp i outs.length with h|h
    .simpa using h
    .rw[asr h]at f;cases f
   have:i=u:=(aut D o).1 (by simp[f,c,e]);subst this;rw[f]at c;injection c with c
   subst c;exact(h.o w g).mono r (asj _)
  .obtain⟨i,u,f⟩:=s v ((d v).2 ⟨a,b⟩);have F:=m.len;refine⟨_,i,i,f,by omega,asj _,?_⟩;obtain⟨w,D,g⟩:=(k v a).1;have c:=y (T.lp v.name);rw[g (t v a b)]at c;exact c
 .rcases C x m with g|⟨v,a,e⟩
  .rcases h.FC x g with g|⟨v,a,e⟩|g
   .exact .inl g
   .exact .inr (.inl ⟨v,j.mem v a,e⟩)
   .exact .inr (.inr (g.mono p q))
  .exact .inr (.inl ⟨v,((d v).1 a).1,e⟩)
 .obtain⟨i,g,c⟩:=s v ((d v).2 ⟨a,b⟩);refine⟨?_,i,c⟩;obtain⟨u,f,w⟩:=(k v a).1;rw[f];exact t v a b
def Bn(T:fB)(E:Env)(V:Nm->Prop)(v:Va):Prop:=∃o sb i,get E v.name=some (o,sb,i)/\sb<=i/\match v.clock with
 |none=>o.isSome=true
 |some (k,x)=>V x/\T.ty x=.ft/\Kn E x sb/\(o.isSome=true↔iz k=val E x)
def Bn.ext{E:Env}{V:Nm->Prop}(h:Bn T E V v)(g:bf E E'):Bn T E' V v:=by
 obtain⟨o,sb,i,j,k,a⟩:=h;refine⟨o,sb,i,g.get j,k,?_⟩;cases e:v.clock with
 |none=>rw[e]at a;exact a
 |some l=>
  obtain⟨m,x⟩:=l;rw[e]at a;obtain⟨f,b,c,d⟩:=a;exact⟨f,b,g.kn c (asj _),by rw[g.val c];exact d⟩
section
variable(T:fB)(F:List (Option Int))(G:Nat->Sm.US->Prop)(Ov:Nat->Sm.US->List Int->List Int->Sm.US->Prop)(az:Nat->Sm.US)
def vY(d:Sc->List Va->Nat->Nat->bF->Prop):Prop:=∀s c n a b,d s c n a b->∀(A:Env) (d:Rs) (V:Nm->Prop) (p:Nat),Mem T G d->lL T A V s A.length->(∀v∈c,V v.name/\Ig T v/\v.clock=none/\get A v.name=none)->(c.map (·.name)).Nodup->(∀x,V x->¬gD n a x)->(∀x,gD n a x->get A x=none)->qj T p b->
 ∃E,bf A E/\DY A E c n a/\∀a,bf E a->sd T F a Ov az V d p b
structure QX(A:Env)(V:Nm->Prop)(rs:Rs)(s:Sc)(outs:List Va)(n n':Nat)(b:List aB)(c:Nat)(d:List Va):Prop where
 m:Mem T G rs
 x:lL T A V s A.length
 o:∀v∈outs,V v.name/\Ig T v/\v.clock=none/\get A v.name=none
 nd:(outs.map (·.name)).Nodup
 vv:∀v∈d,V v.name/\Ig T v
 vb:∀x,V x->gD n n' x->eZ d x
 f:∀x,gD n n' x->get A x=none
 ob:∀x,eZ outs x->¬gD n n' x
 sq:∀q p,At b c q p->zA T q p
 sb:∀q p,At b c q p->∀(k:Nat) (a:a_),(cB q)[k]?=some a->qj T (nL q p k) (dP a)
structure QD(A E:Env)(V:Nm->Prop)(rs:Rs)(s:Sc)(outs:List Va)(n n':Nat)(e:List aB)(c:Nat)(d:List Va):Prop where
 x:bf A E
 o:DY A E outs n n'
 v:∀v∈d,Bn T E V v
 q:∀d,bf E d->qR d V s (d.length+1)->∀q p,At e c q p->Bk T F d Ov az V rs p q
 b:∀d,bf E d->∀q p a,At e c q p->(cB q)[fC T d rs p q]?=some a->sd T F d Ov az V (oG T F d rs p q a) (nL q p (fC T d rs p q)) (dP a)
end
def zH{F:List (Option Int)}{Ov:Nat->Sm.US->List Int->List Int->Sm.US->Prop}{az:Nat->Sm.US}{L:Nat}{y:Sc->List Va->Nat->Nat->bF->Prop}(M:Wd T F G Ov az L)(O:mz y)(P:vY T F G Ov az y)
  {V:Nm->Prop} {c:Nat} {q:aB} (b:QX T G A V rs s outs n n' [q] c []) (K:Nat) (N:Bool) (z:∀b,bf A b->fC T b rs c q=K) (Q:∀b,bf A b->Aw T b rs c q=N)
  {a:a_} (B:(cB q)[K]?=some a) {m:Sc} (h:LS outs l) (o:n<=n1) (r:n2<=n') (i:y m l n1 n2 (dP a)) (R:lL T A V m A.length) (C:∀x,x∈dQ q↔eZ outs x):
  ∃E,bf A E/\DY A E outs n n'/\(∀v∈l,DX A.length E v)/\∀b,bf E b->zx T b rs q a/\(∀x∈dQ q,V x/\A.length<=iU b x)/\∀q' p a',At [q] c q' p->(cB q')[fC T b rs p q']?=some a'->sd T F b Ov az V (oG T F b rs p q' a') (nL q' p (fC T b rs p q')) (dP a'):=by
 have J:∀x,V x->¬gD n1 n2 x:= λx f i=>by obtain⟨v,d,_⟩:=b.vb x f (i.mono o r);cases d
 have D:=(LS.names h).nodup b.nd
 let t:Rs:=if N then CC F rs (nL q c K) (nL q c K+Sm.bP (eD (dP a)))else rs
 have S:Mem T G t:=by
  show Mem T G (if N then _ else rs);split
  .exact DW M b.m _ _
  .exact b.m
 obtain⟨E,u,H,U⟩:=P m l n1 n2 (dP a) i A t V (nL q c K) S R (λv d=>b.o v (h.mem v d)) D J (λx d=>b.f x (d.mono o r)) (b.sb q c (At.one.2 ⟨rfl,rfl⟩) K a B);obtain⟨X,j,I,Y⟩:=Lp b.m h b.nd (λv d=>⟨(b.o v d).2.1,(b.o v d).2.2.2⟩) b.ob o r u H;refine⟨X,u.trans j,I,λv d=>(H.o v d).mono j (asj _),λe k=>⟨λx f Z=>?_,λx f=>?_,λq' p a' Qs g=>?_⟩⟩
 .obtain⟨v,d,rfl⟩:=(C x).1 f;obtain⟨g1,w,g2⟩:=Y v d (λd=>Z ((((O.st _ _ _ _ _ i V (λv d=>(b.o v (h.mem v d)).1) J D).2.1) _).2 d));exact⟨g1,w,k.get g2⟩
 .obtain⟨v,d,rfl⟩:=(C x).1 f;obtain⟨ah,sb,ac,w,g2,g3,g4⟩:=I.o v d;refine⟨(b.o v d).1,?_⟩;unfold iU;rw[k.get w];exact g2
 .obtain⟨rfl,rfl⟩:=At.one.1 Qs;have w:=(u.trans j).trans k;rw[z e w]at g⊢;rw[B]at g;injection g with g
  subst g;have:oG T F e rs p q' a=t:=by
   unfold oG;rw[Q e w,z e w]
  rw[this];exact U e (j.trans k)
end Go.Ex
namespace Go.Ex
open Go.Mt Go.Mk
variable{A:Env}{s:Sc}{outs:List Va}{rs:Rs}{n n' c d:Nat}{aj:List a_}{names:List Nm}{e:E}
theorem xL{c:Type}(l:List c)(f:c->Bool)(h:∃a∈l,f a=true):∃k a,l.findIdx? f=some k/\l[k]?=some a/\f a=true/\∀(i:Nat) (b:c),i<k->l[i]?=some b->f b=false:=by
 induction l with
 |nil=>obtain⟨a,d,_⟩:=h;cases d
 |cons x l g=>
  rw[List.findIdx?_cons];cases e:f x with
  |true=>exact⟨0,x,by simp,rfl,e,λi b c=>by omega⟩
  |false=>
   obtain⟨k,a,j,m,n,o⟩:=g (by
    grind)
   refine⟨k+1,a,by simp[j],m,n,λi b p d=>?_⟩;cases i with
   |zero=>simp at d;subst d;exact e
   |succ i=>exact o i b (by omega) d
section
variable{T:fB}{F:List (Option Int)}{G:Nat->Sm.US->Prop}{Ov:Nat->Sm.US->List Int->List Int->Sm.US->Prop}{az:Nat->Sm.US}{an:Nat}{Sub:Sc->List Va->Nat->Nat->bF->Prop}
def Ih(O:Wd T F G Ov az an){V:Nm->Prop}(a:Mem T G rs)(l:lL T A V s A.length){m:List aB}(h:py s outs m):∀(c n n':Nat),(∀v∈outs,V v.name/\get A v.name=none)->(outs.map (·.name)).Nodup->(∀q p,At m c q p->zA T q p)->
  ∃E,bf A E/\(∀v∈outs,DX A.length E v)/\(∀x,get E x≠none->get A x≠none\/eZ outs x)/\∀a,bf E a->qR a V s (a.length+1)->∀q p,At m c q p->Bk T F a Ov az V rs p q:=by
 induction h with
 |nil=>intro c n n' _ _ _;exact⟨A,bf.refl A,λv b=>(by cases b),λx h=>.inl h,λa _ _ q p h=>(At.nil h).elim⟩
 | @snoc N q h w e d I=>
  intro c n n' u o y;rw[asN,ati]at o;obtain⟨E,f,J,z,K⟩:=I c n n' (λv a=>u v (asw _ a)) o.1 (λq p a=>y q p (At.app.2 (.inl a)));have B:=u w (asz _ (atw _));have C:get E w.name=none:=by
   cases k:get E w.name with
   |none=>rfl
   |some e=>
    rcases z w.name (by rw[k];simp)with g|⟨v,b,g⟩
    .exact(g B.2).elim
    .exact(o.2.2 v.name (as1 b) w.name (by simp) g).elim
  have i:=l.ext f f.len;have D:=y (.df w.name e) (c+Ax q) (At.app.2 (.inr (At.one.2 ⟨rfl,rfl⟩)));have j:bf E (E++[(w.name,some (cE T E rs.rd e (c+Ax q)),E.length)]):=bf.app _ _;refine⟨E++[(w.name,some (cE T E rs.rd e (c+Ax q)),E.length)],f.trans j,λv b=>?_,λx l=>?_,λH r t M p L=>?_⟩
  .rcases ast.1 b with g|g
   .exact(J v g).mono j (asj _)
   .rw[asx]at g;subst g;exact⟨_,_,_,ie C,f.len,asj _,(nu d (i.s a) (j5 a D))⟩
  .rcases ig l with g|rfl
   .rcases z x g with g|⟨v,b,g⟩
    .exact .inl g
    .exact .inr ⟨v,asw _ b,g⟩
   .exact .inr ⟨w,asz _ (atw _),W⟩
  .rcases At.app.1 L with k|k
   .exact K H (j.trans r) t M p k
   .obtain⟨rfl,rfl⟩:=At.one.1 k;have g:=j.trans r;refine⟨⟨B.1,.inl ⟨E.length,?_,?_⟩⟩,λ_=>uY d a ((i.ext g (asj _)).s a) t D⟩
    .rw[oH d g _ i];exact r.get (ie C)
    .exact nZ d (by have:=g.len;omega) ((i.ext g (asj _)).s a) t
theorem M2(g:mz Sub)(h:mT Sub s outs names n aj n')(t:aj.length=names.length)(x:Int)(j:∃c∈names,Sm.gV cQ c=x):
  ∃k a,(aj.findIdx? λa=>decide (Sm.gV cQ (jW a)=x))=some k/\aj[k]?=some a/\Sm.gV cQ (jW a)=x/\∀(i:Nat) (b:a_),i<k->aj[i]?=some b->Sm.gV cQ (jW b)≠x:=by
 obtain⟨c,l,e⟩:=j;obtain⟨i,m⟩:=asJ.1 l;have f:i<aj.length:=by
  grind
 obtain⟨u,b,r,v,w,d,o,_⟩:=(lK g.le h).2 i aj[i] (aso f);rw[m]at d;injection d with d
 subst d;obtain⟨k,a,p,q,y,z⟩:=xL aj (λa=>decide (Sm.gV cQ (jW a)=x)) ⟨aj[i],asE f,by rw[o];exact asP e⟩;exact⟨k,a,p,q,by grind,λi b d d=>by grind⟩
def GI(N:Wd T F G Ov az an)(h:mz Sub)(O:vY T F G Ov az Sub){V:Nm->Prop}{t:Ty}(i:GE s t true d e)(m:mT Sub s outs names n aj n')(P:aj.length=names.length)(Q:0<aj.length)
  (R:∀x,VT t x->∃c∈names,Sm.gV cQ c=x) (a:QX T G A V rs s outs n n' [.sw e aj] c []):∃E,QD T F Ov az A E V rs s outs n n' [.sw e aj] c []:=by
 have K:=a.sq _ _ (At.one.2 ⟨rfl,rfl⟩);have o:=nu i (a.x.s a.m) (j5 a.m K);obtain⟨k,M,S,w,k3,U⟩:=M2 h m P _ (R _ o);have x:∀a,bf A a->cE T a rs.rd e c=cE T A rs.rd e c:= λf l=>oH i l c a.x
 have y:∀a,bf A a->fC T a rs c (.sw e aj)=k:= λf l=>by
  show((aj.findIdx? λa=>decide (Sm.gV cQ (jW a)=cE T f rs.rd e c)).getD 0)=k;rw[x f l,S];rfl
 obtain⟨cn,b,u,z,B,C,rfl,p,D,r,X,Y⟩:=(lK h.le m).2 k M w;have Z:∀x,x∈dQ (.sw e aj)↔eZ outs x:= λL=>by
  have j:=vX h (aj:=aj) (outs:=outs) (n:=n) (n':=n') Q (λH g I=>by obtain⟨c,b,u,z,B,_,rfl,C,g2,p,D,r⟩:=(lK h.le m).2 H g I;exact⟨b,u,z,B,W,C,g2,p,D,_,r⟩);exact(eh (q:=.sw e aj)).trans (j.1 a.ob a.nd L)
 obtain⟨E,H,e2,e3,I⟩:=zH N h O a k false y (λ_ _=>rfl) w p r X Y a.x.br Z;refine⟨E,H,e2,λv o=>(by cases o),λf J j q ac Qs=>?_,λa f=>(I a f).2.2⟩;obtain⟨rfl,rfl⟩:=At.one.1 Qs;obtain⟨f1,f2,f3⟩:=I f J;have g:=H.trans J;refine⟨⟨A.length,_,g.len,nZ i (by have:=g.len;omega) ((a.x.ext g (asj _)).s a.m) j,f2,?_,?_,?_,f1⟩,uY i a.m ((a.x.ext g (asj _)).s a.m) j K⟩
 .simp_all
 .simp_all
 .rw[y f g,x f g];exact U
theorem FD(t:Wd T F G Ov az an)(j:mz Sub)(u:vY T F G Ov az Sub){V:Nm->Prop}{b:bF}(i:GE s .bool true d e)(k:Sub s outs n n' b)
  (f:QX T G A V rs s outs n n' [.reset e b] c []):∃E,QD T F Ov az A E V rs s outs n n' [.reset e b] c []:=by
 have w:∀f,bf A f->cE T f rs.rd e c=cE T A rs.rd e c:= λl r=>oH i r c f.x
 have y:∀x,x∈dQ (.reset e b)↔eZ outs x:= λx=>by
  have g:=vX j (aj:=[.mk e0 b [] []]) (outs:=outs) (n:=n) (n':=n') Nat.one_pos (λm a h=>by
   have z:m=0:=by
    grind
   subst z;simp at h;subst h;exact⟨b,outs,n,n',W,LS.refl _,λ_=>rfl,asj _,asj _,s,k⟩)
  exact(eh (q:=.reset e b)).trans (g.1 f.ob f.nd x)
 obtain⟨E,m,B,K,o⟩:=zH t j u f 0 (decide (cE T A rs.rd e c≠0)) (λ_ _=>rfl) (λf g=>by show decide (cE T f rs.rd e c≠0)=_;rw[w f g]) (a:=.mk e0 b [] []) W (LS.refl outs) (asj _) (asj _) k f.x y;refine⟨E,m,B,λv C=>(by cases C),λl p g q J D=>?_,λf g=>(o f g).2.2⟩;obtain⟨rfl,rfl⟩:=At.one.1 D;obtain⟨H,I,L⟩:=o l p;have h:=m.trans p;exact⟨⟨A.length,h.len,nZ i (by have:=h.len;omega) ((f.x.ext h (asj _)).s f.m) g,I,H⟩,uY i f.m ((f.x.ext h (asj _)).s f.m) g (f.sq _ _ (At.one.2 ⟨rfl,rfl⟩))⟩
def DZ{a:Env}{V:Nm->Prop}{r:Nat}(g:bf A a)(b:lL T A V s r)(rd:Nat->Int):∀(l:List Tr),(∀t∈l,∃st d,GE s .bool st d t.e)->je T a rd l=je T A rd l
 |[],_=>rfl
 |t::l,h=>by
  obtain⟨st,d,c⟩:=h t (asV ..);simp only[je];rw[oH c g 0 b,DZ g b rd l (λt a=>h t (asI _ a))]
def tw{rd:Nat->Int} :∀{l:List Tr} {t:Tr},je T A rd l=some t->t∈l
 |[],t,h=>by cases h
 |u::l,t,h=>by
  unfold je at h;split at h
  .grind
  .exact asI _ (tw h)
theorem M3(c:∀(i:Nat) (a:a_),aj[i]?=some a->jW a=nm 83 i){k:Nat}(d:k<aj.length):(aj.findIdx? λa=>decide (jW a=nm 83 k))=some k:=by
 obtain⟨j,a,e,f,g,h⟩:=xL aj (λa=>decide (jW a=nm 83 k)) ⟨aj[k],asE d,by grind⟩;have b:jW a=nm 83 k:=by grind
 rw[c j a f]at b;have:=(iC b).2;rw[e,this]
def Bo(aj:List a_)(x:Nm):Sm.mP (eG aj) x=aj.findIdx? λa=>decide (jW a=x):=by
 unfold Sm.mP;rw[oS,auu]
 congr 1
 funext a
 cases a;rfl
def Ii(P:Wd T F G Ov az an)(x:mz Sub)(hD:vY T F G Ov az Sub){V:Nm->Prop}{N:Nat}(hN:1<=N)(ha:uq Sub s outs N n aj n')(hl:aj.length=N)
  (f:QX T G A V rs s outs n n' [.aN aj] c []):∃E,QD T F Ov az A E V rs s outs n n' [.aN aj] c []:=by
 have o:=(wS x.le ha).2;have Pm:0<=rs.rd c/\rs.rd c<aj.length:=by have:=f.m c;rw[f.sq _ _ (At.one.2 ⟨rfl,rfl⟩)]at this;exact this
 have Q:(rs.rd c).toNat<aj.length:=by omega
 have f4:∀(i:Nat) (a:a_),aj[i]?=some a->jW a=nm 83 i:= λd7 a hi=>by obtain⟨b,m,y,z,u1,u2,rfl,_⟩:=o d7 a hi;rfl
 have B:=aso Q;have C:∀k,k<N->(aj.findIdx? λa=>decide (jW a=nm 83 k))=some k:= λk g=>M3 f4 (by omega)
 have M:∀k,k<N->rN aj (nm 83 k)=k:= λk g=>by unfold rN;rw[C k g];rfl
 obtain⟨b0,l0,m1,m2,h,i6,R,q2,q3,q4,q5,q6,D,q8⟩:=o _ _ B;have ac:((aj[(rs.rd c).toNat]?).map jF).getD []=h:=by rw[B];simp;rw[R];rfl
 have ah:∀d,bf A d->je T d rs.rd h=je T A rs.rd h:= λd l=>DZ l f.x.br rs.rd h (λt d=>⟨_,_,(D.2 t d).1⟩)
 have O:∀d,fC T d rs c (.aN aj)=match je T d rs.rd h with|none=>(rs.rd c).toNat|some t=>rN aj t.to:= λd=>by
  show(match je T d rs.rd (((aj[(rs.rd c).toNat]?).map jF).getD [])with|none=>(rs.rd c).toNat|some t=>rN aj t.to)=_;rw[ac]
 have co:∀d,Aw T d rs c (.aN aj)=match je T d rs.rd h with|none=>rs.rp c|some t=> !t.fF:= λd=>by
  show(match je T d rs.rd (((aj[(rs.rd c).toNat]?).map jF).getD [])with|none=>rs.rp c|some t=> !t.fF)=_;rw[ac]
 have d6:fC T A rs c (.aN aj)<aj.length:=by
  rw[O A];cases i:je T A rs.rd h with
  |none=>exact Q
  |some t=>
   obtain⟨k,g,e⟩:=(D.2 t (tw i)).2;simp only;rw[e,M k g];omega
 have H:∀d,bf A d->fC T d rs c (.aN aj)=fC T A rs c (.aN aj):= λd l=>by rw[O,O,ah d l]
 have f8:∀d,bf A d->Aw T d rs c (.aN aj)=Aw T A rs c (.aN aj):= λd l=>by rw[co,co,ah d l]
 obtain⟨a,u⟩:∃a,aj[fC T A rs c (.aN aj)]?=some a:=⟨_,aso d6⟩;obtain⟨b,m,y,z,I,J,S,U,r3,r4,r5,r6,r7,r8⟩:=o _ _ u;have hd:∀x,x∈dQ (.aN aj)↔eZ outs x:= λd8=>by
  have X:=vX x (aj:=aj) (outs:=outs) (n:=n) (n':=n') (by omega) (λj a p=>by obtain⟨b,m,y,z,u1,u2,rfl,g1,g2,g3,g4,g5,_⟩:=o j a p;exact⟨b,m,y,z,W,g1,g2,g3,g4,_,g5⟩);exact(eh (q:=.aN aj)).trans (X.1 f.ob f.nd d8)
 obtain⟨K,f9⟩:∃K,fC T A rs c (.aN aj)=K:=⟨_,rfl⟩;rw[f9]at H u d6 S;subst S;obtain⟨E,Y,e2,e3,Z⟩:=zH P x hD f K _ H f8 (a:=.mk (nm 83 K) b I J) u U r4 r5 r6 f.x.br hd;refine⟨E,Y,e2,λv p=>(by cases p),λd L X q d9 Qs=>?_,λd f=>(Z d f).2.2⟩;obtain⟨rfl,rfl⟩:=At.one.1 Qs;obtain⟨f1,f2,f3⟩:=Z d L;have j:=Y.trans L;refine⟨⟨A.length,.mk (nm 83 K) b I J,_,j.len,Pm.1,B,λw i=>?_,f2,?_,λw i=>?_,f1⟩,trivial⟩
 .rw[R]at i;obtain⟨w1,k,g,w2⟩:=D.2 w i;obtain⟨z1,z2⟩:=ny (T:=T) w1 W;refine⟨nZ w1 (by have:=j.len;omega) ((f.x.ext j (asj A.length)).br.s f.m) qR.br,z1,z2 _ _ _,k,?_,?_⟩
  .rw[Bo,w2];exact C k g
  .rw[w2,M k g]
 .rw[H d j];exact u
 .obtain⟨w1,k,g,w2⟩:=r8.2 w i;obtain⟨z1,z2⟩:=ny (T:=T) w1 W;have gc:lL T d V (s.more m) (d.length+1):=(f.x.ext j (by have:=j.len;omega)).more λv p=>by
   have Wx:=U.mem v p;obtain⟨g1,g2⟩:=((e3 v p).mono L (asj _)).kn (r:=d.length+1) (by omega);exact⟨(f.o v Wx).2.1.1,λ_=>⟨(f.o v Wx).1,g1,g2⟩⟩
  have ge:Mem T G (oG T F d rs d9 (.aN aj) (.mk (nm 83 K) b I J)):=by
   unfold oG;split
   .exact DW P f.m _ _
   .exact f.m
  refine⟨eI.sn (λx d=>.inl d) (nZ w1 (asj _) (gc.br.s ge) qR.br),z1,z2 _ _ _,k,?_,?_⟩
  .rw[Bo,w2];exact C k g
  .rw[w2,M k g]
end
end Go.Ex
namespace Go.Ex
open Go.Mt Go.Mk
variable{A:Env}{rs:Rs}{s:Sc}{outs vs:List Va}{n n' c:Nat}{l:List aB}{a b e:E}
def Ij(x:Int)(h:VT .ft x):∃c∈([cX,cg,bz]:List Nm),Sm.gV cQ c=x:=by
 rcases h with rfl|rfl|rfl
 .exact⟨cg,by simp,by decide⟩
 .exact⟨bz,by simp,by decide⟩
 .exact⟨cX,by simp,by decide⟩
def FE(x:Int)(h:VT .bool x):∃c∈([pb,mq]:List Nm),Sm.gV cQ c=x:=by
 rcases h with rfl|rfl
 .exact⟨mq,by simp,by decide⟩
 .exact⟨pb,by simp,by decide⟩
section
variable{T:fB}{F:List (Option Int)}{G:Nat->Sm.US->Prop}{Ov:Nat->Sm.US->List Int->List Int->Sm.US->Prop}{az:Nat->Sm.US}{an:Nat}{Sub:Sc->List Va->Nat->Nat->bF->Prop}
def QX.pre{A b:Env}{V:Nm->Prop}{rs:Rs}{s k:Sc}{outs:List Va}{n m n':Nat}{q0 l:List aB}{c:Nat}{v0 o:List Va}(h:QX T G A V rs s outs n n' (q0++l) c (v0++o))(d:n<=m)(q:m<=n')(t:∀x,get b x≠none->get A x≠none\/gD n m x)(u:lL T b V k b.length)(w:∀v∈v0,gD n m v.name):
  QX T G b V rs k outs m n' l (c+Ax q0) o:=by
 have p:∀x,get A x=none->¬gD n m x->get b x=none:= λx f i=>by
  cases a:get b x with
  |none=>rfl
  |some e=>
   rcases t x (by rw[a];simp)with g|g
   .exact(g f).elim
   .exact(i g).elim
 exact⟨h.m,u,λv r=>by
   obtain⟨f,i,y,z⟩:=h.o v r;exact⟨f,i,y,p _ z (λa=>h.ob _ ⟨v,r,rfl⟩ (a.mono (asj _) q))⟩,h.nd,λv B=>h.vv v (asz _ B),λx j a=>by
   obtain⟨v,C,e⟩:=h.vb x j (a.mono d (asj _));rcases ast.1 C with g|g
   .exact((w v g).not (e▸a.gt)).elim
   .exact⟨v,g,e⟩,λx a=>p x (h.f x (a.mono d (asj _))) (λb=>b.not a.gt),λx j a=>h.ob x j (a.mono d (asj _)),
  λq p b=>h.sq q p (At.app.2 (.inr b)),λq p b=>h.sb q p (At.app.2 (.inr b))⟩
def QD.pre{A a E:Env}{V:Nm->Prop}{rs:Rs}{s i:Sc}{outs:List Va}{n m n':Nat}{q0 l:List aB}{c:Nat}{v0 j:List Va}(t:n<=m)(u:m<=n')(k:bf A a)(w:∀x,get a x≠none->get A x≠none\/gD n m x)(y:∀v∈v0,Bn T a V v)
  (z:∀b,bf a b->qR b V s (b.length+1)->∀q p,At q0 c q p->Bk T F b Ov az V rs p q) (B:∀q∈q0,cB q=[]) (C:i.all=s.all) (h:QD T F Ov az a E V rs i outs m n' l (c+Ax q0) j):QD T F Ov az A E V rs s outs n n' (q0++l) c (v0++j):=by
 refine⟨k.trans h.x,⟨λv D=>(h.o.o v D).mono (bf.refl E) k.len,λx G=>?_⟩,λv H=>?_,λb d o q p e=>?_,λb d q p r e f=>?_⟩
 .rcases h.o.FC x G with g|g|g
  .rcases w x g with g|g
   .exact .inl g
   .exact .inr (.inr (g.mono (asj _) u))
  .grind
  .exact .inr (.inr (g.mono t (asj _)))
 .rcases ast.1 H with g|g
  .exact(y v g).ext h.x
  .exact h.v v g
 .rcases At.app.1 e with g|g
  .exact z b (h.x.trans d) o q p g
  .exact h.q b d (λv a b=>o v (C▸a) b) q p g
 .rcases At.app.1 e with g|g
  .obtain⟨J,I,K⟩:=g;rw[B q (asn I)]at f;simp at f
  .exact h.b b d q p r g f
def Ik(D:Wd T F G Ov az an){V:Nm->Prop}{j:Nat}(H:j<an)(y:GE s .int true 2 a)(z:GE s .bool true 2 b){f:Bool}(I:f=false/\e=.nil\/f=true/\GE s .bool true 2 e)(B:n+2<=n')
  (ih:∀(A:Env) (c:Nat),QX T G A V rs (s.more [cY 117 (n+1) .int,cY 117 (n+2) .ft]) outs (n+2) n' l c vs->∃E,QD T F Ov az A E V rs (s.more [cY 117 (n+1) .int,cY 117 (n+2) .ft]) outs (n+2) n' l c vs)
  (d:QX T G A V rs s outs n n' (.call (nm 117 (n+1)) (nm 117 (n+2)) (nm 102 j) a b f e::l) c (cY 117 (n+1) .int::cY 117 (n+2) .ft::vs)):
  ∃E,QD T F Ov az A E V rs s outs n n' (.call (nm 117 (n+1)) (nm 117 (n+2)) (nm 102 j) a b f e::l) c (cY 117 (n+1) .int::cY 117 (n+2) .ft::vs):=by
 obtain⟨hp,sE,Q,R⟩:zA T (.call (nm 117 (n+1)) (nm 117 (n+2)) (nm 102 j) a b f e) c:=d.sq _ _ (At.cons.2 (.inl ⟨rfl,rfl⟩));have J:=d.m c;rw[hp j W]at J;have S:=d.x.s d.m;have hG:G j ((if f=true/\cE T A rs.rd e (c+1)≠0 then none else rs.rs c).getD (az j)):=by
  split
  .exact(D.az j H).1
  .cases w:rs.rs c with
   |none=>exact(D.az j H).1
   |some q=>exact(J q w).2
 obtain⟨g,r,u',st,tx,ty⟩:=D.Oh j H _ hG _ _ (nu y S (j5 d.m Q)) (nu z S (j5 d.m R));have K:gD n (n+2) (nm 117 (n+1)):=⟨117,n+1,by omega,by omega,rfl⟩;have L:gD n (n+2) (nm 117 (n+2)):=⟨117,n+2,by omega,by omega,rfl⟩;have U:nm 117 (n+1)≠nm 117 (n+2):= λe=>by have:=(iC e).2;omega
 have M:bf (A++[(nm 117 (n+1),some g,A.length)]) (A++[(nm 117 (n+1),some g,A.length)]++[(nm 117 (n+2),some r,A.length)]):=bf.app _ _;have t:=M.get (ie (o:=some g) (sb:=A.length) (d.f _ (K.mono (asj _) B)));have i:=ie (E:=A++[(nm 117 (n+1),some g,A.length)]) (o:=some r) (sb:=A.length) (ku (d.f _ (L.mono (asj _) B)) U.symm);have d7:(A++[(nm 117 (n+1),some g,A.length)]).length=A.length+1:=by simp
 rw[d7]at i;generalize X:A++[(nm 117 (n+1),some g,A.length)]++[(nm 117 (n+2),some r,A.length)]=h at M t i;have d9:h.length=A.length+2:=by rw[<-X];simp
 have C:=(bf.app _ _).trans M;have Y:∀x,get h x≠none->get A x≠none\/gD n (n+2) x:= λd8 Z=>by
  rw[<-X]at Z;rcases ig Z with q|rfl
  .rcases ig q with q|rfl
   .exact .inl q
   .exact .inr K
  .exact .inr L
 have N:=d.vv _ (asV ..);have O:=d.vv _ (asI _ (asV ..));have ah:lL T h V (s.more [cY 117 (n+1) .int,cY 117 (n+2) .ft]) h.length:=(d.x.ext C C.len).more λv u=>by
  simp at u;rcases u with rfl|rfl
  .exact⟨N.2.1,λ_=>⟨N.1,⟨g,_,_,t,by omega⟩,by show VT .int (val h (nm 117 (n+1)));unfold val;rw[t];exact tx⟩⟩
  .exact⟨O.2.1,λ_=>⟨O.1,⟨r,_,_,i,by omega⟩,by show VT .ft (val h (nm 117 (n+2)));unfold val;rw[i];exact ty⟩⟩
 have Zr:=QX.pre (q0:=[_]) (v0:=[_,_]) (m:=n+2) d (by omega) B Y ah (λv k=>by
  simp at k;rcases k with rfl|rfl
  .exact K
  .exact L)
 obtain⟨E,hE⟩:=ih h _ Zr;refine⟨E,QD.pre (q0:=[_]) (v0:=[_,_]) (m:=n+2) (by omega) B C Y (λv u=>?_) (λE' P k ac p Qs=>?_) (λac hq=>?_) (by rfl) hE⟩
 .simp at u;rcases u with rfl|rfl
  .exact⟨_,_,_,t,asj _,W⟩
  .exact⟨_,_,_,i,by omega,rfl⟩
 .obtain⟨rfl,rfl⟩:=At.one.1 Qs;have w:=C.trans P;have q:=(d.x.ext w (asj A.length)).s d.m;have f4:=w.len;refine⟨⟨N.1,O.1,U,j,A.length,g,r,u',W,P.get t,P.get i,λx=>?_,nZ y (by omega) q k,nZ z (by omega) q k,?_,λu d=>(J u d).1⟩,λx=>?_,uY y d.m q k Q,uY z d.m q k R⟩
  .rcases I with⟨h1,_⟩|⟨_,h2⟩
   .rw[h1]at x;cases x
   .exact nZ h2 (by omega) q k
  .have co:f=true->cE T E' rs.rd e (p+1)=cE T A rs.rd e (p+1):= λhh=>by
    rcases I with⟨h1,_⟩|⟨_,h2⟩
    .rw[h1]at hh;cases hh
    .exact oH h2 w _ d.x
   rw[oH y w _ d.x,oH z w _ d.x];have d6:(if f=true/\cE T E' rs.rd e (p+1)≠0 then none else rs.rs p)=(if f=true/\cE T A rs.rd e (p+1)≠0 then none else rs.rs p):=by
    cases f with
    |false=>simp
    |true=>rw[co W]
   rw[d6];exact st
  .rcases I with⟨h1,_⟩|⟨_,h2⟩
   .rw[h1]at x;cases x
   .exact uY h2 d.m q k sE
 .rw[asx]at hq;subst hq;rfl
def Il{V:Nm->Prop}{k k2 cH:E}(I:GE s .int false 2 a)(hb:GE s .int false 2 b)(hk:GC .int k)(O4:GC .int k2)(U:GE s .ft true 3 e)
  (X:cH=.fq (nm 99 (n+1)) cg a\/cH=.fO k2 (.bin 3 (.var (nm 119 (n+2))) (.fq (nm 99 (n+1)) cg a))) (J:n+3<=n')
  (ih:∀(A:Env) (c:Nat),QX T G A V rs (s.more [cY 99 (n+1) .ft,cY 122 (n+3) .int]) outs (n+3) n' l c vs->∃E,QD T F Ov az A E V rs (s.more [cY 99 (n+1) .ft,cY 122 (n+3) .int]) outs (n+3) n' l c vs)
  (d:QX T G A V rs s outs n n' (.df (nm 99 (n+1)) e:: .df (nm 119 (n+2)) cH:: .df (nm 122 (n+3)) (.merge (nm 99 (n+1)) bz cg cX (.fq (nm 99 (n+1)) bz b) (.var (nm 119 (n+2))) k)::l) c (cY 99 (n+1) .ft::⟨nm 119 (n+2),.int,some (cg,nm 99 (n+1)),false,.nil⟩::cY 122 (n+3) .int::vs)):
  ∃E,QD T F Ov az A E V rs s outs n n' (.df (nm 99 (n+1)) e:: .df (nm 119 (n+2)) cH:: .df (nm 122 (n+3)) (.merge (nm 99 (n+1)) bz cg cX (.fq (nm 99 (n+1)) bz b) (.var (nm 119 (n+2))) k)::l) c (cY 99 (n+1) .ft::⟨nm 119 (n+2),.int,some (cg,nm 99 (n+1)),false,.nil⟩::cY 122 (n+3) .int::vs):=by
 simp only[cY]at ih d⊢;generalize hc:nm 99 (n+1)=C at*;generalize hw:nm 119 (n+2)=i at*;generalize hz:nm 122 (n+3)=Z at*;have UY:gD n (n+3) C:=⟨99,n+1,by omega,by omega,hc.symm⟩;have Qi:gD n (n+3) i:=⟨119,n+2,by omega,by omega,hw.symm⟩;have Sq:gD n (n+3) Z:=⟨122,n+3,by omega,by omega,hz.symm⟩;have ge:C≠i:= λe=>by rw[<-hc,<-hw]at e;have:=(iC e).2;omega
 have i6:C≠Z:= λe=>by rw[<-hc,<-hz]at e;have:=(iC e).2;omega
 have i7:i≠Z:= λe=>by rw[<-hw,<-hz]at e;have:=(iC e).2;omega
 have B:=d.vv _ (asV ..);have co:=d.vv _ (asI _ (asV ..));have d6:=d.vv _ (asI _ (asI _ (asV ..)));obtain⟨r,Y⟩:∃d,d=c+Sm.qP (dx (.df C e)):=⟨_,rfl⟩;obtain⟨p3,Z9⟩:∃d,d=r+Sm.qP (dx (.df i cH)):=⟨_,rfl⟩;have sE:=d.sq (.df C e) c (At.cons.2 (.inl ⟨rfl,rfl⟩));have sK:=d.sq (.df i cH) r (At.cons.2 (.inr (At.cons.2 (.inl ⟨rfl,Y⟩))));have vC:=nu U (d.x.s d.m) (j5 d.m sE);have x1:bf A (A++[(C,some (cE T A rs.rd e c),A.length)]):=bf.app _ _;have K:=ie (E:=A) (o:=some (cE T A rs.rd e c)) (sb:=A.length) (d.f _ (UY.mono (asj _) J));have l1:(A++[(C,some (cE T A rs.rd e c),A.length)]).length=A.length+1:=by simp
 have w1:get (A++[(C,some (cE T A rs.rd e c),A.length)]) i=none:=ku (d.f _ (Qi.mono (asj _) J)) ge.symm;have z1:get (A++[(C,some (cE T A rs.rd e c),A.length)]) Z=none:=ku (d.f _ (Sq.mono (asj _) J)) i6.symm;have d1:∀x,get (A++[(C,some (cE T A rs.rd e c),A.length)]) x≠none->get A x≠none\/gD n (n+3) x:= λR L=>by
  rcases ig L with g|rfl
  .exact .inl g
  .exact .inr UY
 generalize A++[(C,some (cE T A rs.rd e c),A.length)]=f at x1 K l1 w1 z1 d1;have ac:∀d,bf f d->val d C=cE T A rs.rd e c:= λj g=>by unfold val;rw[g.get K]
 have d7:∀d r,bf f d->A.length+1<=r->Kn d C r:= λj S g x=>⟨_,_,_,g.get K,by omega⟩
 obtain⟨D,M⟩:∃d:Option Int,d=if iz cg=cE T A rs.rd e c then some (cE T f rs.rd cH r)else none:=⟨_,rfl⟩
 have q:bf f (f++[(i,D,f.length)]):=bf.app _ _;have Q:=ie (E:=f) (o:=D) (sb:=f.length) w1;have z2:get (f++[(i,D,f.length)]) Z=none:=ku z1 i7.symm;have l2:(f++[(i,D,f.length)]).length=A.length+2:=by simp[l1]
 have d2:∀x,get (f++[(i,D,f.length)]) x≠none->get A x≠none\/gD n (n+3) x:= λR L=>by
  rcases ig L with g|rfl
  .exact d1 R g
  .exact .inr Qi
 generalize f++[(i,D,f.length)]=h at q Q z2 l2 d2;rw[l1]at Q;have aa:=GG I W;have WO:=d.x.ext x1 (asj A.length);have d8:=WO.ext q (asj A.length);have ah:∀d g,bf h d->A.length+2<=g->iz cg=cE T A rs.rd e c->Kn d i g/\val d i=cE T f rs.rd cH r:= λj S g x t=>by
  have:=g.get Q;rw[M,asB t]at this;exact⟨⟨_,_,_,this,by omega⟩,by unfold val;rw[this]⟩
 have tW:VT .int (cE T f rs.rd cH r):=by
  rcases X with rfl|rfl
  .exact nu I (WO.s d.m) (j5 d.m sK)
  .have:=sK.1;rw[tt O4]at this;have w:=d.m r;rw[this]at w;exact w
 have d9:∀d R r,bf h d->A.length+2<=r->r<=R->eI T d V R r (.merge C bz cg cX (.fq C bz b) (.var i) k):= λj i9 S g x hR=>by
  refine⟨B.1,d7 j S (q.trans g) (by omega),B.2.1,?_⟩;rw[ac j (q.trans g)];split
  .exact nZ (GG hb W) hR ((d8.ext g (by omega)).br.s d.m) qR.br
  .rename_i w;split
   .rename_i P;exact⟨co.1,(ah j S g x P).1⟩
   .rename_i P;refine⟨?_,FB hk _ _⟩;have i1:iz bz=1:=rfl;have i2:iz cg=0:=rfl;have i3:iz cX=2:=rfl;rw[i1]at w;rw[i2]at P;rw[i3];rcases vC with x|x|x
    .exact(P x.symm).elim
    .exact(w x.symm).elim
    .exact x.symm
 obtain⟨z,f4⟩:∃d,d=cE T h rs.rd (.merge C bz cg cX (.fq C bz b) (.var i) k) p3:=⟨_,rfl⟩;have tZ:VT .int z:=by
  rw[f4];simp only[cE];split
  .exact nu hb (d8.s d.m) (j5 d.m (d.sq _ _ (At.cons.2 (.inr (At.cons.2 (.inr (At.cons.2 (.inl ⟨W,by rw[Z9,Y]⟩))))))).1)
  .split
   .rename_i w;rw[ac h q]at w;rw[(ah h (A.length+2) (bf.refl _) (asj _) w).2];exact tW
   .exact CB hk _
 have p:bf h (h++[(Z,some z,h.length)]):=bf.app _ _;have H:=ie (E:=h) (o:=some z) (sb:=h.length) z2;have l3:(h++[(Z,some z,h.length)]).length=A.length+3:=by simp[l2]
 have d3:∀x,get (h++[(Z,some z,h.length)]) x≠none->get A x≠none\/gD n (n+3) x:= λR L=>by
  rcases ig L with g|rfl
  .exact d2 R g
  .exact .inr Sq
 generalize h++[(Z,some z,h.length)]=y at p H l3 d3;rw[l2]at H;have Ra:=(x1.trans q).trans p;have i8:lL T y V (s.more [⟨C,.ft,none,false,.nil⟩,⟨Z,.int,none,false,.nil⟩]) y.length:=(d.x.ext Ra Ra.len).more λv N=>by
  simp at N;rcases N with rfl|rfl
  .exact⟨B.2.1,λ_=>⟨B.1,d7 y _ (q.trans p) (by omega),by show VT .ft (val y C);rw[ac y (q.trans p)];exact vC⟩⟩
  .exact⟨d6.2.1,λ_=>⟨d6.1,⟨z,_,_,H,by omega⟩,by show VT .int (val y Z);unfold val;rw[H];exact tZ⟩⟩
 have Zr:=QX.pre (q0:=[_,_,_]) (v0:=[_,_,_]) (m:=n+3) d (by omega) J d3 i8 (λv u=>by
  simp at u;rcases u with rfl|rfl|rfl
  .exact UY
  .exact Qi
  .exact Sq)
 obtain⟨E,hE⟩:=ih y _ Zr;refine⟨E,QD.pre (q0:=[_,_,_]) (v0:=[_,_,_]) (m:=n+3) (by omega) J Ra d3 (λv N=>?_) (λj u YE f9 mt O=>?_) (λf9 hq=>?_) (by rfl) hE⟩
 .simp at N;rcases N with rfl|rfl|rfl
  .exact⟨_,_,_,(q.trans p).get K,asj _,W⟩
  .refine⟨_,_,_,p.get Q,by omega,B.1,B.2.1,d7 y _ (q.trans p) (by omega),?_⟩;rw[ac y (q.trans p),M];split<;>simp[*]
  .exact⟨_,_,_,H,by omega,rfl⟩
 .have We:=Ra.trans u;have pm:=u.len;have P:=d.x.ext We (asj A.length);rcases At.cons.1 O with⟨rfl,rfl⟩|O
  .refine⟨⟨B.1,.inl ⟨A.length,?_,nZ U (by omega) (P.s d.m) YE⟩⟩,λ_=>uY U d.m (P.s d.m) YE sE⟩;rw[oH U We _ d.x];exact((q.trans p).trans u).get K
  rcases At.cons.1 O with⟨rfl,rfl⟩|O
  .rw[<-Y];have kw:=(p.trans u).get Q;refine⟨⟨co.1,?_⟩,λXx=>?_⟩;rotate_left
   .have t:iz cg=cE T A rs.rd e c:=by
     obtain⟨v,sb,f8,g⟩:=Xx;rw[kw,M]at g;by_cases t:iz cg=cE T A rs.rd e c
     .exact t
     .rw[asu t]at g;simp at g
    obtain⟨_,z0⟩:=ny (T:=T) I W;rcases X with rfl|rfl
    .intro kv w;have f8:kv∈dU T j rs.rd a r:=w;rw[z0]at f8;cases f8
    .intro kv w;simp only[dU,z0,asW,asL,asQ,atS,ave]at w;subst w;have PM:=sK.1;rw[tt O4]at PM;unfold MT;rw[PM];refine DR (op:=3) (by simp) ?_ (nu I (P.s d.m) (j5 d.m sK.2.2));show Sm.oD (val j i);rw[(ah j (A.length+2) (p.trans u) (asj _) t).2];exact tW
   by_cases t:iz cg=cE T A rs.rd e c
   .refine .inl ⟨A.length+1,?_,?_⟩
    .rw[kw,M,asB t];have:cE T j rs.rd cH r=cE T f rs.rd cH r:=by
      rcases X with rfl|rfl
      .exact oH I ((q.trans p).trans u) r WO
      .rfl
     rw[this]
    .have f8:=(ah j (j.length+1) (p.trans u) (by omega) t).1;rcases X with rfl|rfl
     .exact nZ aa (by omega) ((P.ext (bf.refl _) (Nat.le_succ _)).br.s d.m) qR.br
     .exact⟨⟨co.1,f8⟩,nZ aa (asj _) ((P.ext (bf.refl _) (show A.length<=j.length+1 by omega)).br.s d.m) qR.br⟩
   .exact .inr ⟨A.length+1,by rw[kw,M,asu t]⟩
  obtain⟨rfl,rfl⟩:=At.one.1 O;rw[<-Y,<-Z9];refine⟨⟨d6.1,.inl ⟨A.length+2,?_,d9 j _ _ (p.trans u) (by omega) (by omega)⟩⟩,λ_ kv w=>?_⟩;rotate_left
  .obtain⟨_,z0⟩:=ny (T:=T) hb W;have zk:∀p,dU T j rs.rd k p=[]:= λf8=>by cases hk<;>rfl
   simp only[dU,z0,zk]at w;split at w
   .cases w
   .split at w<;>cases w
  rw[u.get H,f4];obtain⟨gc,hD⟩:=p.trans u;rw[hD,jo gc (d9 h (A.length+2) (A.length+2) (bf.refl _) (asj _) (asj _))]
 .simp at hq;rcases hq with rfl|rfl|rfl<;>rfl
end
end Go.Ex
namespace Go.Ex
open Go.Mt Go.Mk
variable{n n' n0:Nat}{vs outs t0 todo:List Va}{s s0:Sc}{qs q:List aB}
section
variable{T:fB}{F:List (Option Int)}{G:Nat->Sm.US->Prop}{Ov:Nat->Sm.US->List Int->List Int->Sm.US->Prop}{az:Nat->Sm.US}{an:Nat}{Sub:Sc->List Va->Nat->Nat->bF->Prop}
def Lr(a:Wd T F G Ov az an)(d:mz Sub)(i:vY T F G Ov az Sub)(h:GQ Sub an s outs n n' qs vs):
  ∀{V:Nm->Prop} {rs:Rs} (A:Env) (c:Nat),QX T G A V rs s outs n n' qs c vs->∃E,QD T F Ov az A E V rs s outs n n' qs c vs:=by
 induction h with
 | @sc s outs n q h=>
  intro V rs A c f;obtain⟨E,l,m,C,o⟩:=Ih a f.m f.x h c n n (λv a=>⟨(f.o v a).1,(f.o v a).2.2.2⟩) f.nd f.sq;refine⟨E,l,⟨m,λx j=>?_⟩,λv p=>(by cases p),o,λD H r y z t k=>?_⟩
  .grind
  .have w:∀{outs:List Va} {q:List aB},py s outs q->∀e∈q,cB e=[]:=by
    intro outs q h
    induction h with
    |nil=>intro e g;cases g
    |snoc h B e I u=>
     intro x j;rcases ast.1 j with g|g
     .exact u x g
     .rw[asx]at g;subst g;rfl
   obtain⟨u,g,B⟩:=t;rw[w h r (asn g)]at k;simp at k
 |tm g j k=>intro V rs A c f;exact GI a d i g j k (by omega) Ij f
 |pV g j k=>intro V rs A c f;exact GI a d i g j k (by omega) FE f
 |aN N k g j=>intro V rs A c f;exact Ii a d i k.1 g j f
 |reset g j=>intro V rs A c f;exact FD a d i g j f
 |call p m o b k l q e g h j=>intro V rs A c f;exact Ik a m k l g (tv d h) (λA c a=>j A c a) f
 |mx q b r t e cH k l m o g p h j=>intro V rs A c f;exact Il k l m o g p (tv d h) (λA c a=>j A c a) f
def Ls(O:Wd T F G Ov az an)(y:mz Sub)(P:vY T F G Ov az Sub)(h:GL (GQ Sub an) s0 t0 n0 s todo n q vs):
  ∀{V:Nm->Prop} {rs:Rs} (A:Env) (c:Nat),QX T G A V rs s0 t0 n0 n q c vs->∃E a,t0=a++todo/\QD T F Ov az A E V rs s0 a n0 n q c vs/\lL T E V s E.length/\s.all=s0.all:=by
 have H:∀s d n a b vs,GQ Sub an s d n a b vs->n<=a/\zE d n a b vs:= λs co n n' qs vs h=>⟨tv y h,CD y h⟩
 induction h with
 |start=>
  intro V rs A c a;exact⟨A,[],W,⟨bf.refl A,⟨λv b=>(by cases b),λx h=>.inl h⟩,λv b=>(by cases b),λa _ _ q p h=>(At.nil h).elim,λa _ q p a h=>(At.nil h).elim⟩,a.x,rfl⟩
 | @step s todo n n1 q vs q1 Vx h o h1 h3 hk I Q=>
  intro V rs A c a;obtain⟨j,rC,i2,R⟩:=CE H h;obtain⟨k,S⟩:=H _ _ _ _ _ _ I;obtain⟨E,r,U,d,J,K⟩:=Q (V:=V) (rs:=rs) A c ⟨a.m,a.x,a.o,a.nd,λv f=>a.vv v (asw _ f),λx i b=>by
    obtain⟨v,f,e⟩:=a.vb x i (b.mono (asj _) k);rcases ast.1 f with g|g
    .exact⟨v,g,e⟩
    .exact(b.not (e▸(S.v v g).gt)).elim,λx b=>a.f x (b.mono (asj _) k),λx i b=>a.ob x i (b.mono (asj _) k),λq p d=>a.sq q p (At.app.2 (.inl d)),λq p d=>a.sb q p (At.app.2 (.inl d))⟩
  have t:t0=r++(todo.take o++todo.drop o):=by rw[as9];exact U
  have u:∀v∈todo.take o,v∈t0:= λv a=>by rw[t];exact asz _ (asw _ a)
  have ac:∀v∈r,v∈t0:= λv a=>by rw[t];exact asw _ a
  have B:=a.nd;rw[t,asN,asN,ati]at B;have L:∀x,get A x=none->¬eZ r x->¬gD n0 n x->get E x=none:= λx b f i=>by
   cases w:get E x with
   |none=>rfl
   |some e=>
    rcases d.o.FC x (by rw[w];simp)with g|g|g
    .exact(g b).elim
    .exact(f g).elim
    .exact(i g).elim
  obtain⟨Y,b⟩:=Lr O y P I (V:=V) (rs:=rs) E (c+Ax q) ⟨a.m,J,λv i=>by
    obtain⟨g,w,z,Z⟩:=a.o v (u v i);refine⟨g,w,z,L _ Z ?_ (λb=>a.ob _ ⟨v,u v i,rfl⟩ (b.mono (asj _) k))⟩;rintro⟨ah,hw,e⟩;exact B.2.2 _ (as1 hw) _ (asw _ (as1 i)) e,
   (ati.1 B.2.1).1,λv l=>a.vv v (asz _ l),λx m f=>by
    obtain⟨v,l,e⟩:=a.vb x m (f.mono j (asj _));rcases ast.1 l with g|g
    .exact((e▸R.v v g).not f.gt).elim
    .exact⟨v,g,e⟩,λx f=>L x (a.f x (f.mono j (asj _))) (λ⟨w,z,e⟩=>a.ob x ⟨w,ac w z,e⟩ (f.mono j (asj _))) (λa=>a.not f.gt),λx m f=>by
    obtain⟨w,z,e⟩:=m;exact a.ob x ⟨w,u w z,e⟩ (f.mono j (asj _)),λq p b=>a.sq q p (At.app.2 (.inr b)),λq p b=>a.sb q p (At.app.2 (.inr b))⟩
  refine⟨Y,r++todo.take o,by rw[asM];exact t,⟨d.x.trans b.x,⟨λv i=>?_,λC X=>?_⟩,λv i=>?_,λf l M m p x=>?_,λf l m p D x N=>?_⟩,?_,K⟩
  .rcases ast.1 i with g|g
   .exact(d.o.o v g).mono b.x (asj _)
   .exact(b.o.o v g).mono (bf.refl _) d.x.len
  .rcases b.o.FC C X with g|⟨w,z,e⟩|g
   .rcases d.o.FC C g with g|⟨w,z,e⟩|g
    .exact .inl g
    .exact .inr (.inl ⟨w,asw _ z,e⟩)
    .exact .inr (.inr (g.mono (asj _) k))
   .exact .inr (.inl ⟨w,asz _ z,e⟩)
   .exact .inr (.inr (g.mono j (asj _)))
  .rcases ast.1 i with g|g
   .exact(d.v v g).ext b.x
   .exact b.v v g
  .rcases At.app.1 x with g|g
   .exact d.q f (b.x.trans l) M m p g
   .exact b.q f l (λv a b=>M v (K▸a) b) m p g
  .rcases At.app.1 x with g|g
   .exact d.b f (b.x.trans l) m p D g N
   .exact b.b f l m p D g N
  .exact(J.ext b.x b.x.len).more λv g=>by
    obtain⟨w,z,o3,o4⟩:=a.o v (u v g);obtain⟨Z,k2⟩:=(b.o.o v g).kn (asj _);exact⟨z.1,λ_=>⟨w,Z,k2⟩⟩
def qk:∀{l r:List Va} {v:Va},v∈fu l r->v∈l\/v∈r/\v.last=true
 |l,[],v,h=>.inl h
 |l,w::r,v,h=>by
  unfold fu at h;rcases qk h with g|g
  .grind
  .grind
def M4{m:Nat}(h:NV n vs m):∀v∈vs,v.clock=none:=by
 induction h with
 |nil=>intro v a;cases a
 |snoc h w c d e b=>
  intro v a;rcases ast.1 a with g|g
  .exact b v g
  .grind
def zI(h:GQ Sub an s outs n n' qs vs):∀v∈vs,v.last=false:=by
 induction h with
 |sc h=>intro v a;cases a
 |tm c d f=>intro v a;cases a
 |pV c d f=>intro v a;cases a
 |aN N f c d=>intro v a;cases a
 |reset c d=>intro v a;cases a
 |call j k d b g i l e f h c=>
  intro v a;rcases asQ.1 a with rfl|a
  .rfl
  rcases asQ.1 a with rfl|a
  .rfl
  .exact c v a
 |mx d b k j e cH g i l m f o h c=>
  intro v a;rcases asQ.1 a with rfl|a
  .rfl
  rcases asQ.1 a with rfl|a
  .rfl
  rcases asQ.1 a with rfl|a
  .rfl
  .exact c v a
def D0{Q:Sc->List Va->Nat->Nat->List aB->List Va->Prop}(c:∀s c n a b vs,Q s c n a b vs->∀v∈vs,v.last=false)(h:GL Q s0 t0 n0 s todo n q vs):∀v∈vs,v.last=false:=by
 induction h with
 |start=>intro v a;cases a
 |step h k d e f i b=>
  intro v a;rcases ast.1 a with g|g
  .exact b v g
  .grind
def D1(hW:Wd T F G Ov az an)(H:mz Sub)(hD:vY T F G Ov az Sub):vY T F G Ov az (DJ (GQ Sub an)):=by
 rintro w i Z I b ⟨c,P,s',ac,h,Q,h2,J,rfl⟩ A rs V ah hm d y PP K R Pm;obtain⟨s,t,a3⟩:=CF Q;obtain⟨L,dn,S,b3⟩:=CE (λs a n a a a h=>⟨tv H h,CD H h⟩) J;rw[asL]at S;subst S;have U:=M4 Q;have Q4:∀v∈c++h,gD Z I v.name:= λv a=>by
  rcases ast.1 a with g|g
  .exact(t v g).mono (asj _) L
  .exact(b3.v v g).mono s (asj _)
 have d7:∀x,eZ i x->∀v∈c++h,v.name≠x:=by
  rintro x ⟨g,D,rfl⟩ v a e;exact K _ (y g D).1 (e▸Q4 v a)
 have ZK:((c++i).map (·.name)).Nodup:=by
  rw[asN,ati];refine⟨a3,PP,λx d co D e=>?_⟩;subst e;obtain⟨v,N,e1⟩:=asK.1 d;obtain⟨g,g2,e2⟩:=asK.1 D;exact d7 x ⟨g,g2,e2⟩ v (asw _ N) e1
 have Pr:∀x,eZ (c++i) x->¬gD P I x:=by
  rintro x ⟨v,a,rfl⟩ D;rcases ast.1 a with g|g
  .exact(t v g).not D.gt
  .exact K _ (y v g).1 (D.mono s (asj _))
 cases Pm with
 |mk M sq sb=>
 have C:∀v∈c++h,Ig T v:= λv f=>by
  obtain⟨p,u⟩:=asJ.1 f;obtain⟨g,D,N⟩:=M p v u;exact⟨g,D,λh=>(N h).2⟩
 have z:∀v∈c++i,(V v.name\/∃w∈c++h,w.name=v.name)/\Ig T v/\v.clock=none/\get A v.name=none:= λv f=>by
  rcases ast.1 f with g|g
  .exact⟨.inr ⟨v,asw _ g,W⟩,C v (asw _ g),U v g,R _ ((t v g).mono (asj _) L)⟩
  .obtain⟨D,N⟩:=y v g;exact⟨.inl D,N⟩
 have Y:lL T A (λx=>V x\/∃w∈c++h,w.name=x) (JL w c i) A.length:=by
  have D:=d.sn (V':= λx=>V x\/∃w∈c++h,w.name=x) (λx h=>.inl h);refine⟨⟨d.t.1,λv a=>?_,λv a=>?_⟩,D.xx,λv a=>?_⟩
  .rcases ast.1 a with g|g
   .rcases ast.1 g with g|g
    .exact d.t.1 v g
    .exact(C v (asw _ g)).1
   .exact(y v g).2.1.1
  .rcases qk a with g|⟨g,_⟩
   .exact d.t.2.2 v g
   .exact(z v g).2.1.1
  .rcases qk a with g|⟨g,N⟩
   .exact D.vV v g
   .obtain⟨o1,⟨o2,o3,o4⟩,_⟩:=z v g;exact⟨o1,by rw[o3];exact N,o4 N⟩
 have hX:QX T G A (λx=>V x\/∃w∈c++h,w.name=x) rs (JL w c i) (c++i) P I ac (ah+Sm.aS ((c++h).map d_)) h:=by
  refine⟨hm,Y,z,ZK,λv a=>⟨.inr ⟨v,asz _ a,rfl⟩,C v (asz _ a)⟩,λx d g=>?_,λx g=>R x (g.mono s (asj _)),Pr,λk l N=>?_,λk l N co E O=>?_⟩
  .rcases d with d|⟨v,a,e⟩
   .exact(K x d (g.mono s (asj _))).elim
   .rcases ast.1 a with D|D
    .exact((t v D).not (e▸g.gt)).elim
    .exact⟨v,D,e⟩
  .obtain⟨j,m,n⟩:=N;exact sq j k l m n
  .obtain⟨j,m,n⟩:=N;exact sb j k l co E m n O
 obtain⟨d6,dn,X,f,c3,c4⟩:=Ls hW H hD J A _ hX;rw[asL]at X;subst X;refine⟨d6,f.x,⟨λv a=>f.o.o v (asz _ a),λx d=>?_⟩,λq o=>?_⟩
 .rcases f.o.FC x d with g|⟨v,a,e⟩|g
  .exact .inl g
  .rcases ast.1 a with g|g
   .exact .inr (.inr (e▸(t v g).mono (asj _) L))
   .exact .inr (.inl ⟨v,g,e⟩)
  .exact .inr (.inr (g.mono s (asj _)))
 have d8:qR q (λx=>V x\/∃w∈c++h,w.name=x) (JL w c i) (q.length+1):= λv B N=>by
  have D:=f.x.trans o;have dj:v∈w.ready\/v∈c++i:=by
   rcases ast.1 B with g|g
   .rcases ast.1 g with g|g
    .exact .inl g
    .exact .inr (asw _ g)
   .exact .inr (asz _ g)
  rcases dj with g|g
  .exact(Y.ext D (r':=q.length+1) (by have:=D.len;omega)).xx v g N
  .obtain⟨k1,k2⟩:=((f.o.o v g).mono o (asj _)).kn (r:=q.length+1) (by omega);exact⟨(z v g).1,k1,k2⟩
 refine .mk (λv a=>?_) (λp v u B=>?_) (λj k l m n=>?_) (λj k l E m n O=>?_)
 .obtain⟨s1,s2,_⟩:=C v a;refine⟨s1,s2,?_⟩;rcases ast.1 a with g|g
  .obtain⟨D,sb,p,N,g2,g3,g4⟩:=(f.o.o v (asw _ g)).mono o (asj _);exact⟨some D,sb,p,N,g3,by rw[U v g];rfl⟩
  .exact(f.v v g).ext o
 .refine⟨((M p v u).2.2 B).1,((M p v u).2.2 B).2,?_⟩;rcases ast.1 (asn u)with g|g
  .exact(((f.o.o v (asw _ g)).mono o (asj _)).kn (asj _)).2
  .rw[D0 (λs a n a a a h=>zI h) J v g]at B;cases B
 .exact f.q q o d8 k l ⟨j,m,n⟩
 .exact f.b q o k l E ⟨j,m,n⟩ O
def GJ(a:Wd T F G Ov az an):∀d,vY T F G Ov az (GB an d)
 |0=>D1 a ⟨λ_ _ _ _ _ h=>h.elim,λ_ _ _ _ _ h=>h.elim⟩ (λ_ _ _ _ _ h=>h.elim)
 |d+1=>D1 a (zG an d) (GJ a d)
end
end Go.Ex
namespace Go.Ex
open Go.Mt Go.Mk
open Go.Sm (Path US)
variable{π:Path}{j s p:Nat}{q:aB}{rs:Rs}{b:bF}{a:a_}{x:bF×Nat×Rs}
def mW(q:aB):(dx q).aj=(cB q).map oF:=by
 cases q with
 |df x e=>rfl
 |call x y f a b c e=>rfl
 |sw e aj=>show eG aj=_;rw[oS];rfl
 |aN aj=>show eG aj=_;rw[oS];rfl
 |reset e b=>rfl
def tz(a:a_):(oF a).cy=eD (dP a):=by cases a;rfl
def tA(b:bF):(eD b).aq=fy (cP b):=by cases b;rfl
def mX(b:bF):(eD b).vars=(dr b).map d_:=by cases b;rfl
def dv:aB->Int
 |.df .. =>1
 |.call .. =>2
 |.sw .. =>3
 |.aN .. =>4
 |.reset .. =>5
def eM(q:aB):(dx q).kd=dv q:=by cases q<;>rfl
def zJ{k:Nat}(h:(cB q)[k]?=some a):dv q=3\/dv q=4\/dv q=5:=by cases q<;>simp[cB,dv]at*
section
variable(T:fB)(F:List (Option Int))(A:Env)(d:Nd)(u:US)(Ov:Nat->US->List Int->List Int->US->Prop)(az:Nat->US)
def qz:Rs:=⟨u.mem,u.cw,u.an⟩
abbrev j7(b:bF)(s:Nat):List Nat:=Sm.dJ (fy (cP b)) (s+Sm.aS ((dr b).map d_))
def dw:Path->Option (bF×Nat×Rs)
 |[]=>some (d.b,0,qz u)
 |j::π=>match dw π with
  |none=>none
  |some (b,s,rs)=>match(cP b)[j]?,(j7 b s)[j]? with
   |some q,some p=>match(cB q)[fC T A rs p q]? with
    |some a=>some (dP a,nL q p (fC T A rs p q),oG T F A rs p q a)
    |none=>none
   |_,_=>none
def kz(π:Path)(j:Nat):Option (aB×Nat×Rs):=match dw T F A d u π with
 |none=>none
 |some (b,s,rs)=>match(cP b)[j]?,(j7 b s)[j]? with
  |some q,some p=>some (q,p,rs)
  |_,_=>none
def eO(π:Path):Sm.wA:=match dw T F A d u π with
 |none=>⟨[],[],[],[]⟩
 |some (b,s,_)=>if π=[]then Sm.sV (cM d)else Sm.uN (eD b) s
def sf(x:Nm):Option Int:=match get A x with
 |some (o,_,_)=>o
 |none=>none
def Ay(x:Nm):Nat:=match get A x with
 |some (_,_,i)=>i
 |none=>0
def wT:aB->Nat
 |.df x _=>iU A x
 |.call x _ _ _ _ _ _=>iU A x
 |q=>(dQ q).foldl (λm x=>min m (iU A x)) A.length
def Lt(rs:Rs)(p:Nat):aB->Int
 |.df _ e=>cE T A rs.rd e p
 |.call _ _ _ _ _ a e=>if a then cE T A rs.rd e (p+1)else 0
 |.sw e _=>cE T A rs.rd e p
 |.aN _=>0
 |.reset e _=>cE T A rs.rd e p
def ud(rs:Rs)(p:Nat):aB->List (Nat×Int)
 |.df _ e=>dU T A rs.rd e p
 |.call _ _ _ a b c e=>(if c then dU T A rs.rd e (p+1)else [])++(dU T A rs.rd a (p+1+xE e)++(dU T A rs.rd b (p+1+xE e+xE a)++[]))
 |.sw e _=>dU T A rs.rd e p
 |.aN _=>[]
 |.reset e _=>dU T A rs.rd e p
def GK:aB->List Int
 |.call x y _ _ _ _ _=>[val A x,val A y]
 |_=>[]
def GM(rs:Rs)(p:Nat)(q:aB)(u':US):Prop:=match q with
 |.call x y f a b c e=>∃j,f=nm 102 j/\Ov j ((if c=true/\cE T A rs.rd e (p+1)≠0 then none else rs.rs p).getD (az j)) [cE T A rs.rd a (p+1+xE e),cE T A rs.rd b (p+1+xE e+xE a)] [val A x,val A y] u'
 |_=>False
open Classical in
noncomputable def xr(rs:Rs)(p:Nat)(q:aB):US:=if h:∃a,GM T A Ov az rs p q a then Classical.choose h else az 0
def vZ(rs:Rs)(p:Nat):aB->Option Tr
 |.aN b=>match b[fC T A rs p (.aN b)]? with
  |some a=>je T A (oG T F A rs p (.aN b) a).rd (kS a)
  |none=>none
 |_=>none
def D2(rs:Rs)(p:Nat)(q:aB):Nat:=match q with
 |.aN a=>match vZ T F A rs p q with
  |none=>if fC T A rs p q<a.length then fC T A rs p q else 0
  |some t=>rN a t.to
 |_=>0
def Lu(rs:Rs)(p:Nat)(q:aB):Bool:=match vZ T F A rs p q with
 |none=>false
 |some t=> !t.fF
noncomputable def n_(ap:List Sm.It):Sm.aI where
 ok π:=(dw T F A d u π).isSome=true
 fr:=eO T F A d u
 val π k:=match(eO T F A d u π).vars[k]? with
  |some v=>sf A v.name
  |none=>none
 rk π k:=match(eO T F A d u π).vars[k]? with
  |some v=>Ay A v.name
  |none=>0
 sb π k:=match(eO T F A d u π).vars[k]? with
  |some v=>iU A v.name
  |none=>match π with
   |[]=>0
   |j::π=>match kz T F A d u π j with
    |some (q,_,_)=>wT A q
    |none=>0
 ek π j:=match kz T F A d u π j with
  |some (q,_,_)=>wT A q
  |none=>0
 br π j:=match kz T F A d u π j with
  |some (q,p,rs)=>fC T A rs p q
  |none=>0
 iE π j:=match kz T F A d u π j with
  |some (q,p,rs)=>Aw T A rs p q
  |none=>false
 ev π j:=match kz T F A d u π j with
  |some (q,p,rs)=>Lt T A rs p q
  |none=>0
 ew π j:=match kz T F A d u π j with
  |some (q,p,rs)=>ud T A rs p q
  |none=>[]
 outs π j:=match kz T F A d u π j with
  |some (q,p,rs)=>GK A q
  |none=>[]
 iF π j:=match kz T F A d u π j with
  |some (q,p,rs)=>xr T A Ov az rs p q
  |none=>az 0
 k7 π j:=match kz T F A d u π j with
  |some (q,p,rs)=>D2 T F A rs p q
  |none=>0
 nan π j:=match kz T F A d u π j with
  |some (q,p,rs)=>Lu T F A rs p q
  |none=>false
 rd _:=0
 rp _:=false
 rs _:=none
 dX:=A.length+1
 sz:=Sm.bT (cM d)
 ap:=ap
 wt _:=100
open Classical in
noncomputable def aJ(ap:List Sm.It):Sm.aI:={n_ T F A d u Ov az ap with
 rd:= λk=>if Sm.fH (n_ T F A d u Ov az ap) k then Sm.bZ F k else u.mem k
 rp:= λk=>if Sm.fH (n_ T F A d u Ov az ap) k/\F[k]?=some none then false else u.cw k
 rs:= λk=>if Sm.fH (n_ T F A d u Ov az ap) k/\F[k]?=some none then none else u.an k}
end
section
variable{T:fB}{F:List (Option Int)}{A:Env}{d:Nd}{u:US}{Ov:Nat->US->List Int->List Int->US->Prop}{az:Nat->US}{ap:List Sm.It}
def kO(h:dw T F A d u (j::π)=some x):∃b s rs q p a,dw T F A d u π=some (b,s,rs)/\(cP b)[j]?=some q/\(j7 b s)[j]?=some p/\(cB q)[fC T A rs p q]?=some a/\x=(dP a,nL q p (fC T A rs p q),oG T F A rs p q a)/\kz T F A d u π j=some (q,p,rs):=by
 rw[dw]at h;cases f:dw T F A d u π with
 |none=>rw[f]at h;cases h
 |some y=>
  obtain⟨b,s,rs⟩:=y;rw[f]at h;simp only at h;cases c:(cP b)[j]? with
  |none=>rw[c]at h;cases h
  |some q=>
   cases e:(j7 b s)[j]? with
   |none=>rw[c,e]at h;cases h
   |some p=>
    rw[c,e]at h;simp only at h;cases g:(cB q)[fC T A rs p q]? with
    |none=>rw[g]at h;cases h
    |some a=>
     rw[g]at h;injection h with h
     exact⟨b,s,rs,q,p,a,W,c,e,g,h.symm,by unfold kz;rw[f];simp only;rw[c,e]⟩
def xM(c:dw T F A d u π=some (b,s,rs))(e:(cP b)[j]?=some q)(f:(j7 b s)[j]?=some p)(g:(cB q)[fC T A rs p q]?=some a):dw T F A d u (j::π)=some (dP a,nL q p (fC T A rs p q),oG T F A rs p q a):=by
 rw[dw,c];simp only;rw[e,f];simp only;rw[g]
def v5(a:dw T F A d u π=some (b,s,rs))(c:(cP b)[j]?=some q)(e:(j7 b s)[j]?=some p):kz T F A d u π j=some (q,p,rs):=by
 unfold kz;rw[a];simp only;rw[c,e]
def mY(h:(cP b)[j]?=some q):∃p,(j7 b s)[j]?=some p:=by
 have:(fy (cP b))[j]?=some (dx q):=by rw[io,asF,h];rfl
 exact Sm.ua this
theorem pW(h:dw T F A d u π=some (b,s,rs)):(eO T F A d u π).aq=fy (cP b)/\(eO T F A d u π).pos=j7 b s:=by
 unfold eO;rw[h];simp only;by_cases e:π=[]
 .subst e;rw[dw]at h;injection h with h
  injection h with h a
  injection a with a c
  subst h;subst a;rw[asB W];refine⟨tA _,?_⟩;show Sm.dJ (eD d.b).aq (Sm.aS (eD d.b).vars)=_;rw[tA,mX];unfold j7;rw[atH]
 .rw[asu e];refine⟨tA _,?_⟩;show Sm.dJ (eD b).aq (s+Sm.aS (eD b).vars)=_;rw[tA,mX]
theorem kA{q':Sm.aB}(h:(eO T F A d u π).aq[j]?=some q'):∃b s rs q p,dw T F A d u π=some (b,s,rs)/\(cP b)[j]?=some q/\(j7 b s)[j]?=some p/\q'=dx q/\(eO T F A d u π).pos[j]?=some p/\kz T F A d u π j=some (q,p,rs):=by
 cases c:dw T F A d u π with
 |none=>unfold eO at h;rw[c]at h;simp at h
 |some y=>
  obtain⟨b,s,rs⟩:=y;obtain⟨f,g⟩:=pW c;rw[f,io,asF]at h;cases a:(cP b)[j]? with
  |none=>rw[a]at h;cases h
  |some q=>
   rw[a]at h;injection h with h
   obtain⟨p,e⟩:=mY (s:=s) a;exact⟨b,s,rs,q,p,W,a,e,h.symm,by grind,v5 c a e⟩
def v7(h:Sm.aI.ok (aJ T F A d u Ov az ap) π):∃b s rs,dw T F A d u π=some (b,s,rs):=by
 have a:(dw T F A d u π).isSome=true:=h;cases c:dw T F A d u π with
 |none=>rw[c]at a;cases a
 |some y=>exact⟨y.1,y.2.1,y.2.2,W⟩
def g_(h:dw T F A d u π=some x):Sm.aI.ok (aJ T F A d u Ov az ap) π:=by
 show(dw T F A d u π).isSome=true;rw[h];rfl
def uZ(h:kz T F A d u π j=some (q,p,rs)):Sm.aI.br (aJ T F A d u Ov az ap) π j=fC T A rs p q:=by
 show(match kz T F A d u π j with|some (q,p,rs)=>fC T A rs p q|none=>0)=_;rw[h]
def GO(h:kz T F A d u π j=some (q,p,rs)):Sm.aI.iE (aJ T F A d u Ov az ap) π j=Aw T A rs p q:=by
 show(match kz T F A d u π j with|some (q,p,rs)=>Aw T A rs p q|none=>false)=_;rw[h]
def jp(T:fB)(F:List (Option Int))(A:Env)(d:Nd)(u:US):Path->Nm->Prop
 |[],x=>eZ (d.ins++d.outs++dr d.b) x
 |j::π,x=>jp T F A d u π x\/∃b s a,dw T F A d u (j::π)=some (b,s,a)/\eZ (dr b) x
def oI{V:Nm->Prop}(h:sd T F A Ov az V rs s b):(∀v∈dr b,Mb T A (DV V b) v)/\(∀(i:Nat) (v:Va),(dr b)[i]?=some v->v.last=true->(Sm.b_ ((dr b).map d_) s)[i]?=some (some (T.lp v.name))/\T.pt (T.lp v.name)=.val v.ty/\VT v.ty (val A v.name))/\(∀(j:Nat) (q:aB) (p:Nat),(cP b)[j]?=some q->(j7 b s)[j]?=some p->Bk T F A Ov az (DV V b) rs p q)/\(∀(j:Nat) (q:aB) (p:Nat) (a:a_),(cP b)[j]?=some q->(j7 b s)[j]?=some p->(cB q)[fC T A rs p q]?=some a->sd T F A Ov az (DV V b) (oG T F A rs p q a) (nL q p (fC T A rs p q)) (dP a)):=by
 cases h with
 |mk c d e f=>exact⟨c,d,e,f⟩
theorem fM(l:sd T F A Ov az (eZ (d.ins++d.outs)) (qz u) 0 d.b)(m:vW (eZ (d.ins++d.outs)) d.b)(n:qj T 0 d.b):∀{π:Path} {b:bF} {s:Nat} {rs:Rs},dw T F A d u π=some (b,s,rs)->∃V,sd T F A Ov az V rs s b/\vW V b/\qj T s b/\(∀x,DV V b x↔jp T F A d u π x)/\(match π with|[]=>V=eZ (d.ins++d.outs)|_::OF=>V=jp T F A d u OF):=by
 intro π
 induction π with
 |nil=>
  intro b s rs h;rw[dw]at h;injection h with h
  injection h with h a
  injection a with a c
  subst h;subst a;subst c;refine⟨_,l,m,n,λx=>?_,rfl⟩;unfold jp DV eZ;constructor
  .grind
  .grind
 |cons j π o=>
  intro b s rs k;obtain⟨r,C,K,q,p,a,t,c,h,e,f,D⟩:=kO k;obtain⟨V,v,w,y,z,E⟩:=o t;have g:=(ato f).1;have i:=(ato (ato f).2).1;refine⟨DV V r,?_,?_,?_,λx=>?_,(funext λx=>propext (z x))⟩
  .rw[g,i,(ato (ato f).2).2];exact(oI v).2.2.2 j q p a c h e
  .rw[g];cases w with
   |mk G H I J B=>exact B q (asn c) a (asn e)
  .rw[g,i];cases y with
   |mk B G sb=>exact sb j q p _ a c h e
  .unfold jp;constructor
   .grind
   .grind
def lg(P:Sm.Pg)(r:cM d∈P.nodes)(s:sd T F A Ov az (eZ (d.ins++d.outs)) (qz u) 0 d.b)(t:vW (eZ (d.ins++d.outs)) d.b)(v:qj T 0 d.b):Sm.oB P (aJ T F A d u Ov az ap) (cM d):=by
 refine⟨r,λj f h=>?_,?_,λf j I g J w x i=>?_⟩
 .obtain⟨b,l,n,a⟩:=v7 h;obtain⟨o,y,D,q,p,m,a,c,z,k,B,C⟩:=kO a;refine⟨g_ a,dx q,?_,?_⟩
  .show(eO T F A d u f).aq[j]?=_;rw[(pW a).1,io,asF,c];rfl
  .rw[eM];exact zJ k
 .show eO T F A d u []=_;unfold eO;rw[dw];rfl
 .obtain⟨b,D,y,q,p,k,l,m,rfl,z,n⟩:=kA w;have B:g=p:=by
   have a:(eO T F A d u f).pos[j]?=some g:=x;rw[z]at a;injection a with a;exact a.symm
  subst B;obtain⟨V,C,K,L,M,N⟩:=fM s t v k;obtain⟨o,_⟩:=(oI C).2.2.1 j q g l m;rw[eM]at i;have c:∃a,(cB q)[fC T A y g q]?=some a:=by
   cases q with
   |df E e=>simp[dv]at i
   |call E G H a b O e=>simp[dv]at i
   |sw e G=>obtain⟨E,a,_,_,_,h,_⟩:=o;exact⟨a,h⟩
   |aN G=>obtain⟨E,a,H,_,_,_,_,_,h,_⟩:=o;exact⟨a,h⟩
   |reset e b=>exact⟨_,W⟩
  obtain⟨a,c⟩:=c;refine⟨oF a,?_,g_ (xM k l m c),?_⟩
  .rw[uZ n,mW,asF,c];rfl
  .rw[uZ n];show eO T F A d u (j::f)=_;unfold eO;rw[xM k l m c];simp only;rw[asu (by simp),tz]
end
end Go.Ex
namespace Go.Ex
open Go.Mt Go.Mk
open Go.Sm (Path US)
variable{k s:Nat}{π ρ:Path}{b:bF}{rs:Rs}{v:Va}{x:Nm}{l:List Va}
def pI(T:fB)(F:List (Option Int))(A:Env)(d:Nd)(u:US)(π:Path):List Va:=match dw T F A d u π with
 |none=>[]
 |some (b,_,_)=>if π=[]then d.ins++d.outs++dr d.b else dr b
structure bW(P:Sm.Pg)(T:fB)(F:List (Option Int))(A:Env)(d:Nd)(u:US)(Ov:Nat->US->List Int->List Int->US->Prop)(az:Nat->US):Prop where
 sp:Sm.mw P
 wf:Sm.px P
 dm:cM d∈P.nodes
 en:P.aG=cQ
 hF:F=Sm.gH P.aG (cM d)
 hL:sd T F A Ov az (eZ (d.ins++d.outs)) (qz u) 0 d.b
 hU:vW (eZ (d.ins++d.outs)) d.b
 hS:qj T 0 d.b
 nd:((d.ins++d.outs).map (·.name)).Nodup
 i:∀v∈d.ins,T.ty v.name=v.ty/\T.ls v.name=false/\v.last=false/\v.clock=none
 o:∀(i:Nat) (v:Va),d.outs[i]?=some v->T.ty v.name=v.ty/\T.ls v.name=v.last/\v.clock=none/\(v.last=true->(Sm.b_ (d.outs.map d_) (Sm.bP (eD d.b)))[i]?=some (some (T.lp v.name))/\T.pt (T.lp v.name)=.val v.ty)
 od:∀v∈d.outs,∃q∈cP d.b,v.name∈dQ q
 ni:∀v∈d.ins,∀q∈cP d.b,v.name∉dQ q
 ok:∀v∈d.outs,∃o sb i,get A v.name=some (some o,sb,i)/\sb<=i/\VT v.ty o
section
variable{P:Sm.Pg}{T:fB}{F:List (Option Int)}{A:Env}{d:Nd}{u:US}{Ov:Nat->US->List Int->List Int->US->Prop}{az:Nat->US}{ap:List Sm.It}
def bW.lg(X:bW P T F A d u Ov az):Sm.oB P (aJ T F A d u Ov az ap) (cM d):=Ex.lg P X.dm X.hL X.hU X.hS
def Rg(c:Sm.aI)(d:Sm.Nd)(π:Path)(k:Nat):Prop:=∃b j a,π=b++(j::a)/\c.iE a j=true/\Sm.pG c d (j::a) k
def D3{c:Sm.aI}{d:Sm.Nd}{j:Nat}{σ:Path} :Rg c d (j::σ) k↔(c.iE σ j=true/\Sm.pG c d (j::σ) k)\/Rg c d σ k:=by
 constructor
 .rintro⟨a,g,h,e,b,f⟩;cases a with
  |nil=>simp at e;obtain⟨rfl,rfl⟩:=e;exact .inl ⟨b,f⟩
  |cons i a=>simp at e;exact .inr ⟨a,g,h,e.2,b,f⟩
 .rintro(⟨a,b⟩|⟨f,g,h,e,a,b⟩)
  .exact⟨[],j,σ,W,a,b⟩
  .exact⟨j::f,g,h,by rw[e];rfl,a,b⟩
open Classical in
def JZ:∀{π:Path} {b:bF} {s:Nat} {rs:Rs},dw T F A d u π=some (b,s,rs)->∀k,rs.rd k=(if Rg (aJ T F A d u Ov az ap) (cM d) π k then Sm.bZ F k else u.mem k)/\rs.rp k=(if Rg (aJ T F A d u Ov az ap) (cM d) π k/\F[k]?=some none then false else u.cw k)/\rs.rs k=(if Rg (aJ T F A d u Ov az ap) (cM d) π k/\F[k]?=some none then none else u.an k):=by
 intro π
 induction π with
 |nil=>
  intro b s rs h k;rw[dw]at h;injection h with h
  have f:=(ato (ato h).2).2;have a:¬Rg (aJ T F A d u Ov az ap) (cM d) [] k:=by
   rintro⟨c,j,g,e,_⟩;cases c<;>simp at e
  rw[<-f];refine⟨?_,?_,?_⟩
  .rw[asu a];rfl
  .rw[asu (λh=>a h.1)];rfl
  .rw[asu (λh=>a h.1)];rfl
 |cons j a I=>
  intro b s rs G k;obtain⟨S,U,c,q,p,f,n,J,K,L,M,h⟩:=kO G;obtain⟨v,o,r⟩:=I n k;have H:=(ato (ato M).2).2;have D:(eO T F A d u a).aq[j]?=some (dx q):=by rw[(pW n).1,io,asF,J];rfl
  have w:(eO T F A d u a).pos[j]?=some p:=by rw[(pW n).2];exact K
  have x:(dx q).aj[Sm.aI.br (aJ T F A d u Ov az ap) a j]?=some (oF f):=by rw[uZ h,mW,asF,L];rfl
  have N:Sm.pG (aJ T F A d u Ov az ap) (cM d) (j::a) k↔nL q p (fC T A c p q)<=k/\k<nL q p (fC T A c p q)+Sm.bP (eD (dP f)):=by
   constructor
   .rintro⟨y,z,V,O,P,g,B,m⟩;have Q:y=dx q:=by have E:(eO T F A d u a).aq[j]?=some y:=O;rw[D]at E;injection E with i;exact i.symm
    have R:z=p:=by have C:(eO T F A d u a).pos[j]?=some z:=P;rw[w]at C;injection C with i;exact i.symm
    subst Q;subst R;rw[x]at g;injection g with g
    subst g;rw[uZ h]at B m;rw[tz]at m;exact⟨B,m⟩
   .rintro⟨g,i⟩;exact⟨dx q,p,oF f,D,w,x,by rw[uZ h];exact g,by rw[uZ h,tz];exact i⟩
  have l:=GO (Ov:=Ov) (az:=az) (ap:=ap) h;rw[H];unfold oG;cases t:Aw T A c p q with
  |false=>
   rw[t]at l;have g:Rg (aJ T F A d u Ov az ap) (cM d) (j::a) k↔Rg (aJ T F A d u Ov az ap) (cM d) a k:=by rw[D3,l];simp
   simp only[g];exact⟨v,o,r⟩
  |true=>
   rw[t]at l;have g:Rg (aJ T F A d u Ov az ap) (cM d) (j::a) k↔(nL q p (fC T A c p q)<=k/\k<nL q p (fC T A c p q)+Sm.bP (eD (dP f)))\/Rg (aJ T F A d u Ov az ap) (cM d) a k:=by rw[D3,l,N];simp
   simp only[auz];refine⟨?_,?_,?_⟩
   .show(if _ then _ else c.rd k)=_;by_cases i:nL q p (fC T A c p q)<=k/\k<nL q p (fC T A c p q)+Sm.bP (eD (dP f))
    .rw[asB i,asB (g.2 (.inl i))]
    .rw[asu i,v];have:Rg (aJ T F A d u Ov az ap) (cM d) (j::a) k↔Rg (aJ T F A d u Ov az ap) (cM d) a k:=by rw[g];simp[i]
     simp only[this]
   .show(if _ then _ else c.rp k)=_;by_cases m:nL q p (fC T A c p q)<=k/\k<nL q p (fC T A c p q)+Sm.bP (eD (dP f))
    .by_cases i:F[k]?=some none
     .rw[asB ⟨m,i⟩,asB ⟨g.2 (.inl m),i⟩]
     .rw[asu (λh=>i h.2),asu (λh=>i h.2),o,asu (λh=>i h.2)]
    .rw[asu (λh=>m h.1),o];have:Rg (aJ T F A d u Ov az ap) (cM d) (j::a) k↔Rg (aJ T F A d u Ov az ap) (cM d) a k:=by rw[g];simp[m]
     simp only[this]
   .show(if _ then _ else c.rs k)=_;by_cases m:nL q p (fC T A c p q)<=k/\k<nL q p (fC T A c p q)+Sm.bP (eD (dP f))
    .by_cases i:F[k]?=some none
     .rw[asB ⟨m,i⟩,asB ⟨g.2 (.inl m),i⟩]
     .rw[asu (λh=>i h.2),asu (λh=>i h.2),r,asu (λh=>i h.2)]
    .rw[asu (λh=>m h.1),r];have:Rg (aJ T F A d u Ov az ap) (cM d) (j::a) k↔Rg (aJ T F A d u Ov az ap) (cM d) a k:=by rw[g];simp[m]
     simp only[this]
theorem v8(X:bW P T F A d u Ov az){τ:Path}(h:dw T F A d u π=some (b,s,rs))(e:π=τ++ρ)(r:Sm.lW (aJ T F A d u Ov az ap) (cM d) ρ k):rs.rd k=Sm.aI.rd (aJ T F A d u Ov az ap) k/\rs.rp k=Sm.aI.rp (aJ T F A d u Ov az ap) k/\rs.rs k=Sm.aI.rs (aJ T F A d u Ov az ap) k:=by
 classical
 have a:Sm.oB P (aJ T F A d u Ov az ap) (cM d):=X.lg;have E:Sm.aI.ok (aJ T F A d u Ov az ap) π:=g_ h;have H:Rg (aJ T F A d u Ov az ap) (cM d) π k↔Sm.fH (aJ T F A d u Ov az ap) k:=by
  constructor
  .rintro⟨l,j,f,G,m,n⟩;obtain⟨o,q,g,t⟩:=a.iK j f (Sm.oC a (τ:=l) (by grind));obtain⟨D,p,i,c,v,w,x,y⟩:=n;rw[g]at c;injection c with c;subst c
   exact⟨f,j,q,p,i,o,g,v,t,m,w,x,y⟩
  .rintro⟨c,j,q,p,i,v,f,g,l,w,m,n,o⟩;obtain⟨D,x⟩:=a.br c j q p v f g l;obtain⟨t,y⟩:=(r.own X.sp X.wf a (Sm.oC a (τ:=τ) (by simp_all))) j c q p i x.ok f g l m n o;exact⟨τ++t,j,c,by grind,w,q,p,i,f,g,m,n,o⟩
 obtain⟨z,B,C⟩:=JZ (Ov:=Ov) (az:=az) (ap:=ap) h k;refine⟨?_,?_,?_⟩
 .rw[z];show _=(if Sm.fH (aJ T F A d u Ov az ap) k then _ else _);by_cases c:Sm.fH (aJ T F A d u Ov az ap) k
  .simp_all
  .simp_all
 .rw[B];show _=(if Sm.fH (aJ T F A d u Ov az ap) k/\F[k]?=some none then _ else _);by_cases c:Sm.fH (aJ T F A d u Ov az ap) k/\F[k]?=some none
  .grind
  .grind
 .rw[C];show _=(if Sm.fH (aJ T F A d u Ov az ap) k/\F[k]?=some none then _ else _);by_cases c:Sm.fH (aJ T F A d u Ov az ap) k/\F[k]?=some none
  .grind
  .grind
def CG(X:bW P T F A d u Ov az):∀{π:Path} {k:Nat},Sm.aI.ok (aJ T F A d u Ov az ap) π->Sm.pG (aJ T F A d u Ov az ap) (cM d) π k->k<Sm.bT (cM d)
 |[],k,_,h=>h
 |j::π,k,a,h=>CG X (π:=π) ((X.lg (ap:=ap)).iK j π a).1 (Sm.child X.sp X.wf X.lg a h).1
theorem Lv(b:(l.map (·.name)).Nodup)(h:l[k]?=some v):Sm.fN (l.map d_) v.name=some k:=by
 unfold Sm.fN;rw[auu];obtain⟨j,a,c,f,d,g⟩:=xL l ((λw:Sm.Va=>decide (w.name=v.name))∘d_) ⟨v,asn h,by simp[d_]⟩;rw[c];have i:a.name=v.name:=asC d;have e:k<(l.map (·.name)).length:=by
  grind
 have:=(aut e b (j:=j)).1 (by grind);rw[this]
def GR(h:¬eZ l x):Sm.fN (l.map d_) x=none:=by
 unfold Sm.fN;rw[atE];intro w a;obtain⟨v,b,rfl⟩:=asK.1 a;simp;exactλe=>h ⟨v,b,e⟩
def ly(h:dw T F A d u π=some (b,s,rs)):pI T F A d u π=if π=[]then d.ins++d.outs++dr d.b else dr b:=by unfold pI;rw[h]
def nO:(eO T F A d u π).vars=(pI T F A d u π).map d_:=by
 unfold eO pI;cases dw T F A d u π with
 |none=>rfl
 |some y=>
  obtain⟨b,s,a⟩:=y;simp only;split
  .show(d.ins.map d_)++(d.outs.map d_)++(eD d.b).vars=_;rw[mX];simp
  .exact mX b
def Lw(X:bW P T F A d u Ov az)(h:dw T F A d u π=some (b,s,rs)):((pI T F A d u π).map (·.name)).Nodup:=by
 obtain⟨V,o,g,p,q,c⟩:=fM X.hL X.hU X.hS h;rw[ly h];cases g with
 |mk f i r t z=>
 split
 .rename_i e;subst e;rw[dw]at h;injection h with h
  have a:=(ato h).1;subst a;simp only at c;rw[asN,ati];refine⟨X.nd,f,λx j y k e=>?_⟩;subst e;obtain⟨v,l,a⟩:=asK.1 j;obtain⟨w,m,n⟩:=asK.1 k;refine i w m ?_;rw[c];exact⟨v,l,by rw[a,n]⟩
 .exact f
structure D4(T:fB)(F:List (Option Int))(A:Env)(d:Nd)(u:US)(c:Sm.aI)(π:Path)(x:Nm)(ρ:Path)(k:Nat)(v:Va):Prop where
 f:c.find π x=some (ρ,k)
 f2:c.find ρ x=some (ρ,k)
 s:∃τ,π=τ++ρ
 vv:(pI T F A d u ρ)[k]?=some v
 n:v.name=x
 ix:Sm.fN (c.fr ρ).vars x=some k
def CH(X:bW P T F A d u Ov az)(h:jp T F A d u ρ x):∀τ,jp T F A d u (τ++ρ) x
 |[]=>h
 |j::τ=>by rw[atp];unfold jp;exact .inl (CH X h τ)
def oT(X:bW P T F A d u Ov az)(h:dw T F A d u π=some (b,s,rs))(c:(pI T F A d u π)[k]?=some v):D4 T F A d u (aJ T F A d u Ov az ap) π v.name π k v:=by
 have a:Sm.fN (Sm.aI.fr (aJ T F A d u Ov az ap) π).vars v.name=some k:=by
  show Sm.fN (eO T F A d u π).vars v.name=some k;rw[nO];exact Lv (Lw X h) c
 have e:Sm.aI.find (aJ T F A d u Ov az ap) π v.name=some (π,k):=by
  cases π with
  |nil=>unfold Sm.aI.find;rw[a];rfl
  |cons j π=>unfold Sm.aI.find;rw[a]
 exact⟨e,e,⟨[],W⟩,c,W,a⟩
def qT(X:bW P T F A d u Ov az):∀{π:Path} {b:bF} {s:Nat} {rs:Rs},dw T F A d u π=some (b,s,rs)->∀{x:Nm},jp T F A d u π x->∃ρ k v,D4 T F A d u (aJ T F A d u Ov az ap) π x ρ k v:=by
 intro π
 induction π with
 |nil=>
  intro b s rs h x a;unfold jp at a;obtain⟨v,c,rfl⟩:=a;obtain⟨k,f⟩:=asJ.1 c;exact⟨[],k,v,oT X h (by rw[ly h,asB W];exact f)⟩
 |cons j π i=>
  intro b s rs h x f;by_cases c:eZ (pI T F A d u (j::π)) x
  .obtain⟨v,a,rfl⟩:=c;obtain⟨k,g⟩:=asJ.1 a;exact⟨j::π,k,v,oT X h g⟩
  .obtain⟨r,t,w,q,p,o,l,_⟩:=kO h;have m:jp T F A d u π x:=by
    unfold jp at f;rcases f with g|⟨y,z,B,a,n⟩
    .exact g
    .exact(c (by rw[ly a,asu (by simp)];exact n)).elim
   obtain⟨ρ,k,v,a⟩:=i l m;refine⟨ρ,k,v,?_,a.f2,?_,a.vv,a.n,a.ix⟩
   .unfold Sm.aI.find;have:Sm.fN (Sm.aI.fr (aJ T F A d u Ov az ap) (j::π)).vars x=none:=by
     show Sm.fN (eO T F A d u (j::π)).vars x=none;rw[nO];exact GR c
    rw[this];exact a.f
   .obtain⟨g,e⟩:=a.s;exact⟨j::g,by rw[e];rfl⟩
def J0(X:bW P T F A d u Ov az)(c:jp T F A d u ρ x):∀{τ:Path} {b:bF} {s:Nat} {rs:Rs},dw T F A d u (τ++ρ)=some (b,s,rs)->Sm.aI.find (aJ T F A d u Ov az ap) (τ++ρ) x=Sm.aI.find (aJ T F A d u Ov az ap) ρ x:=by
 intro τ
 induction τ with
 |nil=>intro b s rs h;rfl
 |cons j τ e=>
  intro b s rs h;obtain⟨o,r,t,q,p,n,f,_⟩:=kO h;obtain⟨V,w,g,y,z,i⟩:=fM X.hL X.hU X.hS h;have k:¬eZ (pI T F A d u (j::(τ++ρ))) x:=by
   rintro⟨v,a,rfl⟩;rw[ly (show dw T F A d u (j::(τ++ρ))=_ from h),asu (by simp)]at a;cases g with
   |mk B l C D E=>exact l v a (by rw[i];exact CH X c τ)
  have:Sm.fN (Sm.aI.fr (aJ T F A d u Ov az ap) (j::(τ++ρ))).vars x=none:=by
   show Sm.fN (eO T F A d u _).vars x=none;rw[nO];exact GR k
  have m:Sm.aI.find (aJ T F A d u Ov az ap) (j::(τ++ρ)) x=Sm.aI.find (aJ T F A d u Ov az ap) (τ++ρ) x:=by rw[Sm.aI.find,this]
  exact m.trans (e f)
def FF(π:Path)(h:(pI T F A d u π)[k]?=some v):Sm.aI.val (aJ T F A d u Ov az ap) π k=sf A v.name/\Sm.aI.rk (aJ T F A d u Ov az ap) π k=Ay A v.name/\Sm.aI.sb (aJ T F A d u Ov az ap) π k=iU A v.name:=by
 have:(eO T F A d u π).vars[k]?=some (d_ v):=by rw[nO,asF,h];rfl
 refine⟨?_,?_,?_⟩
 .show(match(eO T F A d u π).vars[k]? with|some v=>sf A v.name|none=>none)=_;rw[this];rfl
 .show(match(eO T F A d u π).vars[k]? with|some v=>Ay A v.name|none=>0)=_;rw[this];rfl
 .show(match(eO T F A d u π).vars[k]? with|some v=>iU A v.name|none=>_)=_;rw[this];rfl
end
end Go.Ex
namespace Go.Ex
open Go.Mt Go.Mk
open Go.Sm (Path US)
variable{b:bF}{s k r:Nat}{rs:Rs}{π ρ:Path}{x:Nm}{v:Va}
section
variable{P:Sm.Pg}{T:fB}{F:List (Option Int)}{A:Env}{d:Nd}{u:US}{Ov:Nat->US->List Int->List Int->US->Prop}{az:Nat->US}{ap:List Sm.It}
def qU(h:dw T F A d u []=some (b,s,rs)):b=d.b/\s=0/\rs=qz u:=by
 rw[dw]at h;injection h with h
 exact⟨(ato h).1.symm,(ato (ato h).2).1.symm,(ato (ato h).2).2.symm⟩
def zK(h:dw T F A d u π=some (b,s,rs)):(eO T F A d u π).cK=if π=[]then List.replicate d.ins.length none++Sm.b_ (d.outs.map d_) (Sm.bP (eD d.b))++Sm.b_ ((dr d.b).map d_) 0 else Sm.b_ ((dr b).map d_) s:=by
 unfold eO;rw[h];simp only;split
 .show List.replicate (d.ins.map d_).length none++Sm.b_ (d.outs.map d_) (Sm.bP (eD d.b))++Sm.b_ (eD d.b).vars 0=_;rw[mX,asD]
 .show Sm.b_ (eD b).vars s=_;rw[mX]
structure Me(T:fB)(A:Env)(c:Sm.aI)(V:Nm->Prop)(a:Nat)(ρ:Path)(k:Nat)(v:Va):Prop where
 ty:T.ty v.name=v.ty
 ls:T.ls v.name=v.last
 lp:v.last=true->(c.fr ρ).cK[k]?=some (some (T.lp v.name))/\T.pt (T.lp v.name)=.val v.ty/\VT v.ty (val A v.name)
 d:(ρ=[]->a<=k)->Bn T A V v
theorem J1(X:bW P T F A d u Ov az)(h:dw T F A d u ρ=some (b,s,rs))(a:(pI T F A d u ρ)[k]?=some v):Me T A (aJ T F A d u Ov az ap) (jp T F A d u ρ) d.ins.length ρ k v:=by
 obtain⟨V,n,E,G,p,H⟩:=fM X.hL X.hU X.hS h;obtain⟨c,g,I,J⟩:=oI n;rw[funext λx=>propext (p x)]at c;have f:(Sm.aI.fr (aJ T F A d u Ov az ap) ρ).cK=_:=zK h;rw[ly h]at a;by_cases e:ρ=[]
 .rw[asB e]at a f;subst e;obtain⟨rfl,rfl,rfl⟩:=qU h;have q:(List.replicate d.ins.length (none:Option Nat)).length=d.ins.length:=by simp
  have r:(Sm.b_ (d.outs.map d_) (Sm.bP (eD d.b))).length=d.outs.length:=by rw[Sm.eL];simp
  rcases asp k d.ins.length with i|i
  .rw[asM,asl i]at a;obtain⟨j,l,m,o⟩:=X.i v (asn a);exact⟨j,by rw[l,m],λa=>(by grind),λa=>absurd (a W) (by omega)⟩
  rcases asp k (d.ins.length+d.outs.length)with w|w
  .have j:d.outs[k-d.ins.length]?=some v:=by
    grind
   obtain⟨x,y,z,B⟩:=X.o _ v j;obtain⟨o,sb,m,l,C,D⟩:=X.ok v (asn j);refine⟨x,y,λt=>⟨?_,(B t).2,?_⟩,λ_=>⟨some o,sb,m,l,C,by rw[z];rfl⟩⟩
   .grind
   .unfold val;rw[l];exact D
  .have j:(dr d.b)[k-(d.ins.length+d.outs.length)]?=some v:=by
    grind
   obtain⟨m,o,t⟩:=c v (asn j);refine⟨m,o,λl=>?_,λ_=>t⟩;obtain⟨x,y,z⟩:=g _ v j l;refine⟨?_,y,z⟩;rw[f,ass (by grind)];simp only[asq,q,r];exact x
 .rw[asu e]at a f;obtain⟨j,l,m⟩:=c v (asn a);refine⟨j,l,λi=>?_,λ_=>m⟩;obtain⟨r,o,q⟩:=g _ v a i;exact⟨by grind,o,q⟩
def Bp:(sf A x).getD 0=val A x:=by
 unfold sf val;cases get A x with
 |none=>rfl
 |some e=>
  obtain⟨o,sb,i⟩:=e;cases o<;>rfl
def D4.get(h:D4 T F A d u (aJ T F A d u Ov az ap) π x ρ k v):Sm.aI.get (aJ T F A d u Ov az ap) (ρ,k)=val A x/\Sm.aI.jE (aJ T F A d u Ov az ap) (ρ,k)=Ay A x/\Sm.aI.val (aJ T F A d u Ov az ap) ρ k=sf A x/\Sm.aI.sb (aJ T F A d u Ov az ap) ρ k=iU A x:=by
 obtain⟨a,b,c⟩:=FF (Ov:=Ov) (az:=az) (ap:=ap) ρ h.vv;rw[h.n]at a b c;refine⟨?_,b,a,c⟩;show(Sm.aI.val (aJ T F A d u Ov az ap) ρ k).getD 0=_;rw[a];exact Bp
def Kn.ix(h:Kn A x r):Ay A x<r:=by obtain⟨v,s,i,a,b⟩:=h;unfold Ay;rw[a];exact b
def Kn.vv(h:Kn A x r):sf A x=some (Ex.val A x):=by obtain⟨v,s,i,a,b⟩:=h;unfold sf Ex.val;rw[a]
def zL(X:bW P T F A d u Ov az)(h:dw T F A d u π=some (b,s,rs))(a:∃τ,π=τ++ρ):∃b' a c,dw T F A d u ρ=some (b',a,c):=by
 obtain⟨τ,rfl⟩:=a;exact v7 (Ov:=Ov) (az:=az) (ap:=[]) (Sm.oC (X.lg (ap:=[])) (τ:=τ) (g_ h))
def D4.fx(X:bW P T F A d u Ov az)(a:dw T F A d u π=some (b,s,rs))(h:D4 T F A d u (aJ T F A d u Ov az ap) π x ρ k v):Me T A (aJ T F A d u Ov az ap) (jp T F A d u ρ) d.ins.length ρ k v:=by
 obtain⟨e,f,g,c⟩:=zL X a h.s;exact J1 X c h.vv
def zM(a:(pI T F A d u ρ)[k]?=some v)(ht:v.ty=.ft):Sm.aI.c9 cQ (aJ T F A d u Ov az ap) (ρ,k)=[cg,bz,cX]:=by
 unfold Sm.aI.c9;show(match(eO T F A d u ρ).vars[k]? with|some v=>Sm.eU cQ v.tk v.tn|none=>[])=_;rw[nO,asF,a];show Sm.eU cQ v.ty.kind v.ty.nm=_;rw[ht]
 decide
def zO{s:Nm}(h:s∈([cg,bz,cX]:List Nm)):Sm.qC cQ s=iz s:=by
 simp at h;rcases h with rfl|rfl|rfl<;>decide
def u4(X:bW P T F A d u Ov az)(j:dw T F A d u π=some (b,s,rs)):∀{e:E} {r p:Nat},eI T A (jp T F A d u π) (A.length+1) r e->(∀k,p<=k->k<p+xE e->Sm.lW (aJ T F A d u Ov az ap) (cM d) π k)->Sm.gI cQ (aJ T F A d u Ov az ap) π r (cx e) p (cE T A rs.rd e p) (dU T A rs.rd e p):=by
 have H:Sm.aI.ok (aJ T F A d u Ov az ap) π:=g_ j;have z:∀k,Sm.lW (aJ T F A d u Ov az ap) (cM d) π k->rs.rd k=Sm.aI.rd (aJ T F A d u Ov az ap) k/\k<Sm.aI.sz (aJ T F A d u Ov az ap):= λk f=>⟨(v8 X j (τ:=[]) W f).1,CG X H f.1⟩
 intro e
 induction e with
 |nil=>intro r p h _;exact h.elim
 |int n=>intro r p h _;exact .uO (.inl W)
 |bool n=>intro r p h _;exact .uO (.inr (.inl W))
 |ctor n=>
  intro r p h _;have:=Sm.gI.uO (en:=cQ) (c:=(aJ T F A d u Ov az ap)) (π:=π) (r:=r) (k:=3) (op:=0) (n:=0) (s:=n) (names:=[]) (kids:=[]) (p:=z2) (a:=p) (.inr (.inr W));rw[show Sm.pc cQ (.mk 3 0 0 n [] [] z2)=iz n from zO h]at this;exact this
 |var x=>
  intro r p h _;obtain⟨m,k,v,f⟩:=qT X (ap:=ap) j h.1;obtain⟨g,l,_⟩:=f.get;have:=Sm.gI.var (en:=cQ) (c:=(aJ T F A d u Ov az ap)) (π:=π) (r:=r) (op:=0) (n:=0) (s:=x) (names:=[]) (kids:=[]) (p:=z2) (a:=p) f.f (by rw[l];exact h.2.ix);rw[g]at this;exact this
 |last x=>
  intro r p h _;obtain⟨q,k,v,f⟩:=qT X (ap:=ap) j h.1;have l:=f.fx X j;have g:=(l.lp (by rw[<-l.ls,f.n];exact h.2)).1;rw[f.n]at g;obtain⟨τ,e⟩:=f.s;obtain⟨m,o⟩:=Sm.kL X.sp X.wf X.lg (Sm.oC X.lg (τ:=τ) (by rw[<-e];exact H)) g;have:=Sm.gI.last (en:=cQ) (c:=(aJ T F A d u Ov az ap)) (π:=π) (r:=r) (op:=0) (n:=0) (s:=x) (names:=[]) (kids:=[]) (p:=z2) (a:=p) f.f g o;rw[<-(v8 X j e m).1]at this;exact this
 |un op a f=>intro r p h g;exact .un (f h (λk f h=>g k f (by simp only[xE,cx,Sm.xP,Sm.dS]at h⊢;omega)))
 |bin op a b g l=>
  intro r p h f;exact .bin (g h.1 (λk g h=>f k g (by simp only[xE,cx,Sm.xP,Sm.dS]at h⊢;omega))) (l h.2 (λk g g=>f k (by omega) (by simp only[xE,cx,Sm.xP,Sm.dS]at g⊢;omega)))
 |ite c a b m g l=>
  intro r p h f;exact .ite (m h.1 (λk g h=>f k g (by simp only[xE,cx,Sm.xP,Sm.dS]at h⊢;omega))) (g h.2.1 (λk g g=>f k (by omega) (by simp only[xE,cx,Sm.xP,Sm.dS]at g⊢;omega)))
   (l h.2.2 (λk g g=>f k (by omega) (by simp only[xE,cx,Sm.xP,Sm.dS]at g⊢;omega)))
 |fO c y o g=>
  intro r p h f;have q:xE (.fO c y)=1+xE c+xE y:=by simp only[xE,cx,Sm.xP,Sm.dS,Sm.dh];simp;omega
  obtain⟨l,m⟩:=z p (f p (asj _) (by omega));have:=Sm.gI.fO (en:=cQ) (c:=(aJ T F A d u Ov az ap)) (π:=π) (r:=r) (op:=0) (n:=0) (s:=e0) (names:=[]) (x:=cx c) (p:=z2) m (g (r:=A.length+1) (p:=p+1+xE c) h (λk g g=>f k (by omega) (by omega)));rw[<-l]at this;exact this
 |pre y g=>
  intro r p h f;have o:xE (.pre y)=1+xE y:=by simp only[xE,cx,Sm.xP,Sm.dS,Sm.dh];simp
  obtain⟨l,m⟩:=z p (f p (asj _) (by omega));have:=Sm.gI.pre (en:=cQ) (c:=(aJ T F A d u Ov az ap)) (π:=π) (r:=r) (op:=0) (n:=0) (s:=e0) (names:=[]) (p:=z2) m (g (r:=A.length+1) (p:=p+1) h (λk g g=>f k (by omega) (by omega)));rw[<-l]at this;exact this
 |arrow a b g l=>
  intro r p h f;have q:xE (.arrow a b)=1+xE a+xE b:=by simp only[xE,cx,Sm.xP,Sm.dS,Sm.dh];simp;omega
  obtain⟨m,o⟩:=z p (f p (asj _) (by omega));have:=Sm.gI.arrow (en:=cQ) (c:=(aJ T F A d u Ov az ap)) (π:=π) (r:=r) (op:=0) (n:=0) (s:=e0) (names:=[]) (p:=z2) o (g (p:=p+1) h.1 (λk g g=>f k (by omega) (by omega))) (l (p:=p+1+xE a) h.2 (λk g g=>f k (by omega) (by omega)));rw[<-m]at this;exact this
 |fq x c a f=>intro r p h g;exact .fq (f h (λk f h=>g k f (by simp only[xE,cx,Sm.xP,Sm.dS]at h⊢;omega)))
 |merge x g h l a b c M N O=>
  intro r p I B;obtain⟨K,L,Q,m⟩:=I;have V:xE (.merge x g h l a b c)=xE a+xE b+xE c:=by simp only[xE,cx,Sm.xP,Sm.dS,Sm.dh];simp;omega
  obtain⟨D,k,v,q⟩:=qT X (ap:=ap) j K;obtain⟨t,J,_⟩:=q.get;have w:Sm.aI.c9 cQ (aJ T F A d u Ov az ap) (D,k)=[cg,bz,cX]:=zM q.vv (by rw[<-(q.fx X j).ty,q.n];exact Q);have C:Sm.aI.jE (aJ T F A d u Ov az ap) (D,k)<r:=by rw[J];exact L.ix
  by_cases f:iz g=val A x
  .rw[asB f]at m;have o:cE T A rs.rd (.merge x g h l a b c) p=cE T A rs.rd a p:=by simp only[cE];rw[asB f]
   have y:dU T A rs.rd (.merge x g h l a b c) p=dU T A rs.rd a p:=by simp only[dU];rw[asB f]
   rw[o,y];exact .merge (i:=0) (cn:=g) (e:=cx a) q.f C W (by rw[w,t];exact f) (λf y f=>by omega) W (by
    exact M (p:=p) m (λk f g=>B k f (by omega)))
  .rw[asu f]at m;by_cases o:iz h=val A x
   .rw[asB o]at m;have G:cE T A rs.rd (.merge x g h l a b c) p=cE T A rs.rd b (p+xE a):=by simp only[cE];rw[asu f,asB o]
    have R:dU T A rs.rd (.merge x g h l a b c) p=dU T A rs.rd b (p+xE a):=by simp only[dU];rw[asu f,asB o]
    rw[G,R];exact .merge (i:=1) (cn:=h) (e:=cx b) q.f C W (by rw[w,t];exact o) (λS U Y y=>by
     have:S=0:=by omega
     subst this;simp at y;subst y;rw[w,t];exact f) W (by
     exact N (p:=p+xE a) m (λk f f=>B k (by omega) (by omega)))
   .rw[asu o]at m;have R:cE T A rs.rd (.merge x g h l a b c) p=cE T A rs.rd c (p+xE a+xE b):=by simp only[cE];rw[asu f,asu o]
    have S:dU T A rs.rd (.merge x g h l a b c) p=dU T A rs.rd c (p+xE a+xE b):=by simp only[dU];rw[asu f,asu o]
    rw[R,S];exact .merge (i:=2) (cn:=l) (e:=cx c) q.f C W (by rw[w,t];exact m.1) (λG U Y y=>by
     have:G=0\/G=1:=by omega
     rcases this with rfl|rfl
     .simp at y;subst y;rw[w,t];exact f
     .simp at y;subst y;rw[w,t];exact o) W (by
     show Sm.gI cQ (aJ T F A d u Ov az ap) π r (cx c) (p+(xE a+(xE b+0))) _ _;rw[auq,<-atd];exact O (p:=p+xE a+xE b) m.2 (λk f f=>B k (by omega) (by omega)))
end
end Go.Ex
namespace Go.Ex
open Go.Mt Go.Mk
open Go.Sm (Path US)
variable{rs:Rs}{π:Path}{q:aB}{j s p k:Nat}{b:bF}{x:Nm}{v:Va}
theorem nP{f:Nm->Nat} :∀(l:List Nm) (m:Nat),(l.foldl (λm x=>min m (f x)) m<=m)/\(∀x∈l,l.foldl (λm x=>min m (f x)) m<=f x)/\∀t,t<=m->(∀x∈l,t<=f x)->t<=l.foldl (λm x=>min m (f x)) m
 |[],m=>⟨asj _,λx a=>(by cases a),λt h _=>h⟩
 |y::l,m=>by
  obtain⟨d,b,c⟩:=nP (f:=f) l (min m (f y));simp only[aty];refine⟨by omega,λx a=>?_,λt a a=>c t (by grind) (λx b=>a x (asI _ b))⟩;rcases asQ.1 a with rfl|a
  .omega
  .exact b x a
section
variable{P:Sm.Pg}{T:fB}{F:List (Option Int)}{A:Env}{d:Nd}{u:US}{Ov:Nat->US->List Int->List Int->US->Prop}{az:Nat->US}{ap:List Sm.It}
def Bq(h:kz T F A d u π j=some (q,p,rs)):Sm.aI.ek (aJ T F A d u Ov az ap) π j=wT A q:=by
 show(match kz T F A d u π j with|some (q,_,_)=>wT A q|none=>0)=_;rw[h]
def Mf(h:kz T F A d u π j=some (q,p,rs)):Sm.aI.ev (aJ T F A d u Ov az ap) π j=Lt T A rs p q:=by
 show(match kz T F A d u π j with|some (q,p,rs)=>Lt T A rs p q|none=>0)=_;rw[h]
def GU(h:kz T F A d u π j=some (q,p,rs)):Sm.aI.ew (aJ T F A d u Ov az ap) π j=ud T A rs p q:=by
 show(match kz T F A d u π j with|some (q,p,rs)=>ud T A rs p q|none=>[])=_;rw[h]
def rP(a:dv q=3\/dv q=4\/dv q=5):wT A q=(dQ q).foldl (λm x=>min m (iU A x)) A.length:=by cases q<;>simp[dv]at a<;>rfl
def FG(X:bW P T F A d u Ov az)(c:dw T F A d u π=some (b,s,rs))(f:(cP b)[j]?=some q)(g:(j7 b s)[j]?=some p)(a:x∈dQ q):wT A q<=iU A x:=by
 obtain⟨V,h,r,t,v,w⟩:=fM X.hL X.hU X.hS c;obtain⟨i,_⟩:=(oI h).2.2.1 j q p f g;cases q with
 |df y e=>have:x=y:=eh.1 a;subst this;exact asj _
 |call y z m n b G e=>
  obtain⟨_,_,_,B,o,C,D,E,_,k,l,_⟩:=i;rcases(eh.1 a)with rfl|rfl
  .exact asj _
  .show iU A y<=_;unfold iU;rw[k,l];exact asj _
 |sw e k=>rw[rP (by simp[dv])];exact(nP _ _).2.1 x a
 |aN k=>rw[rP (by simp[dv])];exact(nP _ _).2.1 x a
 |reset e b=>rw[rP (by simp[dv])];exact(nP _ _).2.1 x a
def xN(X:bW P T F A d u Ov az)(a:dw T F A d u π=some (b,s,rs))(c:(cP b)[j]?=some q)(e:x∈dQ q):jp T F A d u π x:=by
 obtain⟨V,i,f,k,g,l⟩:=fM X.hL X.hU X.hS a;cases f with
 |mk m n o h p=>exact(g x).1 (h q (asn c) x e)
def uo(X:bW P T F A d u Ov az)(a:dw T F A d u π=some (b,s,rs)){i:Nat}{q':aB}(c:(cP b)[i]?=some q)(e:(cP b)[j]?=some q')(f:x∈dQ q)(g:x∈dQ q'):i=j:=by
 obtain⟨V,l,h,m,n,o⟩:=fM X.hL X.hU X.hS a;cases h with
 |mk p r k t v=>exact k i j q q' x c e f g
def zP(X:bW P T F A d u Ov az)(a:dw T F A d u (j::π)=some (b,s,rs)):∀v∈dr b,¬jp T F A d u π v.name:=by
 obtain⟨V,h,c,i,k,e⟩:=fM X.hL X.hU X.hS a;cases c with
 |mk l f m n o=>intro v g;rw[<-e];exact f v g
def lz(a:dw T F A d u π=some (b,s,rs))(c:(cP b)[j]?=some q):(Sm.aI.fr (aJ T F A d u Ov az ap) π).aq[j]?=some (dx q):=by
 show(eO T F A d u π).aq[j]?=_;rw[(pW a).1,io,asF,c];rfl
def J2(X:bW P T F A d u Ov az)(a:dw T F A d u π=some (b,s,rs))(h:jp T F A d u π x)(i:T.ls x=true):rs.rd (T.lp x)=Sm.aI.rd (aJ T F A d u Ov az ap) (T.lp x):=by
 obtain⟨j,k,v,c⟩:=qT X (ap:=ap) a h;have f:=c.fx X a;have g:=(f.lp (by rw[<-f.ls,c.n];exact i)).1;rw[c.n]at g;obtain⟨τ,e⟩:=c.s;exact(v8 X a e (Sm.kL X.sp X.wf X.lg (Sm.oC X.lg (τ:=τ) (by rw[<-e];exact g_ a)) g).1).1
def Im{V:Nm->Prop}(h:zy T F A Ov az V rs p q)(c:dv q=3\/dv q=4\/dv q=5):∃a,(cB q)[fC T A rs p q]?=some a/\zx T A rs q a:=by
 cases q with
 |df x e=>simp[dv]at c
 |call x y f a b d e=>simp[dv]at c
 |sw e g=>obtain⟨t,a,_,_,_,d,_,_,f⟩:=h;exact⟨a,d,f⟩
 |aN g=>obtain⟨t,a,i,_,_,_,_,_,d,_,f⟩:=h;exact⟨a,d,f⟩
 |reset e b=>obtain⟨t,_,_,_,d⟩:=h;exact⟨_,W,d⟩
def Mg(T:fB)(F:List (Option Int))(A:Env)(d:Nd)(u:US)(c:Sm.aI)(π:Path)(x:Nm):Option (Path×Nat)->Prop
 |none=>T.ls x=true/\∃i,get A x=some (some (c.rd (T.lp x)),i,i)
 |some (e,f)=>(∃a,e=a++π)/\∃b s g a h,dw T F A d u e=some (b,s,g)/\(cP b)[f]?=some a/\(j7 b s)[f]?=some h/\(dv a=1\/dv a=2)/\x∈dQ a
def BZ(X:bW P T F A d u Ov az){V:Nm->Prop}(h:sd T F A Ov az V rs s b):∀{π:Path},dw T F A d u π=some (b,s,rs)->∀{j:Nat} {q:aB} {p:Nat} {x:Nm},(cP b)[j]?=some q->(j7 b s)[j]?=some p->x∈dQ q->
  ∃a,Sm.Src (aJ T F A d u Ov az ap) (iU A x) π j x a/\Mg T F A d u (aJ T F A d u Ov az ap) π x a:=by
 induction h with
 | @mk V rs s b B Z H hb I=>
  intro π c j q p x a f i;have J:=v5 c a f;have m:Sm.aI.ek (aJ T F A d u Ov az ap) π j<=iU A x:=by rw[Bq J];exact FG X c a f i
  have w:=lz (Ov:=Ov) (az:=az) (ap:=ap) c a;by_cases n:dv q=1\/dv q=2
  .exact⟨some (π,j),.leaf w (by rw[eM];exact n) m,⟨[],W⟩,b,s,rs,q,p,c,a,f,n,i⟩
  .have o:dv q=3\/dv q=4\/dv q=5:=by cases q<;>simp[dv]at n⊢
   obtain⟨K,_⟩:=H j q p a f;obtain⟨y,C,L⟩:=Im K o;have g:=xM c a f C;have E:=xN X c a i;by_cases r:x∈dA y
   .obtain⟨⟨q',M,t⟩,O1⟩:=mV.1 r;obtain⟨j',k⟩:=asJ.1 M;obtain⟨p',N⟩:=mY (s:=nL q p (fC T A rs p q)) k;obtain⟨z,O,D⟩:=I j q p y a f C g k N t;refine⟨z,.br w (by rw[eM];exact o) m (lz g k) t (λG Q hi R S=>?_) O,?_⟩
    .obtain⟨b1,s1,Tx,q1,p1,l,U,f3,rfl,f5,f6⟩:=kA (show(eO T F A d u (j::π)).aq[G]?=some Q from R);rw[g]at l;injection l with l
     have Y:=(ato l).1;subst Y;have:=uo X g U k S t;omega
    .cases z with
     |none=>exact D
     |some Y=>
      obtain⟨⟨l,e⟩,U⟩:=D;exact⟨⟨l++[j],by rw[e];simp⟩,U⟩
   .refine⟨none,.last w (by rw[eM];exact o) m (λt z D=>?_),?_⟩
    .obtain⟨l,G⟩:=asJ.1 z;obtain⟨Q,R,S,M,U,k,N,Y,rfl,f5,f6⟩:=kA (show(eO T F A d u (j::π)).aq[l]?=some t from G);rw[g]at k;injection k with k
     have O:=(ato k).1;subst O;refine r (mV.2 ⟨⟨M,asn N,D⟩,λv B e=>?_⟩);exact zP X g v B (by rw[e];exact E)
    .obtain⟨k,l,G⟩:=L x i r;exact⟨k,l,by rw[G,J2 X c E k]⟩
def GW(X:bW P T F A d u Ov az)(a:dw T F A d u π=some (b,s,rs))(c:(cP b)[j]?=some q)(e:x∈dQ q):∃a,Sm.Src (aJ T F A d u Ov az ap) (iU A x) π j x a/\Mg T F A d u (aJ T F A d u Ov az ap) π x a:=by
 obtain⟨V,f,_⟩:=fM X.hL X.hU X.hS a;obtain⟨p,g⟩:=mY (s:=s) c;exact BZ X f a c g e
def zQ(X:bW P T F A d u Ov az)(a:dw T F A d u π=some (b,s,rs))(g:(pI T F A d u π)[k]?=some v)(e:(cP b)[j]?=some q)(f:v.name∈dQ q):Sm.ic (Sm.aI.fr (aJ T F A d u Ov az ap) π) k (d_ v) j:=by
 refine⟨(oT X a g).ix,⟨dx q,lz a e,f⟩,λi h p l m=>?_⟩;obtain⟨r,t,w,x,y,c,n,z,rfl,B,C⟩:=kA (show(eO T F A d u π).aq[i]?=some h from l);rw[a]at c;injection c with c
 have o:=(ato c).1;subst o;have:=uo X a e n f m;omega
def NM(X:bW P T F A d u Ov az)(c:dw T F A d u π=some (b,s,rs))(a:(pI T F A d u π)[k]?=some v)(hi:π=[]->d.ins.length<=k):∃(j:Nat) (q:aB),(cP b)[j]?=some q/\v.name∈dQ q:=by
 obtain⟨V,n,h,o,p,r⟩:=fM X.hL X.hU X.hS c;have i:∃q∈cP b,v.name∈dQ q:=by
  rw[ly c]at a;cases h with
  |mk t w x y z f=>
  by_cases e:π=[]
  .rw[asB e]at a;have:=hi e;subst e;obtain⟨rfl,_⟩:=qU c;rw[asM,ass this]at a;rcases ast.1 (asn a)with g|g
   .exact X.od v g
   .exact f v g
  .grind
 obtain⟨q,l,f⟩:=i;obtain⟨j,m⟩:=asJ.1 l;exact⟨j,q,m,f⟩
end
end Go.Ex
