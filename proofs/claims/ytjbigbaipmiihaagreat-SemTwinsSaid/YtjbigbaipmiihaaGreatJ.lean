/- A part of the proof of the last text of this claim, without conditions. -/
import Derived.Test.YtjbigbaipmiihaaGreatI
set_option maxRecDepth 4000
set_option linter.all false
namespace Go.Ex
open Go.Mt Go.Mk
open Go.Sm (Path US)
theorem mz(q:ay):(di q).ah=(cq q).map nY:=by
 cases q with
 |df a e=>rfl
 |call a c d f b g e=>rfl
 |sw e ah=>show ej ah=_;rw[ov];rfl
 |aL ah=>show ej ah=_;rw[ov];rfl
 |reset e b=>rfl
theorem sN(a:aY):(nY a).cp=ep (dG a):=by cases a;rfl
theorem u5(b:aW):(ep b).au=eR (cJ b):=by cases b;rfl
theorem mA(b:aW):(ep b).vars=(c8 b).map dW:=by cases b;rfl
def de:ay->Int
 | .df .. =>1
 | .call .. =>2
 | .sw .. =>3
 | .aL .. =>4
 | .reset .. =>5
theorem ez(q:ay):(di q).kd=de q:=by cases q<;>rfl
theorem yH{q:ay}{k:Nat}{a:aY}(h:(cq q)[k]?=some a):de q=3\/de q=4\/de q=5:=by cases q<;>simp[cq,de]at*
section
variable(T:dS)(F:List (Option Int))(A:Env)(d:Nd)(u:US)(My:Nat->US->List Int->List Int->US->Prop)(az:Nat->US)
def p7:Rs:=⟨u.mem,u.cu,u.aj⟩
abbrev jE(b:aW)(s:Nat):List Nat:=Sm.fy (eR (cJ b)) (s+Sm.aR ((c8 b).map dW))
def dh:Path->Option (aW×Nat×Rs)
 | []=>some (d.b,0,p7 u)
 |j::J=>match dh J with
  |none=>none
  |some (b,s,rs)=>match(cJ b)[j]?,(jE b s)[j]? with
   |some q,some p=>match(cq q)[eY T A rs p q]? with
    |some a=>some (dG a,nc q p (eY T A rs p q),nZ T F A rs p q a)
    |none=>none
   |_,_=>none
def jO(J:Path)(j:Nat):Option (ay×Nat×Rs):=match dh T F A d u J with
 |none=>none
 |some (b,s,rs)=>match(cJ b)[j]?,(jE b s)[j]? with
  |some q,some p=>some (q,p,rs)
  |_,_=>none
def eB(J:Path):Sm.zj:=match dh T F A d u J with
 |none=>⟨[],[],[],[]⟩
 |some (b,s,_)=>if J= []then Sm.tq (cG d)else Sm.Bh (ep b) s
def rB(x:Nm):Option Int:=match get A x with
 |some (o,_,_)=>o
 |none=>none
def zx(x:Nm):Nat:=match get A x with
 |some (_,_,i)=>i
 |none=>0
def vT:ay->Nat
 | .df x _=>iw A x
 | .call x _ _ _ _ _ _=>iw A x
 |q=>(dQ q).foldl (λm x=>min m (iw A x)) A.length
def JP(rs:Rs)(p:Nat):ay->Int
 | .df _ e=>cy T A rs.rd e p
 | .call _ _ _ _ _ has e=>if has then cy T A rs.rd e (p+1)else 0
 | .sw e _=>cy T A rs.rd e p
 | .aL _=>0
 | .reset e _=>cy T A rs.rd e p
def tc(rs:Rs)(p:Nat):ay->List (Nat×Int)
 | .df _ e=>dH T A rs.rd e p
 | .call _ _ _ a b has e=>(if has then dH T A rs.rd e (p+1)else [])++(dH T A rs.rd a (p+1+xE e)++(dH T A rs.rd b (p+1+xE e+xE a)++ []))
 | .sw e _=>dH T A rs.rd e p
 | .aL _=>[]
 | .reset e _=>dH T A rs.rd e p
def Fz:ay->List Int
 | .call x y _ _ _ _ _=>[val A x,val A y]
 |_=>[]
def FB(rs:Rs)(p:Nat)(q:ay)(u':US):Prop:=match q with
 | .call x y f a b has e=> ∃j,f=nm 102 j/\My j ((if has=true/\cy T A rs.rd e (p+1)≠0 then none else rs.rs p).getD (az j)) [cy T A rs.rd a (p+1+xE e),cy T A rs.rd b (p+1+xE e+xE a)] [val A x,val A y] u'
 |_=>False
open Classical in
noncomputable def wB(rs:Rs)(p:Nat)(q:ay):US:=if h: ∃u',FB T A My az rs p q u' then Classical.choose h else az 0
def u6(rs:Rs)(p:Nat):ay->Option Tr
 | .aL ah=>match ah[eY T A rs p (.aL ah)]? with
  |some a=>iZ T A (nZ T F A rs p (.aL ah) a).rd (kg a)
  |none=>none
 |_=>none
def C6(rs:Rs)(p:Nat)(q:ay):Nat:=match q with
 | .aL ah=>match u6 T F A rs p q with
  |none=>if eY T A rs p q<ah.length then eY T A rs p q else 0
  |some t=>rc ah t.to
 |_=>0
def JQ(rs:Rs)(p:Nat)(q:ay):Bool:=match u6 T F A rs p q with
 |none=>false
 |some t=> !t.fb
noncomputable def nE(an:List Sm.It):Sm.aH where
 ok J:=(dh T F A d u J).isSome=true
 fr:=eB T F A d u
 val J k:=match(eB T F A d u J).vars[k]? with
  |some v=>rB A v.name
  |none=>none
 rk J k:=match(eB T F A d u J).vars[k]? with
  |some v=>zx A v.name
  |none=>0
 sb J k:=match(eB T F A d u J).vars[k]? with
  |some v=>iw A v.name
  |none=>match J with
   | []=>0
   |j::J=>match jO T F A d u J j with
    |some (q,_,_)=>vT A q
    |none=>0
 ek J j:=match jO T F A d u J j with
  |some (q,_,_)=>vT A q
  |none=>0
 bN J j:=match jO T F A d u J j with
  |some (q,p,rs)=>eY T A rs p q
  |none=>0
 mU J j:=match jO T F A d u J j with
  |some (q,p,rs)=>zu T A rs p q
  |none=>false
 ev J j:=match jO T F A d u J j with
  |some (q,p,rs)=>JP T A rs p q
  |none=>0
 ew J j:=match jO T F A d u J j with
  |some (q,p,rs)=>tc T A rs p q
  |none=>[]
 outs J j:=match jO T F A d u J j with
  |some (q,p,rs)=>Fz A q
  |none=>[]
 ln J j:=match jO T F A d u J j with
  |some (q,p,rs)=>wB T A My az rs p q
  |none=>az 0
 pJ J j:=match jO T F A d u J j with
  |some (q,p,rs)=>C6 T F A rs p q
  |none=>0
 nan J j:=match jO T F A d u J j with
  |some (q,p,rs)=>JQ T F A rs p q
  |none=>false
 rd _:=0
 rp _:=false
 rs _:=none
 eV:=A.length+1
 sz:=Sm.bW (cG d)
 an:=an
 wt _:=100
open Classical in
noncomputable def aD(an:List Sm.It):Sm.aH:= {nE T F A d u My az an with
 rd:= λk=>if Sm.fE (nE T F A d u My az an) k then Sm.cd F k else u.mem k
 rp:= λk=>if Sm.fE (nE T F A d u My az an) k/\F[k]?=some none then false else u.cu k
 rs:= λk=>if Sm.fE (nE T F A d u My az an) k/\F[k]?=some none then none else u.aj k}
end
section
variable{T:dS}{F:List (Option Int)}{A:Env}{d:Nd}{u:US}{My:Nat->US->List Int->List Int->US->Prop}{az:Nat->US}{an:List Sm.It}
theorem j7{j:Nat}{J:Path}{x:aW×Nat×Rs}(h:dh T F A d u (j::J)=some x): ∃b s rs q p a,dh T F A d u J=some (b,s,rs)/\(cJ b)[j]?=some q/\(jE b s)[j]?=some p/\(cq q)[eY T A rs p q]?=some a/\x=(dG a,nc q p (eY T A rs p q),nZ T F A rs p q a)/\jO T F A d u J j=some (q,p,rs):=by
 rw[dh]at h;cases f:dh T F A d u J with
 |none=>rw[f]at h;cases h
 |some i=>
  obtain⟨b,s,rs⟩:=i;rw[f]at h;simp only at h;cases c:(cJ b)[j]? with
  |none=>rw[c]at h;cases h
  |some q=>
   cases e:(jE b s)[j]? with
   |none=>rw[c,e]at h;cases h
   |some p=>
    rw[c,e]at h;simp only at h;cases g:(cq q)[eY T A rs p q]? with
    |none=>rw[g]at h;cases h
    |some a=>
     rw[g]at h;injection h with h
     exact⟨b,s,rs,q,p,a,rfl,c,e,g,h.symm,by unfold jO;rw[f];simp only;rw[c,e]⟩
theorem wP{j:Nat}{J:Path}{b:aW}{s:Nat}{rs:Rs}{q:ay}{p:Nat}{a:aY}(c:dh T F A d u J=some (b,s,rs))(e:(cJ b)[j]?=some q)(f:(jE b s)[j]?=some p)(g:(cq q)[eY T A rs p q]?=some a):dh T F A d u (j::J)=some (dG a,nc q p (eY T A rs p q),nZ T F A rs p q a):=by
 rw[dh,c];simp only;rw[e,f];simp only;rw[g]
theorem u7{j:Nat}{J:Path}{b:aW}{s:Nat}{rs:Rs}{q:ay}{p:Nat}(a:dh T F A d u J=some (b,s,rs))(c:(cJ b)[j]?=some q)(e:(jE b s)[j]?=some p):jO T F A d u J j=some (q,p,rs):=by
 unfold jO;rw[a];simp only;rw[c,e]
theorem mB{b:aW}{s j:Nat}{q:ay}(h:(cJ b)[j]?=some q): ∃p,(jE b s)[j]?=some p:=by
 have:(eR (cJ b))[j]?=some (di q):=by rw[g_,aqL,h];rfl
 exact Sm.Ak this
theorem pB{J:Path}{b:aW}{s:Nat}{rs:Rs}(h:dh T F A d u J=some (b,s,rs)):(eB T F A d u J).au=eR (cJ b)/\(eB T F A d u J).pos=jE b s:=by
 unfold eB;rw[h];simp only;by_cases e:J= []
 ·subst e;rw[dh]at h;injection h with h
  injection h with h a
  injection a with a c
  subst h;subst a;rw[aqy W];refine⟨u5 _,?_⟩;show Sm.fy (ep d.b).au (Sm.aR (ep d.b).vars)=_;rw[u5,mA];unfold jE;rw[arF]
 ·rw[aqo e];refine⟨u5 _,?_⟩;show Sm.fy (ep b).au (s+Sm.aR (ep b).vars)=_;rw[u5,mA]
theorem jP{J:Path}{j:Nat}{e:Sm.ay}(h:(eB T F A d u J).au[j]?=some e): ∃b s rs q p,dh T F A d u J=some (b,s,rs)/\(cJ b)[j]?=some q/\(jE b s)[j]?=some p/\e=di q/\(eB T F A d u J).pos[j]?=some p/\jO T F A d u J j=some (q,p,rs):=by
 cases c:dh T F A d u J with
 |none=>unfold eB at h;rw[c]at h;simp at h
 |some g=>
  obtain⟨b,s,rs⟩:=g;obtain⟨i,k⟩:=pB c;rw[i,g_,aqL]at h;cases a:(cJ b)[j]? with
  |none=>rw[a]at h;cases h
  |some q=>
   rw[a]at h;injection h with h
   obtain⟨p,f⟩:=mB (s:=s) a;exact⟨b,s,rs,q,p,rfl,a,f,h.symm,by grind,u7 c a f⟩
theorem u9{J:Path}(h:Sm.aH.ok (aD T F A d u My az an) J): ∃b s rs,dh T F A d u J=some (b,s,rs):=by
 have c:(dh T F A d u J).isSome=true:=h;cases e:dh T F A d u J with
 |none=>rw[e]at c;cases c
 |some a=>exact⟨a.1,a.2.1,a.2.2,rfl⟩
theorem gD{J:Path}{x:aW×Nat×Rs}(h:dh T F A d u J=some x):Sm.aH.ok (aD T F A d u My az an) J:=by
 show(dh T F A d u J).isSome=true;rw[h];rfl
theorem ue{J:Path}{j:Nat}{q:ay}{p:Nat}{rs:Rs}(h:jO T F A d u J j=some (q,p,rs)):Sm.aH.bN (aD T F A d u My az an) J j=eY T A rs p q:=by
 show(match jO T F A d u J j with|some (q,p,rs)=>eY T A rs p q|none=>0)=_;rw[h]
theorem FC{J:Path}{j:Nat}{q:ay}{p:Nat}{rs:Rs}(h:jO T F A d u J j=some (q,p,rs)):Sm.aH.mU (aD T F A d u My az an) J j=zu T A rs p q:=by
 show(match jO T F A d u J j with|some (q,p,rs)=>zu T A rs p q|none=>false)=_;rw[h]
def iQ(T:dS)(F:List (Option Int))(A:Env)(d:Nd)(u:US):Path->Nm->Prop
 | [],x=>eI (d.ins++d.outs++c8 d.b) x
 |j::J,x=>iQ T F A d u J x\/ ∃b s rs,dh T F A d u (j::J)=some (b,s,rs)/\eI (c8 b) x
theorem oa{V:Nm->Prop}{rs:Rs}{s:Nat}{b:aW}(h:rA T F A My az V rs s b):(∀v∈c8 b,Kk T A (CZ V b) v)/\(∀(i:Nat) (v:Va),(c8 b)[i]?=some v->v.last=true->(Sm.cm ((c8 b).map dW) s)[i]?=some (some (T.lp v.name))/\T.pt (T.lp v.name)= .val v.ty/\VT v.ty (val A v.name))/\(∀(j:Nat) (q:ay) (p:Nat),(cJ b)[j]?=some q->(jE b s)[j]?=some p->Av T F A My az (CZ V b) rs p q)/\(∀(j:Nat) (q:ay) (p:Nat) (a:aY),(cJ b)[j]?=some q->(jE b s)[j]?=some p->(cq q)[eY T A rs p q]?=some a->rA T F A My az (CZ V b) (nZ T F A rs p q a) (nc q p (eY T A rs p q)) (dG a)):=by
 cases h with
 |mk c d e f=>exact⟨c,d,e,f⟩
theorem fm(n:rA T F A My az (eI (d.ins++d.outs)) (p7 u) 0 d.b)(o:uY (eI (d.ins++d.outs)) d.b)(p:pQ T 0 d.b): ∀{J:Path} {b:aW} {s:Nat} {rs:Rs},dh T F A d u J=some (b,s,rs)-> ∃V,rA T F A My az V rs s b/\uY V b/\pQ T s b/\(∀x,CZ V b x↔iQ T F A d u J x)/\(match J with| []=>V=eI (d.ins++d.outs)|_::ML=>V=iQ T F A d u ML):=by
 intro J
 induction J with
 |nil=>
  intro b s rs a;rw[dh]at a;injection a with a
  injection a with a c
  injection c with c e
  subst a;subst c;subst e;refine⟨_,n,o,p,λx=> ?_,rfl⟩;unfold iQ CZ eI;constructor
  ·grind
  ·grind
 |cons k J q=>
  intro b s rs a;obtain⟨r,C,N,f,l,g,t,c,e,h,i,D⟩:=j7 a;obtain⟨V,v,w,y,z,E⟩:=q t;have j:=(ark i).1;have m:=(ark (ark i).2).1;refine⟨CZ V r,?_,?_,?_,λx=> ?_,(funext λx=>propext (z x))⟩
  ·rw[j,m,(ark (ark i).2).2];exact(oa v).2.2.2 k f l g c e h
  ·rw[j];cases w with
   |mk G H I K B=>exact B f (aqk c) g (aqk h)
  ·rw[j,m];cases y with
   |mk L M sb=>exact sb k f l _ g c e h
  ·unfold iQ;constructor
   ·grind
   ·grind
theorem k_(P:Sm.Pg)(y:cG d∈P.nodes)(z:rA T F A My az (eI (d.ins++d.outs)) (p7 u) 0 d.b)(B:uY (eI (d.ins++d.outs)) d.b)(C:pQ T 0 d.b):Sm.sy P (aD T F A d u My az an) (cG d):=by
 refine⟨y,λg k h=> ?_,?_,λk g N l O D E o=> ?_⟩
 ·obtain⟨b,v,r,c⟩:=u9 h;obtain⟨Q,R,Z,f,q,a,c,i,m,G,s,p⟩:=j7 c;refine⟨gD c,di f,?_,?_⟩
  ·show(eB T F A d u k).au[g]?=_;rw[(pB c).1,g_,aqL,i];rfl
  ·rw[ez];exact yH G
 ·show eB T F A d u []=_;unfold eB;rw[dh];rfl
 ·obtain⟨b,v,r,f,q,c,i,m,rfl,s,p⟩:=jP D;have H:l=q:=by
   have n:(eB T F A d u k).pos[g]?=some l:=E;rw[s]at n;injection n with n;exact n.symm
  subst H;obtain⟨K,I,S,U,V,X⟩:=fm z B C c;obtain⟨t,_⟩:=(oa I).2.2.1 g f l i m;rw[ez]at o;have j: ∃a,(cq f)[eY T A r l f]?=some a:=by
   cases f with
   |df w e=>simp[de]at o
   |call w L M a b ac e=>simp[de]at o
   |sw e J=>obtain⟨x,a,_,_,_,h,_⟩:=t;exact⟨a,h⟩
   |aL J=>obtain⟨x,a,Y,_,_,_,_,_,h,_⟩:=t;exact⟨a,h⟩
   |reset e b=>exact⟨_,rfl⟩
  obtain⟨a,j⟩:=j;refine⟨nY a,?_,gD (wP c i m j),?_⟩
  ·rw[ue p,mz,aqL,j];rfl
  ·rw[ue p];show eB T F A d u (g::k)=_;unfold eB;rw[wP c i m j];simp only;rw[aqo (by simp),sN]
end
def pc(T:dS)(F:List (Option Int))(A:Env)(d:Nd)(u:US)(J:Path):List Va:=match dh T F A d u J with
 |none=>[]
 |some (b,_,_)=>if J= []then d.ins++d.outs++c8 d.b else c8 b
structure bD(P:Sm.Pg)(T:dS)(F:List (Option Int))(A:Env)(d:Nd)(u:US)(My:Nat->US->List Int->List Int->US->Prop)(az:Nat->US):Prop where
 sp:Sm.pb P
 wf:Sm.uU P
 dm:cG d∈P.nodes
 en:P.aI=cI
 hF:F=Sm.iM P.aI (cG d)
 hL:rA T F A My az (eI (d.ins++d.outs)) (p7 u) 0 d.b
 hU:uY (eI (d.ins++d.outs)) d.b
 hS:pQ T 0 d.b
 nd:((d.ins++d.outs).map (·.name)).Nodup
 i: ∀v∈d.ins,T.ty v.name=v.ty/\T.ls v.name=false/\v.last=false/\v.clock=none
 o: ∀(i:Nat) (v:Va),d.outs[i]?=some v->T.ty v.name=v.ty/\T.ls v.name=v.last/\v.clock=none/\(v.last=true->(Sm.cm (d.outs.map dW) (Sm.bP (ep d.b)))[i]?=some (some (T.lp v.name))/\T.pt (T.lp v.name)= .val v.ty)
 od: ∀v∈d.outs,∃q∈cJ d.b,v.name∈dQ q
 ni: ∀v∈d.ins,∀q∈cJ d.b,v.name∉dQ q
 ok: ∀v∈d.outs,∃o sb i,get A v.name=some (some o,sb,i)/\sb<=i/\VT v.ty o
section
variable{P:Sm.Pg}{T:dS}{F:List (Option Int)}{A:Env}{d:Nd}{u:US}{My:Nat->US->List Int->List Int->US->Prop}{az:Nat->US}{an:List Sm.It}
theorem bD.k_(X:bD P T F A d u My az):Sm.sy P (aD T F A d u My az an) (cG d):=Ex.k_ P X.dm X.hL X.hU X.hS
def Rg(c:Sm.aH)(d:Sm.Nd)(J:Path)(k:Nat):Prop:= ∃τ j σ,J=τ++(j::σ)/\c.mU σ j=true/\Sm.oH c d (j::σ) k
theorem C7{c:Sm.aH}{d:Sm.Nd}{j:Nat}{σ:Path}{k:Nat} :Rg c d (j::σ) k↔(c.mU σ j=true/\Sm.oH c d (j::σ) k)\/Rg c d σ k:=by
 constructor
 ·rintro⟨f,g,h,e,a,b⟩;cases f with
  |nil=>simp only[aqK,List.cons.injEq]at e;obtain⟨rfl,rfl⟩:=e;exact .inl ⟨a,b⟩
  |cons i f=>simp only[arl,List.cons.injEq]at e;exact .inr ⟨f,g,h,e.2,a,b⟩
 ·rintro(⟨a,b⟩|⟨f,g,h,e,a,b⟩)
  ·exact⟨[],j,σ,rfl,a,b⟩
  ·exact⟨j::f,g,h,by rw[e];rfl,a,b⟩
open Classical in
theorem IJ: ∀{J:Path} {b:aW} {s:Nat} {rs:Rs},dh T F A d u J=some (b,s,rs)-> ∀k,rs.rd k=(if Rg (aD T F A d u My az an) (cG d) J k then Sm.cd F k else u.mem k)/\rs.rp k=(if Rg (aD T F A d u My az an) (cG d) J k/\F[k]?=some none then false else u.cu k)/\rs.rs k=(if Rg (aD T F A d u My az an) (cG d) J k/\F[k]?=some none then none else u.aj k):=by
 intro J
 induction J with
 |nil=>
  intro b s rs a k;rw[dh]at a;injection a with a
  have v:=(ark (ark a).2).2;have o: ¬Rg (aD T F A d u My az an) (cG d) [] k:=by
   rintro⟨O,j,g,e,_⟩;cases O<;>simp at e
  rw[<-v];refine⟨?_,?_,?_⟩
  ·rw[aqo o];rfl
  ·rw[aqo (λa=>o a.1)];rfl
  ·rw[aqo (λa=>o a.1)];rfl
 |cons j g P=>
  intro b s rs a k;obtain⟨Z,s0,h,c,f,n,w,Q,R,S,U,p⟩:=j7 a;obtain⟨D,x,y⟩:=P w k;have v:=(ark (ark U).2).2;have E:(eB T F A d u g).au[j]?=some (di c):=by rw[(pB w).1,g_,aqL,Q];rfl
  have G:(eB T F A d u g).pos[j]?=some f:=by rw[(pB w).2];exact R
  have H:(di c).ah[Sm.aH.bN (aD T F A d u My az an) g j]?=some (nY n):=by rw[ue p,mz,aqL,S];rfl
  have V:Sm.oH (aD T F A d u My az an) (cG d) (j::g) k↔nc c f (eY T A h f c)<=k/\k<nc c f (eY T A h f c)+Sm.bP (ep (dG n)):=by
   constructor
   ·rintro⟨I,K,a1,z,B,q,L,C⟩;have X:I=di c:=by have N:(eB T F A d u g).au[j]?=some I:=z;rw[E]at N;injection N with t;exact t.symm
    have Y:K=f:=by have M:(eB T F A d u g).pos[j]?=some K:=B;rw[G]at M;injection M with t;exact t.symm
    subst X;subst Y;rw[H]at q;injection q with q
    subst q;rw[ue p]at L C;rw[sN]at C;exact⟨L,C⟩
   ·rintro⟨z,B⟩;exact⟨di c,f,nY n,E,G,H,by rw[ue p];exact z,by rw[ue p,sN];exact B⟩
  have r:=FC (My:=My) (az:=az) (an:=an) p;rw[v];unfold nZ;cases o:zu T A h f c with
  |false=>
   rw[o]at r;have m:Rg (aD T F A d u My az an) (cG d) (j::g) k↔Rg (aD T F A d u My az an) (cG d) g k:=by rw[C7,r];simp
   simp only[m];exact⟨D,x,y⟩
  |true=>
   rw[o]at r;have m:Rg (aD T F A d u My az an) (cG d) (j::g) k↔(nc c f (eY T A h f c)<=k/\k<nc c f (eY T A h f c)+Sm.bP (ep (dG n)))\/Rg (aD T F A d u My az an) (cG d) g k:=by rw[C7,r,V];simp
   simp only[arR];refine⟨?_,?_,?_⟩
   ·show(if _ then _ else h.rd k)=_;by_cases i:nc c f (eY T A h f c)<=k/\k<nc c f (eY T A h f c)+Sm.bP (ep (dG n))
    ·rw[aqy i,aqy (m.2 (.inl i))]
    ·rw[aqo i,D];have:Rg (aD T F A d u My az an) (cG d) (j::g) k↔Rg (aD T F A d u My az an) (cG d) g k:=by rw[m];simp[i]
     simp only[this]
   ·show(if _ then _ else h.rp k)=_;by_cases i:nc c f (eY T A h f c)<=k/\k<nc c f (eY T A h f c)+Sm.bP (ep (dG n))
    ·by_cases l:F[k]?=some none
     ·rw[aqy ⟨i,l⟩,aqy ⟨m.2 (.inl i),l⟩]
     ·rw[aqo (λa=>l a.2),aqo (λa=>l a.2),x,aqo (λa=>l a.2)]
    ·rw[aqo (λa=>i a.1),x];have:Rg (aD T F A d u My az an) (cG d) (j::g) k↔Rg (aD T F A d u My az an) (cG d) g k:=by rw[m];simp[i]
     simp only[this]
   ·show(if _ then _ else h.rs k)=_;by_cases i:nc c f (eY T A h f c)<=k/\k<nc c f (eY T A h f c)+Sm.bP (ep (dG n))
    ·by_cases l:F[k]?=some none
     ·rw[aqy ⟨i,l⟩,aqy ⟨m.2 (.inl i),l⟩]
     ·rw[aqo (λa=>l a.2),aqo (λa=>l a.2),y,aqo (λa=>l a.2)]
    ·rw[aqo (λa=>i a.1),y];have:Rg (aD T F A d u My az an) (cG d) (j::g) k↔Rg (aD T F A d u My az an) (cG d) g k:=by rw[m];simp[i]
     simp only[this]
theorem u_(X:bD P T F A d u My az){J ρ τ:Path}{b:aW}{s:Nat}{rs:Rs}(h:dh T F A d u J=some (b,s,rs))(e:J=τ++ρ){k:Nat}(y:Sm.lx (aD T F A d u My az an) (cG d) ρ k):rs.rd k=Sm.aH.rd (aD T F A d u My az an) k/\rs.rp k=Sm.aH.rp (aD T F A d u My az an) k/\rs.rs k=Sm.aH.rs (aD T F A d u My az an) k:=by
 classical
 have i:Sm.sy P (aD T F A d u My az an) (cG d):=X.k_;have M:Sm.aH.ok (aD T F A d u My az an) J:=gD h;have O:Rg (aD T F A d u My az an) (cG d) J k↔Sm.fE (aD T F A d u My az an) k:=by
  constructor
  ·rintro⟨p,a,c,z,B,C⟩;obtain⟨D,E,r,G⟩:=i.iG a c (Sm.nW i (τ:=p) (by grind));obtain⟨m,g,n,f,j,l,o,q⟩:=C;rw[r]at f;injection f with f;subst f
   exact⟨c,a,E,g,n,D,r,j,G,B,l,o,q⟩
  ·rintro⟨c,a,m,g,n,f,j,l,o,q,t,v,w⟩;obtain⟨N,H⟩:=i.bN c a m g f j l o;obtain⟨p,z⟩:=(y.own X.sp X.wf i (Sm.nW i (τ:=τ) (by simp_all))) a c m g n H.ok j l o t v w;exact⟨τ++p,a,c,by grind,q,m,g,n,j,l,t,v,w⟩
 obtain⟨I,K,L⟩:=IJ (My:=My) (az:=az) (an:=an) h k;refine⟨?_,?_,?_⟩
 ·rw[I];show _=(if Sm.fE (aD T F A d u My az an) k then _ else _);by_cases x:Sm.fE (aD T F A d u My az an) k
  ·simp_all
  ·simp_all
 ·rw[K];show _=(if Sm.fE (aD T F A d u My az an) k/\F[k]?=some none then _ else _);by_cases x:Sm.fE (aD T F A d u My az an) k/\F[k]?=some none
  ·grind
  ·grind
 ·rw[L];show _=(if Sm.fE (aD T F A d u My az an) k/\F[k]?=some none then _ else _);by_cases x:Sm.fE (aD T F A d u My az an) k/\F[k]?=some none
  ·grind
  ·grind
theorem BI(X:bD P T F A d u My az): ∀{J:Path} {k:Nat},Sm.aH.ok (aD T F A d u My az an) J->Sm.oH (aD T F A d u My az an) (cG d) J k->k<Sm.bW (cG d)
 | [],k,_,a=>a
 |c::J,k,b,a=>BI X (J:=J) ((X.k_ (an:=an)).iG c J b).1 (Sm.child X.sp X.wf X.k_ b a).1
theorem JR{l:List Va}(c:(l.map (·.name)).Nodup){k:Nat}{v:Va}(h:l[k]?=some v):Sm.fS (l.map dW) v.name=some k:=by
 unfold Sm.fS;rw[asM];obtain⟨j,a,d,g,e,i⟩:=wO l ((λb:Sm.Va=>decide (b.name=v.name))∘dW) ⟨v,aqk h,by simp[dW]⟩;rw[d];have m:a.name=v.name:=aqv e;have f:k<(l.map (·.name)).length:=by
  grind
 have:=(ass f c (j:=j)).1 (by grind);rw[this]
theorem FD{l:List Va}{x:Nm}(h: ¬eI l x):Sm.fS (l.map dW) x=none:=by
 unfold Sm.fS;rw[arB];intro c a;obtain⟨v,b,rfl⟩:=aqM.1 a;simp only[asp];exactλe=>h ⟨v,b,e⟩
theorem kQ{J:Path}{b:aW}{s:Nat}{rs:Rs}(h:dh T F A d u J=some (b,s,rs)):pc T F A d u J=if J= []then d.ins++d.outs++c8 d.b else c8 b:=by unfold pc;rw[h]
theorem ng{J:Path} :(eB T F A d u J).vars=(pc T F A d u J).map dW:=by
 unfold eB pc;cases dh T F A d u J with
 |none=>rfl
 |some a=>
  obtain⟨b,c,e⟩:=a;simp only;split
  ·show(d.ins.map dW)++(d.outs.map dW)++(ep d.b).vars=_;rw[mA];simp
  ·exact mA b
theorem JS(X:bD P T F A d u My az){J:Path}{b:aW}{s:Nat}{rs:Rs}(h:dh T F A d u J=some (b,s,rs)):((pc T F A d u J).map (·.name)).Nodup:=by
 obtain⟨p,t,i,w,x,c⟩:=fm X.hL X.hU X.hS h;rw[kQ h];cases i with
 |mk f j y z B=>
 split
 ·rename_i e;subst e;rw[dh]at h;injection h with h
  have a:=(ark h).1;subst a;simp only at c;rw[aqO,aq8];refine⟨X.nd,f,λq k r l e=> ?_⟩;subst e;obtain⟨v,m,a⟩:=aqM.1 k;obtain⟨g,n,o⟩:=aqM.1 l;refine j g n ?_;rw[c];exact⟨v,m,by rw[a,o]⟩
 ·exact f
structure C8(T:dS)(F:List (Option Int))(A:Env)(d:Nd)(u:US)(c:Sm.aH)(J:Path)(x:Nm)(ρ:Path)(k:Nat)(v:Va):Prop where
 f:c.find J x=some (ρ,k)
 f2:c.find ρ x=some (ρ,k)
 s: ∃τ,J=τ++ρ
 vv:(pc T F A d u ρ)[k]?=some v
 n:v.name=x
 ix:Sm.fS (c.fr ρ).vars x=some k
theorem BJ(X:bD P T F A d u My az){x:Nm}{ρ:Path}(h:iQ T F A d u ρ x): ∀τ,iQ T F A d u (τ++ρ) x
 | []=>h
 |a::τ=>by rw[arl];unfold iQ;exact .inl (BJ X h τ)
theorem oz(X:bD P T F A d u My az){J:Path}{b:aW}{s:Nat}{rs:Rs}(h:dh T F A d u J=some (b,s,rs)){k:Nat}{v:Va}(c:(pc T F A d u J)[k]?=some v):C8 T F A d u (aD T F A d u My az an) J v.name J k v:=by
 have a:Sm.fS (Sm.aH.fr (aD T F A d u My az an) J).vars v.name=some k:=by
  show Sm.fS (eB T F A d u J).vars v.name=some k;rw[ng];exact JR (JS X h) c
 have e:Sm.aH.find (aD T F A d u My az an) J v.name=some (J,k):=by
  cases J with
  |nil=>unfold Sm.aH.find;rw[a];rfl
  |cons f J=>unfold Sm.aH.find;rw[a]
 exact⟨e,e,⟨[],rfl⟩,c,rfl,a⟩
theorem C9(X:bD P T F A d u My az): ∀{J:Path} {b:aW} {s:Nat} {rs:Rs},dh T F A d u J=some (b,s,rs)-> ∀{x:Nm},iQ T F A d u J x-> ∃ρ k v,C8 T F A d u (aD T F A d u My az an) J x ρ k v:=by
 intro J
 induction J with
 |nil=>
  intro b s rs c x g;unfold iQ at g;obtain⟨v,h,rfl⟩:=g;obtain⟨k,i⟩:=aqG.1 h;exact⟨[],k,v,oz X c (by rw[kQ c,aqy W];exact i)⟩
 |cons f J n=>
  intro b s rs c x g;by_cases j:eI (pc T F A d u (f::J)) x
  ·obtain⟨v,h,rfl⟩:=j;obtain⟨k,i⟩:=aqG.1 h;exact⟨f::J,k,v,oz X c i⟩
  ·obtain⟨z,B,C,t,w,y,o,_⟩:=j7 c;have p:iQ T F A d u J x:=by
    unfold iQ at g;rcases g with l|⟨D,E,G,q,r⟩
    ·exact l
    ·exact(j (by rw[kQ q,aqo (by simp)];exact r)).elim
   obtain⟨ρ,k,v,a⟩:=n o p;refine⟨ρ,k,v,?_,a.f2,?_,a.vv,a.n,a.ix⟩
   ·unfold Sm.aH.find;have:Sm.fS (Sm.aH.fr (aD T F A d u My az an) (f::J)).vars x=none:=by
     show Sm.fS (eB T F A d u (f::J)).vars x=none;rw[ng];exact FD j
    rw[this];exact a.f
   ·obtain⟨m,e⟩:=a.s;exact⟨f::m,by rw[e];rfl⟩
theorem IK(X:bD P T F A d u My az){ρ:Path}{x:Nm}(f:iQ T F A d u ρ x): ∀{τ:Path} {b:aW} {s:Nat} {rs:Rs},dh T F A d u (τ++ρ)=some (b,s,rs)->Sm.aH.find (aD T F A d u My az an) (τ++ρ) x=Sm.aH.find (aD T F A d u My az an) ρ x:=by
 intro τ
 induction τ with
 |nil=>intro b s rs a;rfl
 |cons c τ g=>
  intro b s rs a;obtain⟨r,t,w,n,o,p,h,_⟩:=j7 a;obtain⟨q,y,i,z,B,j⟩:=fm X.hL X.hU X.hS a;have k: ¬eI (pc T F A d u (c::(τ++ρ))) x:=by
   rintro⟨v,e,rfl⟩;rw[kQ (show dh T F A d u (c::(τ++ρ))=_ from a),aqo (by simp)]at e;cases i with
   |mk C l D E G=>exact l v e (by rw[j];exact BJ X f τ)
  have:Sm.fS (Sm.aH.fr (aD T F A d u My az an) (c::(τ++ρ))).vars x=none:=by
   show Sm.fS (eB T F A d u _).vars x=none;rw[ng];exact FD k
  have m:Sm.aH.find (aD T F A d u My az an) (c::(τ++ρ)) x=Sm.aH.find (aD T F A d u My az an) (τ++ρ) x:=by rw[Sm.aH.find,this]
  exact m.trans (g h)
theorem Ey(J:Path){k:Nat}{v:Va}(h:(pc T F A d u J)[k]?=some v):Sm.aH.val (aD T F A d u My az an) J k=rB A v.name/\Sm.aH.rk (aD T F A d u My az an) J k=zx A v.name/\Sm.aH.sb (aD T F A d u My az an) J k=iw A v.name:=by
 have:(eB T F A d u J).vars[k]?=some (dW v):=by rw[ng,aqL,h];rfl
 refine⟨?_,?_,?_⟩
 ·show(match(eB T F A d u J).vars[k]? with|some v=>rB A v.name|none=>none)=_;rw[this];rfl
 ·show(match(eB T F A d u J).vars[k]? with|some v=>zx A v.name|none=>0)=_;rw[this];rfl
 ·show(match(eB T F A d u J).vars[k]? with|some v=>iw A v.name|none=>_)=_;rw[this];rfl
end
section
variable{P:Sm.Pg}{T:dS}{F:List (Option Int)}{A:Env}{d:Nd}{u:US}{My:Nat->US->List Int->List Int->US->Prop}{az:Nat->US}{an:List Sm.It}
theorem qp{b:aW}{s:Nat}{rs:Rs}(h:dh T F A d u []=some (b,s,rs)):b=d.b/\s=0/\rs=p7 u:=by
 rw[dh]at h;injection h with h
 exact⟨(ark h).1.symm,(ark (ark h).2).1.symm,(ark (ark h).2).2.symm⟩
theorem yI{J:Path}{b:aW}{s:Nat}{rs:Rs}(h:dh T F A d u J=some (b,s,rs)):(eB T F A d u J).db=if J= []then List.replicate d.ins.length none++Sm.cm (d.outs.map dW) (Sm.bP (ep d.b))++Sm.cm ((c8 d.b).map dW) 0 else Sm.cm ((c8 b).map dW) s:=by
 unfold eB;rw[h];simp only;split
 ·show List.replicate (d.ins.map dW).length none++Sm.cm (d.outs.map dW) (Sm.bP (ep d.b))++Sm.cm (ep d.b).vars 0=_;rw[mA,aqE]
 ·show Sm.cm (ep b).vars s=_;rw[mA]
structure Km(T:dS)(A:Env)(c:Sm.aH)(V:Nm->Prop)(n0:Nat)(ρ:Path)(k:Nat)(v:Va):Prop where
 ty:T.ty v.name=v.ty
 ls:T.ls v.name=v.last
 lp:v.last=true->(c.fr ρ).db[k]?=some (some (T.lp v.name))/\T.pt (T.lp v.name)= .val v.ty/\VT v.ty (val A v.name)
 d:(ρ= []->n0<=k)->Ax T A V v
theorem IL(X:bD P T F A d u My az){ρ:Path}{b:aW}{s:Nat}{rs:Rs}(h:dh T F A d u ρ=some (b,s,rs)){k:Nat}{v:Va}(c:(pc T F A d u ρ)[k]?=some v):Km T A (aD T F A d u My az an) (iQ T F A d u ρ) d.ins.length ρ k v:=by
 obtain⟨Q,z,R,S,B,U⟩:=fm X.hL X.hU X.hS h;obtain⟨g,p,V,Y⟩:=oa z;rw[funext λw=>propext (B w)]at g;have i:(Sm.aH.fr (aD T F A d u My az an) ρ).db=_:=yI h;rw[kQ h]at c;by_cases e:ρ= []
 ·rw[aqy e]at c i;subst e;obtain⟨rfl,rfl,rfl⟩:=qp h;have C:(List.replicate d.ins.length (none:Option Nat)).length=d.ins.length:=by simp
  have D:(Sm.cm (d.outs.map dW) (Sm.bP (ep d.b))).length=d.outs.length:=by rw[Sm.ey];simp
  rcases aqh k d.ins.length with q|q
  ·rw[aqD,aqf q]at c;obtain⟨E,G,H,Z⟩:=X.i v (aqk c);exact⟨E,by rw[G,H],λa=>(by grind),λa=>absurd (a W) (by omega)⟩
  rcases aqh k (d.ins.length+d.outs.length)with I|I
  ·have f:d.outs[k-d.ins.length]?=some v:=by
    grind
   obtain⟨J,K,L,M⟩:=X.o _ v f;obtain⟨x,sb,y,r,N,O⟩:=X.ok v (aqk f);refine⟨J,K,λa=>⟨?_,(M a).2,?_⟩,λ_=>⟨some x,sb,y,r,N,by rw[L];rfl⟩⟩
   ·grind
   ·unfold val;rw[r];exact O
  ·have f:(c8 d.b)[k-(d.ins.length+d.outs.length)]?=some v:=by
    grind
   obtain⟨j,l,m⟩:=g v (aqk f);refine⟨j,l,λa=> ?_,λ_=>m⟩;obtain⟨t,n,o⟩:=p _ v f a;refine⟨?_,n,o⟩;rw[i,aqm (by grind)];simp only[aqg,C,D];exact t
 ·rw[aqo e]at c i;obtain⟨j,l,m⟩:=g v (aqk c);refine⟨j,l,λa=> ?_,λ_=>m⟩;obtain⟨t,n,o⟩:=p _ v c a;exact⟨by grind,n,o⟩
theorem Az{x:Nm} :(rB A x).getD 0=val A x:=by
 unfold rB val;cases get A x with
 |none=>rfl
 |some e=>
  obtain⟨a,sb,b⟩:=e;cases a<;>rfl
theorem C8.get{J:Path}{x:Nm}{ρ:Path}{k:Nat}{v:Va}(h:C8 T F A d u (aD T F A d u My az an) J x ρ k v):Sm.aH.get (aD T F A d u My az an) (ρ,k)=val A x/\Sm.aH.mV (aD T F A d u My az an) (ρ,k)=zx A x/\Sm.aH.val (aD T F A d u My az an) ρ k=rB A x/\Sm.aH.sb (aD T F A d u My az an) ρ k=iw A x:=by
 obtain⟨a,b,c⟩:=Ey (My:=My) (az:=az) (an:=an) ρ h.vv;rw[h.n]at a b c;refine⟨?_,b,a,c⟩;show(Sm.aH.val (aD T F A d u My az an) ρ k).getD 0=_;rw[a];exact Az
theorem Kn.ix{x:Nm}{r:Nat}(h:Kn A x r):zx A x<r:=by obtain⟨v,c,d,a,b⟩:=h;unfold zx;rw[a];exact b
theorem Kn.vv{x:Nm}{r:Nat}(h:Kn A x r):rB A x=some (Ex.val A x):=by obtain⟨v,b,c,a,d⟩:=h;unfold rB Ex.val;rw[a]
theorem yJ(X:bD P T F A d u My az){J ρ:Path}{b:aW}{s:Nat}{rs:Rs}(h:dh T F A d u J=some (b,s,rs))(a: ∃τ,J=τ++ρ): ∃b' c e,dh T F A d u ρ=some (b',c,e):=by
 obtain⟨τ,rfl⟩:=a;exact u9 (My:=My) (az:=az) (an:=[]) (Sm.nW (X.k_ (an:=[])) (τ:=τ) (gD h))
theorem C8.fx(X:bD P T F A d u My az){J:Path}{b:aW}{s:Nat}{rs:Rs}(a:dh T F A d u J=some (b,s,rs)){x:Nm}{ρ:Path}{k:Nat}{v:Va}(h:C8 T F A d u (aD T F A d u My az an) J x ρ k v):Km T A (aD T F A d u My az an) (iQ T F A d u ρ) d.ins.length ρ k v:=by
 obtain⟨e,f,g,c⟩:=yJ X a h.s;exact IL X c h.vv
theorem yK{ρ:Path}{k:Nat}{v:Va}(a:(pc T F A d u ρ)[k]?=some v)(ht:v.ty= .eO):Sm.aH.dD cI (aD T F A d u My az an) (ρ,k)= [bZ,bu,cQ]:=by
 unfold Sm.aH.dD;show(match(eB T F A d u ρ).vars[k]? with|some v=>Sm.eM cI v.tk v.tn|none=>[])=_;rw[ng,aqL,a];show Sm.eM cI v.ty.kind v.ty.nm=_;rw[ht]
 decide
theorem yL{s:Nm}(h:s∈([bZ,bu,cQ]:List Nm)):Sm.p9 cI s=gO s:=by
 simp only[aqs,aqx,aq9]at h;rcases h with rfl|rfl|rfl<;>decide
theorem uf(X:bD P T F A d u My az){J:Path}{b:aW}{s:Nat}{rs:Rs}(w:dh T F A d u J=some (b,s,rs)): ∀{e:E} {r p:Nat},eu T A (iQ T F A d u J) (A.length+1) r e->(∀k,p<=k->k<p+xE e->Sm.lx (aD T F A d u My az an) (cG d) J k)->Sm.gT cI (aD T F A d u My az an) J r (cg e) p (cy T A rs.rd e p) (dH T A rs.rd e p):=by
 have ac:Sm.aH.ok (aD T F A d u My az an) J:=gD w;have S: ∀k,Sm.lx (aD T F A d u My az an) (cG d) J k->rs.rd k=Sm.aH.rd (aD T F A d u My az an) k/\k<Sm.aH.sz (aD T F A d u My az an):= λk ho=>⟨(u_ X w (τ:=[]) W ho).1,BI X ac ho.1⟩
 intro e
 induction e with
 |nil=>intro r p f _;exact f.elim
 |int n=>intro r p f _;exact .vw (.inl W)
 |bool n=>intro r p f _;exact .vw (.inr (.inl W))
 |ctor n=>
  intro r p f _;have:=Sm.gT.vw (en:=cI) (c:=(aD T F A d u My az an)) (J:=J) (r:=r) (k:=3) (op:=0) (n:=0) (s:=n) (names:=[]) (kids:=[]) (p:=z2) (a:=p) (.inr (.inr W));rw[show Sm.oO cI (.mk 3 0 0 n [] [] z2)=gO n from yL f]at this;exact this
 |var x=>
  intro r p f _;obtain⟨Q,k,v,l⟩:=C9 X (an:=an) w f.1;obtain⟨y,U,_⟩:=l.get;have:=Sm.gT.var (en:=cI) (c:=(aD T F A d u My az an)) (J:=J) (r:=r) (op:=0) (n:=0) (s:=x) (names:=[]) (kids:=[]) (p:=z2) (a:=p) l.f (by rw[U];exact f.2.ix);rw[y]at this;exact this
 |last x=>
  intro r p f _;obtain⟨Q,k,v,l⟩:=C9 X (an:=an) w f.1;have hF:=l.fx X w;have V:=(hF.lp (by rw[<-hF.ls,l.n];exact f.2)).1;rw[l.n]at V;obtain⟨τ,e⟩:=l.s;obtain⟨o1,o2⟩:=Sm.j4 X.sp X.wf X.k_ (Sm.nW X.k_ (τ:=τ) (by rw[<-e];exact ac)) V;have:=Sm.gT.last (en:=cI) (c:=(aD T F A d u My az an)) (J:=J) (r:=r) (op:=0) (n:=0) (s:=x) (names:=[]) (kids:=[]) (p:=z2) (a:=p) l.f V o2;rw[<-(u_ X w e o1).1]at this;exact this
 |un op a Y=>intro r p f g;exact .un (Y f (λk j h=>g k j (by simp only[xE,cg,Sm.xP,Sm.fQ]at h⊢;omega)))
 |bin op a b D G=>
  intro r p f g;exact .bin (D f.1 (λk j h=>g k j (by simp only[xE,cg,Sm.xP,Sm.fQ]at h⊢;omega))) (G f.2 (λk j h=>g k (by omega) (by simp only[xE,cg,Sm.xP,Sm.fQ]at h⊢;omega)))
 |ite c a b R D G=>
  intro r p f g;exact .ite (R f.1 (λk j h=>g k j (by simp only[xE,cg,Sm.xP,Sm.fQ]at h⊢;omega))) (D f.2.1 (λk j h=>g k (by omega) (by simp only[xE,cg,Sm.xP,Sm.fQ]at h⊢;omega)))
   (G f.2.2 (λk j h=>g k (by omega) (by simp only[xE,cg,Sm.xP,Sm.fQ]at h⊢;omega)))
 |fA c t R Z=>
  intro r p f g;have hx:xE (.fA c t)=1+xE c+xE t:=by simp only[xE,cg,Sm.xP,Sm.fQ,Sm.dE];simp;omega
  obtain⟨K,L⟩:=S p (g p (aqd _) (by omega));have:=Sm.gT.fA (en:=cI) (c:=(aD T F A d u My az an)) (J:=J) (r:=r) (op:=0) (n:=0) (s:=e0) (names:=[]) (x:=cg c) (p:=z2) L (Z (r:=A.length+1) (p:=p+1+xE c) f (λk j h=>g k (by omega) (by omega)));rw[<-K]at this;exact this
 |pre t Z=>
  intro r p f g;have hx:xE (.pre t)=1+xE t:=by simp only[xE,cg,Sm.xP,Sm.fQ,Sm.dE];simp
  obtain⟨K,L⟩:=S p (g p (aqd _) (by omega));have:=Sm.gT.pre (en:=cI) (c:=(aD T F A d u My az an)) (J:=J) (r:=r) (op:=0) (n:=0) (s:=e0) (names:=[]) (p:=z2) L (Z (r:=A.length+1) (p:=p+1) f (λk j h=>g k (by omega) (by omega)));rw[<-K]at this;exact this
 |arrow a b D G=>
  intro r p f g;have hx:xE (.arrow a b)=1+xE a+xE b:=by simp only[xE,cg,Sm.xP,Sm.fQ,Sm.dE];simp;omega
  obtain⟨K,L⟩:=S p (g p (aqd _) (by omega));have:=Sm.gT.arrow (en:=cI) (c:=(aD T F A d u My az an)) (J:=J) (r:=r) (op:=0) (n:=0) (s:=e0) (names:=[]) (p:=z2) L (D (p:=p+1) f.1 (λk j h=>g k (by omega) (by omega))) (G (p:=p+1+xE a) f.2 (λk j h=>g k (by omega) (by omega)));rw[<-K]at this;exact this
 |e_ x c a Y=>intro r p f g;exact .e_ (Y f (λk j h=>g k j (by simp only[xE,cg,Sm.xP,Sm.fQ]at h⊢;omega)))
 |merge x o q z a b c D G R=>
  intro r p f g;obtain⟨j,h,h3,B⟩:=f;have hx:xE (.merge x o q z a b c)=xE a+xE b+xE c:=by simp only[xE,cg,Sm.xP,Sm.fQ,Sm.dE];simp;omega
  obtain⟨Q,k,v,l⟩:=C9 X (an:=an) w j;obtain⟨y,U,_⟩:=l.get;have I:Sm.aH.dD cI (aD T F A d u My az an) (Q,k)= [bZ,bu,cQ]:=yK l.vv (by rw[<-(l.fx X w).ty,l.n];exact h3);have TO:Sm.aH.mV (aD T F A d u My az an) (Q,k)<r:=by rw[U];exact h.ix
  by_cases m:gO o=val A x
  ·rw[aqy m]at B;have M:cy T A rs.rd (.merge x o q z a b c) p=cy T A rs.rd a p:=by simp only[cy];rw[aqy m]
   have N:dH T A rs.rd (.merge x o q z a b c) p=dH T A rs.rd a p:=by simp only[dH];rw[aqy m]
   rw[M,N];exact .merge (i:=0) (cn:=o) (e:=cg a) l.f TO W (by rw[I,y];exact m) (λO t hi=>by omega) W (by
    exact D (p:=p) B (λk j h=>g k j (by omega)))
  ·rw[aqo m]at B;by_cases C:gO q=val A x
   ·rw[aqy C]at B;have M:cy T A rs.rd (.merge x o q z a b c) p=cy T A rs.rd b (p+xE a):=by simp only[cy];rw[aqo m,aqy C]
    have N:dH T A rs.rd (.merge x o q z a b c) p=dH T A rs.rd b (p+xE a):=by simp only[dH];rw[aqo m,aqy C]
    rw[M,N];exact .merge (i:=1) (cn:=q) (e:=cg b) l.f TO W (by rw[I,y];exact C) (λO t hi H=>by
     have:O=0:=by omega
     subst this;simp at H;subst H;rw[I,y];exact m) W (by
     exact G (p:=p+xE a) B (λk j h=>g k (by omega) (by omega)))
   ·rw[aqo C]at B;have M:cy T A rs.rd (.merge x o q z a b c) p=cy T A rs.rd c (p+xE a+xE b):=by simp only[cy];rw[aqo m,aqo C]
    have N:dH T A rs.rd (.merge x o q z a b c) p=dH T A rs.rd c (p+xE a+xE b):=by simp only[dH];rw[aqo m,aqo C]
    rw[M,N];exact .merge (i:=2) (cn:=z) (e:=cg c) l.f TO W (by rw[I,y];exact B.1) (λO t hi H=>by
     have:O=0\/O=1:=by omega
     rcases this with rfl|rfl
     ·simp at H;subst H;rw[I,y];exact m
     ·simp at H;subst H;rw[I,y];exact C) W (by
     show Sm.gT cI (aD T F A d u My az an) J r (cg c) (p+(xE a+(xE b+0))) _ _;rw[arV,<-asd];exact R (p:=p+xE a+xE b) B.2 (λk j h=>g k (by omega) (by omega)))
end
theorem nh{f:Nm->Nat} : ∀(l:List Nm) (m:Nat),(l.foldl (λm x=>min m (f x)) m<=m)/\(∀x∈l,l.foldl (λm x=>min m (f x)) m<=f x)/\ ∀t,t<=m->(∀x∈l,t<=f x)->t<=l.foldl (λm x=>min m (f x)) m
 | [],m=>⟨aqd _,λx a=>(by cases a),λt b _=>b⟩
 |c::l,m=>by
  obtain⟨h,d,e⟩:=nh (f:=f) l (min m (f c));simp only[ars];refine⟨by omega,λx a=> ?_,λt i a=>e t (by grind) (λx g=>a x (aqF _ g))⟩;rcases aqs.1 a with rfl|a
  ·omega
  ·exact d x a
section
variable{P:Sm.Pg}{T:dS}{F:List (Option Int)}{A:Env}{d:Nd}{u:US}{My:Nat->US->List Int->List Int->US->Prop}{az:Nat->US}{an:List Sm.It}
theorem AA{J:Path}{j:Nat}{q:ay}{p:Nat}{rs:Rs}(h:jO T F A d u J j=some (q,p,rs)):Sm.aH.ek (aD T F A d u My az an) J j=vT A q:=by
 show(match jO T F A d u J j with|some (q,_,_)=>vT A q|none=>0)=_;rw[h]
theorem Kq{J:Path}{j:Nat}{q:ay}{p:Nat}{rs:Rs}(h:jO T F A d u J j=some (q,p,rs)):Sm.aH.ev (aD T F A d u My az an) J j=JP T A rs p q:=by
 show(match jO T F A d u J j with|some (q,p,rs)=>JP T A rs p q|none=>0)=_;rw[h]
theorem FE{J:Path}{j:Nat}{q:ay}{p:Nat}{rs:Rs}(h:jO T F A d u J j=some (q,p,rs)):Sm.aH.ew (aD T F A d u My az an) J j=tc T A rs p q:=by
 show(match jO T F A d u J j with|some (q,p,rs)=>tc T A rs p q|none=>[])=_;rw[h]
theorem rf{q:ay}(a:de q=3\/de q=4\/de q=5):vT A q=(dQ q).foldl (λm x=>min m (iw A x)) A.length:=by cases q<;>simp[de]at a<;>rfl
theorem Ez(X:bD P T F A d u My az){J:Path}{b:aW}{s:Nat}{rs:Rs}(f:dh T F A d u J=some (b,s,rs)){j:Nat}{q:ay}{p:Nat}(g:(cJ b)[j]?=some q)(h:(jE b s)[j]?=some p){x:Nm}(a:x∈dQ q):vT A q<=iw A x:=by
 obtain⟨o,i,y,z,B,C⟩:=fm X.hL X.hU X.hS f;obtain⟨k,_⟩:=(oa i).2.2.1 j q p g h;cases q with
 |df c e=>have:x=c:=dT.1 a;subst this;exact aqd _
 |call c r t v b I e=>
  obtain⟨_,_,_,D,w,E,G,H,_,l,m,_⟩:=k;rcases(dT.1 a)with rfl|rfl
  ·exact aqd _
  ·show iw A c<=_;unfold iw;rw[l,m];exact aqd _
 |sw e n=>rw[rf (by simp[de])];exact(nh _ _).2.1 x a
 |aL n=>rw[rf (by simp[de])];exact(nh _ _).2.1 x a
 |reset e b=>rw[rf (by simp[de])];exact(nh _ _).2.1 x a
theorem wR(X:bD P T F A d u My az){J:Path}{b:aW}{s:Nat}{rs:Rs}(a:dh T F A d u J=some (b,s,rs)){j:Nat}{q:ay}(c:(cJ b)[j]?=some q){x:Nm}(e:x∈dQ q):iQ T F A d u J x:=by
 obtain⟨i,k,f,l,g,m⟩:=fm X.hL X.hU X.hS a;cases f with
 |mk n o p h r=>exact(g x).1 (h q (aqk c) x e)
theorem tt(X:bD P T F A d u My az){J:Path}{b:aW}{s:Nat}{rs:Rs}(c:dh T F A d u J=some (b,s,rs)){i j:Nat}{q a:ay}(e:(cJ b)[i]?=some q)(f:(cJ b)[j]?=some a){x:Nm}(g:x∈dQ q)(h:x∈dQ a):i=j:=by
 obtain⟨m,n,k,o,p,r⟩:=fm X.hL X.hU X.hS c;cases k with
 |mk t v l w y=>exact l i j q a x e f g h
theorem yM(X:bD P T F A d u My az){j:Nat}{J:Path}{b:aW}{s:Nat}{rs:Rs}(a:dh T F A d u (j::J)=some (b,s,rs)): ∀v∈c8 b,¬iQ T F A d u J v.name:=by
 obtain⟨h,i,c,k,l,e⟩:=fm X.hL X.hU X.hS a;cases c with
 |mk m f n o p=>intro v g;rw[<-e];exact f v g
theorem kS{J:Path}{b:aW}{s:Nat}{rs:Rs}(a:dh T F A d u J=some (b,s,rs)){j:Nat}{q:ay}(c:(cJ b)[j]?=some q):(Sm.aH.fr (aD T F A d u My az an) J).au[j]?=some (di q):=by
 show(eB T F A d u J).au[j]?=_;rw[(pB a).1,g_,aqL,c];rfl
theorem IM(X:bD P T F A d u My az){J:Path}{b:aW}{s:Nat}{rs:Rs}(a:dh T F A d u J=some (b,s,rs)){x:Nm}(h:iQ T F A d u J x)(i:T.ls x=true):rs.rd (T.lp x)=Sm.aH.rd (aD T F A d u My az an) (T.lp x):=by
 obtain⟨j,k,v,c⟩:=C9 X (an:=an) a h;have f:=c.fx X a;have g:=(f.lp (by rw[<-f.ls,c.n];exact i)).1;rw[c.n]at g;obtain⟨τ,e⟩:=c.s;exact(u_ X a e (Sm.j4 X.sp X.wf X.k_ (Sm.nW X.k_ (τ:=τ) (by rw[<-e];exact gD a)) g).1).1
theorem He{V:Nm->Prop}{rs:Rs}{p:Nat}{q:ay}(h:yA T F A My az V rs p q)(g:de q=3\/de q=4\/de q=5): ∃a,(cq q)[eY T A rs p q]?=some a/\yz T A rs q a:=by
 cases q with
 |df i e=>simp[de]at g
 |call i k l a b n e=>simp[de]at g
 |sw e j=>obtain⟨f,a,_,_,_,d,_,_,c⟩:=h;exact⟨a,d,c⟩
 |aL j=>obtain⟨f,a,m,_,_,_,_,_,d,_,c⟩:=h;exact⟨a,d,c⟩
 |reset e b=>obtain⟨f,_,_,_,c⟩:=h;exact⟨_,rfl,c⟩
def Kr(T:dS)(F:List (Option Int))(A:Env)(d:Nd)(u:US)(c:Sm.aH)(J:Path)(x:Nm):Option (Path×Nat)->Prop
 |none=>T.ls x=true/\ ∃i,get A x=some (some (c.rd (T.lp x)),i,i)
 |some (ML,j')=>(∃τ,ML=τ++J)/\ ∃b s rs q' p',dh T F A d u ML=some (b,s,rs)/\(cJ b)[j']?=some q'/\(jE b s)[j']?=some p'/\(de q'=1\/de q'=2)/\x∈dQ q'
theorem A7(X:bD P T F A d u My az){V:Nm->Prop}{rs:Rs}{s:Nat}{b:aW}(h:rA T F A My az V rs s b): ∀{J:Path},dh T F A d u J=some (b,s,rs)-> ∀{j:Nat} {q:ay} {p:Nat} {x:Nm},(cJ b)[j]?=some q->(jE b s)[j]?=some p->x∈dQ q->
  ∃l,Sm.Src (aD T F A d u My az an) (iw A x) J j x l/\Kr T F A d u (aD T F A d u My az an) J x l:=by
 induction h with
 | @mk V rs s b G hl R hb S=>
  intro J f j q p x c g n;have U:=u7 f c g;have r:Sm.aH.ek (aD T F A d u My az an) J j<=iw A x:=by rw[AA U];exact Ez X f c g n
  have t:=kS (My:=My) (az:=az) (an:=an) f c;by_cases w:de q=1\/de q=2
  ·exact⟨some (J,j),.leaf t (by rw[ez];exact w) r,⟨[],rfl⟩,b,s,rs,q,p,f,c,g,w,n⟩
  ·have y:de q=3\/de q=4\/de q=5:=by cases q<;>simp[de]at w⊢
   obtain⟨Y,_⟩:=R j q p c g;obtain⟨E,H,Z⟩:=He Y y;have i:=wP f c g H;have O:=wR X f c n;by_cases z:x∈dA E
   ·obtain⟨⟨I,B,m⟩,M9⟩:=mx.1 z;obtain⟨j',o⟩:=aqG.1 B;obtain⟨p',O4⟩:=mB (s:=nc q p (eY T A rs p q)) o;obtain⟨l,h1,K⟩:=S j q p E c g H i o O4 m;refine⟨l,.bN t (by rw[ez];exact y) r (kS i o) m (λk qi L O2 Uu=> ?_) h1,?_⟩
    ·obtain⟨b1,s1,QW,M,p1,a,C,f3,rfl,f5,f6⟩:=jP (show(eB T F A d u (j::J)).au[k]?=some qi from O2);rw[i]at a;injection a with a
     have D:=(ark a).1;subst D;have:=tt X i C o Uu m;omega
    ·cases l with
     |none=>exact K
     |some ac=>
      obtain⟨⟨Q,e⟩,h3⟩:=K;exact⟨⟨Q++ [j],by rw[e];simp⟩,h3⟩
   ·refine⟨none,.last t (by rw[ez];exact y) r (λI B m=> ?_),?_⟩
    ·obtain⟨k,L⟩:=aqG.1 B;obtain⟨b1,s1,QW,M,p1,a,C,f3,rfl,f5,f6⟩:=jP (show(eB T F A d u (j::J)).au[k]?=some I from L);rw[i]at a;injection a with a
     have D:=(ark a).1;subst D;refine z (mx.2 ⟨⟨M,aqk C,m⟩,λv G e=> ?_⟩);exact yM X i v G (by rw[e];exact O)
    ·obtain⟨N,k,l2⟩:=Z x n z;exact⟨N,k,by rw[l2,IM X f O N]⟩
theorem FF(X:bD P T F A d u My az){J:Path}{b:aW}{s:Nat}{rs:Rs}(a:dh T F A d u J=some (b,s,rs)){j:Nat}{q:ay}{x:Nm}(c:(cJ b)[j]?=some q)(f:x∈dQ q): ∃e,Sm.Src (aD T F A d u My az an) (iw A x) J j x e/\Kr T F A d u (aD T F A d u My az an) J x e:=by
 obtain⟨i,g,_⟩:=fm X.hL X.hU X.hS a;obtain⟨k,h⟩:=mB (s:=s) c;exact A7 X g a c h f
theorem Ks(X:bD P T F A d u My az){J:Path}{b:aW}{s:Nat}{rs:Rs}(a:dh T F A d u J=some (b,s,rs)){k:Nat}{v:Va}(h:(pc T F A d u J)[k]?=some v){j:Nat}{q:ay}(e:(cJ b)[j]?=some q)(f:v.name∈dQ q):Sm.jB (Sm.aH.fr (aD T F A d u My az an) J) k (dW v) j:=by
 refine⟨(oz X a h).ix,⟨di q,kS a e,f⟩,λg i p l m=> ?_⟩;obtain⟨r,t,w,x,y,c,n,z,rfl,B,C⟩:=jP (show(eB T F A d u J).au[g]?=some i from l);rw[a]at c;injection c with c
 have o:=(ark c).1;subst o;have:=tt X a e n f m;omega
theorem LY(X:bD P T F A d u My az){J:Path}{b:aW}{s:Nat}{rs:Rs}(f:dh T F A d u J=some (b,s,rs)){k:Nat}{v:Va}(a:(pc T F A d u J)[k]?=some v)(hi:J= []->d.ins.length<=k): ∃(j:Nat) (q:ay),(cJ b)[j]?=some q/\v.name∈dQ q:=by
 obtain⟨n,o,h,p,r,t⟩:=fm X.hL X.hU X.hS f;have i: ∃q∈cJ b,v.name∈dQ q:=by
  rw[kQ f]at a;cases h with
  |mk w x y z B g=>
  by_cases e:J= []
  ·rw[aqy e]at a;have:=hi e;subst e;obtain⟨rfl,_⟩:=qp f;rw[aqD,aqm this]at a;rcases aql.1 (aqk a)with c|c
   ·exact X.od v c
   ·exact g v c
  ·grind
 obtain⟨q,l,g⟩:=i;obtain⟨j,m⟩:=aqG.1 l;exact⟨j,q,m,g⟩
end
structure Lk(P:Sm.Pg)(step:US->List Int->List Int->US->Prop)(My:Nat->US->List Int->List Int->US->Prop)(az:Nat->US):Prop where
 st: ∀j u i o u',My j u i o u'->step u i o u'/\Sm.lK P.nodes (nm 102 j)=some j
 az: ∀j,az j=US.init P j
section
variable{P:Sm.Pg}{T:dS}{F:List (Option Int)}{A:Env}{d:Nd}{u:US}{My:Nat->US->List Int->List Int->US->Prop}{az:Nat->US}{an:List Sm.It}{step:US->List Int->List Int->US->Prop}
theorem yN(X:bD P T F A d u My az){J:Path}{b:aW}{s:Nat}{rs:Rs}(h:dh T F A d u J=some (b,s,rs)){x:Nm}(i:iQ T F A d u J x){q:Sm.ay}{l:List Nm}(j:q.lhs=x::l)(k:q.kd=1\/q.kd=2):Sm.aH.nu (aD T F A d u My az an) J q↔(rB A x).isSome=true:=by
 obtain⟨f,g,v,c⟩:=C9 X (an:=an) h i;have m:=c.get.2.2.1;unfold Sm.aH.nu;rw[j];constructor
 ·intro e;obtain⟨o,a,n⟩:=e k;rw[c.f]at a;injection a with a
  subst a;rw[<-m];exact n
 ·intro e _;exact⟨(f,g),c.f,by grind⟩
theorem BK(X:bD P T F A d u My az){J:Path}{b:aW}{s:Nat}{rs:Rs}(f:dh T F A d u J=some (b,s,rs)){r:Nat} : ∀(l:List Tr),(∀w∈l,eu T A (iQ T F A d u J) (A.length+1) r w.e/\xE w.e=0/\dH T A rs.rd w.e 0= [])->Sm.p_ cI (aD T F A d u My az an) J r (l.map t_) ((iZ T A rs.rd l).map t_)
 | [],_=> .nil
 |w::l,e=>by
  obtain⟨g,k,h⟩:=e w (aqP ..);have a:=uf X (an:=an) f (p:=0) g (λj _ m=>by omega);rw[h]at a;simp only[aqN,iZ];by_cases c:cy T A rs.rd w.e 0=0
  ·rw[aqo (by grind)];rw[c]at a;exact .no a (BK X f l (λw i=>e w (aqF _ i)))
  ·rw[aqy c];exact .Co a c
theorem IN(X:bD P T F A d u My az){J:Path}{b:aW}{s:Nat}{rs:Rs}(a:dh T F A d u J=some (b,s,rs)){j:Nat}{q:ay}{p:Nat}(c:(cJ b)[j]?=some q)(e:(jE b s)[j]?=some p){k:Nat}(f:p<=k)(g:k<p+(Sm.ij (de q)+Sm.xP (di q).ex+Sm.aP ((di q).args.map Sm.xP))):Sm.lx (aD T F A d u My az an) (cG d) J k:=
 Sm.pz X.sp X.wf X.k_ (gD a) (kS a c) (show(eB T F A d u J).pos[j]?=some p by rw[(pB a).2];exact e) f (by rw[ez];exact g)
theorem FG(X:bD P T F A d u My az){J:Path}{k:Nat}(h:Sm.lx (aD T F A d u My az an) (cG d) J k)(a:Sm.aH.ok (aD T F A d u My az an) J):k<Sm.aH.sz (aD T F A d u My az an):=BI X a h.1
theorem lf{x:Nm}{o:Option Int}{sb i:Nat}(h:get A x=some (o,sb,i)):iw A x=sb/\zx A x=i/\rB A x=o:=by unfold iw zx rB;rw[h];exact⟨rfl,rfl,rfl⟩
theorem ri{x:Nm}{o:Int}{sb i:Nat}(h:get A x=some (some o,sb,i)):val A x=o:=by unfold val;rw[h]
theorem JT{V:Nm->Prop}{rs:Rs}{p:Nat}{q:ay}(h:yA T F A My az V rs p q):vT A q<=A.length:=by
 cases q with
 |df c e=>
  obtain⟨_,⟨d,a,_⟩|⟨d,a⟩⟩:=h
  ·have:=ta a;show iw A c<=_;rw[(lf a).1];omega
  ·have:=ta a;show iw A c<=_;rw[(lf a).1];omega
 |call c i j k b r e=>
  obtain⟨_,_,_,l,d,m,n,o,_,f,_⟩:=h;have:=ta f;show iw A c<=_;rw[(lf f).1];omega
 |sw e g=>rw[rf (by simp[de])];exact(nh _ _).1
 |aL g=>rw[rf (by simp[de])];exact(nh _ _).1
 |reset e b=>rw[rf (by simp[de])];exact(nh _ _).1
theorem EA{V:Nm->Prop}{t:Nat}{q:ay}{e:E}(h:eu T A V (A.length+1) t e)(b:de q=3\/de q=4\/de q=5)(ht:t<=A.length)(c: ∀a∈dQ q,V a/\t<=iw A a):eu T A V (A.length+1) (vT A q) e:=by
 have d:t<=vT A q:=by rw[rf b];exact(nh _ _).2.2 t ht (λa f=>(c a f).2)
 have:=eu.app [] h (aqd _) d;rw[aqC]at this;exact this
theorem IP(L:Lk P step My az){V:Nm->Prop}{rs:Rs}{p:Nat}{x y f:Nm}{a b e:E}{c:Bool}(h:yA T F A My az V rs p (.call x y f a b c e)): ∃j,f=nm 102 j/\Sm.lK P.nodes f=some j/\My j ((if c=true/\cy T A rs.rd e (p+1)≠0 then none else rs.rs p).getD (az j)) [cy T A rs.rd a (p+1+xE e),cy T A rs.rd b (p+1+xE e+xE a)] [val A x,val A y] (wB T A My az rs p (.call x y f a b c e))/\ ∀u,rs.rs p=some u->u.i=j:=by
 obtain⟨_,_,_,j,t,v,w,d,g,m,n,_,_,_,k,o⟩:=h;have q:FB T A My az rs p (.call x y f a b c e) d:=by
  refine⟨j,g,?_⟩;rw[ri m,ri n];exact k
 have i: ∃d,FB T A My az rs p (.call x y f a b c e) d:=⟨d,q⟩;have z:wB T A My az rs p (.call x y f a b c e)=Classical.choose i:=by unfold wB;rw[asV i]
 obtain⟨r,l,B⟩:=arN i;have s:j=r:=by rw[g]at l;exact(gS l).2
 subst s;exact⟨j,g,by rw[g];exact(L.st _ _ _ _ _ k).2,by grind,o⟩
theorem yO{J:Path}{j:Nat}{q:ay}{p:Nat}{rs:Rs}(h:jO T F A d u J j=some (q,p,rs)):Sm.aH.outs (aD T F A d u My az an) J j=Fz A q/\Sm.aH.ln (aD T F A d u My az an) J j=wB T A My az rs p q/\Sm.aH.pJ (aD T F A d u My az an) J j=C6 T F A rs p q/\Sm.aH.nan (aD T F A d u My az an) J j=JQ T F A rs p q:=by
 refine⟨?_,?_,?_,?_⟩
 ·show(match jO T F A d u J j with|some (q,p,rs)=>Fz A q|none=>[])=_;rw[h]
 ·show(match jO T F A d u J j with|some (q,p,rs)=>wB T A My az rs p q|none=>az 0)=_;rw[h]
 ·show(match jO T F A d u J j with|some (q,p,rs)=>C6 T F A rs p q|none=>0)=_;rw[h]
 ·show(match jO T F A d u J j with|some (q,p,rs)=>JQ T F A rs p q|none=>false)=_;rw[h]
def wQ:ay->Nat
 | .df _ e=>xE e
 | .call _ _ _ a b _ e=>1+xE e+(xE a+xE b)
 | .sw e _=>xE e
 | .aL _=>1
 | .reset e _=>xE e
theorem EB(q:ay):Sm.ij (de q)+Sm.xP (di q).ex+Sm.aP ((di q).args.map Sm.xP)=wQ q:=by
 cases q with
 |df a e=>show 0+xE e+0=xE e;omega
 |call a f g c b h e=>show 1+xE e+(xE c+(xE b+0))=_;rfl
 |sw e d=>show 0+xE e+0=xE e;omega
 |aL d=>rfl
 |reset e b=>show 0+xE e+0=xE e;omega
theorem Mq(X:bD P T F A d u My az)(L:Lk P step My az){J:Path}{b:aW}{s:Nat}{rs:Rs}(l:dh T F A d u J=some (b,s,rs)){j:Nat}{q:ay}{p:Nat}(H:(cJ b)[j]?=some q)(I:(jE b s)[j]?=some p):Sm.LN P step (aD T F A d u My az an) J j (di q) p/\Sm.aH.ek (aD T F A d u My az an) J j<Sm.aH.eV (aD T F A d u My az an):=by
 obtain⟨i8,g1,g2,g3,g4,g5⟩:=fm X.hL X.hU X.hS l;obtain⟨o,_⟩:=(oa g1).2.2.1 j q p H I;rw[funext λv=>propext (g4 v)]at o;have x:=u7 l H I;have y:=AA (My:=My) (az:=az) (an:=an) x;have w:=Kq (My:=My) (az:=az) (an:=an) x;have K:=FE (My:=My) (az:=az) (an:=an) x;have M:=ue (My:=My) (az:=az) (an:=an) x;have Yq:=FC (My:=My) (az:=az) (an:=an) x;have MU:Sm.aH.ok (aD T F A d u My az an) J:=gD l;have N: ∀f,p<=f->f<p+wQ q->Sm.lx (aD T F A d u My az an) (cG d) J f:= λf g i=>IN X l H I g (by rw[EB];exact i)
 have d6:de q=3\/de q=4\/de q=5-> ∀c,(cq q)[eY T A rs p q]?=some c->Sm.uE (aD T F A d u My az an) J j (di q) p (nY c):= λhk c ha=>by
  obtain⟨a',QF⟩:=(X.k_ (an:=an)).bN J j (di q) p MU (kS (My:=My) (az:=az) (an:=an) l H) (by show(eB T F A d u J).pos[j]?=some p;rw[(pB l).2];exact I) (by rw[ez];exact hk);have g:=QF.ha;rw[M,mz,aqL,ha]at g;injection g with g
  rw[g];exact QF
 refine⟨?_,by rw[y];have:=JT o;show _<A.length+1;omega⟩;rw[show P=P from rfl];have r:=X.en;cases q with
 |df v e=>
  refine .df W v W λz=> ?_
  rw[y,w,K,r];have hs:=(yN X l o.1 W (.inl W)).1 z;obtain⟨_,⟨n,g,i⟩|⟨n,g⟩⟩:=o
  ·have:vT A (.df v e)=n:=(lf g).1;rw[this];exact uf X l i (λf g i=>N f g i)
  ·rw[(lf g).2.2]at hs;cases hs
 |call v f4 f7 c b E e=>
  obtain⟨jj,hf,hn,Nu,WE⟩:=IP L o;obtain⟨hx,hy,i9,j',n,ox,oy,u',NM,k1,k2,s1,s2,s3,_,_⟩:=o;have V: ∀f,p<=f->f<p+(1+xE e+(xE c+xE b))->Sm.lx (aD T F A d u My az an) (cG d) J f:= λf g i=>N f g i
  have O:=V p (aqd _) (by omega);have Zu:=(u_ X l (τ:=[]) W O).2.2;have XD:vT A (.call v f4 f7 c b E e)=n:=(lf k1).1;obtain⟨f8,i6,_⟩:=yO (My:=My) (az:=az) (an:=an) x;refine .call W (FG X O MU) jj hn (if E then dH T A rs.rd e (p+1)else []) (dH T A rs.rd c (p+1+xE e)++(dH T A rs.rd b (p+1+xE e+xE c)++ [])) [cy T A rs.rd c (p+1+xE e),cy T A rs.rd b (p+1+xE e+xE c)] (λ_=> ?_) (λ_=> ?_) (by rw[K];rfl) (λ_=> ?_) (λ_ u hu=>WE u (by rw[Zu];exact hu)) (λ_=>by rw[f8];exact aqd 2)
  ·rw[y,w,r,XD];cases E with
   |false=>exact⟨rfl,rfl⟩
   |true=>exact uf X l (s1 W) (λf g i=>V f (by omega) (by omega))
  ·rw[y,r,XD];show Sm.xU cI (aD T F A d u My az an) J n [cg c,cg b] (p+1+xE e) _ _;refine .cons (uf X l s2 (λf g i=>V f (by omega) (by omega))) (.cons ?_ .nil);show Sm.gT cI (aD T F A d u My az an) J n (cg b) (p+1+xE e+xE c) _ _;exact uf X l s3 (λf g i=>V f (by omega) (by omega))
  ·rw[w,f8,i6,<-Zu,<-L.az jj];have B:(if JP T A rs p (.call v f4 f7 c b E e)=0 then rs.rs p else none)=(if E=true/\cy T A rs.rd e (p+1)≠0 then none else rs.rs p):=by
    show(if(if E then cy T A rs.rd e (p+1)else 0)=0 then _ else _)=_;cases E with
    |false=>simp
    |true=>
     simp only[arR];by_cases Q:cy T A rs.rd e (p+1)=0
     ·rw[aqy Q,aqo (by simpa using Q)]
     ·rw[aqo Q,aqy ⟨trivial,Q⟩]
   rw[B];exact(L.st _ _ _ _ _ Nu).1
 |sw e a=>
  obtain⟨k,c,z,g,i,S,C,U,h6⟩:=o;refine .sw W ?_ (nY c) (d6 (.inl W) c S) ?_ (λn b hi D=> ?_) Yq
  ·rw[y,w,K,r];exact uf X l (EA g (.inl W) z i) (λf g i=>N f g i)
  ·rw[w,r];have:(nY c).name=jx c:=by cases c;rfl
   rw[this];exact C
  ·rw[M]at hi;rw[mz,aqL]at D;cases ON:(cq (.sw e a))[n]? with
   |none=>rw[ON]at D;cases D
   |some G=>
    rw[ON]at D;injection D with D
    subst D;rw[w,r];have:(nY G).name=jx G:=by cases G;rfl
    rw[this];exact U n G hi ON
 |aL a=>
  obtain⟨k,c,m,z,Q,g,i,S,C,U,h6⟩:=o;have O:=N p (aqd _) (by show p<p+1;omega);obtain⟨r1,r2,r3⟩:=u_ X l (τ:=[]) W O;have f9:((a[(rs.rd p).toNat]?).map jf).getD []=jf m:=by rw[g];rfl
  have hK:eY T A rs p (.aL a)=match iZ T A rs.rd (jf m)with|none=>(rs.rd p).toNat|some k=>rc a k.to:=by
   show(match iZ T A rs.rd (((a[(rs.rd p).toNat]?).map jf).getD [])with|none=>(rs.rd p).toNat|some k=>rc a k.to)=_;rw[f9]
  have hN:zu T A rs p (.aL a)=match iZ T A rs.rd (jf m)with|none=>rs.rp p|some k=> !k.fb:=by
   show(match iZ T A rs.rd (((a[(rs.rd p).toNat]?).map jf).getD [])with|none=>rs.rp p|some k=> !k.fb)=_;rw[f9]
  have Ry:=wP l H I (show(cq (.aL a))[eY T A rs p (.aL a)]?=some c from C);have O6:(nY m).eT=(jf m).map t_:=by cases m;rfl
  have i7:(nY c).eU=(kg c).map t_:=by cases c;rfl
  have d7:(di (.aL a)).ah=ej a:=rfl;obtain⟨_,_,Y,Z⟩:=yO (My:=My) (az:=az) (an:=an) x;have QQ:u6 T F A rs p (.aL a)=iZ T A (nZ T F A rs p (.aL a) c).rd (kg c):=by
   show(match a[eY T A rs p (.aL a)]? with|some c=>iZ T A (nZ T F A rs p (.aL a) c).rd (kg c)|none=>none)=_;rw[C]
  have gc:Sm.p_ P.aI (aD T F A d u My az an) J (Sm.aH.ek (aD T F A d u My az an) J j) (nY m).eT ((iZ T A rs.rd (jf m)).map t_):=by
   rw[O6,y,r];exact BK X l _ (λh t=>⟨EA (i h t).1 (.inr (.inl W)) z S,(i h t).2.1,(i h t).2.2.1⟩)
  have Nq: ∀h,iZ T A rs.rd (jf m)=some h-> ∃f,Sm.mo (ej a) h.to=some f/\f=rc a h.to:= λh t=>(i h (sM t)).2.2.2
  have Nf: ∀h,iZ T A (nZ T F A rs p (.aL a) c).rd (kg c)=some h-> ∃f,Sm.mo (ej a) h.to=some f/\f=rc a h.to:= λh t=>(U h (sM t)).2.2.2
  have ge:Sm.p_ P.aI (aD T F A d u My az an) (j::J) (Sm.aH.eV (aD T F A d u My az an)) (nY c).eU ((iZ T A (nZ T F A rs p (.aL a) c).rd (kg c)).map t_):=by
   rw[i7,r];refine BK X Ry _ (λh t=> ?_);obtain⟨w1,w2,w3,_⟩:=U h t;refine⟨eu.rF (λv hx=> ?_) w1,w2,w3⟩;unfold iQ;rcases hx with ac|ac
   ·exact .inl ac
   ·exact .inr ⟨_,_,_,Ry,ac⟩
  have hl:eY T A rs p (.aL a)<a.length:=by
   rcases aqh (eY T A rs p (.aL a)) a.length with co|co
   ·exact co
   ·rw[aqj co]at C;cases C
  have B:C6 T F A rs p (.aL a)=match iZ T A (nZ T F A rs p (.aL a) c).rd (kg c)with|none=>eY T A rs p (.aL a)|some k=>rc a k.to:=by
   show(match u6 T F A rs p (.aL a)with|none=>(if eY T A rs p (.aL a)<a.length then eY T A rs p (.aL a)else 0)|some k=>rc a k.to)=_;rw[QQ,aqy hl]
  have R:JQ T F A rs p (.aL a)=match iZ T A (nZ T F A rs p (.aL a) c).rd (kg c)with|none=>false|some k=> !k.fb:=by
   show(match u6 T F A rs p (.aL a)with|none=>_|some k=>_)=_;rw[QQ]
  rw[B]at Y;rw[R]at Z;have d8:=M.trans hK;have d9:=Yq.trans hN;generalize iZ T A (nZ T F A rs p (.aL a) c).rd (kg c)=o1 at ge Nf Y Z;generalize iZ T A rs.rd (jf m)=o0 at gc Nq d8 d9;refine .aL W (FG X O MU) (rs.rd p).toNat (nY m) (by rw[<-r1];omega) ?_ (o0.map t_) gc ?_ (nY c) (d6 (.inr (.inl W)) c C) (o1.map t_) ge ?_ K
  ·rw[d7,ov,aqL,g];rfl
  ·cases o0 with
   |none=>exact⟨d8,by rw[d9,<-r2]⟩
   |some h=>
    obtain⟨f,B,R⟩:=Nq h W;refine⟨?_,d9⟩;rw[d7,d8];show Sm.mo (ej a) h.to=_;rw[B,R]
  ·cases o1 with
   |none=>exact⟨by rw[Y,M],Z⟩
   |some h=>
    obtain⟨f,B,R⟩:=Nf h W;refine⟨?_,Z⟩;rw[d7,Y];show Sm.mo (ej a) h.to=_;rw[B,R]
 |reset e G=>
  obtain⟨k,z,g,i,S⟩:=o;refine .reset W ?_ (nY (.mk e0 G [] [])) (d6 (.inr (.inr W)) _ W) M ?_
  ·rw[y,w,K,r];exact uf X l (EA g (.inr (.inr W)) z i) (λf g i=>N f g i)
  ·rw[Yq,w];rfl
end
section
variable{P:Sm.Pg}{T:dS}{F:List (Option Int)}{A:Env}{d:Nd}{u:US}{My:Nat->US->List Int->List Int->US->Prop}{az:Nat->US}{an:List Sm.It}{step:US->List Int->List Int->US->Prop}
theorem yP{J:Path}{b:aW}{s:Nat}{rs:Rs}(c:dh T F A d u J=some (b,s,rs)){k:Nat}{v:Va}(a:(pc T F A d u J)[k]?=some v):iQ T F A d u J v.name:=by
 rw[kQ c]at a;cases J with
 |nil=>
  obtain⟨rfl,_⟩:=qp c;unfold iQ;exact⟨v,aqk a,rfl⟩
 |cons e J=>
  rw[aqo (by simp)]at a;unfold iQ;exact .inr ⟨b,s,rs,c,v,aqk a,rfl⟩
theorem IQ(X:bD P T F A d u My az){ρ:Path}{x:Nm}(G:iQ T F A d u ρ x){y:Option (Path×Nat)} : ∀{τ:Path} {b:aW} {s:Nat} {rs:Rs},dh T F A d u (τ++ρ)=some (b,s,rs)-> ∀{j:Nat} {q:ay},(cJ b)[j]?=some q->x∈dQ q->Sm.Src (aD T F A d u My az an) (iw A x) (τ++ρ) j x y->
  ∃l z B C q0,dh T F A d u ρ=some (l,z,B)/\(cJ l)[C]?=some q0/\x∈dQ q0/\Sm.Src (aD T F A d u My az an) (iw A x) ρ C x y:=by
 intro τ
 induction τ with
 |nil=>intro b s rs m j q a c n;exact⟨b,s,rs,j,q,m,a,c,n⟩
 |cons w τ H=>
  intro b s rs m j q a c n;have f:dh T F A d u (w::(τ++ρ))=some (b,s,rs):=m;obtain⟨l,z,B,q0,Y,g,o,p,I,h,J,K⟩:=j7 f;have i:=(ark J).1;have r:=yH h;have t:=mx.2 ⟨⟨q,i▸aqk a,c⟩,λv L e=>yM X f v (i▸L) (by rw[e];exact BJ X G τ)⟩;have D:x∈dQ q0:=by
   rw[dT];cases q0 with
   |df E e=>simp[de]at r
   |call E U V g b ac e=>simp[de]at r
   |sw e M=>exact⟨g,aqk h,t⟩
   |aL M=>exact⟨g,aqk h,t⟩
   |reset e b=>exact⟨g,aqk h,t⟩
  refine H o p D (.bN (kS o p) (by rw[ez];exact r) ?_ (kS f a) c (λN O Z Q R=> ?_) n)
  ·rw[AA K];exact Ez X o p I D
  ·obtain⟨b1,s1,QW,q1,p1,k,S,f3,rfl,f5,f6⟩:=jP (show(eB T F A d u (w::(τ++ρ))).au[N]?=some O from Q);rw[f]at k;injection k with k
   have i:=(ark k).1;subst i;have:=tt X f S a R c;omega
theorem JU(X:bD P T F A d u My az){J:Path}{b:aW}{s:Nat}{rs:Rs}(c:dh T F A d u J=some (b,s,rs)){j:Nat}{q:ay}{x:Nm}(f:(cJ b)[j]?=some q)(g:x∈dQ q){k:Nat}{v:Va}{ρ:Path}(hf:C8 T F A d u (aD T F A d u My az an) J x ρ k v):ρ= []->d.ins.length<=k:=by
 intro e;subst e;rcases aqh k d.ins.length with a|a
 ·exfalso;obtain⟨τ,e⟩:=hf.s;obtain⟨t,w,G,m⟩:=yJ X c ⟨τ,e⟩;have h:=yP m hf.vv;rw[hf.n]at h;obtain⟨y,n,_⟩:=FF X (an:=an) c f g;obtain⟨z,B,C,D,o,i,p,r,E⟩:=IQ X (τ:=τ) h (by rw[<-e];exact c) f g (by rw[<-e];exact n);obtain⟨rfl,_⟩:=qp i;have l:=hf.vv;rw[kQ i,aqy W,aqD,aqf a]at l;exact X.ni v (aqk l) o (aqk p) (by rw[hf.n];exact r)
 ·exact a
theorem wS(X:bD P T F A d u My az){J:Path}{b:aW}{s:Nat}{rs:Rs}(c:dh T F A d u J=some (b,s,rs)){j:Nat}{q:ay}{x:Nm}(f:(cJ b)[j]?=some q)(m:de q=1\/de q=2)(g:x∈dQ q):
  ∃ρ k v,C8 T F A d u (aD T F A d u My az an) J x ρ k v/\ ∃h,Sm.jB (Sm.aH.fr (aD T F A d u My az an) ρ) k (dW v) h/\(Sm.aH.fr (aD T F A d u My az an) ρ).vars[k]?=some (dW v)/\Sm.Src (aD T F A d u My az an) (Sm.aH.sb (aD T F A d u My az an) ρ k) ρ h x (some (J,j))/\(ρ= []->d.ins.length<=k):=by
 obtain⟨y,i⟩:=mB (s:=s) f;obtain⟨ρ,k,v,a⟩:=C9 X (an:=an) c (wR X c f g);refine⟨ρ,k,v,a,?_⟩;obtain⟨τ,e⟩:=a.s;obtain⟨z,B,H,n⟩:=yJ X c ⟨τ,e⟩;have l:=yP n a.vv;rw[a.n]at l;have o:Sm.Src (aD T F A d u My az an) (iw A x) J j x (some (J,j)):= .leaf (kS c f) (by rw[ez];exact m) (by rw[AA (u7 c f i)];exact Ez X c f i g);obtain⟨C,D,E,h,G,p,r,t,w⟩:=IQ X (τ:=τ) l (by rw[<-e];exact c) f g (by rw[<-e];exact o);refine⟨h,Ks X p a.vv r (by rw[a.n];exact t),?_,?_,JU X c f g a⟩
 ·show(eB T F A d u ρ).vars[k]?=_;rw[ng,aqL,a.vv];rfl
 ·rw[a.get.2.2.2];exact w
theorem Ll(X:bD P T F A d u My az){J:Path}{b:aW}{s:Nat}{rs:Rs}(c:dh T F A d u J=some (b,s,rs)){k:Nat}{v:Va}(m:(pc T F A d u J)[k]?=some v){M:Option Nat}(Ng:(Sm.aH.fr (aD T F A d u My az an) J).db[k]?=some M)(hi:J= []->d.ins.length<=k):Sm.HN P (aD T F A d u My az an) J k (dW v) M:=by
 have q:=IL (an:=an) X c m;have ac:=oz X (an:=an) c m;obtain⟨g1,N,O,B⟩:=ac.get;obtain⟨K,sb,f7,r,h2,t⟩:=q.d hi;obtain⟨Q,R,S⟩:=lf r;refine⟨?_,?_,?_,λn w=> ?_⟩
 ·rw[B,Q,O,S,X.en];show Sm.Bi cI (aD T F A d u My az an) J sb (El v.clock) K.isSome;cases U:v.clock with
  |none=>
   rw[U]at t;rw[t];exact .nil
  |some o=>
   obtain⟨kk,g⟩:=o;rw[U]at t;obtain⟨c1,c2,C,V⟩:=t;obtain⟨z,o,f8,j⟩:=C9 X (an:=an) c c1;obtain⟨y1,y2,Y,y4⟩:=j.get;have Z:Sm.aH.dD cI (aD T F A d u My az an) (z,o)= [bZ,bu,cQ]:=yK j.vv (by rw[<-(j.fx X c).ty,j.n];exact c2);have TO:Sm.aH.mV (aD T F A d u My az an) (z,o)<sb:=by rw[y2];exact C.ix
   cases ho:K.isSome with
   |false=>
    refine .no j.f TO (λn w=> ?_);have x:=w;rw[Y,C.vv]at x;injection x with x
    rw[Z,<-x];intro e;have:=V.2 e;rw[ho]at this;cases this
   |true=>
    refine .Co j.f TO (n:=val A g) (by show Sm.aH.val (aD T F A d u My az an) z o=_;rw[Y,C.vv]) (by rw[Z];exact V.1 ho) .nil
 ·rw[B,Q];have:Sm.aH.rk (aD T F A d u My az an) J k=zx A v.name:=N;rw[this,R];exact h2
 ·have:Sm.aH.rk (aD T F A d u My az an) J k=zx A v.name:=N;rw[this,R];have:=ta r;show _<A.length+1;omega
 ·obtain⟨d6,f9,D,Tq⟩:=LY X c m hi;obtain⟨gc,NU⟩:=mB (s:=s) D;obtain⟨s',hs,co⟩:=FF X (an:=an) c D Tq;refine⟨d6,s',Ks X c m D Tq,by rw[B];exact hs,?_⟩;rw[O,S]at w;subst w;cases s' with
  |none=>
   obtain⟨l1,i',l⟩:=co;have hl:v.last=true:=by rw[<-q.ls];exact l1
   have y:=(q.lp hl).1;rw[Ng]at y;injection y with y
   refine⟨T.lp v.name,y,(Sm.j4 X.sp X.wf X.k_ (gD c) (q.lp hl).1).2,?_⟩;rw[r]at l;injection l with l
   injection l with l _
   injection l
  |some g=>
   obtain⟨ML,j'⟩:=g;obtain⟨⟨τ,e⟩,b',ge,Pc,E,p',h,p,G,k4,k5⟩:=co;refine⟨?_,di E,kS h p,λa=> ?_,λa=> ?_⟩
   ·subst e;exact(IK X (an:=an) (yP c m) h).trans ac.f
   ·have OC:=Kq (My:=My) (az:=az) (an:=an) (u7 h p G);cases E with
    |df g i=>
     have hy:=dT.1 k5;subst hy;refine⟨rfl,?_⟩;rw[OC];obtain⟨d7,H,_⟩:=fm X.hL X.hU X.hS h;obtain⟨⟨_,⟨i',f,_⟩|⟨i',f⟩⟩,_⟩:=(oa H).2.2.1 j' _ p' p G
     ·rw[r]at f;injection f with f
      injection f with f _
      injection f
     ·grind
    |call g L d8 d9 b f4 i=>rw[ez]at a;simp[de]at a
    |sw i I=>rw[ez]at a;simp[de]at a
    |aL I=>rw[ez]at a;simp[de]at a
    |reset i b'=>rw[ez]at a;simp[de]at a
   ·cases E with
    |df g i=>rw[ez]at a;simp[de]at a
    |call g L d8 d9 b f4 i=>
     have ZD:=dT.1 k5;refine⟨by show v.name∈ [g,L];simpa using ZD,?_⟩;obtain⟨d7,H,_⟩:=fm X.hL X.hU X.hS h;obtain⟨⟨m0,_,_,jj,ii,ox,oy,u',_,f,m2,_⟩,_⟩:=(oa H).2.2.1 j' _ p' p G;refine(yN X h (wR X h p (dT.2 (.inl W))) W (.inr W)).2 ?_;rw[(lf f).2.2];rfl
    |sw i I=>rw[ez]at a;simp[de]at a
    |aL I=>rw[ez]at a;simp[de]at a
    |reset i b'=>rw[ez]at a;simp[de]at a
end
theorem nj: ∀{l:List Sm.Va} {a i d k:Nat},(Sm.cm l a)[i]?=some (some k)->(Sm.cm l a)[d]?=some (some k)->i=d
 | [],a,i,d,k,b,_=>by simp[Sm.cm]at b
 |v::l,a,i,d,k,b,c=>by
  unfold Sm.cm at b c;split at b
  ·rename_i e;rw[aqy e]at c;cases i with
   |zero=>
    simp at b;cases d with
    |zero=>rfl
    |succ d=>simp at c;have:=Sm.fq c;omega
   |succ i=>
    simp at b;cases d with
    |zero=>simp at c;have:=Sm.fq b;omega
    |succ d=>simp at c;rw[nj b c]
  ·rename_i e;rw[aqo e]at c;cases i with
   |zero=>simp at b
   |succ i=>
    simp at b;cases d with
    |zero=>simp at c
    |succ d=>simp at c;rw[nj b c]
section
variable{T:dS}{A:Env}{rd:Nat->Int}
theorem ft: ∀{e:E} {p k:Nat} {v:Int},(k,v)∈dH T A rd e p->p<=k/\k<p+xE e:=by
 have t: ∀i a,xE (.un i a)=xE a:= λi a=>by simp[xE,cg,Sm.xP,Sm.fQ,Sm.dE]
 have u: ∀i a b,xE (.bin i a b)=xE a+xE b:= λi a b=>by simp[xE,cg,Sm.xP,Sm.fQ,Sm.dE]
 have w: ∀c a b,xE (.ite c a b)=xE c+xE a+xE b:= λc a b=>by simp[xE,cg,Sm.xP,Sm.fQ,Sm.dE];omega
 have x: ∀c f,xE (.fA c f)=1+xE c+xE f:= λc f=>by simp[xE,cg,Sm.xP,Sm.fQ,Sm.dE];omega
 have y: ∀f,xE (.pre f)=1+xE f:= λf=>by simp[xE,cg,Sm.xP,Sm.fQ,Sm.dE]
 have z: ∀a b,xE (.arrow a b)=1+xE a+xE b:= λa b=>by simp[xE,cg,Sm.xP,Sm.fQ,Sm.dE];omega
 have B: ∀h c a,xE (.e_ h c a)=xE a:= λh c a=>by simp[xE,cg,Sm.xP,Sm.fQ,Sm.dE]
 have C: ∀h l m n a b c,xE (.merge h l m n a b c)=xE a+xE b+xE c:= λh l m n a b c=>by simp[xE,cg,Sm.xP,Sm.fQ,Sm.dE];omega
 intro e
 induction e with
 |nil=>intro p k v d;cases d
 |int j=>intro p k v d;cases d
 |bool j=>intro p k v d;cases d
 |ctor j=>intro p k v d;cases d
 |var j=>intro p k v d;cases d
 |last j=>intro p k v d;cases d
 |un i a o=>intro p k v d;have:=o d;rw[t];exact this
 |bin i a b q r=>
  intro p k v d;rw[u];rcases aql.1 d with g|g
  ·grind
  ·grind
 |ite c a b s q r=>
  intro p k v d;rw[w];rcases aql.1 d with g|g
  ·grind
  ·grind
 |fA c f s D=>
  intro p k v d;rw[x];rcases aqs.1 d with g|g
  ·grind
  ·grind
 |pre f D=>
  intro p k v d;rw[y];rcases aqs.1 d with g|g
  ·grind
  ·grind
 |arrow a b q r=>
  intro p k v d;rw[z];rcases aqs.1 d with g|g
  ·grind
  ·grind
 |e_ h c a o=>intro p k v d;have:=o d;rw[B];exact this
 |merge h l m n a b c q r s=>
  intro p k v d;rw[C];simp only[dH]at d;split at d
  ·grind
  ·grind
theorem vf: ∀{e:E} {p k:Nat} {v h:Int},(k,v)∈dH T A rd e p->(k,h)∈dH T A rd e p->v=h:=by
 intro e
 induction e with
 |nil=>intro p k v h a;cases a
 |int m=>intro p k v h a;cases a
 |bool m=>intro p k v h a;cases a
 |ctor m=>intro p k v h a;cases a
 |var m=>intro p k v h a;cases a
 |last m=>intro p k v h a;cases a
 |un u l q=>intro p k v h a g;exact q a g
 |bin u l b n o=>
  intro p k v h a g;rcases aql.1 a with d|d<;>rcases aql.1 g with f|f
  ·grind
  ·have:=ft d;have:=ft f;omega
  ·have:=ft d;have:=ft f;omega
  ·grind
 |ite c l b r n o=>
  intro p k v h a g;simp only[dH,aql]at a g;rcases a with(d|d)|d<;>rcases g with(f|f)|f<;>first
   |exact r d f
   |exact n d f
   |exact o d f
   |(have:=ft d;have:=ft f;omega)
 |fA c s r w=>
  intro p k v h a g;rcases aqs.1 a with d|d<;>rcases aqs.1 g with f|f
  ·grind
  ·injection d with i j;have:=ft f;omega
  ·injection f with i j;have:=ft d;omega
  ·grind
 |pre s w=>
  intro p k v h a g;rcases aqs.1 a with d|d<;>rcases aqs.1 g with f|f
  ·grind
  ·injection d with i j;have:=ft f;omega
  ·injection f with i j;have:=ft d;omega
  ·grind
 |arrow l b n o=>
  intro p k v h a g;simp only[dH,aqs,aql]at a g;rcases a with d|d|d<;>rcases g with f|f|f
  ·grind
  ·injection d with i j;have:=ft f;omega
  ·injection d with i j;have:=ft f;omega
  ·injection f with i j;have:=ft d;omega
  ·grind
  ·have:=ft d;have:=ft f;omega
  ·injection f with i j;have:=ft d;omega
  ·have:=ft d;have:=ft f;omega
  ·grind
 |e_ t c l q=>intro p k v h a g;exact q a g
 |merge t x y z l b c n o r=>
  intro p k v h a g;simp only[dH]at a g;split at a
  ·grind
  ·grind
theorem wT{rs:Rs}{p:Nat}{q:ay}{k:Nat}{v:Int}(h:(k,v)∈tc T A rs p q):p<=k/\k<p+wQ q:=by
 cases q with
 |df c e=>exact ft h
 |call c g i j b f e=>
  simp only[tc,aqC]at h;simp only[wQ];rcases aql.1 h with a|a
  ·cases f with
   |false=>cases a
   |true=>have:=ft a;omega
  ·rcases aql.1 a with a|a
   ·have:=ft a;omega
   ·have:=ft a;omega
 |sw e d=>exact ft h
 |aL d=>cases h
 |reset e b=>exact ft h
theorem IR{rs:Rs}{p:Nat}{q:ay}{k:Nat}{v f:Int}(h:(k,v)∈tc T A rs p q)(c:(k,f)∈tc T A rs p q):v=f:=by
 cases q with
 |df g e=>exact vf h c
 |call g l m n b j e=>
  simp only[tc,aqC,aql]at h c;cases j with
  |false=>
   simp only[are,arK,aqx,false_or]at h c;rcases h with a|a<;>rcases c with d|d<;>first
    |exact vf a d
    |(have:=ft a;have:=ft d;omega)
  |true=>
   simp only[arR]at h c;rcases h with a|a|a<;>rcases c with d|d|d<;>first
    |exact vf a d
    |(have:=ft a;have:=ft d;omega)
 |sw e i=>exact vf h c
 |aL i=>cases h
 |reset e b=>exact vf h c
end
section
variable{P:Sm.Pg}{T:dS}{F:List (Option Int)}{A:Env}{d:Nd}{u:US}{My:Nat->US->List Int->List Int->US->Prop}{az:Nat->US}{an:List Sm.It}{step:US->List Int->List Int->US->Prop}
theorem last_pos(X:bD P T F A d u My az){J:Path}{b:Sm.aW}{s:Nat}(c:Sm.Eh (aD T F A d u My az an) (cG d) J b s){i k:Nat}(a:(Sm.aH.fr (aD T F A d u My az an) J).db[i]?=some (some k)):(s<=k/\k<s+Sm.aR b.vars)\/s+Sm.bP b<=k:=by
 by_cases e:J= []
 ·obtain⟨f,g⟩:=c.t e;subst e;rw[(X.k_ (an:=an)).vx]at a;simp only[Sm.tq]at a;have h:(List.replicate (cG d).ins.length (none:Option Nat)).length=(cG d).ins.length:=by simp
  rcases aqh i (cG d).ins.length with j|j
  ·grind
  ·rcases aqh i ((cG d).ins.length+(cG d).outs.length)with l|l
   ·rw[aqD,aqm (by grind),h,aqf (by rw[Sm.ey];omega)]at a;have:=Sm.fq a;rw[f,g];exact .inr (by omega)
   ·rw[aqm (by simp[Sm.ey];omega)]at a;have:=Sm.fq a;rw[f,g];exact .inl (by omega)
 ·rw[c.f e]at a;have:=Sm.fq a;exact .inl (by omega)
theorem Hf(X:bD P T F A d u My az){J:Path}{b:Sm.aW}{s:Nat}(g:Sm.Eh (aD T F A d u My az an) (cG d) J b s){i j k:Nat}(h:(Sm.aH.fr (aD T F A d u My az an) J).db[i]?=some (some k))(a:(Sm.aH.fr (aD T F A d u My az an) J).db[j]?=some (some k)):i=j:=by
 by_cases e:J= []
 ·obtain⟨q,r⟩:=g.t e;subst e;rw[(X.k_ (an:=an)).vx]at h a;simp only[Sm.tq]at h a;have t:(Sm.cm (cG d).outs (Sm.bP (cG d).b)).length=(cG d).outs.length:=Sm.ey _ _;have v:=Sm.vu (cG d).b;have n: ∀{i:Nat},(List.replicate (cG d).ins.length none++Sm.cm (cG d).outs (Sm.bP (cG d).b)++Sm.cm (cG d).b.vars 0)[i]?=some (some k)->
    ((cG d).ins.length<=i/\i<(cG d).ins.length+(cG d).outs.length/\(Sm.cm (cG d).outs (Sm.bP (cG d).b))[i-(cG d).ins.length]?=some (some k))\/((cG d).ins.length+(cG d).outs.length<=i/\(Sm.cm (cG d).b.vars 0)[i-((cG d).ins.length+(cG d).outs.length)]?=some (some k)):=by
   grind
  rcases n h with⟨o,c,l⟩|⟨o,c⟩<;>rcases n a with⟨p,f,m⟩|⟨p,f⟩
  ·have:=nj l m;omega
  ·have:=Sm.fq l;have:=Sm.fq f;omega
  ·have:=Sm.fq c;have:=Sm.fq m;omega
  ·have:=nj c f;omega
 ·rw[g.f e]at h a;exact nj h a
theorem pC(X:bD P T F A d u My az){J:Path}{b:aW}{s:Nat}{rs:Rs}(a:dh T F A d u J=some (b,s,rs)){j:Nat}{q:ay}{p:Nat}(o:(cJ b)[j]?=some q)(h:(jE b s)[j]?=some p){k:Nat}(v:p<=k)(w:k<p+wQ q):Sm.lx (aD T F A d u My az an) (cG d) J k/\(∀{b':Sm.aW} {c:Nat},Sm.Eh (aD T F A d u My az an) (cG d) J b' c->c+Sm.aR b'.vars<=k/\k<c+Sm.bP b')/\
  ∀{e:Nat} {i:ay} {l:Nat},(cJ b)[e]?=some i->(jE b s)[e]?=some l->l<=k->k<l+wQ i->e=j:=by
 have f: ∀{j p:Nat},(jE b s)[j]?=some p->(Sm.aH.fr (aD T F A d u My az an) J).pos[j]?=some p:= λ{j p} n=>by show(eB T F A d u J).pos[j]?=some p;rw[(pB a).2];exact n
 have r: ∀q,wQ q<=Sm.qP (di q):= λq=>by
  have:=Sm.jt (di q);have n:=EB q;rw[<-ez]at n;omega
 have y:=r q;refine⟨IN X a o h v (by rw[EB];exact w),λ{b' c} m=> ?_,λ{e i l} x t z B=> ?_⟩
 ·have:=Sm.q_ m (kS a o) (f h);omega
 ·obtain⟨b',c,m⟩:=Sm.shape X.sp X.wf X.k_ J (gD a);have C:=r i;rcases arx j e with g|g|g
  ·have:=Sm.mI m (kS a o) (f h) (f t) g;omega
  ·exact g.symm
  ·have:=Sm.mI m (kS a x) (f t) (f h) g;omega
inductive Wr(T:dS)(F:List (Option Int))(A:Env)(d:Nd)(u:US)(c:Sm.aH)(k:Nat)(v:Int):Prop where
 |ew (J:Path) (j:Nat) (b:aW) (s:Nat) (rs:Rs) (q:ay) (p:Nat) (hp:dh T F A d u J=some (b,s,rs)) (hj:(cJ b)[j]?=some q) (NU:(jE b s)[j]?=some p) (ht:c.nu J (di q)) (hm:(k,v)∈tc T A rs p q)
 |last (J:Path) (i:Nat) (b:aW) (s:Nat) (rs:Rs) (hp:dh T F A d u J=some (b,s,rs)) (hl:(c.fr J).db[i]?=some (some k)) (hv:c.val J i=some v)
 |aL (J:Path) (j:Nat) (b:aW) (s:Nat) (rs:Rs) (ah:List aY) (hp:dh T F A d u J=some (b,s,rs)) (hj:(cJ b)[j]?=some (.aL ah)) (NU:(jE b s)[j]?=some k) (hv:v=(C6 T F A rs k (.aL ah):Nat))
theorem yQ{k:Nat}{v:Int}(h:Sm.nU (aD T F A d u My az an) k v):Wr T F A d u (aD T F A d u My az an) k v:=by
 rcases h with⟨c,f,o,p,i,a,l⟩|⟨c,z,p,i,a⟩|⟨c,f,o,p,i,a,l,C⟩
 ·obtain⟨b,g,j,m,n,q,r,s,rfl,w,t⟩:=jP (show(eB T F A d u c).au[f]?=some o from i);rw[FE t]at l;exact .ew c f b g j m n q r s a l
 ·obtain⟨b,g,j,D⟩:=u9 p;exact .last c z b g j D i a
 ·obtain⟨b,g,j,m,n,q,r,s,rfl,w,t⟩:=jP (show(eB T F A d u c).au[f]?=some o from i);have:n=k:=by
   have x:(eB T F A d u c).pos[f]?=some k:=l;rw[w]at x;injection x
  subst this;rw[ez]at a;cases m with
  |df B e=>simp[de]at a
  |call B E G H b I e=>simp[de]at a
  |sw e y=>simp[de]at a
  |aL y=>exact .aL c f b g j y q r s (by rw[C,(yO t).2.2.1])
  |reset e b=>simp[de]at a
theorem JV(X:bD P T F A d u My az){k:Nat}{v S:Int}(h:Sm.nU (aD T F A d u My az an) k v)(M:Sm.nU (aD T F A d u My az an) k S):v=S:=by
 have p:Sm.sy P (aD T F A d u My az an) (cG d):=X.k_;have n: ∀{o i:Path} {K L:aW×Nat×Rs},dh T F A d u o=some K->dh T F A d u i=some L->Sm.lx (aD T F A d u My az an) (cG d) o k->Sm.lx (aD T F A d u My az an) (cG d) i k->i=o/\L=K:= λ{o i K L} U D h3 h4=>by
  have e:=h3.same X.sp X.wf p (gD U) (gD D) h4;subst e;rw[U]at D;injection D with D
  exact⟨rfl,D.symm⟩
 cases yQ h with
 |ew o ac b R V d6 d7 j w J ht N=>
  obtain⟨i1,i2⟩:=wT N;obtain⟨l,O,E⟩:=pC X (an:=an) j w J i1 i2;cases yQ M with
  |ew i G q r s Y Z c a f V9 x=>
   obtain⟨y,z⟩:=wT x;obtain⟨g,_⟩:=pC X (an:=an) c a f y z;obtain⟨rfl,e⟩:=n j c l g;cases e;have:=E a f y z;subst this;rw[w]at a;injection a with a;subst a
   rw[J]at f;injection f with f;subst f
   exact IR N x
  |last i co q r s c B H=>
   obtain⟨g,_⟩:=Sm.j4 X.sp X.wf p (gD c) B;obtain⟨rfl,e⟩:=n j c l g;obtain⟨bS,sS,m⟩:=Sm.shape X.sp X.wf p i (gD c);have:=O m;rcases last_pos X m B with t|t<;>omega
  |aL i G q r s ah c a f H=>
   obtain⟨g,_⟩:=pC X (an:=an) c a f (aqd k) (by show k<k+1;omega);obtain⟨rfl,e⟩:=n j c l g;cases e;have:=E a f (aqd k) (by show k<k+1;omega);subst this;rw[w]at a;injection a with a;subst a
   cases N
 |last o co b R V j B H=>
  obtain⟨l,_⟩:=Sm.j4 X.sp X.wf p (gD j) B;obtain⟨bS,sS,m⟩:=Sm.shape X.sp X.wf p o (gD j);cases yQ M with
  |ew i G q r s Y Z c a f V9 x=>
   obtain⟨y,z⟩:=wT x;obtain⟨g,Q,_⟩:=pC X (an:=an) c a f y z;obtain⟨rfl,e⟩:=n j c l g;have:=Q m;rcases last_pos X m B with t|t<;>omega
  |last i i' q r s c I C=>
   obtain⟨g,_⟩:=Sm.j4 X.sp X.wf p (gD c) I;obtain⟨rfl,e⟩:=n j c l g;have:=Hf X m B I;subst this;rw[H]at C;injection C
  |aL i G q r s ah c a f C=>
   obtain⟨g,Q,_⟩:=pC X (an:=an) c a f (aqd k) (by show k<k+1;omega);obtain⟨rfl,e⟩:=n j c l g;have:=Q m;rcases last_pos X m B with t|t<;>omega
 |aL o ac b R V ah j w J H=>
  obtain⟨l,O,E⟩:=pC X (an:=an) j w J (aqd k) (by show k<k+1;omega);cases yQ M with
  |ew i G q r s Y Z c a f V9 x=>
   obtain⟨y,z⟩:=wT x;obtain⟨g,_⟩:=pC X (an:=an) c a f y z;obtain⟨rfl,e⟩:=n j c l g;cases e;have:=E a f y z;subst this;rw[w]at a;injection a with a;subst a
   cases x
  |last i i' q r s c I C=>
   obtain⟨g,_⟩:=Sm.j4 X.sp X.wf p (gD c) I;obtain⟨rfl,e⟩:=n j c l g;obtain⟨bS,sS,m⟩:=Sm.shape X.sp X.wf p i (gD c);have:=O m;rcases last_pos X m I with t|t<;>omega
  |aL i G q r s d8 c a f C=>
   obtain⟨g,_⟩:=pC X (an:=an) c a f (aqd k) (by show k<k+1;omega);obtain⟨rfl,e⟩:=n j c l g;cases e;have:=E a f (aqd k) (by show k<k+1;omega);subst this;rw[w]at a;injection a with a;injection a with a;subst a
   rw[H,C]
theorem FH(X:bD P T F A d u My az){J c:Path}{j h k:Nat}{q f:Sm.ay}(o:Sm.aH.ok (aD T F A d u My az an) J)(p:(Sm.aH.fr (aD T F A d u My az an) J).au[j]?=some q)(t:q.kd=2\/q.kd=4)(l:(Sm.aH.fr (aD T F A d u My az an) J).pos[j]?=some k)(m:Sm.aH.ok (aD T F A d u My az an) c)(r:(Sm.aH.fr (aD T F A d u My az an) c).au[h]?=some f)(v:f.kd=2\/f.kd=4)(n:(Sm.aH.fr (aD T F A d u My az an) c).pos[h]?=some k):c=J/\h=j:=by
 have i:Sm.sy P (aD T F A d u My az an) (cG d):=X.k_;have x:Sm.ij q.kd=1:=by rcases t with a|a<;>rw[a]<;>rfl
 have y:Sm.ij f.kd=1:=by rcases v with a|a<;>rw[a]<;>rfl
 have e:=(Sm.pz X.sp X.wf i o p l (aqd k) (by omega)).same X.sp X.wf i o m (Sm.pz X.sp X.wf i m r n (aqd k) (by omega));subst e;obtain⟨b,w,s⟩:=Sm.shape X.sp X.wf i c m;have z:=Sm.jt q;have B:=Sm.jt f;refine⟨rfl,?_⟩;rcases arx j h with g|g|g
 ·have:=Sm.mI s p l n g;omega
 ·exact g.symm
 ·have:=Sm.mI s r n l g;omega
theorem JW(X:bD P T F A d u My az){k:Nat}{v a:Bool}(h:Sm.zl (aD T F A d u My az an) k v)(b:Sm.zl (aD T F A d u My az an) k a):v=a:=by
 obtain⟨p,q,r,c,e,f,g,i⟩:=h;obtain⟨s,t,w,j,l,m,n,o⟩:=b;obtain⟨rfl,rfl⟩:=FH X c e (.inr f) g j l (.inr m) n;rw[i,o]
theorem JX(X:bD P T F A d u My az){k:Nat}{v a:US}(h:Sm.xV (aD T F A d u My az an) k v)(b:Sm.xV (aD T F A d u My az an) k a):v=a:=by
 obtain⟨p,q,r,c,e,f,s,g,i⟩:=h;obtain⟨t,w,x,j,l,m,y,n,o⟩:=b;obtain⟨rfl,rfl⟩:=FH X c e (.inl f) g j l (.inl m) n;rw[i,o]
open Classical in
noncomputable def rC(c:Sm.aH)(i:Nat):US:= .mk i (λk=>if h: ∃v,Sm.nU c k v then Classical.choose h else c.rd k) (λk=>if h: ∃v,Sm.zl c k v then Classical.choose h else c.rp k) (λk=>if h: ∃v,Sm.xV c k v then some (Classical.choose h)else c.rs k)
open Classical in
theorem IS(X:bD P T F A d u My az)(i k:Nat):(∀v,Sm.nU (aD T F A d u My az an) k v->(rC (aD T F A d u My az an) i).mem k=v)/\((∀v,¬Sm.nU (aD T F A d u My az an) k v)->(rC (aD T F A d u My az an) i).mem k=Sm.aH.rd (aD T F A d u My az an) k):=by
 refine⟨λv b=> ?_,λc=> ?_⟩
 ·have a: ∃v,Sm.nU (aD T F A d u My az an) k v:=⟨v,b⟩;show(if a: ∃v,Sm.nU (aD T F A d u My az an) k v then Classical.choose a else Sm.aH.rd (aD T F A d u My az an) k)=v;rw[asV a];exact JV X (arN a) b
 ·show(if a: ∃v,Sm.nU (aD T F A d u My az an) k v then Classical.choose a else Sm.aH.rd (aD T F A d u My az an) k)=_;rw[as3 (λ⟨v,b⟩=>c v b)]
open Classical in
theorem Lm(X:bD P T F A d u My az)(i k:Nat):(∀v,Sm.zl (aD T F A d u My az an) k v->(rC (aD T F A d u My az an) i).cu k=v)/\((∀v,¬Sm.zl (aD T F A d u My az an) k v)->(rC (aD T F A d u My az an) i).cu k=Sm.aH.rp (aD T F A d u My az an) k):=by
 refine⟨λv b=> ?_,λc=> ?_⟩
 ·have a: ∃v,Sm.zl (aD T F A d u My az an) k v:=⟨v,b⟩;show(if a: ∃v,Sm.zl (aD T F A d u My az an) k v then Classical.choose a else Sm.aH.rp (aD T F A d u My az an) k)=v;rw[asV a];exact JW X (arN a) b
 ·show(if a: ∃v,Sm.zl (aD T F A d u My az an) k v then Classical.choose a else Sm.aH.rp (aD T F A d u My az an) k)=_;rw[as3 (λ⟨v,b⟩=>c v b)]
open Classical in
theorem IT(X:bD P T F A d u My az)(i k:Nat):(∀v,Sm.xV (aD T F A d u My az an) k v->(rC (aD T F A d u My az an) i).aj k=some v)/\((∀v,¬Sm.xV (aD T F A d u My az an) k v)->(rC (aD T F A d u My az an) i).aj k=Sm.aH.rs (aD T F A d u My az an) k):=by
 refine⟨λv b=> ?_,λc=> ?_⟩
 ·have a: ∃v,Sm.xV (aD T F A d u My az an) k v:=⟨v,b⟩;show(if a: ∃v,Sm.xV (aD T F A d u My az an) k v then some (Classical.choose a)else Sm.aH.rs (aD T F A d u My az an) k)=some v;rw[asV a,JX X (arN a) b]
 ·show(if a: ∃v,Sm.xV (aD T F A d u My az an) k v then some (Classical.choose a)else Sm.aH.rs (aD T F A d u My az an) k)=_;rw[as3 (λ⟨v,b⟩=>c v b)]
end
end Go.Ex
namespace Go.Ex
open Go.Mt Go.Mk
open Go.Sm (Path US It)
theorem C_: ∀e:E,Sm.je (cg e):=by
 have f: ∀{k h d s names p},k≠9->names.length<=1000000->Sm.je (.mk k h d s names [] p):= λm q=> .mk (λe=>absurd e m) (by simp) q (λe a=>by cases a)
 intro e
 induction e with
 |nil=>exact f (by decide) (by simp)
 |int d=>exact f (by decide) (by simp)
 |bool d=>exact f (by decide) (by simp)
 |ctor d=>exact f (by decide) (by simp)
 |var d=>exact f (by decide) (by simp)
 |last d=>exact f (by decide) (by simp)
 |un h g r=>exact .mk (by simp) (by simp) (by simp) (λe a=>by grind)
 |bin h g b i j=>exact .mk (by simp) (by simp) (by simp) (λe a=>by grind)
 |ite c g b l i j=>exact .mk (by simp) (by simp) (by simp) (λe a=>by grind)
 |fA c n l t=>exact .mk (by simp) (by simp) (by simp) (λe a=>by grind)
 |pre n t=>exact .mk (by simp) (by simp) (by simp) (λe a=>by grind)
 |arrow g b i j=>exact .mk (by simp) (by simp) (by simp) (λe a=>by grind)
 |e_ o c g r=>exact .mk (by simp) (by simp) (by simp) (λe a=>by grind)
 |merge o u v w g b c i j l=>exact .mk (by simp) (by simp) (by simp) (λe a=>by grind)
theorem Kt(d:Nat):1<=3^d:=Nat.one_le_pow _ _ (by decide)
def rG(n:Nat)(e:E):Prop:=xE e<=n/\ ∀T A rd p,(dH T A rd e p).length<=n
theorem yR{t:Ty}{e:E}(h:GC t e):rG 0 e:=by cases h<;>exact⟨aqd _,λ_ _ _ _=>aqd _⟩
theorem rG.mono{n m:Nat}{e:E}(h:rG n e)(a:n<=m):rG m e:=⟨aq1 h.1 a,λb c rd d=>aq1 (h.2 b c rd d) a⟩
theorem sO{s:Sc}{t:Ty}{st:Bool}{d:Nat}{e:E}(h:GE s t st d e):rG (3^d-1) e:=by
 induction h with
 |v h=>
  refine rG.mono (n:=0) ?_ (aqY _);cases h with
  |vw h=>exact yR h
  |var h=>obtain⟨v,_,_,_,rfl⟩:=h;exact⟨aqd _,λ_ _ _ _=>aqd _⟩
 |c h=>exact(yR h).mono (aqY _)
 | @ite s t st d c a b p l m q f k=>
  refine⟨?_,λg i rd j=> ?_⟩
  ·have e:xE (.ite c a b)=xE c+xE a+xE b:=by simp[xE,cg,Sm.xP,Sm.fQ,Sm.dE];omega
   rw[e,arA];have:=q.1;have:=f.1;have:=k.1;omega
  ·simp only[dH,aqg,arA];have:=q.2 g i rd j;have:=f.2 g i rd (j+xE c);have:=k.2 g i rd (j+xE c+xE a);omega
 | @fA s t d c a p l f=>
  have:=Kt d;refine⟨?_,λg i rd j=> ?_⟩
  ·have e:xE (.fA c a)=1+xE c+xE a:=by simp[xE,cg,Sm.xP,Sm.fQ,Sm.dE];omega
   rw[e,arA];have:=(yR p).1;have:=f.1;omega
  ·simp only[dH,aqw,arA];have:=f.2 g i rd (j+1+xE c);omega
 | @arrow s t d a b l m f k=>
  have:=Kt d;refine⟨?_,λg i rd j=> ?_⟩
  ·have e:xE (.arrow a (.pre b))=1+xE a+(1+xE b):=by simp[xE,cg,Sm.xP,Sm.fQ,Sm.dE];omega
   rw[e,arA];have:=f.1;have:=k.1;omega
  ·simp only[dH,aqw,aqg,arA];have:=f.2 g i rd (j+1);have:=k.2 g i rd (j+1+xE a+1);omega
 | @last s t st d u h=>obtain⟨v,_,_,_,rfl⟩:=h;exact rG.mono (n:=0) ⟨aqd _,λ_ _ _ _=>aqd _⟩ (aqY _)
 | @neg s st d a l f=>
  refine⟨?_,λg i rd j=> ?_⟩
  ·have e:xE (.un 2 a)=xE a:=by simp[xE,cg,Sm.xP,Sm.fQ,Sm.dE]
   rw[e,arA];have:=f.1;omega
  ·simp only[dH,arA];have:=f.2 g i rd j;omega
 | @arith s st d a b o r l m f k=>
  refine⟨?_,λg i rd j=> ?_⟩
  ·have e:xE (.bin o a b)=xE a+xE b:=by simp[xE,cg,Sm.xP,Sm.fQ,Sm.dE]
   rw[e,arA];have:=f.1;have:=k.1;omega
  ·simp only[dH,aqg,arA];have:=f.2 g i rd j;have:=k.2 g i rd (j+xE a);omega
 | @not s st d a l f=>
  refine⟨?_,λg i rd j=> ?_⟩
  ·have e:xE (.un 1 a)=xE a:=by simp[xE,cg,Sm.xP,Sm.fQ,Sm.dE]
   rw[e,arA];have:=f.1;omega
  ·simp only[dH,arA];have:=f.2 g i rd j;omega
 | @kz s st d a b o w r l m f k=>
  refine⟨?_,λg i rd j=> ?_⟩
  ·have e:xE (.bin o a b)=xE a+xE b:=by simp[xE,cg,Sm.xP,Sm.fQ,Sm.dE]
   rw[e,arA];have:=f.1;have:=k.1;omega
  ·simp only[dH,aqg,arA];have:=f.2 g i rd j;have:=k.2 g i rd (j+xE a);omega
def pS:ay->Prop
 | .df _ e=>rG 26 e
 | .call _ _ _ a b _ e=>rG 8 a/\rG 8 b/\rG 8 e
 | .sw e ah=>rG 8 e/\ah.length<=3/\ ∀a∈ah,jf a= []/\kg a= []
 | .aL ah=>ah.length<=3/\ ∀a∈ah,(jf a).length<=2/\(kg a).length<=2/\ ∀t:Tr,t∈jf a\/t∈kg a->xE t.e=0
 | .reset e _=>rG 8 e
inductive wE:aW->Prop where
 |mk {b:aW} (hq: ∀q∈cJ b,pS q) (hb: ∀q∈cJ b,∀a∈cq q,wE (dG a)):wE b
mutual
def kI(y:Nat)(Z:ay->Nat):ay->Nat
 | .df x e=>Z (.df x e)
 | .call x z f a b has e=>Z (.call x z f a b has e)
 | .sw e ah=>Z (.sw e ah)+kh y Z ah
 | .aL ah=>Z (.aL ah)+kh y Z ah
 | .reset e b=>Z (.reset e b)+mC y Z b
def kh(y:Nat)(Z:ay->Nat):List aY->Nat
 | []=>0
 | .mk _ b _ _::l=>mC y Z b+kh y Z l
def mC(y:Nat)(Z:ay->Nat):aW->Nat
 | .mk vars au=>y*vars.length+iV y Z au
def iV(y:Nat)(Z:ay->Nat):List ay->Nat
 | []=>0
 |q::l=>kI y Z q+iV y Z l
end
theorem AB(y:Nat)(Z:ay->Nat)(l r:List aY):kh y Z (l++r)=kh y Z l+kh y Z r:=by
 induction l with
 |nil=>simp[kh]
 |cons a l b=>cases a;simp only[arl,kh,b];omega
theorem AC(y:Nat)(Z:ay->Nat)(l r:List ay):iV y Z (l++r)=iV y Z l+iV y Z r:=by
 induction l with
 |nil=>simp[iV]
 |cons b l a=>simp only[arl,iV,a];omega
section
variable{Sub:Sc->List Va->Nat->Nat->aW->Prop}{cb y z:Nat}{Z:ay->Nat}
def C'(y z:Nat)(Z:ay->Nat)(Sub:Sc->List Va->Nat->Nat->aW->Prop)(cb:Nat):Prop:= ∀s (l:List Va) n1 n2 b,l.length<=3->Sub s l n1 n2 b->n1<=n2/\wE b/\mC y Z b+(z+y)*n1<=cb+(z+y)*n2
theorem AD(f:C' y z Z Sub cb){s:Sc}{outs:List Va}{names:List Nm}{n n':Nat}{ah:List aY}(h:mu Sub s outs names n ah n')(g:outs.length<=3):
  n<=n'/\(∀a∈ah,wE (dG a)/\jf a= []/\kg a= [])/\kh y Z ah+(z+y)*n<=ah.length*cb+(z+y)*n':=by
 induction h with
 |nil=>exact⟨aqd _,λa h=>(by cases h),by simp[kh]⟩
 | @snoc ah r t h c u q i v b j k=>
  obtain⟨w,l,x⟩:=k;obtain⟨A,m,B⟩:=f _ _ _ _ _ (aq1 i.len g) j;refine⟨by omega,λa o=> ?_,?_⟩
  ·rcases aql.1 o with d|d
   ·exact l a d
   ·rw[aqp]at d;subst d;exact⟨m,rfl,rfl⟩
  ·rw[AB];have p: ∀e:aY,(ah++ [e]).length*cb=ah.length*cb+cb:= λe=>by grind
   rw[p];simp only[kh,arV];omega
theorem IU(i:C' y z Z Sub cb){s:Sc}{outs:List Va}{N n n':Nat}{ah:List aY}(h:tu Sub s outs N n ah n')(j:outs.length<=3):
  n<=n'/\(∀a∈ah,wE (dG a)/\(jf a).length<=2/\(kg a).length<=2/\ ∀t:Tr,t∈jf a\/t∈kg a->xE t.e=0)/\kh y Z ah+(z+y)*n<=ah.length*cb+(z+y)*n':=by
 induction h with
 |nil=>exact⟨aqd _,λa h=>(by cases h),by simp[kh]⟩
 | @snoc ah v w h u k x A f b l B g m=>
  obtain⟨C,o,D⟩:=m;obtain⟨E,p,F⟩:=i _ _ _ _ _ (aq1 k.len j) l;refine⟨by omega,λa q=> ?_,?_⟩
  ·rcases aql.1 q with d|d
   ·exact o a d
   ·rw[aqp]at d;subst d;refine⟨p,f.1,g.1,λt c=> ?_⟩;rcases c with c|c
    ·exact(mM (T:=⟨λ_=> .int,λ_=>false,λ_=>0,λ_=> .any⟩) (f.2 t c).1 W).1
    ·exact(mM (T:=⟨λ_=> .int,λ_=>false,λ_=>0,λ_=> .any⟩) (g.2 t c).1 W).1
  ·rw[AB];have r: ∀e:aY,(ah++ [e]).length*cb=ah.length*cb+cb:= λe=>by grind
   rw[r];simp only[kh,arV];omega
structure Ln(y z:Nat)(Z:ay->Nat)(c n n':Nat)(q:List ay)(vs:List Va):Prop where
 le:n<=n'
 w: ∀e∈q,pS e/\ ∀a∈cq e,wE (dG a)
 m:iV y Z q+y*vs.length+(z+y)*n<=c+(z+y)*n'
theorem IV(k: ∀q,pS q->Z q<=z)(A:C' y z Z Sub cb){S:Nat}{s:Sc}{outs:List Va}{n n':Nat}{q:List ay}{m:List Va}(h:GQ Sub S s outs n n' q m)(p:outs.length<=3):Ln y z Z (3*cb+3*z) n n' q m:=by
 have w: ∀q,iV y Z [q]=kI y Z q:= λq=>by simp[iV]
 induction h with
 | @rz s outs n q h=>
  have ac: ∀{outs:List Va} {q:List ay},oX s outs q->(∀e∈q,pS e/\cq e= [])/\iV y Z q<=outs.length*z:=by
   intro outs q h
   induction h with
   |nil=>exact⟨λe f=>(by cases f),by simp[iV]⟩
   | @snoc I q h Q e f v=>
    obtain⟨H,B⟩:=v;have g:pS (.df Q.name e):=sO f;refine⟨λj d=> ?_,?_⟩
    ·rcases aql.1 d with x|x
     ·exact H j x
     ·rw[aqp]at x;subst x;exact⟨g,rfl⟩
    ·rw[AC,w,aqg,ar0];simp only[kI,aqH,Nat.one_mul];have:=k _ g;omega
  obtain⟨J,C⟩:=ac h;have k3:outs.length*z<=3*z:=aqW _ p;exact⟨aqd _,λe f=>⟨(J e f).1,λc a=>by rw[(J e f).2]at a;cases a⟩,by simp only[aqS,asE];omega⟩
 | @sD s outs n n' e t f a D=>
  obtain⟨r,i,E⟩:=AD A a p;have g:pS (.sw e t):=⟨sO f,by omega,λc a=>(i c a).2⟩;refine⟨r,λj d=> ?_,?_⟩
  ·rw[aqp]at d;subst d;exact⟨g,λc a=>(i c a).1⟩
  ·rw[w,D]at*;simp only[kI,aqS,asE];have:=k _ g;omega
 | @pA s outs n n' e t f a D=>
  obtain⟨r,i,E⟩:=AD A a p;have g:pS (.sw e t):=⟨sO f,by omega,λc a=>(i c a).2⟩;refine⟨r,λj d=> ?_,?_⟩
  ·rw[aqp]at d;subst d;exact⟨g,λc a=>(i c a).1⟩
  ·rw[w];rw[D]at E;simp only[kI,aqS,asE];have:=k _ g;omega
 | @aL s outs n n' t d6 hN a D=>
  obtain⟨r,i,E⟩:=IU A a p;have g:pS (.aL t):=⟨by omega,λc a=>(i c a).2⟩;have h4:t.length*cb<=3*cb:=aqW _ (by omega);refine⟨r,λj d=> ?_,?_⟩
  ·rw[aqp]at d;subst d;exact⟨g,λc a=>(i c a).1⟩
  ·rw[w];simp only[kI,aqS,asE];have:=k _ g;omega
 | @reset s outs n n' e b f u=>
  obtain⟨r,i,E⟩:=A _ _ _ _ _ p u;have g:pS (.reset e b):=sO f;refine⟨r,λj d=> ?_,?_⟩
  ·rw[aqp]at d;subst d;refine⟨g,λc a=> ?_⟩;have K:c∈ [aY.mk e0 b [] []]:=a;rw[aqp]at K;subst K;exact i
  ·rw[w];simp only[kI,aqS,asE];have:=k _ g;omega
 | @call s outs n n' I m R hj c b a u co e f h v=>
  obtain⟨H,B,U⟩:=v p;have g:pS (.call (nm 117 (n+1)) (nm 117 (n+2)) (nm 102 R) c b co e):=⟨sO a,sO u,by
   rcases f with⟨_,rfl⟩|⟨_,f⟩
   ·exact⟨aqY _,λ_ _ _ _=>aqY _⟩
   ·exact sO f⟩
  refine⟨by omega,λj d=> ?_,?_⟩
  ·rcases aqs.1 d with rfl|d
   ·exact⟨g,λc a=>(by cases a)⟩
   ·exact B j d
  ·simp only[iV,kI,aqw];have:=k _ g;have V:(z+y)*(n+2)=(z+y)*n+2*z+2*y:=by rw[ar1];omega
   have X:y*(m.length+1+1)=y*m.length+2*y:=by rw[ar1,ar1];omega
   omega
 | @lN s outs n n' I m c b G C e cB a u Y M' f OI h v=>
  obtain⟨H,B,U⟩:=v p;obtain⟨a1,a2⟩:=mM (T:=⟨λ_=> .int,λ_=>false,λ_=>0,λ_=> .any⟩) a W;have F:rG 0 c:=⟨by omega,λT l rd o=>by rw[(mM (T:=T) a W).2];simp⟩;have L:rG 0 b:=⟨by have:=(mM (T:=⟨λ_=> .int,λ_=>false,λ_=>0,λ_=> .any⟩) u W).1;omega,λT l rd o=>by rw[(mM (T:=T) u W).2];simp⟩;have M:=yR Y;have N:pS (.df (nm 99 (n+1)) e):=sO f;have O:pS (.df (nm 119 (n+2)) cB):=by
   rcases OI with rfl|rfl
   ·refine rG.mono (n:=0) ⟨?_,λT l rd o=>F.2 T l rd o⟩ (by omega);have:xE (.e_ (nm 99 (n+1)) bZ c)=xE c:=by simp[xE,cg,Sm.xP,Sm.fQ,Sm.dE]
    rw[this];exact F.1
   ·refine rG.mono (n:=1) ⟨?_,λT l rd o=> ?_⟩ (by omega)
    ·have:xE (.fA C (.bin 3 (.var (nm 119 (n+2))) (.e_ (nm 99 (n+1)) bZ c)))=1+xE C+xE c:=by simp[xE,cg,Sm.xP,Sm.fQ,Sm.dE];omega
     rw[this];have:=F.1;have:=(yR M').1;omega
    ·simp only[dH,aqw,aqK];have:=F.2 T l rd (o+1+xE C+xE (.var (nm 119 (n+2))));omega
  have P:pS (.df (nm 122 (n+3)) (.merge (nm 99 (n+1)) bu bZ cQ (.e_ (nm 99 (n+1)) bu b) (.var (nm 119 (n+2))) G)):=by
   refine rG.mono (n:=0) ⟨?_,λT l rd o=> ?_⟩ (by omega)
   ·have:xE (.merge (nm 99 (n+1)) bu bZ cQ (.e_ (nm 99 (n+1)) bu b) (.var (nm 119 (n+2))) G)=xE b+xE G:=by simp[xE,cg,Sm.xP,Sm.fQ,Sm.dE]
    rw[this];have:=L.1;have:=M.1;omega
   ·simp only[dH];split
    ·exact L.2 T l rd o
    ·split
     ·simp
     ·exact M.2 T l rd _
  refine⟨by omega,λj d=> ?_,?_⟩
  ·rcases aqs.1 d with rfl|d
   ·exact⟨N,λc a=>(by cases a)⟩
   rcases aqs.1 d with rfl|d
   ·exact⟨O,λc a=>(by cases a)⟩
   rcases aqs.1 d with rfl|d
   ·exact⟨P,λc a=>(by cases a)⟩
   ·exact B j d
  ·simp only[iV,kI,aqw];have:=k _ N;have:=k _ O;have:=k _ P;have V:(z+y)*(n+3)=(z+y)*n+3*z+3*y:=by rw[ar1];omega
   have X:y*(m.length+1+1+1)=y*m.length+3*y:=by rw[ar1,ar1,ar1];omega
   omega
end
section
variable{Q:Sc->List Va->Nat->Nat->List ay->List Va->Prop}{c y z:Nat}{Z:ay->Nat}
theorem Lo(m: ∀s l n i q b,l.length<=3->Q s l n i q b->Ln y z Z c n i q b){o s:Sc}{j f:List Va}{d n:Nat}{q:List ay}{b:List Va}(h:GL Q o j d s f n q b):
  d<=n/\(∀e∈q,pS e/\ ∀a∈cq e,wE (dG a))/\ ∃g,g+f.length<=j.length/\iV y Z q+y*b.length+(z+y)*d<=c*g+(z+y)*n:=by
 induction h with
 |start=>exact⟨aqd _,λe k=>(by cases k),0,by simp,by simp[iV]⟩
 | @step s f n u q b v w h t x A B p r=>
  obtain⟨C,D,g,E,F⟩:=r;obtain⟨G,H,I⟩:=m _ _ _ _ _ _ (by grind) p;refine⟨by omega,λe k=> ?_,g+1,by grind,?_⟩
  ·grind
  ·rw[AC,aqg,ar1,Nat.mul_succ];omega
theorem JY{n a:Nat}{b:List Va}(h:NV n b a):a=n+b.length:=by
 induction h with
 |nil=>rfl
 |snoc h c d e f g=>simp;omega
theorem FI(m: ∀j i a g f d,i.length<=3->Q j i a g f d->Ln y z Z c a g f d):C' y z Z (CO Q) (6*c+3*y):=by
 rintro j i a g b r ⟨d,n,s,f,C,o,p,q,rfl⟩;have t:=JY o;obtain⟨u,k,l,v,w⟩:=Lo m q;have B:c*l<=c*6:=asC _ (by grind);have x:y*d.length<=y*3:=asC _ p;have A:(z+y)*a<=(z+y)*n:=asC _ (by omega);refine⟨by omega,.mk (λe h=>(k e h).1) (λe h=>(k e h).2),?_⟩;simp only[mC,aqg,ar1];omega
end
def wF(y z:Nat):Nat->Nat
 |0=>18*z+3*y
 |d+1=>18*wF y z d+18*z+3*y
theorem yS{y z:Nat}{Z:ay->Nat}(f: ∀e,pS e->Z e<=z)(b:Nat): ∀d,C' y z Z (GB b d) (wF y z d)
 |0=>by
  have a:=FI (Q:=GQ (λ_ _ _ _ _=>False) b) (c:=3*0+3*z) (y:=y) (z:=z) (Z:=Z) λh l i j e k g a=>IV f (cb:=0) (by intro _ _ _ _ _ _ a;exact a.elim) a g
  rw[show 6*(3*0+3*z)+3*y=wF y z 0 by simp only[wF];omega]at a;exact a
 |d+1=>by
  have a:=FI (Q:=GQ (GB b d) b) (c:=3*wF y z d+3*z) (y:=y) (z:=z) (Z:=Z) λh l i j e k g a=>IV f (yS f b d) a g
  rw[show 6*(3*wF y z d+3*z)+3*y=wF y z (d+1) by simp only[wF];omega]at a;exact a
theorem yT{y:Nat}{Z:ay->Nat}{a:aY} : ∀{l:List aY},a∈l->mC y Z (dG a)<=kh y Z l
 | [],c=>by cases c
 | .mk d b e f::l,c=>by
  simp only[kh];rcases aqs.1 c with rfl|c
  ·show mC y Z b<=_;omega
  ·have:=yT (y:=y) (Z:=Z) c;omega
theorem FJ{y:Nat}{Z:ay->Nat}{q:ay}{a:aY}(h:a∈cq q):mC y Z (dG a)<=kI y Z q:=by
 cases q with
 |df f e=>cases h
 |call f g i a b j e=>cases h
 |sw e c=>have:=yT (y:=y) (Z:=Z) (show a∈c from h);simp only[kI];omega
 |aL c=>have:=yT (y:=y) (Z:=Z) (show a∈c from h);simp only[kI];omega
 |reset e b=>
  have d:a∈ [aY.mk e0 b [] []]:=h;rw[aqp]at d;subst d;simp only[kI];show mC y Z b<=_;omega
theorem IW{y:Nat}{Z:ay->Nat}{q:ay} : ∀{l:List ay},q∈l->kI y Z q<=iV y Z l
 | [],a=>by cases a
 |b::l,a=>by
  simp only[iV];rcases aqs.1 a with rfl|a
  ·omega
  ·have:=IW (y:=y) (Z:=Z) a;omega
theorem Ku{y:Nat}{Z:ay->Nat}{q:ay}{b:aW}(h:q∈cJ b):kI y Z q<=mC y Z b:=by
 cases b with
 |mk c a=>have:=IW (y:=y) (Z:=Z) (show q∈a from h);simp only[mC];omega
theorem yU{Z:ay->Nat}(b:aW):(c8 b).length<=mC 1 Z b:=by cases b;simp only[mC,c8];omega
theorem JZ(q:ay):1<=kI 0 (λ_=>1) q:=by cases q<;>simp only[kI]<;>omega
theorem FK: ∀l:List ay,l.length<=iV 0 (λ_=>1) l
 | []=>aqY _
 |a::l=>by have:=JZ a;have:=FK l;simp only[iV,aqw];omega
theorem J0(b:aW):(cJ b).length<=mC 0 (λ_=>1) b:=by cases b with|mk c a=>have:=FK a;simp only[mC,cJ];omega
theorem IX{b:aW}(h:wE b):mC 1 (λ_=>0) b<=900000->mC 0 (λ_=>1) b<=900000->Sm.tQ (ep b)/\Sm.CK (ep b):=by
 induction h with
 | @mk b t O L=>
  intro u w;have E:=yU (Z:= λ_=>0) b;have j:=J0 b;have F: ∀c∈cJ b,∀a∈cq c,Sm.tQ (ep (dG a))/\Sm.CK (ep (dG a)):= λc d a G=>by
   have P:=FJ (y:=1) (Z:= λ_=>0) G;have Q:=Ku (y:=1) (Z:= λ_=>0) d;have R:=FJ (y:=0) (Z:= λ_=>1) G;have S:=Ku (y:=0) (Z:= λ_=>1) d;exact L c d a G (by omega) (by omega)
  cases b with
  |mk T I=>
  simp only[c8,cJ]at E j t F;have m: ∀f∈eR I,∃c∈I,f=di c:= λf h=>by rw[g_]at h;obtain⟨c,u,w⟩:=aqM.1 h;exact⟨c,u,w.symm⟩
  have x: ∀c:ay,∀k∈(di c).ah,∃a∈cq c,k=nY a:= λc k h=>by rw[mz]at h;obtain⟨a,u,w⟩:=aqM.1 h;exact⟨a,u,w.symm⟩
  have z: ∀a:aY,(nY a).eT=(jf a).map t_/\(nY a).eU=(kg a).map t_:= λa=>by cases a;exact⟨rfl,rfl⟩
  refine⟨.mk (by grind) (by rw[g_,aqE];omega) (λf d k p=> ?_) (λf d=> ?_) (λf d=> ?_) (λf d=> ?_) (λf d k p=> ?_),.mk (λv E=> ?_) (λf d=> ?_) (λf d k p=> ?_) (λf d k p K M=> ?_)⟩
  ·obtain⟨c,i,rfl⟩:=m f d;obtain⟨a,g,rfl⟩:=x c k p;rw[sN];exact(F c i a g).1
  ·obtain⟨c,i,rfl⟩:=m f d;have n:=t c i;rw[mz,aqE];cases c with
   |df o e=>simp[cq]
   |call o C D a b H e=>simp[cq]
   |sw e q=>have:=n.2.1;simp only[cq];omega
   |aL q=>have:=n.1;simp only[cq];omega
   |reset e b=>simp[cq]
  ·obtain⟨c,i,rfl⟩:=m f d;cases c with
   |df o e=>exact⟨C_ e,by simp[di,Sm.ay.args],λe j=>(by cases j)⟩
   |call o C D a b H e=>exact⟨C_ e,by simp[di,Sm.ay.args],λe j=>by
     have J:e∈ [cg a,cg b]:=j;simp only[aqs,aqx,aq9]at J;rcases J with rfl|rfl
     ·exact C_ a
     ·exact C_ b⟩
   |sw e q=>exact⟨C_ e,by simp[di,Sm.ay.args],λe j=>(by cases j)⟩
   |aL q=>exact⟨C_ .nil,by simp[di,Sm.ay.args],λe j=>(by cases j)⟩
   |reset e b=>exact⟨C_ e,by simp[di,Sm.ay.args],λe j=>(by cases j)⟩
  ·obtain⟨c,i,rfl⟩:=m f d;cases c<;>simp[di,Sm.ay.lhs]
  ·obtain⟨c,i,rfl⟩:=m f d;obtain⟨a,g,rfl⟩:=x c k p;rw[(z a).1,(z a).2,aqE,aqE];have n:=t c i;cases c with
   |df o e=>cases g
   |call o C D a b H e=>cases g
   |sw e q=>obtain⟨A,B⟩:=n.2.2 a g;rw[A,B];simp
   |aL q=>obtain⟨A,B,_⟩:=n.2 a g;omega
   |reset e b=>
    have r:a∈ [aY.mk e0 b [] []]:=g;rw[aqp]at r;subst r;simp[jf,kg]
  ·obtain⟨l,s,rfl⟩:=aqM.1 E;show(El l.clock).length<=_;cases l.clock<;>simp[El]
  ·obtain⟨c,i,rfl⟩:=m f d;rw[ez];cases c<;>simp[de,di,Sm.ay.args,Sm.ay.ex,cg,Sm.xP,Sm.fQ,Sm.dE]
  ·obtain⟨c,i,rfl⟩:=m f d;obtain⟨a,g,rfl⟩:=x c k p;rw[sN];exact(F c i a g).2
  ·obtain⟨c,i,rfl⟩:=m f d;obtain⟨a,g,rfl⟩:=x c k p;rw[(z a).1,(z a).2]at M;have n:=t c i;have N: ∃l:Tr,(l∈jf a\/l∈kg a)/\K=t_ l:=by
    grind
   obtain⟨l,s,rfl⟩:=N;refine⟨C_ l.e,?_⟩;cases c with
   |df o e=>cases g
   |call o C D a b H e=>cases g
   |sw e q=>obtain⟨A,B⟩:=n.2.2 a g;rw[A,B]at s;rcases s with h|h<;>cases h
   |aL q=>exact(n.2 a g).2.2 l s
   |reset e b=>
    have r:a∈ [aY.mk e0 b [] []]:=g;rw[aqp]at r;subst r;rcases s with h|h<;>cases h
def Zp(q:ay):Nat:=wQ q+5
def Zd:ay->Nat
 | .df .. =>1
 | .call .. =>2
 |_=>0
theorem Lp(q:ay)(h:pS q):Zp q<=31:=by
 unfold Zp;cases q with
 |df a e=>have:=h.1;simp only[wQ];omega
 |call a d f g b i e=>have:=h.1.1;have:=h.2.1.1;have:=h.2.2.1;simp only[wQ];omega
 |sw e c=>have:=h.1.1;simp only[wQ];omega
 |aL c=>simp only[wQ];omega
 |reset e b=>have:=h.1;simp only[wQ];omega
theorem Lr(q:ay)(h:pS q):Zd q<=2:=by cases q<;>simp[Zd]
mutual
theorem Ls: ∀q:ay,Sm.qP (di q)<=kI 1 Zp q
 | .df d e=>by
  have c:Sm.qP (di (.df d e))=xE e+0+0+0:=rfl;simp only[kI,Zp,wQ];omega
 | .call d h i f b j e=>by
  have c:Sm.qP (di (.call d h i f b j e))=xE e+(xE f+(xE b+0))+1+0:=rfl;simp only[kI,Zp,wQ];omega
 | .sw e a=>by
  have g:=BL a;have c:Sm.qP (di (.sw e a))=xE e+0+0+Sm.kp (ej a):=rfl;simp only[kI,Zp,wQ];omega
 | .aL a=>by
  have g:=BL a;have c:Sm.qP (di (.aL a))=0+0+1+Sm.kp (ej a):=rfl;simp only[kI,Zp,wQ];omega
 | .reset e b=>by
  have g:=ED b;have c:Sm.qP (di (.reset e b))=xE e+0+0+(Sm.bP (ep b)+0):=rfl;simp only[kI,Zp,wQ];omega
theorem BL: ∀l:List aY,Sm.kp (ej l)<=kh 1 Zp l
 | []=>aqY _
 | .mk a b c d::l=>by
  have e:=ED b;have f:=BL l;have g:Sm.kp (ej (.mk a b c d::l))=Sm.bP (ep b)+Sm.kp (ej l):=rfl;simp only[kh];omega
theorem ED: ∀b:aW,Sm.bP (ep b)<=mC 1 Zp b
 | .mk a c=>by
  have d:=FL c;have e:Sm.aR (a.map dW)<=a.length:=by unfold Sm.aR;exact aq1 (arM _ _) (by simp)
  have f:Sm.bP (ep (.mk a c))=Sm.aR (a.map dW)+Sm.uD (eR c):=rfl;simp only[mC];omega
theorem FL: ∀l:List ay,Sm.uD (eR l)<=iV 1 Zp l
 | []=>aqY _
 |a::l=>by
  have b:=Ls a;have c:=FL l;have d:Sm.uD (eR (a::l))=Sm.qP (di a)+Sm.uD (eR l):=rfl;simp only[iV];omega
end
mutual
theorem Lt: ∀q:ay,Sm.oS (di q)<=kI 0 Zd q
 | .df f e=>aqd 1
 | .call f g h i b j e=>aqd 2
 | .sw e a=>by
  have c:=BM a;have d:Sm.oS (di (.sw e a))=0+Sm.lM (ej a):=rfl;simp only[kI,Zd];omega
 | .aL a=>by
  have c:=BM a;have d:Sm.oS (di (.aL a))=0+Sm.lM (ej a):=rfl;simp only[kI,Zd];omega
 | .reset e b=>by
  have c:=BN b;have d:Sm.oS (di (.reset e b))=0+(Sm.iC (ep b)+0):=rfl;simp only[kI,Zd];omega
theorem BM: ∀l:List aY,Sm.lM (ej l)<=kh 0 Zd l
 | []=>aqY _
 | .mk a b c d::l=>by
  have e:=BN b;have f:=BM l;have g:Sm.lM (ej (.mk a b c d::l))=Sm.iC (ep b)+Sm.lM (ej l):=rfl;simp only[kh];omega
theorem BN: ∀b:aW,Sm.iC (ep b)<=mC 0 Zd b
 | .mk c a=>by
  have d:=FM a;have e:Sm.iC (ep (.mk c a))=Sm.ny (eR a):=rfl;simp only[mC];omega
theorem FM: ∀l:List ay,Sm.ny (eR l)<=iV 0 Zd l
 | []=>aqY _
 |a::l=>by
  have b:=Lt a;have c:=FM l;have d:Sm.ny (eR (a::l))=Sm.oS (di a)+Sm.ny (eR l):=rfl;simp only[iV];omega
end
theorem BO{k:Nat}{d:Nd}(h:GN k d):wE d.b/\mC 1 Zp d.b<=4000000/\mC 0 Zd d.b<=300000/\mC 1 (λ_=>0) d.b<=900000/\mC 0 (λ_=>1) d.b<=900000:=by
 obtain⟨_,_,⟨last,first,p,c⟩,q,r,a⟩:=h;have b:d.outs.length<=3:=by rw[c];simp
 obtain⟨_,e,f⟩:=yS (y:=1) (z:=31) (Z:=Zp) Lp k 3 _ _ _ _ _ b a;obtain⟨_,_,g⟩:=yS (y:=0) (z:=2) (Z:=Zd) Lr k 3 _ _ _ _ _ b a;obtain⟨_,_,i⟩:=yS (y:=1) (z:=0) (Z:= λ_=>0) (λ_ _=>aqd _) k 3 _ _ _ _ _ b a;obtain⟨_,_,j⟩:=yS (y:=0) (z:=1) (Z:= λ_=>1) (λ_ _=>aqd _) k 3 _ _ _ _ _ b a;have l:wF 1 31 3=3464175:=by decide
 have m:wF 0 2 3=222300:=by decide
 have n:wF 1 0 3=18525:=by decide
 have o:wF 0 1 3=111150:=by decide
 rw[l]at f;rw[m]at g;rw[n]at i;rw[o]at j;exact⟨e,by omega,by omega,by omega,by omega⟩
theorem EE{l:List Nd}(h:GP l):Sm.pb (lO l)/\Sm.uU (lO l):=by
 obtain⟨z,A,s⟩:=h;have n: ∀a∈(lO l).nodes,∃b d,a=cG d/\GN b d:= λa c=>by
  obtain⟨d,t,rfl⟩:=aqM.1 c;obtain⟨b,u⟩:=aqG.1 t;exact⟨b,d,rfl,s b d u⟩
 refine⟨⟨⟨by simp[lO],λe w=> ?_⟩,by show(l.map cG).length<=_;rw[aqE];omega,λa c=> ?_,λa c=> ?_⟩,⟨λa c=> ?_⟩⟩
 ·have o:e∈ [yw]:=w;rw[aqp]at o;subst o;simp
 ·obtain⟨b,d,rfl,f⟩:=n a c;obtain⟨i,p,q,j,k⟩:=BO f;obtain⟨_,_,⟨last,first,B,x⟩,_⟩:=f;have:=ED d.b;exact⟨(IX i j k).1,by show(d.outs.map dW).length<=_;rw[x];simp,by show Sm.bP (ep d.b)<=_;omega⟩
 ·obtain⟨b,d,rfl,f⟩:=n a c;obtain⟨i,p,q,j,k⟩:=BO f;obtain⟨_,y,_⟩:=f;have:=BN d.b;exact⟨by show(d.ins.map dW).length<=_;rw[y];simp,by show Sm.iC (ep d.b)<=_;omega⟩
 ·obtain⟨b,d,rfl,f⟩:=n a c;obtain⟨i,p,q,j,k⟩:=BO f;have r: ∀v:Va,(dW v).clock.length<=1000000:= λv=>by
   show(El v.clock).length<=_;cases v.clock<;>simp[El]
  refine⟨(IX i j k).2,λv g=> ?_,?_⟩
  ·rcases g with g|g
   ·obtain⟨m,_,rfl⟩:=aqM.1 g;exact r m
   ·obtain⟨m,_,rfl⟩:=aqM.1 g;exact r m
  ·show(ep d.b).vars.length<=_;rw[mA,aqE];have:=yU (Z:= λ_=>0) d.b;omega
mutual
def zy(J:Path)(j:Nat):ay->List It
 | .df _ _=>[]
 | .call _ _ _ _ _ _ _=>[.call J j]
 | .sw _ ah=> .bN J j::yW (j::J) ah
 | .aL ah=> .bN J j:: .lv J j::yW (j::J) ah
 | .reset _ b=> .bN J j::yX (j::J) b
def yW(J:Path):List aY->List It
 | []=>[]
 | .mk _ b _ _::l=>yX J b++yW J l
def yX(J:Path):aW->List It
 | .mk vars au=>(List.range vars.length).map (.cell J)++AE J 0 au
def AE(J:Path)(j:Nat):List ay->List It
 | []=>[]
 |q::l=>zy J j q++AE J (j+1) l
end
mutual
theorem IY: ∀(q:ay) (J:Path) (j:Nat),(zy J j q).length<=kI 1 Zp q
 | .df c e,J,j=>aqY _
 | .call c d f g b h e,J,j=>by simp only[zy,kI,Zp,aqw,aqS];omega
 | .sw e a,J,j=>by have:=vU a (j::J);simp only[zy,kI,Zp,aqw];omega
 | .aL a,J,j=>by have:=vU a (j::J);simp only[zy,kI,Zp,aqw];omega
 | .reset e b,J,j=>by have:=yY b (j::J);simp only[zy,kI,Zp,aqw];omega
theorem vU: ∀(l:List aY) (J:Path),(yW J l).length<=kh 1 Zp l
 | [],J=>aqY _
 | .mk a b c d::l,J=>by have:=yY b J;have:=vU l J;simp only[yW,kh,aqg];omega
theorem yY: ∀(b:aW) (J:Path),(yX J b).length<=mC 1 Zp b
 | .mk c a,J=>by have:=AF a J 0;simp only[yX,mC,aqg,aqE,List.length_range];omega
theorem AF: ∀(l:List ay) (J:Path) (j:Nat),(AE J j l).length<=iV 1 Zp l
 | [],J,j=>aqY _
 |a::l,J,j=>by have:=IY a J j;have:=AF l J (j+1);simp only[AE,iV,aqg];omega
end
theorem vV{J:Path}{a:aY}{it:It} : ∀{l:List aY},a∈l->it∈yX J (dG a)->it∈yW J l
 | [],c,_=>by cases c
 | .mk e b f g::l,c,d=>by
  simp only[yW];rcases aqs.1 c with rfl|c
  ·exact aqq _ d
  ·exact aqt _ (vV c d)
theorem AG{J:Path}{q:ay}{it:It} : ∀{l:List ay} {j i:Nat},l[i]?=some q->it∈zy J (j+i) q->it∈AE J j l
 | [],j,i,a,_=>by simp at a
 |c::l,j,i,a,b=>by
  simp only[AE];cases i with
  |zero=>simp at a;subst a;exact aqq _ b
  |succ i=>exact aqt _ (AG (j:=j+1) (i:=i) (by simpa using a) (by grind))
theorem Da{J:Path}{b:aW}{i:Nat}{q:ay}{it:It}(h:(cJ b)[i]?=some q)(hi:it∈zy J i q):it∈yX J b:=by
 cases b with
 |mk c a=>
 simp only[yX];exact aqt _ (AG (j:=0) (show a[i]?=some q from h) (by grind))
theorem IZ{J:Path}{j:Nat}{q:ay}{a:aY}{it:It}(h:a∈cq q)(hi:it∈yX (j::J) (dG a)):it∈zy J j q:=by
 cases q with
 |df f e=>cases h
 |call f g i a b k e=>cases h
 |sw e c=>exact aqF _ (vV (show a∈c from h) hi)
 |aL c=>exact aqF _ (aqF _ (vV (show a∈c from h) hi))
 |reset e b=>
  have d:a∈ [aY.mk e0 b [] []]:=h;rw[aqp]at d;subst d;exact aqF _ hi
def jg(d:Nd):List It:=(List.range (d.ins.length+d.outs.length+(c8 d.b).length)).map (.cell [])++yX [] d.b
theorem Db{T:dS}{F:List (Option Int)}{A:Env}{d:Nd}{u:US} : ∀{J:Path} {b:aW} {s:Nat} {rs:Rs},dh T F A d u J=some (b,s,rs)-> ∀it∈yX J b,it∈jg d:=by
 intro J
 induction J with
 |nil=>
  intro b s rs a it c;obtain⟨rfl,_⟩:=qp a;exact aqt _ c
 |cons k J e=>
  intro b s rs a it c;obtain⟨o,p,q,l,m,n,f,g,r,h,i,t⟩:=j7 a;have j:=(ark i).1;subst j;exact e f it (Da g (IZ (aqk h) c))
theorem EF{a:Type}{l:List a}{f:a->Bool} :(l.findIdx? f).getD 0<=l.length:=by
 cases b:l.findIdx? f with
 |none=>exact aqY _
 |some d=>
  obtain⟨c,_⟩:=aq2.1 b;exact as8 c
section
variable{P:Sm.Pg}{T:dS}{F:List (Option Int)}{A:Env}{d:Nd}{u:US}{My:Nat->US->List Int->List Int->US->Prop}{az:Nat->US}{an:List Sm.It}{step:US->List Int->List Int->US->Prop}
theorem yZ(f:wE d.b): ∀{J:Path} {b:aW} {s:Nat} {rs:Rs},dh T F A d u J=some (b,s,rs)->wE b:=by
 intro J
 induction J with
 |nil=>intro b s rs a;obtain⟨rfl,_⟩:=qp a;exact f
 |cons n J g=>
  intro b s rs a;obtain⟨p,q,r,c,o,e,h,i,t,j,k,v⟩:=j7 a;have l:=(ark k).1;subst l;have:=g h;cases this with
  |mk w m=>exact m c (aqk i) e (aqk j)
theorem Dc{rs:Rs}{p:Nat}{q:ay}(h:pS q):(tc T A rs p q).length<=26:=by
 cases q with
 |df a e=>exact h.2 T A rs.rd p
 |call a g i c b f e=>
  have j:=h.1.2 T A rs.rd (p+1+xE e);have k:=h.2.1.2 T A rs.rd (p+1+xE e+xE c);have l:=h.2.2.2 T A rs.rd (p+1);simp only[tc,aqg,aqC];cases f with
  |false=>simp only[are,arK,aqS];omega
  |true=>simp only[arR];omega
 |sw e d=>have:=h.1.2 T A rs.rd p;simp only[tc];omega
 |aL d=>simp[tc]
 |reset e b=>have:=h.2 T A rs.rd p;simp only[tc];omega
theorem J1{rs:Rs}{p:Nat}{q:ay}(h:pS q):C6 T F A rs p q<=1000:=by
 cases q with
 |df d e=>exact aqY _
 |call d f g i b k e=>exact aqY _
 |sw e a=>exact aqY _
 |aL a=>
  have j:=h.1;show(match u6 T F A rs p (.aL a)with|none=>(if eY T A rs p (.aL a)<a.length then eY T A rs p (.aL a)else 0)|some c=>rc a c.to)<=1000;cases u6 T F A rs p (.aL a)with
  |none=>simp only;split<;>omega
  |some c=>have:rc a c.to<=a.length:=EF;simp only;omega
 |reset e b=>exact aqY _
theorem pD{a:Type}{l:List a}{k:Nat}{x:a}(h:l[k]?=some x):k<l.length:=by grind
theorem y7{J:Path}{k:Nat}{b:Sm.Va}(h:(Sm.aH.fr (aD T F A d u My az an) J).vars[k]?=some b): ∃v,(pc T F A d u J)[k]?=some v/\b=dW v:=by
 have a:(eB T F A d u J).vars[k]?=some b:=h;rw[ng,aqL]at a;cases c:(pc T F A d u J)[k]? with
 |none=>rw[c]at a;cases a
 |some v=>rw[c]at a;injection a with a;exact⟨v,rfl,a.symm⟩
theorem LZ(l:List It):(l.map λ_=>100).foldr (·+ ·) 0=100*l.length:=by
 induction l with
 |nil=>rfl
 |cons b l a=>simp only[aqN,asz,aqw,a];omega
open Classical in
theorem Lu(X:bD P T F A d u My az)(L:Lk P step My az)(hz:wE d.b)(hm:mC 1 Zp d.b<=4000000)(hd:P.nodes[u.i]?=some (cG d))(PV:d.ins.length<=1000)(gc:d.outs.length<=1000){ins:List Int}(hl:ins.length=d.ins.length)(f7: ∀(h:Nat) (v:Va) (Y:Int),d.ins[h]?=some v->ins[h]?=some Y-> ∃sb k,get A v.name=some (some Y,sb,k)):
  Sm.gX P step (aD T F A d u My az (jg d)) (cG d) u ins (d.outs.map λv=>val A v.name) (rC (aD T F A d u My az (jg d)) u.i):=by
 have hg:Sm.sy P (aD T F A d u My az (jg d)) (cG d):=X.k_;have M7:(cG d).ins.length=d.ins.length:=by show(d.ins.map dW).length=_;simp
 have Wb:(cG d).outs.length=d.outs.length:=by show(d.outs.map dW).length=_;simp
 have y:dh T F A d u []=some (d.b,0,p7 u):=rfl;have v0:pc T F A d u []=d.ins++d.outs++c8 d.b:=by rw[kQ y,aqy W]
 have d8: ∀{j:ay} {q:Nm},de j=1\/de j=2->q∈(di j).lhs->q∈dQ j:= λ{j q} g B=>by
  cases j with
  |df l e=>have D:q∈ [l]:=B;rw[aqp]at D;exact dT.2 D
  |call l z M N b R e=>have D:q∈ [l,z]:=B;simp only[aqs,aqx,aq9]at D;exact dT.2 D
  |sw e O=>simp[de]at g
  |aL O=>simp[de]at g
  |reset e b=>simp[de]at g
 refine{nd:=hd,sz:=rfl,Gi:=rfl,iG:=hg.iG,vx:=hg.vx,uF:=by rw[M7];exact hl,Cp:= λh v Y g hn=> ?_,cell:= λa h v lp H I Ng hi=> ?_,eq:= λa i j p H f hp=> ?_,lhs:= λa i j H f g ht k q B=> ?_,nx:= λa i=> ?_,zm:= λa hn=> ?_,gh:= λa i j f g=> ?_,lh:= λa i j H f q B x E he=> ?_,KP:= λk v I=> ?_,Jp:= λa i j q H f g hl ht=> ?_,KQ:= λa i j H f q B=> ?_,ah:= λa i j H f g=> ?_,rd:= λh g=> ?_,rp:= λh g=> ?_,rs:= λh g=> ?_,nm:= λh g=>IS X u.i h,np:= λh g=>Lm X u.i h,ns:= λh g=>IT X u.i h,ui:=rfl,wc:= λa h v H I hi=> ?_,wq:= λa i j H f=> ?_,ws:= ?_,outs:= ?_}
 ·have Nw:(d.ins.map dW)[h]?=some v:=g;rw[aqL]at Nw;cases I:d.ins[h]? with
  |none=>rw[I]at Nw;cases Nw
  |some ac=>
   obtain⟨sb,k,r⟩:=f7 h ac Y I hn;have O5:(pc T F A d u [])[h]?=some ac:=by rw[v0,aqD,aqf (pD I)];exact I
   obtain⟨g1,g2,_⟩:=Ey (My:=My) (az:=az) (an:=jg d) [] O5;rw[g1,g2,(lf r).2.2,(lf r).2.1];have:=ta r;exact⟨rfl,by show _<A.length+1;omega⟩
 ·obtain⟨b,s,rs,hp⟩:=u9 H;obtain⟨ac,J,rfl⟩:=y7 I;exact Ll X hp J Ng (λe=>by rw[<-M7];exact hi e)
 ·obtain⟨b,s,rs,n,y,o,t,K,rfl,Q,C⟩:=jP (show(eB T F A d u a).au[i]?=some j from f);have M3:(eB T F A d u a).pos[i]?=some p:=hp;rw[Q]at M3;injection M3 with M3
  subst M3;exact Mq X L o t K
 ·obtain⟨b,s,rs,n,y,o,t,K,rfl,Q,C⟩:=jP (show(eB T F A d u a).au[i]?=some j from f);rw[ez]at g;cases n with
  |df l e=>simp[de]at g
  |sw e O=>simp[de]at g
  |aL O=>simp[de]at g
  |reset e b=>simp[de]at g
  |call l z M N b' R e=>
   obtain⟨f9,g1,g2,g3,g4,g5⟩:=fm X.hL X.hU X.hS o;obtain⟨⟨w1,w2,ZD,jj,ii,ox,oy,u',E,k1,k2,_⟩,_⟩:=(oa g1).2.2.1 i _ y t K;have R0:=AA (My:=My) (az:=az) (an:=jg d) C;have XD:vT A (.call l z M N b' R e)=ii:=(lf k1).1;have f4: ∀{q:Nm} {co:Int} {d7:Nat} {k:Nat},q∈dQ (.call l z M N b' R e)->get A q=some (some co,ii,d7)->ii<=d7->(Fz A (.call l z M N b' R e))[k]?=some co->(∀(w:Nat) (G:Nm),(di (.call l z M N b' R e)).lhs[w]?=some G->G=q->w=k)->
     ∃x Y,(aD T F A d u My az (jg d)).find a q=some x/\(aD T F A d u My az (jg d)).val x.1 x.2=some Y/\((aD T F A d u My az (jg d)).outs a i)[k]?=some Y/\(aD T F A d u My az (jg d)).sb x.1 x.2=(aD T F A d u My az (jg d)).ek a i/\(aD T F A d u My az (jg d)).ek a i<=(aD T F A d u My az (jg d)).mV x
      /\(∀w G MZ,(di (.call l z M N b' R e)).lhs[w]?=some G->(aD T F A d u My az (jg d)).find a G=some MZ->MZ=x->w=k)/\ ∃s j0,Sm.jB ((aD T F A d u My az (jg d)).fr x.1) x.2 s j0/\s.name=q/\((aD T F A d u My az (jg d)).fr x.1).vars[x.2]?=some s/\Sm.Src (aD T F A d u My az (jg d)) ((aD T F A d u My az (jg d)).sb x.1 x.2) x.1 j0 q (some (a,i))/\(x.1= []->(cG d).ins.length<=x.2):=by
    intro q co d7 k B d9 hr f8 YR;obtain⟨ρ,h,v,E,j0,S,U,e3,e4⟩:=wS X (an:=jg d) o t (.inr W) B;obtain⟨y1,y2,y3,y4⟩:=E.get;refine⟨(ρ,h),co,E.f,by rw[y3,(lf d9).2.2],by rw[(yO (My:=My) (az:=az) (an:=jg d) C).1];exact f8,by rw[y4,(lf d9).1,R0,XD],by rw[R0,XD,y2,(lf d9).2.1];exact hr,λw G MZ r m h3=> ?_,dW v,j0,S,E.n,U,e3,λe=>by rw[M7];exact e4 e⟩;subst h3;refine YR w G r ?_;have D:=d8 (.inr W) (aqk r);obtain⟨ρ',k',v',V,_⟩:=wS X (an:=jg d) o t (.inr W) D;rw[V.f]at m;injection m with m
    injection m with m h3
    subst m;subst h3;have:=V.vv;rw[E.vv]at this;injection this with this
    rw[<-V.n,<-this,E.n]
   have D:([l,z]:List Nm)[k]?=some q:=B;rw[ri k1|>.symm]at k1;rw[ri k2|>.symm]at k2;cases k with
   |zero=>
    simp at D;subst D;refine f4 (dT.2 (.inl W)) k1 (aqd _) W (λw G r m=> ?_);have Qo:([l,z]:List Nm)[w]?=some G:=r;cases w with
    |zero=>rfl
    |succ w=>
     cases w with
     |zero=>simp at Qo;rw[Qo,m]at ZD;exact absurd W ZD
     |succ w=>simp at Qo
   |succ k=>
    cases k with
    |succ k=>simp at D
    |zero=>
     simp at D;subst D;refine f4 (dT.2 (.inr W)) k2 (Nat.le_succ _) W (λw G r m=> ?_);have Qo:([l,z]:List Nm)[w]?=some G:=r;cases w with
     |zero=>simp at Qo;rw[Qo,m]at ZD;exact absurd W ZD
     |succ w=>
      cases w with
      |zero=>rfl
      |succ w=>simp at Qo
 ·show(match jO T F A d u a i with|some (j,p,rs)=>C6 T F A rs p j|none=>0)<=1000;cases f:jO T F A d u a i with
  |none=>exact aqY _
  |some l=>
   obtain⟨j,p,rs⟩:=l;refine J1 ?_;cases r:dh T F A d u a with
   |none=>unfold jO at f;rw[r]at f;cases f
   |some z=>
    obtain⟨b,s,Pc⟩:=z;unfold jO at f;rw[r]at f;simp only at f;cases m:(cJ b)[i]? with
    |none=>rw[m]at f;cases f
    |some q'=>
     obtain⟨p',M3⟩:=mB (s:=s) m;rw[m,M3]at f;injection f with f
     injection f with f _
     subst f;have:=yZ hz r;cases this with
     |mk f hb=>exact f q' (aqk m)
 ·have OK: ¬(dh T F A d u a).isSome=true:=hn;have r:dh T F A d u a=none:=by
   cases c:dh T F A d u a with
   |none=>rfl
   |some l=>rw[c]at OK;exact absurd W OK
  have:(aD T F A d u My az (jg d)).fr a=⟨[],[],[],[]⟩:=by show eB T F A d u a=_;unfold eB;rw[r]
  rw[this];exact⟨rfl,rfl⟩
 ·obtain⟨b,s,rs,n,y,o,t,K,rfl,Q,C⟩:=jP (show(eB T F A d u a).au[i]?=some j from f);have r:dh T F A d u (i::a)=none:=by
   cases c:dh T F A d u (i::a)with
   |none=>rfl
   |some l=>
    obtain⟨b',s',Pc,q',p',a',S,U,e3,e4,_⟩:=j7 c;rw[o]at S;injection S with S
    cases S;rw[t]at U;injection U with U
    subst U;have:=yH e4;rw[ez]at g;omega
  have m:(eB T F A d u (i::a)).vars= []:=by unfold eB;rw[r]
  refine⟨?_,?_⟩
  ·show(match(eB T F A d u (i::a)).vars[0]? with|some v=>iw A v.name|none=>match jO T F A d u a i with|some (j,_,_)=>vT A j|none=>0)=_;rw[m,AA C,C];rfl
  ·show(match(eB T F A d u (i::a)).vars[0]? with|some v=>rB A v.name|none=>none)=_;rw[m];rfl
 ·obtain⟨b,s,rs,n,y,o,t,K,rfl,Q,C⟩:=jP (show(eB T F A d u a).au[i]?=some j from f);by_cases g:de n=1\/de n=2
  ·obtain⟨ρ,h,v,V,_,_,_,_,e4⟩:=wS X (an:=jg d) o t g (d8 g B);rw[V.f]at E;injection E with E
   subst E;rw[M7];exact e4 he
  ·cases n with
   |df l e=>simp[de]at g
   |call l z M N b R e=>simp[de]at g
   |sw e O=>cases B
   |aL O=>cases B
   |reset e b=>cases B
 ·have OP:(d.outs.map dW)[k]?=some v:=I;rw[aqL]at OP;cases J:d.outs[k]? with
  |none=>rw[J]at OP;cases OP
  |some ac=>
   rw[J]at OP;injection OP with OP
   subst OP;rw[M7];have O5:(pc T F A d u [])[d.ins.length+k]?=some ac:=by
    rw[v0,aqD,aqm (by omega),aro,aqf (pD J)];exact J
   exact(oz X y O5).f
 ·obtain⟨b,s,rs,n,y,o,t,K,rfl,Q,C⟩:=jP (show(eB T F A d u a).au[i]?=some j from f);rw[ez]at g;have B:q∈dQ n:=d8 (.inl g) (by rw[hl];exact aru _);obtain⟨ρ,h,v,V,j0,S,U,e3,e4⟩:=wS X (an:=jg d) o t (.inl g) B;exact⟨(ρ,h),dW v,j0,V.f,S,V.n,U,e3,λe=>by rw[M7];exact e4 e⟩
 ·obtain⟨b,s,rs,n,y,o,t,K,rfl,Q,C⟩:=jP (show(eB T F A d u a).au[i]?=some j from f);obtain⟨ρ,h,v,E⟩:=C9 X (an:=jg d) o (wR X o t B);exact⟨_,E.f⟩
 ·obtain⟨b,s,rs,n,y,o,t,K,rfl,Q,C⟩:=jP (show(eB T F A d u a).au[i]?=some j from f);rw[ez]at g;rw[mz];cases n with
  |df l e=>rfl
  |call l z M N b R e=>rfl
  |sw e O=>simp[de]at g
  |aL O=>simp[de]at g
  |reset e b=>simp[de]at g
 ·rw[<-X.hF];refine⟨λc=> ?_,λc=> ?_⟩
  ·show(if Sm.fE (nE T F A d u My az (jg d)) h then _ else _)=_;exact aqy c
  ·show(if Sm.fE (nE T F A d u My az (jg d)) h then _ else _)=_;exact aqo c
 ·rw[<-X.hF];refine⟨λc m=> ?_,λc=> ?_⟩
  ·show(if Sm.fE (nE T F A d u My az (jg d)) h/\_ then _ else _)=_;exact aqy ⟨c,m⟩
  ·show(if Sm.fE (nE T F A d u My az (jg d)) h/\_ then _ else _)=_;exact aqo c
 ·rw[<-X.hF];refine⟨λc m=> ?_,λc=> ?_⟩
  ·show(if Sm.fE (nE T F A d u My az (jg d)) h/\_ then _ else _)=_;exact aqy ⟨c,m⟩
  ·show(if Sm.fE (nE T F A d u My az (jg d)) h/\_ then _ else _)=_;exact aqo c
 ·obtain⟨b,s,rs,hp⟩:=u9 H;obtain⟨ac,J,rfl⟩:=y7 I;have PY:=pD J;refine⟨?_,(by decide:1<=100),λi ML j' j _ _ f g=> ?_⟩
  ·show It.cell a h∈jg d;rw[kQ hp]at PY;by_cases e:a= []
   ·subst e;rw[aqy W]at PY;refine aqq _ (aqM.2 ⟨h,arU.2 (by simp only[aqg]at PY;exact PY),rfl⟩)
   ·rw[aqo e]at PY;refine Db hp _ ?_;cases b with
    |mk i6 au=>exact aqq _ (aqM.2 ⟨h,arU.2 PY,rfl⟩)
  ·obtain⟨b,s,rs,n,y,o,t,K,rfl,Q,C⟩:=jP (show(eB T F A d u ML).au[j']?=some j from f);rw[FE C];have hs:pS n:=by
    have:=yZ hz o;cases this with
    |mk f hb=>exact f n (aqk t)
   have:=Dc (T:=T) (A:=A) (rs:=rs) (p:=y) hs;show 1+_<=100;omega
 ·obtain⟨b,s,rs,n,y,o,t,K,rfl,Q,C⟩:=jP (show(eB T F A d u a).au[i]?=some j from f);rw[ez,FE C];have hs:pS n:=by
   have:=yZ hz o;cases this with
   |mk f hb=>exact f n (aqk t)
  have ge:=Dc (T:=T) (A:=A) (rs:=rs) (p:=y) hs;have d6:(tc T A rs y n).length<=100:=by omega
  have P': ∀it∈zy a i n,it∈jg d:= λit hi=>Db o it (Da t hi)
  cases n with
  |df l e=>exact⟨λc=>by simp[de]at c,λc=>by simp[de]at c,λc=>by simp[de]at c⟩
  |call l z M N b R e=>exact⟨λ_ _=>⟨P' _ (aru _),d6⟩,λc=>by simp[de]at c,λc=>by simp[de]at c⟩
  |sw e O=>exact⟨λc=>by simp[de]at c,λ_=>⟨P' _ (aqP ..),d6⟩,λc=>by simp[de]at c⟩
  |aL O=>exact⟨λc=>by simp[de]at c,λ_=>⟨P' _ (aqP ..),d6⟩,λ_=>⟨P' _ (aqF _ (aqP ..)),(by decide:1<=100)⟩⟩
  |reset e b=>exact⟨λc=>by simp[de]at c,λ_=>⟨P' _ (aqP ..),d6⟩,λc=>by simp[de]at c⟩
 ·show((jg d).map λ_=>100).foldr (·+ ·) 0<=_;rw[LZ];have r:=yY d.b [];have m:=yU (Z:=Zp) d.b;have h3:(jg d).length=d.ins.length+d.outs.length+(c8 d.b).length+(yX [] d.b).length:=by simp[jg]
  omega
 ·rw[Wb];apply ar4;intro k;rw[aqL,aqL];rcases aqh k d.outs.length with c|c
  ·rw[aqi c,List.getElem?_range c];have J:d.outs[k]?=some d.outs[k]:=aqi c;have O5:(pc T F A d u [])[d.ins.length+k]?=some d.outs[k]:=by
    rw[v0,aqD,aqm (by omega),aro,aqf c];exact J
   have:=(oz X (an:=jg d) y O5).get.1;simp only[ash];rw[M7,this]
  ·rw[aqj c,aqj (by simpa using c)];rfl
end
section
variable{P:Sm.Pg}{T:dS}{F:List (Option Int)}{A:Env}{d:Nd}{u:US}{My:Nat->US->List Int->List Int->US->Prop}{az:Nat->US}{an:List Sm.It}{aj:Nat}{G:Nat->US->Prop}
theorem J2{ah:List aY}{x:Nm}{k:Nat}(h:Sm.mo (ej ah) x=some k)(e:k=rc ah x):rc ah x<ah.length:=by
 unfold Sm.mo at h;obtain⟨a,_⟩:=aq2.1 h;rw[ov,aqE]at a;rw[<-e];exact a
theorem Lv{V:Nm->Prop}{rs:Rs}{p:Nat}{ah:List aY}(h:yA T F A My az V rs p (.aL ah)):C6 T F A rs p (.aL ah)<ah.length:=by
 obtain⟨b,a,m,n,o,q,r,s,c,f,t⟩:=h;have d:=pD c;have g:u6 T F A rs p (.aL ah)=iZ T A (nZ T F A rs p (.aL ah) a).rd (kg a):=by
  show(match ah[eY T A rs p (.aL ah)]? with|some a=>iZ T A (nZ T F A rs p (.aL ah) a).rd (kg a)|none=>none)=_;rw[c]
 show(match u6 T F A rs p (.aL ah)with|none=>(if eY T A rs p (.aL ah)<ah.length then eY T A rs p (.aL ah)else 0)|some b=>rc ah b.to)<ah.length;rw[g,aqy d];cases i:iZ T A (nZ T F A rs p (.aL ah) a).rd (kg a)with
 |none=>exact d
 |some e=>
  obtain⟨_,_,_,l,j,k⟩:=f e (sM i);exact J2 j k
theorem J3(h:Wd T F G My az aj)(k:Mem T G (p7 u)):Mem T G ⟨Sm.aH.rd (aD T F A d u My az an),Sm.aH.rp (aD T F A d u My az an),Sm.aH.rs (aD T F A d u My az an)⟩:=by
 classical
 intro a;have b:=k a;have i:Sm.aH.rd (aD T F A d u My az an) a=if Sm.fE (nE T F A d u My az an) a then Sm.cd F a else u.mem a:=rfl
 have l:Sm.aH.rs (aD T F A d u My az an) a=if Sm.fE (nE T F A d u My az an) a/\F[a]?=some none then none else u.aj a:=rfl
 cases c:T.pt a with
 |val f=>
  rw[c]at b;show VT f (Sm.aH.rd (aD T F A d u My az an) a);rw[i];split
  ·exact h.fv a f c
  ·exact b
 |any=>trivial
 |aL g=>
  rw[c]at b;show 0<=Sm.aH.rd (aD T F A d u My az an) a/\Sm.aH.rd (aD T F A d u My az an) a<(g:Int);rw[i];split
  ·exact h.fa a g c
  ·exact b
 |call n=>
  rw[c]at b;intro j m;have e:Sm.aH.rs (aD T F A d u My az an) a=some j:=m;rw[l]at e;split at e
  ·cases e
  ·exact b j e
theorem AH(X:bD P T F A d u My az){J:Path}{b:aW}{s:Nat}{rs:Rs}(a:dh T F A d u J=some (b,s,rs)){j:Nat}{q:ay}{p:Nat}(c:(cJ b)[j]?=some q)(e:(jE b s)[j]?=some p):yB T q p:=by
 obtain⟨h,i,k,f,l,m⟩:=fm X.hL X.hU X.hS a;cases f with
 |mk n g sb=>exact g j q p c e
theorem y8(X:bD P T F A d u My az){J:Path}{b:aW}{s:Nat}{rs:Rs}(a:dh T F A d u J=some (b,s,rs)){j:Nat}{q:ay}{p:Nat}(c:(cJ b)[j]?=some q)(e:(jE b s)[j]?=some p): ∃V,Av T F A My az V rs p q/\ ∀x,V x->iQ T F A d u J x:=by
 obtain⟨V,f,i,k,g,l⟩:=fm X.hL X.hU X.hS a;exact⟨_,(oa f).2.2.1 j q p c e,λx h=>(g x).1 h⟩
theorem I0(X:bD P T F A d u My az)(hW:Wd T F G My az aj)(hM:Mem T G (p7 u))(hG: ∀m u i d8 o,My m u i d8 o->o.i=m/\G m o)(i:Nat):Mem T G (p7 (rC (aD T F A d u My az an) i)):=by
 intro a;have z:=J3 (A:=A) (d:=d) (an:=an) hW hM a;obtain⟨m1,m2⟩:=IS X (an:=an) i a;obtain⟨s1,s2⟩:=IT X (an:=an) i a;have M: ∀v,Sm.nU (aD T F A d u My az an) a v->match T.pt a with| .val t=>VT t v| .any=>True| .aL w=>0<=v/\v<(w:Int)| .call m=>False:=by
  intro v f;have d9:MT T a v->match T.pt a with| .val t=>VT t v| .any=>True| .aL w=>0<=v/\v<(w:Int)| .call m=>False:= λc=>by
   unfold MT at c;cases p:T.pt a with
   |val t=>rw[p]at c;exact c
   |any=>trivial
   |aL w=>rw[p]at c;exact c.elim
   |call m=>rw[p]at c;exact c.elim
  cases yQ f with
  |ew j m b Y I Z L l N O ht r=>
   obtain⟨d7,⟨B,C⟩,hV⟩:=y8 X l N O;apply d9;cases Z with
   |df x e=>
    have hs:=(yN X l (hV x B.1) W (.inl W)).1 ht;refine C ?_ (a,v) r;obtain⟨_,⟨D,g1,_⟩|⟨D,g1⟩⟩:=B
    ·exact⟨_,_,_,g1⟩
    ·rw[(lf g1).2.2]at hs;cases hs
   |call x ac co q Q U e=>
    obtain⟨w1,w2,w3⟩:=C;simp only[tc,aqC,aql]at r;cases U with
    |false=>
     rcases r with k|k|k
     ·cases k
     ·exact w2 (a,v) k
     ·exact w3 (a,v) k
    |true=>
     rcases r with k|k|k
     ·exact w1 W (a,v) k
     ·exact w2 (a,v) k
     ·exact w3 (a,v) k
   |sw e R=>exact C (a,v) r
   |aL R=>cases r
   |reset e Q=>exact C (a,v) r
  |last j D b Y I l hl OP=>
   have f9:D<(Sm.aH.fr (aD T F A d u My az an) j).vars.length:=by
    have s:=pD hl;have S:(Sm.aH.fr (aD T F A d u My az an) j).db.length=(Sm.aH.fr (aD T F A d u My az an) j).vars.length:=by
     show(eB T F A d u j).db.length=(eB T F A d u j).vars.length;rw[yI l,ng,kQ l];split
     ·simp[Sm.ey]
     ·simp[Sm.ey]
    omega
   obtain⟨n,g,Wc⟩:=y7 (My:=My) (az:=az) (an:=an) (aqi f9);have f4:n.last=true:=by
    by_cases e:n.last=true
    ·exact e
    ·exfalso;have M9: ∀{y:List Va} {q i:Nat} {n:Va},y[i]?=some n->n.last=false->(Sm.cm (y.map dW) q)[i]?=some none:=by
      intro y
      induction y with
      |nil=>intro q i n c _;simp at c
      |cons v y ih=>
       intro q i n c g;cases i with
       |zero=>simp at c;subst c;show(if v.last then _ else _)[0]?=_;rw[aqo (by rw[g];simp)];rfl
       |succ i=>
        have h':y[i]?=some n:=by simpa using c
        show(if v.last then _ else _)[i+1]?=_;split
        ·exact ih h' g
        ·exact ih h' g
     have Xv:n.last=false:=by simpa using e
     have h:(eB T F A d u j).db[D]?=some (some a):=hl;rw[yI l]at h;rw[kQ l]at g;by_cases e0:j= []
     ·rw[aqy e0]at h g;have J:(List.replicate d.ins.length (none:Option Nat)).length=d.ins.length:=by simp
      have M_:(Sm.cm (d.outs.map dW) (Sm.bP (ep d.b))).length=d.outs.length:=by rw[Sm.ey];simp
      rcases aqh D d.ins.length with s|s
      ·rw[aqD,aqf (by rw[J];exact s)]at h;simp[s]at h
      rcases aqh D (d.ins.length+d.outs.length)with S|S
      ·rw[aqD,aqm (by rw[J];exact s),aqf (by rw[J,M_];omega),J]at h;rw[aqD,aqm s,aqf (by omega)]at g;rw[M9 g Xv]at h;cases h
      ·rw[aqm (by simp[M_];omega)]at h;simp only[aqg,J,M_]at h;rw[aqm (by simp;omega)]at g;simp only[aqg]at g;rw[M9 g Xv]at h;cases h
     ·rw[aqo e0]at h g;rw[M9 g Xv]at h;cases h
   obtain⟨E,q2,q3⟩:=(IL (an:=an) X l g).lp f4;rw[hl]at E;injection E with E
   injection E with E
   have NO:=(Ey (My:=My) (az:=az) (an:=an) j g).1;rw[OP]at NO;rw[E,q2];have:val A n.name=v:=by rw[<-Az,<-NO];rfl
   rw[<-this];exact q3
  |aL j m b Y I R l N O OP=>
   obtain⟨d7,⟨B,C⟩,hV⟩:=y8 X l N O;have Nu:=AH X l N O;rw[Nu,OP];have:=Lv B;simp only;omega
 cases p:T.pt a with
 |val t=>
  rw[p]at z M;show VT t ((rC (aD T F A d u My az an) i).mem a);by_cases f: ∃v,Sm.nU (aD T F A d u My az an) a v
  ·obtain⟨v,f⟩:=f;rw[m1 v f];exact M v f
  ·rw[m2 (λv c=>f ⟨v,c⟩)];exact z
 |any=>trivial
 |aL w=>
  rw[p]at z M;show 0<=(rC (aD T F A d u My az an) i).mem a/\(rC (aD T F A d u My az an) i).mem a<(w:Int);by_cases f: ∃v,Sm.nU (aD T F A d u My az an) a v
  ·obtain⟨v,f⟩:=f;rw[m1 v f];exact M v f
  ·rw[m2 (λv c=>f ⟨v,c⟩)];exact z
 |call m=>
  rw[p]at z;intro o Sd;have H:(rC (aD T F A d u My az an) i).aj a=some o:=Sd;by_cases f: ∃v,Sm.xV (aD T F A d u My az an) a v
  ·obtain⟨v,f⟩:=f;rw[s1 v f]at H;injection H with H
   subst H;obtain⟨j,j',q',s,S,K,h4,h5,h6⟩:=f;obtain⟨b,Y,I,Z,L,f1,f2,f3,rfl,f5,f6⟩:=jP (show(eB T F A d u j).au[j']?=some q' from S);have TS:L=a:=by
    have ZE:(eB T F A d u j).pos[j']?=some a:=h5;rw[f5]at ZE;injection ZE
   subst TS;rw[ez]at K;cases Z with
   |df x e=>simp[de]at K
   |sw e R=>simp[de]at K
   |aL R=>simp[de]at K
   |reset e b=>simp[de]at K
   |call x ac co q Q U e=>
    obtain⟨d7,⟨B,C⟩,hV⟩:=y8 X f1 f2 f3;obtain⟨_,_,_,jj,ii,ox,oy,f7,hf,k1,k2,_,_,_,Nu,WE⟩:=B;have V:=(AH X f1 f2 f3).1 jj hf;rw[p]at V;injection V with V
    subst V;have d6: ∃o,FB T A My az I L (.call x ac co q Q U e) o:=⟨f7,m,hf,by rw[ri k1,ri k2];exact Nu⟩;have hq:wB T A My az I L (.call x ac co q Q U e)=Classical.choose d6:=by unfold wB;rw[asV d6]
    obtain⟨j2,O1,f8⟩:=arN d6;rw[hf]at O1;have:=(gS O1).2;subst this;rw[h6,(yO f6).2.1,hq];exact hG _ _ _ _ _ f8
  ·rw[s2 (λv c=>f ⟨v,c⟩)]at H;exact z o H
end
end Go.Ex
namespace Go.Ex
open Go.Mt Go.Mk
def ug(p:Nat):List Va->List (Va×Nat)
 | []=>[]
 |v::l=>(v,p)::ug (if v.last then p+1 else p) l
mutual
def Dd(p:Nat):ay->List (Va×Nat)
 | .df _ _=>[]
 | .call _ _ _ _ _ _ _=>[]
 | .sw e ah=>oZ (p+xE e) ah
 | .aL ah=>oZ (p+1) ah
 | .reset e b=>BP (p+xE e) b
def oZ(p:Nat):List aY->List (Va×Nat)
 | []=>[]
 | .mk _ b _ _::l=>BP p b++oZ (p+Sm.bP (ep b)) l
def BP(p:Nat):aW->List (Va×Nat)
 | .mk vars au=>ug p vars++kJ (p+Sm.aR (vars.map dW)) au
def kJ(p:Nat):List ay->List (Va×Nat)
 | []=>[]
 |q::l=>Dd p q++kJ (p+Sm.qP (di q)) l
end
abbrev tn(l:List (Va×Nat)):List Nm:=l.map (·.1.name)
theorem EG: ∀(l:List Va) (p:Nat),tn (ug p l)=l.map (·.name)
 | [],p=>rfl
 |v::l,p=>by simp only[ug,tn,aqN];rw[show List.map (λa:Va×Nat=>a.1.name) (ug (if v.last then p+1 else p) l)=l.map (·.name)from EG l _]
theorem AJ(l r:List aY): ∀p,∃a,oZ p (l++r)=oZ p l++oZ a r:=by
 induction l with
 |nil=>intro p;exact⟨p,by simp[oZ]⟩
 |cons c l e=>
  intro p;cases c with
  |mk f b g h=>
   obtain⟨a,d⟩:=e (p+Sm.bP (ep b));exact⟨a,by simp only[arl,oZ];rw[d,aqD]⟩
theorem AK(l r:List ay): ∀p,∃a,kJ p (l++r)=kJ p l++kJ a r:=by
 induction l with
 |nil=>intro p;exact⟨p,by simp[kJ]⟩
 |cons b l d=>
  intro p;obtain⟨a,c⟩:=d (p+Sm.qP (di b));exact⟨a,by simp only[arl,kJ];rw[c,aqD]⟩
structure o5(n n':Nat)(l:List Nm):Prop where
 b: ∀x∈l,fV n n' x
 d:l.Nodup
theorem o5.nil{n n':Nat} :o5 n n' []:=⟨λb a=>(by cases a),arQ⟩
theorem o5.app{n m n':Nat}{l r:List Nm}(h:o5 n m l)(g:o5 m n' r)(d:n<=m)(f:m<=n'):o5 n n' (l++r):=by
 refine⟨λa c=> ?_,?_⟩
 ·rcases aql.1 c with b|b
  ·exact(h.b a b).mono (aqd _) f
  ·exact(g.b a b).mono d (aqd _)
 ·rw[aq8];refine⟨h.d,g.d,λa c j i e=> ?_⟩;subst e;exact(h.b a c).not (g.b a i).gt
theorem o5.perm{n n':Nat}{l r:List Nm}(h:o5 n n' l)(a:l.Perm r):o5 n n' r:=⟨λb c=>h.b b (a.mem_iff.2 c),a.nodup_iff.1 h.d⟩
def De(Sub:Sc->List Va->Nat->Nat->aW->Prop):Prop:= ∀s outs n n' b,Sub s outs n n' b->n<=n'/\ ∀p,o5 n n' (tn (BP p b))
section
variable{Sub:Sc->List Va->Nat->Nat->aW->Prop}
theorem Df(d:De Sub){s:Sc}{outs:List Va}{names:List Nm}{n n':Nat}{ah:List aY}(h:mu Sub s outs names n ah n'):n<=n'/\ ∀p,o5 n n' (tn (oZ p ah)):=by
 induction h with
 |nil=>exact⟨aqd _,λp=>o5.nil⟩
 | @snoc ah l m h c o k q r b f a=>
  obtain⟨g,i⟩:=d _ _ _ _ _ f;refine⟨by grind,λp=> ?_⟩;obtain⟨j,e⟩:=AJ ah [.mk c b [] []] p;rw[e,tn,aqO];refine(a.2 p).app ?_ a.1 g;simp only[oZ,aqC];exact i j
theorem J4(c:De Sub){s:Sc}{outs:List Va}{N n n':Nat}{ah:List aY}(h:tu Sub s outs N n ah n'):n<=n'/\ ∀p,o5 n n' (tn (oZ p ah)):=by
 induction h with
 |nil=>exact⟨aqd _,λp=>o5.nil⟩
 | @snoc ah m o h l q r d t b f g u a=>
  obtain⟨i,j⟩:=c _ _ _ _ _ f;refine⟨by grind,λp=> ?_⟩;obtain⟨k,e⟩:=AJ ah [.mk (nm 83 ah.length) b d g] p;rw[e,tn,aqO];refine(a.2 p).app ?_ a.1 i;simp only[oZ,aqC];exact j k
theorem Kv(k:De Sub){w:Nat}{s:Sc}{outs:List Va}{n n':Nat}{q:List ay}{l:List Va}(h:GQ Sub w s outs n n' q l):n<=n'/\ ∀p,o5 n n' (l.map (·.name)++tn (kJ p q)):=by
 induction h with
 | @rz s outs n g h=>
  refine⟨aqd _,λp=> ?_⟩;have y: ∀{outs:List Va} {g:List ay},oX s outs g-> ∀p,kJ p g= []:=by
   intro outs g h
   induction h with
   |nil=>intro p;rfl
   | @snoc o g h t e i c=>
    intro p;obtain⟨C,x⟩:=AK g [.df t.name e] p;rw[x,c p];rfl
  rw[y h p];exact o5.nil
 |sD i d r=>obtain⟨a,f⟩:=Df k d;exact⟨a,λp=>by simp only[kJ,Dd,aqC,arf,aqK];exact f _⟩
 |pA i d r=>obtain⟨a,f⟩:=Df k d;exact⟨a,λp=>by simp only[kJ,Dd,aqC,arf,aqK];exact f _⟩
 |aL z D d r=>obtain⟨a,f⟩:=J4 k d;exact⟨a,λp=>by simp only[kJ,Dd,aqC,arf,aqK];exact f _⟩
 |reset i m=>obtain⟨a,f⟩:=k _ _ _ _ _ m;exact⟨a,λp=>by simp only[kJ,Dd,aqC,arf,aqK];exact f _⟩
 | @call s outs n n' o l A E u b d m J e i h c=>
  refine⟨by grind,λp=> ?_⟩;simp only[kJ,Dd,aqK,aqN];have a:o5 n (n+2) [nm 117 (n+1),nm 117 (n+2)]:=by
   refine⟨λv j=> ?_,?_⟩
   ·simp only[aqs,aqx,aq9]at j;rcases j with rfl|rfl
    ·exact⟨117,n+1,by omega,by omega,rfl⟩
    ·exact⟨117,n+2,by omega,by omega,rfl⟩
   ·simp only[asl,aqp,aqx,ast,arQ,and_true];intro e;have:=(gS e).2;omega
  exact a.app (c.2 _) (by omega) c.1
 | @lN s outs n n' o l u b B F e cB d m G H i I h c=>
  refine⟨by grind,λp=> ?_⟩;simp only[kJ,Dd,aqK,aqN];have a:o5 n (n+3) [nm 99 (n+1),nm 119 (n+2),nm 122 (n+3)]:=by
   refine⟨λv j=> ?_,?_⟩
   ·simp only[aqs,aqx,aq9]at j;rcases j with rfl|rfl|rfl
    ·exact⟨99,n+1,by omega,by omega,rfl⟩
    ·exact⟨119,n+2,by omega,by omega,rfl⟩
    ·exact⟨122,n+3,by omega,by omega,rfl⟩
   ·simp only[asl,aqs,aqx,aq9,not_or,ast,arQ,and_true];exact⟨⟨λe=>by have:=(gS e).2;omega,λe=>by have:=(gS e).2;omega⟩,λe=>by have:=(gS e).2;omega⟩
  exact a.app (c.2 _) (by omega) c.1
theorem L0{Q:Sc->List Va->Nat->Nat->List ay->List Va->Prop}(i: ∀s u n b d a,Q s u n b d a->n<=b/\ ∀p,o5 n b (a.map (·.name)++tn (kJ p d))){j:Sc}{k:List Va}{c:Nat}{s:Sc}{g:List Va}{n:Nat}{q:List ay}{a:List Va}(h:GL Q j k c s g n q a):c<=n/\ ∀p,o5 c n (a.map (·.name)++tn (kJ p q)):=by
 induction h with
 |start=>exact⟨aqd _,λp=>o5.nil⟩
 | @step s g n w q a l x h v y z A m f=>
  obtain⟨o,r⟩:=i _ _ _ _ _ _ m;refine⟨by grind,λp=> ?_⟩;obtain⟨t,e⟩:=AK q l p;rw[e,tn,aqO,aqO];refine((f.2 p).app (r t) f.1 o).perm ?_;simp only[tn,aqD];refine List.Perm.append_left _ ?_;rw[<-aqD,<-aqD];exact List.Perm.append_right _ List.perm_append_comm
theorem I1{Q:Sc->List Va->Nat->Nat->List ay->List Va->Prop}(k: ∀f i c d h a,Q f i c d h a->c<=d/\ ∀e,o5 c d (a.map (·.name)++tn (kJ e h))):De (CO Q):=by
 rintro f i c d b ⟨a,s,t,r,j,l,u,m,rfl⟩;obtain⟨n,v,o⟩:=BG l;obtain⟨p,q⟩:=L0 k m;refine⟨by omega,λe=> ?_⟩;simp only[BP,tn,aqO];rw[show List.map (λg:Va×Nat=>g.1.name) (ug e (a++j))=(a++j).map (·.name)from EG _ _,aqO,aqD];exact o5.app ⟨λg w=>by grind,o⟩ (q _) n p
theorem Kw(b:Nat): ∀d,De (GB b d)
 |0=>I1 λc i e f g h a=>Kv (λ_ _ _ _ _ a=>a.elim) a
 |d+1=>I1 λc i e f g h a=>Kv (Kw b d) a
end
def jh(T:dS):E->List PK
 | .un _ a=>jh T a
 | .bin _ a b=>jh T a++jh T b
 | .ite c a b=>jh T c++(jh T a++jh T b)
 | .fA c y=> .val (pP T c)::(jh T c++jh T y)
 | .pre y=> .val (pP T y)::jh T y
 | .arrow a b=> .any::(jh T a++jh T b)
 | .e_ _ _ a=>jh T a
 | .merge _ _ _ _ a b c=>jh T a++(jh T b++jh T c)
 |_=>[]
def Has(pt:Nat->PK)(p:Nat)(l:List PK):Prop:= ∀(i:Nat) (x:PK),l[i]?=some x->pt (p+i)=x
theorem Has.app{pt:Nat->PK}{p:Nat}{l r:List PK}(h:Has pt p (l++r)):Has pt p l/\Has pt (p+l.length) r:=by
 refine⟨λa b c=>h a b ?_,λa b c=> ?_⟩
 ·grind
 ·have:=h (l.length+a) b (by grind);rw[<-this];congr 1;omega
theorem Has.cons{pt:Nat->PK}{p:Nat}{y:PK}{r:List PK}(h:Has pt p (y::r)):pt p=y/\Has pt (p+1) r:=by
 have:=Has.app (l:=[y]) (r:=r) h;exact⟨this.1 0 y W,this.2⟩
theorem Lw(op:Int)(a:E):xE (.un op a)=xE a:=by simp[xE,cg,Sm.xP,Sm.fQ,Sm.dE]
theorem J5(op:Int)(a b:E):xE (.bin op a b)=xE a+xE b:=by simp[xE,cg,Sm.xP,Sm.fQ,Sm.dE]
theorem J6(c a b:E):xE (.ite c a b)=xE c+(xE a+xE b):=by simp[xE,cg,Sm.xP,Sm.fQ,Sm.dE]
theorem J7(c y:E):xE (.fA c y)=(xE c+xE y)+1:=by simp[xE,cg,Sm.xP,Sm.fQ,Sm.dE];omega
theorem J8(y:E):xE (.pre y)=xE y+1:=by simp[xE,cg,Sm.xP,Sm.fQ,Sm.dE];omega
theorem Hg(a b:E):xE (.arrow a b)=(xE a+xE b)+1:=by simp[xE,cg,Sm.xP,Sm.fQ,Sm.dE];omega
theorem J9(x c:Nm)(a:E):xE (.e_ x c a)=xE a:=by simp[xE,cg,Sm.xP,Sm.fQ,Sm.dE]
theorem Hh(x d e f:Nm)(a b c:E):xE (.merge x d e f a b c)=xE a+(xE b+xE c):=by simp[xE,cg,Sm.xP,Sm.fQ,Sm.dE]
theorem cN(T:dS): ∀e:E,(jh T e).length=xE e
 | .nil=>rfl
 | .int _=>rfl
 | .bool _=>rfl
 | .ctor _=>rfl
 | .var _=>rfl
 | .last _=>rfl
 | .un g a=>by rw[Lw];exact cN T a
 | .bin g a b=>by rw[J5,jh,aqg,cN T a,cN T b]
 | .ite c a b=>by rw[J6,jh,aqg,aqg,cN T c,cN T a,cN T b]
 | .fA c d=>by rw[J7,jh,aqw,aqg,cN T c,cN T d]
 | .pre d=>by rw[J8,jh,aqw,cN T d]
 | .arrow a b=>by rw[Hg,jh,aqw,aqg,cN T a,cN T b]
 | .e_ f c a=>by rw[J9];exact cN T a
 | .merge f h i j a b c=>by rw[Hh,jh,aqg,aqg,cN T a,cN T b,cN T c]
theorem iS(T:dS): ∀{e:E} {p:Nat},Has T.pt p (jh T e)->gP T e p
 | .nil,_,_=>trivial
 | .int _,_,_=>trivial
 | .bool _,_,_=>trivial
 | .ctor _,_,_=>trivial
 | .var _,_,_=>trivial
 | .last _,_,_=>trivial
 | .un k h,p,d=>iS T (e:=h) d
 | .bin k h b,p,d=>by
  obtain⟨g,a⟩:=Has.app d;rw[cN]at a;exact⟨iS T g,iS T a⟩
 | .ite c h b,p,d=>by
  obtain⟨g,a⟩:=Has.app d;obtain⟨a,f⟩:=Has.app a;rw[cN]at a f;rw[cN]at f;exact⟨iS T g,iS T a,iS T f⟩
 | .fA c i,p,d=>by
  obtain⟨g,a⟩:=Has.cons d;obtain⟨a,f⟩:=Has.app a;rw[cN]at f;exact⟨g,iS T f⟩
 | .pre i,p,d=>by
  obtain⟨g,a⟩:=Has.cons d;exact⟨g,iS T a⟩
 | .arrow h b,p,d=>by
  obtain⟨g,a⟩:=Has.cons d;obtain⟨a,f⟩:=Has.app a;rw[cN]at f;exact⟨g,iS T a,iS T f⟩
 | .e_ j c h,p,d=>iS T (e:=h) d
 | .merge j l m n h b c,p,d=>by
  obtain⟨g,a⟩:=Has.app d;obtain⟨a,f⟩:=Has.app a;rw[cN]at a f;rw[cN]at f;exact⟨iS T g,iS T a,iS T f⟩
open Classical in
noncomputable def BQ(f:Nm):Nat:=if h: ∃j,f=nm 102 j then Classical.choose h else 0
theorem EH(j:Nat):BQ (nm 102 j)=j:=by
 have a: ∃b,nm 102 j=nm 102 b:=⟨j,rfl⟩;unfold BQ;rw[asV a];exact((gS (arN a)).2).symm
def nF(l:List Va):List PK:=(l.filter (·.last)).map λv=> .val v.ty
mutual
noncomputable def kK(T:dS):ay->List PK
 | .df _ e=>jh T e
 | .call _ _ f a b _ e=> .call (BQ f)::(jh T e++(jh T a++jh T b))
 | .sw e ah=>jh T e++pE T ah
 | .aL ah=> .aL ah.length::pE T ah
 | .reset e b=>jh T e++oe T b
noncomputable def pE(T:dS):List aY->List PK
 | []=>[]
 | .mk _ b _ _::l=>oe T b++pE T l
noncomputable def oe(T:dS):aW->List PK
 | .mk vars au=>nF vars++qt T au
noncomputable def qt(T:dS):List ay->List PK
 | []=>[]
 |q::l=>kK T q++qt T l
end
theorem Dg(l:List Va):(nF l).length=Sm.aR (l.map dW):=by
 unfold nF Sm.aR;rw[aqE,List.filter_map,aqE];rfl
mutual
theorem Dh(T:dS): ∀q:ay,(kK T q).length=Sm.qP (di q)
 | .df d e=>by
  have a:Sm.qP (di (.df d e))=xE e+0+0+0:=rfl;rw[a,kK];exact cN T e
 | .call d g h f b i e=>by
  have a:Sm.qP (di (.call d g h f b i e))=xE e+(xE f+(xE b+0))+1+0:=rfl;rw[a,kK,aqw,aqg,aqg,cN,cN,cN];omega
 | .sw e c=>by
  have a:Sm.qP (di (.sw e c))=xE e+0+0+Sm.kp (ej c):=rfl;rw[a,kK,aqg,cN,vW T c];omega
 | .aL c=>by
  have a:Sm.qP (di (.aL c))=0+0+1+Sm.kp (ej c):=rfl;rw[a,kK,aqw,vW T c];omega
 | .reset e b=>by
  have a:Sm.qP (di (.reset e b))=xE e+0+0+(Sm.bP (ep b)+0):=rfl;rw[a,kK,aqg,cN,sP T b];omega
theorem vW(T:dS): ∀l:List aY,(pE T l).length=Sm.kp (ej l)
 | []=>rfl
 | .mk a b c d::l=>by
  have e:Sm.kp (ej (.mk a b c d::l))=Sm.bP (ep b)+Sm.kp (ej l):=rfl;rw[e,pE,aqg,sP T b,vW T l]
theorem sP(T:dS): ∀b:aW,(oe T b).length=Sm.bP (ep b)
 | .mk c a=>by
  have d:Sm.bP (ep (.mk c a))=Sm.aR (c.map dW)+Sm.uD (eR a):=rfl;rw[d,oe,aqg,Dg,AL T a]
theorem AL(T:dS): ∀l:List ay,(qt T l).length=Sm.uD (eR l)
 | []=>rfl
 |a::l=>by
  have b:Sm.uD (eR (a::l))=Sm.qP (di a)+Sm.uD (eR l):=rfl;rw[b,qt,aqg,Dh T a,AL T l]
end
def Lx:PK->Option Int->Prop
 | .val t,some v=>VT t v
 | .any,some _=>True
 | .aL N,none=>0<N
 | .call _,none=>True
 |_,_=>False
def FA(l:List PK)(m:List (Option Int)):Prop:=l.length=m.length/\ ∀(i:Nat) (x:PK) (y:Option Int),l[i]?=some x->m[i]?=some y->Lx x y
theorem FA.nil:FA [] []:=⟨rfl,λb c d a=>by simp at a⟩
theorem FA.app{l g:List PK}{m i:List (Option Int)}(h:FA l m)(j:FA g i):FA (l++g) (m++i):=by
 refine⟨by rw[aqg,aqg,h.1,j.1],λd e f b c=> ?_⟩;rcases aqh d l.length with a|a
 ·rw[aqf a]at b;rw[aqf (by rw[<-h.1];exact a)]at c;exact h.2 d e f b c
 ·rw[aqm a]at b;rw[aqm (by rw[<-h.1];exact a),<-h.1]at c;exact j.2 _ e f b c
theorem FA.cons{x:PK}{y:Option Int}{l:List PK}{m:List (Option Int)}(d:Lx x y)(h:FA l m):FA (x::l) (y::m):=by
 have:FA [x] [y]:=⟨rfl,λa c b e f=>by
  grind⟩
 exact FA.app this h
def nq:E->Prop
 | .un _ a=>nq a
 | .bin _ a b=>nq a/\nq b
 | .ite c a b=>nq c/\nq a/\nq b
 | .fA c y=>(∃t,GC t c)/\nq y
 | .pre y=>nq y
 | .arrow a b=>nq a/\nq b
 | .e_ _ _ a=>nq a
 | .merge _ _ _ _ a b c=>nq a/\nq b/\nq c
 |_=>True
theorem BR{t:Ty}{e:E}(h:GC t e):nq e:=by cases h<;>trivial
theorem o7{s:Sc}{t:Ty}{st:Bool}{d:Nat}{e:E}(h:GE s t st d e):nq e:=by
 induction h with
 |v h=>cases h with
  |vw h=>exact BR h
  |var h=>obtain⟨v,_,_,_,rfl⟩:=h;trivial
 |c h=>exact BR h
 |ite i f g j a b=>exact⟨j,a,b⟩
 |fA i f a=>exact⟨⟨_,i⟩,a⟩
 |arrow f g a b=>exact⟨a,b⟩
 |last h=>obtain⟨v,_,_,_,rfl⟩:=h;trivial
 |neg f a=>exact a
 |arith k l f g a b=>exact⟨a,b⟩
 |not f a=>exact a
 |kz k m l f g a b=>exact⟨a,b⟩
theorem I2(t:Ty):VT t 0:=by
 cases t with
 |bool=>exact .inl W
 |int=>show Sm.oW 0;unfold Sm.oW;omega
 |eO=>exact .inl W
theorem AM{t:Ty}{e:E}(h:GC t e):VT t (Sm.oO cI (cg e)):=by
 cases h with
 |bool h=>exact h
 |int h=>
  rename_i b;show Sm.oW b;simp only[aqs,aqx,aq9]at h;unfold Sm.oW;omega
 |eO h=>
  rename_i a;have:Sm.oO cI (cg (.ctor a))=gO a:=yL h;rw[this];simp only[aqs,aqx,aq9]at h;rcases h with rfl|rfl|rfl
  ·exact .inl W
  ·exact .inr (.inl W)
  ·exact .inr (.inr W)
theorem kL(T:dS): ∀{e:E},nq e->FA (jh T e) (Sm.gW cI (cg e))
 | .nil,_=>FA.nil
 | .int _,_=>FA.nil
 | .bool _,_=>FA.nil
 | .ctor _,_=>FA.nil
 | .var _,_=>FA.nil
 | .last _,_=>FA.nil
 | .un i d,a=>by
  have f:Sm.gW cI (cg (.un i d))= []++(Sm.gW cI (cg d)++ []):=rfl;rw[f,aqK,aqC];exact kL T (e:=d) a
 | .bin i d b,a=>by
  have f:Sm.gW cI (cg (.bin i d b))= []++(Sm.gW cI (cg d)++(Sm.gW cI (cg b)++ [])):=rfl;rw[f,aqK,aqC];exact(kL T a.1).app (kL T a.2)
 | .ite c d b,a=>by
  have f:Sm.gW cI (cg (.ite c d b))= []++(Sm.gW cI (cg c)++(Sm.gW cI (cg d)++(Sm.gW cI (cg b)++ []))):=rfl;rw[f,aqK,aqC];exact(kL T a.1).app ((kL T a.2.1).app (kL T a.2.2))
 | .fA c g,a=>by
  have f:Sm.gW cI (cg (.fA c g))= [some (Sm.oO cI (cg c))]++(Sm.gW cI (cg c)++(Sm.gW cI (cg g)++ [])):=rfl;obtain⟨⟨o,j⟩,k⟩:=a;rw[f,aqC];refine FA.cons ?_ ((kL T (BR j)).app (kL T k));rw[sI j];exact AM j
 | .pre g,a=>by
  have f:Sm.gW cI (cg (.pre g))= [some 0]++(Sm.gW cI (cg g)++ []):=rfl;rw[f,aqC];exact FA.cons (I2 _) (kL T (e:=g) a)
 | .arrow d b,a=>by
  have f:Sm.gW cI (cg (.arrow d b))= [some 1]++(Sm.gW cI (cg d)++(Sm.gW cI (cg b)++ [])):=rfl;rw[f,aqC];exact FA.cons trivial ((kL T a.1).app (kL T a.2))
 | .e_ h c d,a=>by
  have f:Sm.gW cI (cg (.e_ h c d))= []++(Sm.gW cI (cg d)++ []):=rfl;rw[f,aqK,aqC];exact kL T (e:=d) a
 | .merge h l m n d b c,a=>by
  have f:Sm.gW cI (cg (.merge h l m n d b c))= []++(Sm.gW cI (cg d)++(Sm.gW cI (cg b)++(Sm.gW cI (cg c)++ []))):=rfl;rw[f,aqK,aqC];exact(kL T a.1).app ((kL T a.2.1).app (kL T a.2.2))
def EI:ay->Prop
 | .df _ e=>nq e
 | .call _ _ _ a b _ e=>nq e/\nq a/\nq b
 | .sw e _=>nq e
 | .aL ah=>0<ah.length
 | .reset e _=>nq e
inductive vX:aW->Prop where
 |mk {b:aW} (hv: ∀v∈c8 b,v.last=true->GC v.ty v.first) (hq: ∀q∈cJ b,EI q) (hb: ∀q∈cJ b,∀a∈cq q,vX (dG a)):vX b
theorem Kx(l:List Va)(h: ∀v∈l,v.last=true->GC v.ty v.first):FA (nF l) (Sm.iF cI (l.map dW)):=by
 induction l with
 |nil=>exact FA.nil
 |cons v l f=>
  have d:=f (λe g=>h e (aqF _ g));by_cases a:v.last=true
  ·have b:nF (v::l)= .val v.ty::nF l:=by unfold nF;rw[arY (by omega)];rfl
   have c:Sm.iF cI ((v::l).map dW)=some (Sm.oO cI (cg v.first))::Sm.iF cI (l.map dW):=by
    unfold Sm.iF;rw[aqN,arY (show(dW v).last=true from a)];rfl
   rw[b,c];exact FA.cons (AM (h v (aqP ..) a)) d
  ·have b:nF (v::l)=nF l:=by unfold nF;rw[arZ (by omega)]
   have c:Sm.iF cI ((v::l).map dW)=Sm.iF cI (l.map dW):=by
    unfold Sm.iF;rw[aqN,arZ (show ¬(dW v).last=true from a)]
   rw[b,c];exact d
theorem L3(T:dS){b:aW}(h:vX b):FA (oe T b) (Sm.ku cI (ep b)):=by
 induction h with
 | @mk b x m B y=>
  have r: ∀{f:List aY},(∀a∈f,FA (oe T (dG a)) (Sm.ku cI (ep (dG a))))->FA (pE T f) (Sm.lR cI (ej f)):=by
   intro f
   induction f with
   |nil=>intro _;exact FA.nil
   |cons a d n=>
    intro h;cases a with
    |mk s b t u=>
     have j:Sm.lR cI (ej (.mk s b t u::d))=Sm.ku cI (ep b)++Sm.lR cI (ej d):=rfl;rw[j,pE];exact(h _ (aqP ..)).app (n (λa k=>h a (aqF _ k)))
  have z: ∀{d:List ay},(∀c∈d,EI c/\ ∀a∈cq c,FA (oe T (dG a)) (Sm.ku cI (ep (dG a))))->FA (qt T d) (Sm.mT cI (eR d)):=by
   intro d
   induction d with
   |nil=>intro _;exact FA.nil
   |cons c d n=>
    intro h;have j:Sm.mT cI (eR (c::d))=Sm.tS cI (di c)++Sm.mT cI (eR d):=rfl;rw[j,qt];refine FA.app ?_ (n (λc m=>h c (aqF _ m)));obtain⟨i,k⟩:=h c (aqP ..);cases c with
    |df l e=>
     have g:Sm.tS cI (di (.df l e))= []++(Sm.gW cI (cg e)++ [])++ []:=rfl;rw[g,kK,aqC,aqC,aqK];exact kL T i
    |call l v w a b A e=>
     have g:Sm.tS cI (di (.call l v w a b A e))= [none]++(Sm.gW cI (cg e)++(Sm.gW cI (cg a)++(Sm.gW cI (cg b)++ [])))++ []:=rfl;rw[g,kK,aqC,aqC];exact FA.cons trivial ((kL T i.1).app ((kL T i.2.1).app (kL T i.2.2)))
    |sw e f=>
     have g:Sm.tS cI (di (.sw e f))= []++(Sm.gW cI (cg e)++ [])++Sm.lR cI (ej f):=rfl;rw[g,kK,aqC,aqK];exact(kL T i).app (r k)
    |aL f=>
     have g:Sm.tS cI (di (.aL f))= [none]++([]++ [])++Sm.lR cI (ej f):=rfl;rw[g,kK,aqC,aqC];exact FA.cons i (r k)
    |reset e b=>
     have g:Sm.tS cI (di (.reset e b))= []++(Sm.gW cI (cg e)++ [])++(Sm.ku cI (ep b)++ []):=rfl;rw[g,kK,aqC,aqC,aqK];exact(kL T i).app (k (.mk e0 b [] []) (aru _))
  cases b with
  |mk o p=>
   have j:Sm.ku cI (ep (.mk o p))=Sm.iF cI (o.map dW)++Sm.mT cI (eR p):=rfl;rw[j,oe];exact(Kx o x).app (z λc q=>⟨m c q,y c q⟩)
section
variable{Sub:Sc->List Va->Nat->Nat->aW->Prop}
def Di(Sub:Sc->List Va->Nat->Nat->aW->Prop):Prop:= ∀s outs n n' b,Sub s outs n n' b->vX b
theorem Dj(f:Di Sub){s:Sc}{outs:List Va}{names:List Nm}{n n':Nat}{ah:List aY}(h:mu Sub s outs names n ah n'): ∀a∈ah,vX (dG a):=by
 induction h with
 |nil=>intro a e;cases e
 |snoc h c k j l m b g i=>
  intro a e;rcases aql.1 e with d|d
  ·exact i a d
  ·rw[aqp]at d;subst d;exact f _ _ _ _ _ g
theorem J_(e:Di Sub){s:Sc}{outs:List Va}{N n n':Nat}{ah:List aY}(h:tu Sub s outs N n ah n'): ∀a∈ah,vX (dG a):=by
 induction h with
 |nil=>intro a d;cases d
 |snoc h i j k l m b f o p g=>
  intro a d;rcases aql.1 d with c|c
  ·exact g a c
  ·rw[aqp]at c;subst c;exact e _ _ _ _ _ f
theorem Ky(l:Di Sub){r:Nat}{s:Sc}{outs:List Va}{n n':Nat}{m:List ay}{t:List Va}(h:GQ Sub r s outs n n' m t): ∀q∈m,EI q/\ ∀a∈cq q,vX (dG a):=by
 induction h with
 | @rz s outs n q h=>
  have x: ∀{outs:List Va} {q:List ay},oX s outs q-> ∀e∈q,EI e/\cq e= []:=by
   intro outs q h
   induction h with
   |nil=>intro e f;cases f
   |snoc h y e f i=>
    intro g c;rcases aql.1 c with k|k
    ·exact i g k
    ·rw[aqp]at k;subst k;exact⟨o7 f,rfl⟩
  intro e f;exact⟨(x h e f).1,λa d=>by grind⟩
 |sD f d o=>intro g c;rw[aqp]at c;subst c;exact⟨o7 f,Dj l d⟩
 |pA f d o=>intro g c;rw[aqp]at c;subst c;exact⟨o7 f,Dj l d⟩
 |aL z C d o=>intro g c;rw[aqp]at c;subst c;exact⟨show 0<_ by omega,J_ l d⟩
 |reset f j=>
  intro g c;rw[aqp]at c;subst c;refine⟨o7 f,λa d=> ?_⟩;have p:a∈ [aY.mk e0 _ [] []]:=d;rw[aqp]at p;subst p;exact l _ _ _ _ _ j
 |call A D a b d j F e f h i=>
  intro g c;rcases aqs.1 c with rfl|c
  ·refine⟨⟨?_,o7 d,o7 j⟩,λa d=>(by cases d)⟩;rcases f with⟨_,rfl⟩|⟨_,f⟩
   ·trivial
   ·exact o7 f
  ·exact i g c
 |lN a b B E e cB d j u v f w h i=>
  intro g c;rcases aqs.1 c with rfl|c
  ·exact⟨o7 f,λa d=>(by cases d)⟩
  rcases aqs.1 c with rfl|c
  ·refine⟨?_,λa d=>(by cases d)⟩;rcases w with rfl|rfl
   ·exact(show nq a from o7 d)
   ·exact⟨⟨_,v⟩,trivial,(show nq a from o7 d)⟩
  rcases aqs.1 c with rfl|c
  ·exact⟨⟨(show nq b from o7 j),trivial,BR u⟩,λa d=>(by cases d)⟩
  ·exact i g c
theorem L4{Q:Sc->List Va->Nat->Nat->List ay->List Va->Prop}(t: ∀s o n g e c,Q s o n g e c-> ∀q∈e,EI q/\ ∀a∈cq q,vX (dG a)){i:Sc}{j:List Va}{k:Nat}{s:Sc}{p:List Va}{n:Nat}{q:List ay}{c:List Va}(h:GL Q i j k s p n q c): ∀b∈q,EI b/\ ∀a∈cq b,vX (dG a):=by
 induction h with
 |start=>intro q f;cases f
 |step h r u v w f l=>
  intro b m;rcases aql.1 m with d|d
  ·exact l b d
  ·grind
theorem Hi{n m:Nat}{b:List Va}(h:NV n b m): ∀v∈b,v.last=true->GC v.ty v.first:=by
 induction h with
 |nil=>intro v a;cases a
 |snoc h d e f g i=>
  intro v a j;rcases aql.1 a with c|c
  ·grind
  ·grind
theorem I3{Q:Sc->List Va->Nat->Nat->List ay->List Va->Prop}(l: ∀d h e f g c,Q d h e f g c->(∀a∈g,EI a/\ ∀o∈cq a,vX (dG o))/\ ∀v∈c,v.last=false):Di (CO Q):=by
 rintro d h e f b ⟨c,s,t,a,x,p,u,m,rfl⟩;have n:=L4 (λd h e f g c i=>(l d h e f g c i).1) m;have w:=C4 (λd h e f g c i=>(l d h e f g c i).2) m;refine .mk (λv q r=> ?_) (λa j=>(n a j).1) (λa j=>(n a j).2);rcases aql.1 q with k|k
 ·exact Hi p v k r
 ·grind
theorem Kz(b:Nat): ∀d,Di (GB b d)
 |0=>I3 λc i e f g h a=>⟨Ky (λ_ _ _ _ _ a=>a.elim) a,yG a⟩
 |d+1=>I3 λc i e f g h a=>⟨Ky (Kz b d) a,yG a⟩
end
def I4(T:dS)(vp:Va×Nat):Prop:=T.ty vp.1.name=vp.1.ty/\T.ls vp.1.name=vp.1.last/\T.lp vp.1.name=vp.2
theorem wU{T:dS} : ∀{l:List Va} {p i:Nat} {v:Va},l[i]?=some v->(∀c∈ug p l,I4 T c)->Has T.pt p (nF l)->T.ty v.name=v.ty/\T.ls v.name=v.last/\(v.last=true->(Sm.cm (l.map dW) p)[i]?=some (some (T.lp v.name))/\T.pt (T.lp v.name)= .val v.ty)
 | [],p,i,v,b,_,_=>by simp at b
 |a::l,p,i,v,b,d,f=>by
  have g:=d (a,p) (aqP ..);cases e:a.last with
  |true=>
   have h:nF (a::l)= .val a.ty::nF l:=by unfold nF;rw[arY (by omega)];rfl
   have j:Sm.cm ((a::l).map dW) p=some p::Sm.cm (l.map dW) (p+1):=by
    show(if a.last then _ else _)=_;rw[aqy e]
   have k:ug p (a::l)=(a,p)::ug (p+1) l:=by show(a,p)::ug (if a.last then p+1 else p) l=_;rw[aqy e]
   rw[h]at f;obtain⟨s,n⟩:=Has.cons f;rw[k]at d;rw[j];cases i with
   |zero=>
    simp at b;subst b;obtain⟨o,q,r⟩:=g;exact⟨o,q,λ_=>⟨by rw[r];rfl,by simp_all⟩⟩
   |succ i=>exact wU (i:=i) (by simpa using b) (λc m=>d c (aqF _ m)) n
  |false=>
   have h:nF (a::l)=nF l:=by unfold nF;rw[arZ (by simp[e])]
   have j:Sm.cm ((a::l).map dW) p=none::Sm.cm (l.map dW) p:=by
    show(if a.last then _ else _)=_;rw[aqo (by simp[e])]
   have k:ug p (a::l)=(a,p)::ug p l:=by show(a,p)::ug (if a.last then p+1 else p) l=_;rw[aqo (by simp[e])]
   rw[h]at f;rw[k]at d;rw[j];cases i with
   |zero=>
    simp at b;subst b;exact⟨g.1,g.2.1,λb=>by simp_all⟩
   |succ i=>exact wU (i:=i) (by simpa using b) (λc m=>d c (aqF _ m)) f
theorem y9{T:dS}{pt:Nat->PK} : ∀{l:List ay} {c j p:Nat} {q:ay},l[j]?=some q->(Sm.fy (eR l) c)[j]?=some p->(∀d∈Dd p q,d∈kJ c l)/\(Has pt c (qt T l)->Has pt p (kK T q))
 | [],c,j,p,q,a,_=>by simp at a
 |g::l,c,j,p,q,a,e=>by
  simp only[eR,Sm.fy]at e;cases j with
  |zero=>
   simp at a e;subst a;subst e;refine⟨λd f=> ?_,λb=> ?_⟩
   ·simp only[kJ];exact aqq _ f
   ·rw[qt]at b;exact(Has.app b).1
  |succ j=>
   obtain⟨h,i⟩:=y9 (T:=T) (pt:=pt) (l:=l) (c:=c+Sm.qP (di g)) (j:=j) (by simpa using a) (by simpa using e);refine⟨λd f=> ?_,λb=>i ?_⟩
   ·simp only[kJ];exact aqt _ (h d f)
   ·rw[qt]at b;have:=(Has.app b).2;rw[Dh]at this;exact this
theorem sQ{T:dS}{pt:Nat->PK} : ∀{l:List aY} {c k:Nat} {a:aY},l[k]?=some a->(∀g∈BP (c+Sm.aP (((ej l).take k).map Sm.fo)) (dG a),g∈oZ c l)/\(Has pt c (pE T l)->Has pt (c+Sm.aP (((ej l).take k).map Sm.fo)) (oe T (dG a)))
 | [],c,k,a,d=>by simp at d
 | .mk i b j m::l,c,k,a,d=>by
  cases k with
  |zero=>
   simp at d;subst d;refine⟨λg h=> ?_,λf=> ?_⟩
   ·simp only[oZ];exact aqq _ h
   ·rw[pE]at f;exact(Has.app f).1
  |succ k=>
   obtain⟨n,o⟩:=sQ (T:=T) (pt:=pt) (l:=l) (c:=c+Sm.bP (ep b)) (k:=k) (by simpa using d);have e:c+Sm.aP (((ej (.mk i b j m::l)).take (k+1)).map Sm.fo)=c+Sm.bP (ep b)+Sm.aP (((ej l).take k).map Sm.fo):=by
    have:Sm.aP (((ej (.mk i b j m::l)).take (k+1)).map Sm.fo)=Sm.bP (ep b)+Sm.aP (((ej l).take k).map Sm.fo):=rfl;rw[this];omega
   rw[e];refine⟨λg h=> ?_,λf=>o ?_⟩
   ·simp only[oZ];exact aqt _ (n g h)
   ·rw[pE]at f;have:=(Has.app f).2;rw[sP]at this;exact this
theorem I5{T:dS}{b:aW}(h:vX b): ∀p,(∀k∈BP p b,I4 T k)->Has T.pt p (oe T b)->pQ T p b:=by
 induction h with
 | @mk b J K L C=>
  intro p s A;cases b with
  |mk N M=>
  simp only[BP]at s;rw[oe]at A;obtain⟨H,t⟩:=Has.app A;rw[Dg]at t;refine .mk (λI v D=>wU D (λk o=>s k (aqq _ o)) H) (λx l m q w=> ?_) (λx l m g j q w d=> ?_)
  ·have a:=(y9 (T:=T) (pt:=T.pt) q w).2 t;cases l with
   |df n e=>exact iS T a
   |call n y z j b B e=>
    rw[kK]at a;obtain⟨E,f⟩:=Has.cons a;obtain⟨f,r⟩:=Has.app f;obtain⟨r,u⟩:=Has.app r;rw[cN]at r u;rw[cN]at u;exact⟨λx F=>by rw[E,F,EH],iS T f,iS T r,iS T u⟩
   |sw e i=>rw[kK]at a;exact iS T (Has.app a).1
   |aL i=>rw[kK]at a;exact(Has.cons a).1
   |reset e b=>rw[kK]at a;exact iS T (Has.app a).1
  ·obtain⟨G,a⟩:=y9 (T:=T) (pt:=T.pt) q w;have a:=a t;refine C l (aqk q) j (aqk d) (nc l m g) (λk o=>s k (aqt _ (G k ?_))) ?_
   ·cases l with
    |df n e=>simp[cq]at d
    |call n y z j b B e=>simp[cq]at d
    |sw e i=>exact(sQ (T:=T) (pt:=T.pt) (c:=m+xE e) (show i[g]?=some j from d)).1 k o
    |aL i=>exact(sQ (T:=T) (pt:=T.pt) (c:=m+1) (show i[g]?=some j from d)).1 k o
    |reset e b=>
     cases g with
     |succ g=>simp[cq]at d
     |zero=>simp[cq]at d;subst d;exact o
   ·cases l with
    |df n e=>simp[cq]at d
    |call n y z j b B e=>simp[cq]at d
    |sw e i=>
     rw[kK]at a;have f:=(Has.app a).2;rw[cN]at f;exact(sQ (T:=T) (pt:=T.pt) (c:=m+xE e) (show i[g]?=some j from d)).2 f
    |aL i=>
     rw[kK]at a;have f:=(Has.cons a).2;exact(sQ (T:=T) (pt:=T.pt) (c:=m+1) (show i[g]?=some j from d)).2 f
    |reset e b=>
     cases g with
     |succ g=>simp[cq]at d
     |zero=>
      simp[cq]at d;subst d;rw[kK]at a;have f:=(Has.app a).2;rw[cN]at f;exact f
theorem sT{T T':dS}(h:T.ty=T'.ty): ∀e:E,pP T e=pP T' e
 | .nil=>rfl
 | .int _=>rfl
 | .bool _=>rfl
 | .ctor _=>rfl
 | .var d=>by simp only[pP,h]
 | .last d=>by simp only[pP,h]
 | .un g a=>rfl
 | .bin g a b=>rfl
 | .ite c a b=>sT h a
 | .fA c f=>sT h c
 | .pre f=>sT h f
 | .arrow a b=>sT h a
 | .e_ d c a=>sT h a
 | .merge d i j k a b c=>sT h c
theorem iE{T T':dS}(h:T.ty=T'.ty): ∀e:E,jh T e=jh T' e
 | .nil=>rfl
 | .int _=>rfl
 | .bool _=>rfl
 | .ctor _=>rfl
 | .var f=>rfl
 | .last f=>rfl
 | .un g a=>iE h a
 | .bin g a b=>by simp only[jh];rw[iE h a,iE h b]
 | .ite c a b=>by simp only[jh];rw[iE h a,iE h b,iE h c]
 | .fA c d=>by simp only[jh];rw[sT h c,iE h c,iE h d]
 | .pre d=>by simp only[jh];rw[sT h d,iE h d]
 | .arrow a b=>by simp only[jh];rw[iE h a,iE h b]
 | .e_ f c a=>iE h a
 | .merge f i j k a b c=>by simp only[jh];rw[iE h a,iE h b,iE h c]
mutual
theorem Ly{T T':dS}(h:T.ty=T'.ty): ∀q:ay,kK T q=kK T' q
 | .df c e=>by rw[kK,kK,iE h e]
 | .call c f g d b i e=>by rw[kK,kK,iE h e,iE h d,iE h b]
 | .sw e a=>by rw[kK,kK,iE h e,BS h a]
 | .aL a=>by rw[kK,kK,BS h a]
 | .reset e b=>by rw[kK,kK,iE h e,EJ h b]
theorem BS{T T':dS}(h:T.ty=T'.ty): ∀l:List aY,pE T l=pE T' l
 | []=>rfl
 | .mk a b c d::l=>by rw[pE,pE,EJ h b,BS h l]
theorem EJ{T T':dS}(h:T.ty=T'.ty): ∀b:aW,oe T b=oe T' b
 | .mk c a=>by rw[oe,oe,FN h a]
theorem FN{T T':dS}(h:T.ty=T'.ty): ∀l:List ay,qt T l=qt T' l
 | []=>rfl
 |a::l=>by rw[qt,qt,Ly h a,FN h l]
end
def Dk(d:Nd):List (Va×Nat):=d.ins.map (λv=>(v,0))++(ug (Sm.bP (ep d.b)) d.outs++BP 0 d.b)
def Dl(d:Nd)(x:Nm):Option (Va×Nat):=(Dk d).find? λvp=>decide (vp.1.name=x)
def T0(d:Nd):dS where
 ty x:=match Dl d x with|some vp=>vp.1.ty|none=> .int
 ls x:=match Dl d x with|some vp=>vp.1.last|none=>false
 lp x:=match Dl d x with|some vp=>vp.2|none=>0
 pt _:= .any
noncomputable def TN(d:Nd):dS:= {T0 d with pt:= λk=>((oe (T0 d) d.b++nF d.outs)[k]?).getD .any}
theorem EK{d:Nd}(g:(tn (Dk d)).Nodup){a:Va×Nat}(h:a∈Dk d):I4 (TN d) a:=by
 have:Dl d a.1.name=some a:=by
  unfold Dl;cases c:(Dk d).find? λb=>decide (b.1.name=a.1.name)with
  |none=>
   have:=List.find?_eq_none.1 c a h;simp at this
  |some b=>
   have i:=asJ c;obtain⟨f,k⟩:=aqG.1 i;obtain⟨j,e⟩:=aqG.1 h;have l:f<(tn (Dk d)).length:=by grind
   have:=(ass l g (j:=j)).1 (by grind);subst this;rw[k]at e;exact e
 refine⟨?_,?_,?_⟩
 ·show(match Dl d a.1.name with|some a=>a.1.ty|none=> .int)=_;rw[this]
 ·show(match Dl d a.1.name with|some a=>a.1.last|none=>false)=_;rw[this]
 ·show(match Dl d a.1.name with|some a=>a.2|none=>0)=_;rw[this]
end Go.Ex
