/- A part of the proof of the last text of this claim, without conditions. -/
import Derived.Test.YtjbigbaipmiihaaGreatJ
set_option maxRecDepth 4000
set_option linter.all false
namespace Go.Ex
open Go.Mt Go.Mk
def vT(p:Nat):List Va->List (Va×Nat)
 | []=>[]
 |v::l=>(v,p)::vT (if v.last then p+1 else p) l
mutual
def E6(p:Nat):aB->List (Va×Nat)
 | .df _ _=>[]
 | .call _ _ _ _ _ _ _=>[]
 | .sw e aj=>p9 (p+xE e) aj
 | .aP aj=>p9 (p+1) aj
 | .reset e b=>Dz (p+xE e) b
def p9(p:Nat):List bh->List (Va×Nat)
 | []=>[]
 | .mk _ b _ _::l=>Dz p b++p9 (p+Sm.bP (eV b)) l
def Dz(p:Nat):bj->List (Va×Nat)
 | .mk vars au=>vT p vars++lS (p+Sm.aU (vars.map ey)) au
def lS(p:Nat):List aB->List (Va×Nat)
 | []=>[]
 |q::l=>E6 p q++lS (p+Sm.qP (dE q)) l
end
abbrev tn(l:List (Va×Nat)):List Nm:=l.map (·.1.name)
theorem GZ: ∀(l:List Va) (p:Nat),tn (vT p l)=l.map (·.name)
 | [],p=>rfl
 |v::l,p=>by simp only[vT,tn,avm];rw[show List.map (λa:Va×Nat=>a.1.name) (vT (if v.last then p+1 else p) l)=l.map (·.name)from GZ l _]
theorem Cp(l r:List bh): ∀p,∃a,p9 p (l++r)=p9 p l++p9 a r:=by
 induction l with
 |nil=>intro p;exact⟨p,by simp[p9]⟩
 |cons c l e=>
  intro p;cases c with
  |mk f b g h=>
   obtain⟨a,d⟩:=e (p+Sm.bP (eV b));exact⟨a,by simp only[avM,p9];rw[d,avh]⟩
theorem Cq(l r:List aB): ∀p,∃a,lS p (l++r)=lS p l++lS a r:=by
 induction l with
 |nil=>intro p;exact⟨p,by simp[lS]⟩
 |cons b l d=>
  intro p;obtain⟨a,c⟩:=d (p+Sm.qP (dE b));exact⟨a,by simp only[avM,lS];rw[c,avh]⟩
structure p_(n n':Nat)(l:List Nm):Prop where
 b: ∀x∈l,gT n n' x
 d:l.Nodup
theorem p_.nil{n n':Nat} :p_ n n' []:=⟨λb a=>(by cases a),awq⟩
theorem p_.app{n m n':Nat}{l r:List Nm}(h:p_ n m l)(g:p_ m n' r)(d:n<=m)(f:m<=n'):p_ n n' (l++r):=by
 refine⟨λa c=> ?_,?_⟩
 ·rcases auS.1 c with b|b
  ·exact(h.b a b).mono (auK _) f
  ·exact(g.b a b).mono d (auK _)
 ·rw[avL];refine⟨h.d,g.d,λa c j i e=> ?_⟩;subst e;exact(h.b a c).not (g.b a i).gt
theorem p_.perm{n n':Nat}{l r:List Nm}(h:p_ n n' l)(a:l.Perm r):p_ n n' r:=⟨λb c=>h.b b (a.mem_iff.2 c),a.nodup_iff.1 h.d⟩
def E7(Sub:Sc->List Va->Nat->Nat->bj->Prop):Prop:= ∀s outs n n' b,Sub s outs n n' b->n<=n'/\ ∀p,p_ n n' (tn (Dz p b))
section
variable{Sub:Sc->List Va->Nat->Nat->bj->Prop}
theorem E8(d:E7 Sub){s:Sc}{outs:List Va}{names:List Nm}{n n':Nat}{aj:List bh}(h:nO Sub s outs names n aj n'):n<=n'/\ ∀p,p_ n n' (tn (p9 p aj)):=by
 induction h with
 |nil=>exact⟨auK _,λp=>p_.nil⟩
 | @snoc aj l m h c o k q r b f a=>
  obtain⟨g,i⟩:=d _ _ _ _ _ f;refine⟨by grind,λp=> ?_⟩;obtain⟨j,e⟩:=Cp aj [.mk c b [] []] p;rw[e,tn,avi];refine(a.2 p).app ?_ a.1 g;simp only[p9,avg];exact i j
theorem MQ(c:E7 Sub){s:Sc}{outs:List Va}{N n n':Nat}{aj:List bh}(h:u6 Sub s outs N n aj n'):n<=n'/\ ∀p,p_ n n' (tn (p9 p aj)):=by
 induction h with
 |nil=>exact⟨auK _,λp=>p_.nil⟩
 | @snoc aj m o h l q r d t b f g u a=>
  obtain⟨i,j⟩:=c _ _ _ _ _ f;refine⟨by grind,λp=> ?_⟩;obtain⟨k,e⟩:=Cp aj [.mk (nm 83 aj.length) b d g] p;rw[e,tn,avi];refine(a.2 p).app ?_ a.1 i;simp only[p9,avg];exact j k
theorem Nn(k:E7 Sub){w:Nat}{s:Sc}{outs:List Va}{n n':Nat}{q:List aB}{l:List Va}(h:GQ Sub w s outs n n' q l):n<=n'/\ ∀p,p_ n n' (l.map (·.name)++tn (lS p q)):=by
 induction h with
 | @sZ s outs n g h=>
  refine⟨auK _,λp=> ?_⟩;have y: ∀{outs:List Va} {g:List aB},p7 s outs g-> ∀p,lS p g= []:=by
   intro outs g h
   induction h with
   |nil=>intro p;rfl
   | @snoc o g h t e i c=>
    intro p;obtain⟨C,x⟩:=Cq g [.df t.name e] p;rw[x,c p];rfl
  rw[y h p];exact p_.nil
 |ua i d r=>obtain⟨a,f⟩:=E8 k d;exact⟨a,λp=>by simp only[lS,E6,avg,avT,avn];exact f _⟩
 |qy i d r=>obtain⟨a,f⟩:=E8 k d;exact⟨a,λp=>by simp only[lS,E6,avg,avT,avn];exact f _⟩
 |aP z D d r=>obtain⟨a,f⟩:=MQ k d;exact⟨a,λp=>by simp only[lS,E6,avg,avT,avn];exact f _⟩
 |reset i m=>obtain⟨a,f⟩:=k _ _ _ _ _ m;exact⟨a,λp=>by simp only[lS,E6,avg,avT,avn];exact f _⟩
 | @call s outs n n' o l A E u b d m J e i h c=>
  refine⟨by grind,λp=> ?_⟩;simp only[lS,E6,avn,avm];have a:p_ n (n+2) [nm 117 (n+1),nm 117 (n+2)]:=by
   refine⟨λv j=> ?_,?_⟩
   ·simp only[auX,au3,avF]at j;rcases j with rfl|rfl
    ·exact⟨117,n+1,by omega,by omega,rfl⟩
    ·exact⟨117,n+2,by omega,by omega,rfl⟩
   ·simp only[awQ,auW,au3,awX,awq,and_true];intro e;have:=(iX e).2;omega
  exact a.app (c.2 _) (by omega) c.1
 | @mY s outs n n' o l u b B F e cK d m G H i I h c=>
  refine⟨by grind,λp=> ?_⟩;simp only[lS,E6,avn,avm];have a:p_ n (n+3) [nm 99 (n+1),nm 119 (n+2),nm 122 (n+3)]:=by
   refine⟨λv j=> ?_,?_⟩
   ·simp only[auX,au3,avF]at j;rcases j with rfl|rfl|rfl
    ·exact⟨99,n+1,by omega,by omega,rfl⟩
    ·exact⟨119,n+2,by omega,by omega,rfl⟩
    ·exact⟨122,n+3,by omega,by omega,rfl⟩
   ·simp only[awQ,auX,au3,avF,not_or,awX,awq,and_true];exact⟨⟨λe=>by have:=(iX e).2;omega,λe=>by have:=(iX e).2;omega⟩,λe=>by have:=(iX e).2;omega⟩
  exact a.app (c.2 _) (by omega) c.1
theorem OQ{Q:Sc->List Va->Nat->Nat->List aB->List Va->Prop}(i: ∀s u n b d a,Q s u n b d a->n<=b/\ ∀p,p_ n b (a.map (·.name)++tn (lS p d))){j:Sc}{k:List Va}{c:Nat}{s:Sc}{g:List Va}{n:Nat}{q:List aB}{a:List Va}(h:GL Q j k c s g n q a):c<=n/\ ∀p,p_ c n (a.map (·.name)++tn (lS p q)):=by
 induction h with
 |start=>exact⟨auK _,λp=>p_.nil⟩
 | @step s g n w q a l x h v y z A m f=>
  obtain⟨o,r⟩:=i _ _ _ _ _ _ m;refine⟨by grind,λp=> ?_⟩;obtain⟨t,e⟩:=Cq q l p;rw[e,tn,avi,avi];refine((f.2 p).app (r t) f.1 o).perm ?_;simp only[tn,avh];refine List.Perm.append_left _ ?_;rw[<-avh,<-avh];exact List.Perm.append_right _ List.perm_append_comm
theorem Ln{Q:Sc->List Va->Nat->Nat->List aB->List Va->Prop}(k: ∀f i c d h a,Q f i c d h a->c<=d/\ ∀e,p_ c d (a.map (·.name)++tn (lS e h))):E7 (ED Q):=by
 rintro f i c d b ⟨a,s,t,r,j,l,u,m,rfl⟩;obtain⟨n,v,o⟩:=Dr l;obtain⟨p,q⟩:=OQ k m;refine⟨by omega,λe=> ?_⟩;simp only[Dz,tn,avi];rw[show List.map (λg:Va×Nat=>g.1.name) (vT e (a++j))=(a++j).map (·.name)from GZ _ _,avi,avh];exact p_.app ⟨λg w=>by grind,o⟩ (q _) n p
theorem No(b:Nat): ∀d,E7 (GB b d)
 |0=>Ln λc i e f g h a=>Nn (λ_ _ _ _ _ a=>a.elim) a
 |d+1=>Ln λc i e f g h a=>Nn (No b d) a
end
def j4(T:eD):E->List PK
 | .un _ a=>j4 T a
 | .bin _ a b=>j4 T a++j4 T b
 | .ite c a b=>j4 T c++(j4 T a++j4 T b)
 | .ga c y=> .val (qS T c)::(j4 T c++j4 T y)
 | .pre y=> .val (qS T y)::j4 T y
 | .arrow a b=> .any::(j4 T a++j4 T b)
 | .fI _ _ a=>j4 T a
 | .merge _ _ _ _ a b c=>j4 T a++(j4 T b++j4 T c)
 |_=>[]
def Has(pt:Nat->PK)(p:Nat)(l:List PK):Prop:= ∀(i:Nat) (x:PK),l[i]?=some x->pt (p+i)=x
theorem Has.app{pt:Nat->PK}{p:Nat}{l r:List PK}(h:Has pt p (l++r)):Has pt p l/\Has pt (p+l.length) r:=by
 refine⟨λa b c=>h a b ?_,λa b c=> ?_⟩
 ·grind
 ·have:=h (l.length+a) b (by grind);rw[<-this];congr 1;omega
theorem Has.cons{pt:Nat->PK}{p:Nat}{y:PK}{r:List PK}(h:Has pt p (y::r)):pt p=y/\Has pt (p+1) r:=by
 have:=Has.app (l:=[y]) (r:=r) h;exact⟨this.1 0 y W,this.2⟩
theorem Oe(op:Int)(a:E):xE (.un op a)=xE a:=by simp[xE,cA,Sm.xP,Sm.eg,Sm.dt]
theorem MR(op:Int)(a b:E):xE (.bin op a b)=xE a+xE b:=by simp[xE,cA,Sm.xP,Sm.eg,Sm.dt]
theorem MU(c a b:E):xE (.ite c a b)=xE c+(xE a+xE b):=by simp[xE,cA,Sm.xP,Sm.eg,Sm.dt]
theorem MV(c y:E):xE (.ga c y)=(xE c+xE y)+1:=by simp[xE,cA,Sm.xP,Sm.eg,Sm.dt];omega
theorem MW(y:E):xE (.pre y)=xE y+1:=by simp[xE,cA,Sm.xP,Sm.eg,Sm.dt];omega
theorem Js(a b:E):xE (.arrow a b)=(xE a+xE b)+1:=by simp[xE,cA,Sm.xP,Sm.eg,Sm.dt];omega
theorem MX(x c:Nm)(a:E):xE (.fI x c a)=xE a:=by simp[xE,cA,Sm.xP,Sm.eg,Sm.dt]
theorem Jt(x d e f:Nm)(a b c:E):xE (.merge x d e f a b c)=xE a+(xE b+xE c):=by simp[xE,cA,Sm.xP,Sm.eg,Sm.dt]
theorem cX(T:eD): ∀e:E,(j4 T e).length=xE e
 | .nil=>rfl
 | .int _=>rfl
 | .bool _=>rfl
 | .ctor _=>rfl
 | .var _=>rfl
 | .last _=>rfl
 | .un g a=>by rw[Oe];exact cX T a
 | .bin g a b=>by rw[MR,j4,auN,cX T a,cX T b]
 | .ite c a b=>by rw[MU,j4,auN,auN,cX T c,cX T a,cX T b]
 | .ga c d=>by rw[MV,j4,au4,auN,cX T c,cX T d]
 | .pre d=>by rw[MW,j4,au4,cX T d]
 | .arrow a b=>by rw[Js,j4,au4,auN,cX T a,cX T b]
 | .fI f c a=>by rw[MX];exact cX T a
 | .merge f h i j a b c=>by rw[Jt,j4,auN,auN,cX T a,cX T b,cX T c]
theorem jI(T:eD): ∀{e:E} {p:Nat},Has T.pt p (j4 T e)->iU T e p
 | .nil,_,_=>trivial
 | .int _,_,_=>trivial
 | .bool _,_,_=>trivial
 | .ctor _,_,_=>trivial
 | .var _,_,_=>trivial
 | .last _,_,_=>trivial
 | .un k h,p,d=>jI T (e:=h) d
 | .bin k h b,p,d=>by
  obtain⟨g,a⟩:=Has.app d;rw[cX]at a;exact⟨jI T g,jI T a⟩
 | .ite c h b,p,d=>by
  obtain⟨g,a⟩:=Has.app d;obtain⟨a,f⟩:=Has.app a;rw[cX]at a f;rw[cX]at f;exact⟨jI T g,jI T a,jI T f⟩
 | .ga c i,p,d=>by
  obtain⟨g,a⟩:=Has.cons d;obtain⟨a,f⟩:=Has.app a;rw[cX]at f;exact⟨g,jI T f⟩
 | .pre i,p,d=>by
  obtain⟨g,a⟩:=Has.cons d;exact⟨g,jI T a⟩
 | .arrow h b,p,d=>by
  obtain⟨g,a⟩:=Has.cons d;obtain⟨a,f⟩:=Has.app a;rw[cX]at f;exact⟨g,jI T a,jI T f⟩
 | .fI j c h,p,d=>jI T (e:=h) d
 | .merge j l m n h b c,p,d=>by
  obtain⟨g,a⟩:=Has.app d;obtain⟨a,f⟩:=Has.app a;rw[cX]at a f;rw[cX]at f;exact⟨jI T g,jI T a,jI T f⟩
open Classical in
noncomputable def DA(f:Nm):Nat:=if h: ∃j,f=nm 102 j then Classical.choose h else 0
theorem G0(j:Nat):DA (nm 102 j)=j:=by
 have a: ∃b,nm 102 j=nm 102 b:=⟨j,rfl⟩;unfold DA;rw[axq a];exact((iX (awl a)).2).symm
def oX(l:List Va):List PK:=(l.filter (·.last)).map λv=> .val v.ty
mutual
noncomputable def lT(T:eD):aB->List PK
 | .df _ e=>j4 T e
 | .call _ _ f a b _ e=> .call (DA f)::(j4 T e++(j4 T a++j4 T b))
 | .sw e aj=>j4 T e++qD T aj
 | .aP aj=> .aP aj.length::qD T aj
 | .reset e b=>j4 T e++pw T b
noncomputable def qD(T:eD):List bh->List PK
 | []=>[]
 | .mk _ b _ _::l=>pw T b++qD T l
noncomputable def pw(T:eD):bj->List PK
 | .mk vars au=>oX vars++rJ T au
noncomputable def rJ(T:eD):List aB->List PK
 | []=>[]
 |q::l=>lT T q++rJ T l
end
theorem E9(l:List Va):(oX l).length=Sm.aU (l.map ey):=by
 unfold oX Sm.aU;rw[au8,List.filter_map,au8];rfl
mutual
theorem E_(T:eD): ∀q:aB,(lT T q).length=Sm.qP (dE q)
 | .df d e=>by
  have a:Sm.qP (dE (.df d e))=xE e+0+0+0:=rfl;rw[a,lT];exact cX T e
 | .call d g h f b i e=>by
  have a:Sm.qP (dE (.call d g h f b i e))=xE e+(xE f+(xE b+0))+1+0:=rfl;rw[a,lT,au4,auN,auN,cX,cX,cX];omega
 | .sw e c=>by
  have a:Sm.qP (dE (.sw e c))=xE e+0+0+Sm.lC (eZ c):=rfl;rw[a,lT,auN,cX,xJ T c];omega
 | .aP c=>by
  have a:Sm.qP (dE (.aP c))=0+0+1+Sm.lC (eZ c):=rfl;rw[a,lT,au4,xJ T c];omega
 | .reset e b=>by
  have a:Sm.qP (dE (.reset e b))=xE e+0+0+(Sm.bP (eV b)+0):=rfl;rw[a,lT,auN,cX,ur T b];omega
theorem xJ(T:eD): ∀l:List bh,(qD T l).length=Sm.lC (eZ l)
 | []=>rfl
 | .mk a b c d::l=>by
  have e:Sm.lC (eZ (.mk a b c d::l))=Sm.bP (eV b)+Sm.lC (eZ l):=rfl;rw[e,qD,auN,ur T b,xJ T l]
theorem ur(T:eD): ∀b:bj,(pw T b).length=Sm.bP (eV b)
 | .mk c a=>by
  have d:Sm.bP (eV (.mk c a))=Sm.aU (c.map ey)+Sm.wo (fM a):=rfl;rw[d,pw,auN,E9,Cr T a]
theorem Cr(T:eD): ∀l:List aB,(rJ T l).length=Sm.wo (fM l)
 | []=>rfl
 |a::l=>by
  have b:Sm.wo (fM (a::l))=Sm.qP (dE a)+Sm.wo (fM l):=rfl;rw[b,rJ,auN,E_ T a,Cr T l]
end
def Of:PK->Option Int->Prop
 | .val t,some v=>VT t v
 | .any,some _=>True
 | .aP N,none=>0<N
 | .call _,none=>True
 |_,_=>False
def FA(l:List PK)(m:List (Option Int)):Prop:=l.length=m.length/\ ∀(i:Nat) (x:PK) (y:Option Int),l[i]?=some x->m[i]?=some y->Of x y
theorem FA.nil:FA [] []:=⟨rfl,λb c d a=>by simp at a⟩
theorem FA.app{l g:List PK}{m i:List (Option Int)}(h:FA l m)(j:FA g i):FA (l++g) (m++i):=by
 refine⟨by rw[auN,auN,h.1,j.1],λd e f b c=> ?_⟩;rcases auM d l.length with a|a
 ·rw[auL a]at b;rw[auL (by rw[<-h.1];exact a)]at c;exact h.2 d e f b c
 ·rw[auR a]at b;rw[auR (by rw[<-h.1];exact a),<-h.1]at c;exact j.2 _ e f b c
theorem FA.cons{x:PK}{y:Option Int}{l:List PK}{m:List (Option Int)}(d:Of x y)(h:FA l m):FA (x::l) (y::m):=by
 have:FA [x] [y]:=⟨rfl,λa c b e f=>by
  grind⟩
 exact FA.app this h
def oM:E->Prop
 | .un _ a=>oM a
 | .bin _ a b=>oM a/\oM b
 | .ite c a b=>oM c/\oM a/\oM b
 | .ga c y=>(∃t,GC t c)/\oM y
 | .pre y=>oM y
 | .arrow a b=>oM a/\oM b
 | .fI _ _ a=>oM a
 | .merge _ _ _ _ a b c=>oM a/\oM b/\oM c
 |_=>True
theorem DB{t:Ty}{e:E}(h:GC t e):oM e:=by cases h<;>trivial
theorem qa{s:Sc}{t:Ty}{st:Bool}{d:Nat}{e:E}(h:GE s t st d e):oM e:=by
 induction h with
 |v h=>cases h with
  |vB h=>exact DB h
  |var h=>obtain⟨v,_,_,_,rfl⟩:=h;trivial
 |c h=>exact DB h
 |ite i f g j a b=>exact⟨j,a,b⟩
 |ga i f a=>exact⟨⟨_,i⟩,a⟩
 |arrow f g a b=>exact⟨a,b⟩
 |last h=>obtain⟨v,_,_,_,rfl⟩:=h;trivial
 |neg f a=>exact a
 |arith k l f g a b=>exact⟨a,b⟩
 |not f a=>exact a
 |lH k m l f g a b=>exact⟨a,b⟩
theorem Lo(t:Ty):VT t 0:=by
 cases t with
 |bool=>exact .inl W
 |int=>show Sm.lG 0;unfold Sm.lG;omega
 |fJ=>exact .inl W
theorem Cs{t:Ty}{e:E}(h:GC t e):VT t (Sm.pT cU (cA e)):=by
 cases h with
 |bool h=>exact h
 |int h=>
  rename_i b;show Sm.lG b;simp only[auX,au3,avF]at h;unfold Sm.lG;omega
 |fJ h=>
  rename_i a;have:Sm.pT cU (cA (.ctor a))=iT a:=AC h;rw[this];simp only[auX,au3,avF]at h;rcases h with rfl|rfl|rfl
  ·exact .inl W
  ·exact .inr (.inl W)
  ·exact .inr (.inr W)
theorem lU(T:eD): ∀{e:E},oM e->FA (j4 T e) (Sm.ja cU (cA e))
 | .nil,_=>FA.nil
 | .int _,_=>FA.nil
 | .bool _,_=>FA.nil
 | .ctor _,_=>FA.nil
 | .var _,_=>FA.nil
 | .last _,_=>FA.nil
 | .un i d,a=>by
  have f:Sm.ja cU (cA (.un i d))= []++(Sm.ja cU (cA d)++ []):=rfl;rw[f,avn,avg];exact lU T (e:=d) a
 | .bin i d b,a=>by
  have f:Sm.ja cU (cA (.bin i d b))= []++(Sm.ja cU (cA d)++(Sm.ja cU (cA b)++ [])):=rfl;rw[f,avn,avg];exact(lU T a.1).app (lU T a.2)
 | .ite c d b,a=>by
  have f:Sm.ja cU (cA (.ite c d b))= []++(Sm.ja cU (cA c)++(Sm.ja cU (cA d)++(Sm.ja cU (cA b)++ []))):=rfl;rw[f,avn,avg];exact(lU T a.1).app ((lU T a.2.1).app (lU T a.2.2))
 | .ga c g,a=>by
  have f:Sm.ja cU (cA (.ga c g))= [some (Sm.pT cU (cA c))]++(Sm.ja cU (cA c)++(Sm.ja cU (cA g)++ [])):=rfl;obtain⟨⟨o,j⟩,k⟩:=a;rw[f,avg];refine FA.cons ?_ ((lU T (DB j)).app (lU T k));rw[uh j];exact Cs j
 | .pre g,a=>by
  have f:Sm.ja cU (cA (.pre g))= [some 0]++(Sm.ja cU (cA g)++ []):=rfl;rw[f,avg];exact FA.cons (Lo _) (lU T (e:=g) a)
 | .arrow d b,a=>by
  have f:Sm.ja cU (cA (.arrow d b))= [some 1]++(Sm.ja cU (cA d)++(Sm.ja cU (cA b)++ [])):=rfl;rw[f,avg];exact FA.cons trivial ((lU T a.1).app (lU T a.2))
 | .fI h c d,a=>by
  have f:Sm.ja cU (cA (.fI h c d))= []++(Sm.ja cU (cA d)++ []):=rfl;rw[f,avn,avg];exact lU T (e:=d) a
 | .merge h l m n d b c,a=>by
  have f:Sm.ja cU (cA (.merge h l m n d b c))= []++(Sm.ja cU (cA d)++(Sm.ja cU (cA b)++(Sm.ja cU (cA c)++ []))):=rfl;rw[f,avn,avg];exact(lU T a.1).app ((lU T a.2.1).app (lU T a.2.2))
def G1:aB->Prop
 | .df _ e=>oM e
 | .call _ _ _ a b _ e=>oM e/\oM a/\oM b
 | .sw e _=>oM e
 | .aP aj=>0<aj.length
 | .reset e _=>oM e
inductive xK:bj->Prop where
 |mk {b:bj} (hv: ∀v∈dw b,v.last=true->GC v.ty v.first) (hq: ∀q∈cT b,G1 q) (hb: ∀q∈cT b,∀a∈cD q,xK (eb a)):xK b
theorem Np(l:List Va)(h: ∀v∈l,v.last=true->GC v.ty v.first):FA (oX l) (Sm.gO cU (l.map ey)):=by
 induction l with
 |nil=>exact FA.nil
 |cons v l f=>
  have d:=f (λe g=>h e (au7 _ g));by_cases a:v.last=true
  ·have b:oX (v::l)= .val v.ty::oX l:=by unfold oX;rw[aww (by omega)];rfl
   have c:Sm.gO cU ((v::l).map ey)=some (Sm.pT cU (cA v.first))::Sm.gO cU (l.map ey):=by
    unfold Sm.gO;rw[avm,aww (show(ey v).last=true from a)];rfl
   rw[b,c];exact FA.cons (Cs (h v (avj ..) a)) d
  ·have b:oX (v::l)=oX l:=by unfold oX;rw[awx (by omega)]
   have c:Sm.gO cU ((v::l).map ey)=Sm.gO cU (l.map ey):=by
    unfold Sm.gO;rw[avm,awx (show ¬(ey v).last=true from a)]
   rw[b,c];exact d
theorem OR(T:eD){b:bj}(h:xK b):FA (pw T b) (Sm.lE cU (eV b)):=by
 induction h with
 | @mk b x m B y=>
  have r: ∀{f:List bh},(∀a∈f,FA (pw T (eb a)) (Sm.lE cU (eV (eb a))))->FA (qD T f) (Sm.ng cU (eZ f)):=by
   intro f
   induction f with
   |nil=>intro _;exact FA.nil
   |cons a d n=>
    intro h;cases a with
    |mk s b t u=>
     have j:Sm.ng cU (eZ (.mk s b t u::d))=Sm.lE cU (eV b)++Sm.ng cU (eZ d):=rfl;rw[j,qD];exact(h _ (avj ..)).app (n (λa k=>h a (au7 _ k)))
  have z: ∀{d:List aB},(∀c∈d,G1 c/\ ∀a∈cD c,FA (pw T (eb a)) (Sm.lE cU (eV (eb a))))->FA (rJ T d) (Sm.ju cU (fM d)):=by
   intro d
   induction d with
   |nil=>intro _;exact FA.nil
   |cons c d n=>
    intro h;have j:Sm.ju cU (fM (c::d))=Sm.vy cU (dE c)++Sm.ju cU (fM d):=rfl;rw[j,rJ];refine FA.app ?_ (n (λc m=>h c (au7 _ m)));obtain⟨i,k⟩:=h c (avj ..);cases c with
    |df l e=>
     have g:Sm.vy cU (dE (.df l e))= []++(Sm.ja cU (cA e)++ [])++ []:=rfl;rw[g,lT,avg,avg,avn];exact lU T i
    |call l v w a b A e=>
     have g:Sm.vy cU (dE (.call l v w a b A e))= [none]++(Sm.ja cU (cA e)++(Sm.ja cU (cA a)++(Sm.ja cU (cA b)++ [])))++ []:=rfl;rw[g,lT,avg,avg];exact FA.cons trivial ((lU T i.1).app ((lU T i.2.1).app (lU T i.2.2)))
    |sw e f=>
     have g:Sm.vy cU (dE (.sw e f))= []++(Sm.ja cU (cA e)++ [])++Sm.ng cU (eZ f):=rfl;rw[g,lT,avg,avn];exact(lU T i).app (r k)
    |aP f=>
     have g:Sm.vy cU (dE (.aP f))= [none]++([]++ [])++Sm.ng cU (eZ f):=rfl;rw[g,lT,avg,avg];exact FA.cons i (r k)
    |reset e b=>
     have g:Sm.vy cU (dE (.reset e b))= []++(Sm.ja cU (cA e)++ [])++(Sm.lE cU (eV b)++ []):=rfl;rw[g,lT,avg,avg,avn];exact(lU T i).app (k (.mk e0 b [] []) (av1 _))
  cases b with
  |mk o p=>
   have j:Sm.lE cU (eV (.mk o p))=Sm.gO cU (o.map ey)++Sm.ju cU (fM p):=rfl;rw[j,pw];exact(Np o x).app (z λc q=>⟨m c q,y c q⟩)
section
variable{Sub:Sc->List Va->Nat->Nat->bj->Prop}
def Fe(Sub:Sc->List Va->Nat->Nat->bj->Prop):Prop:= ∀s outs n n' b,Sub s outs n n' b->xK b
theorem Ff(f:Fe Sub){s:Sc}{outs:List Va}{names:List Nm}{n n':Nat}{aj:List bh}(h:nO Sub s outs names n aj n'): ∀a∈aj,xK (eb a):=by
 induction h with
 |nil=>intro a e;cases e
 |snoc h c k j l m b g i=>
  intro a e;rcases auS.1 e with d|d
  ·exact i a d
  ·rw[auW]at d;subst d;exact f _ _ _ _ _ g
theorem MY(e:Fe Sub){s:Sc}{outs:List Va}{N n n':Nat}{aj:List bh}(h:u6 Sub s outs N n aj n'): ∀a∈aj,xK (eb a):=by
 induction h with
 |nil=>intro a d;cases d
 |snoc h i j k l m b f o p g=>
  intro a d;rcases auS.1 d with c|c
  ·exact g a c
  ·rw[auW]at c;subst c;exact e _ _ _ _ _ f
theorem Nq(l:Fe Sub){r:Nat}{s:Sc}{outs:List Va}{n n':Nat}{m:List aB}{t:List Va}(h:GQ Sub r s outs n n' m t): ∀q∈m,G1 q/\ ∀a∈cD q,xK (eb a):=by
 induction h with
 | @sZ s outs n q h=>
  have x: ∀{outs:List Va} {q:List aB},p7 s outs q-> ∀e∈q,G1 e/\cD e= []:=by
   intro outs q h
   induction h with
   |nil=>intro e f;cases f
   |snoc h y e f i=>
    intro g c;rcases auS.1 c with k|k
    ·exact i g k
    ·rw[auW]at k;subst k;exact⟨qa f,W⟩
  intro e f;exact⟨(x h e f).1,λa d=>by grind⟩
 |ua f d o=>intro g c;rw[auW]at c;subst c;exact⟨qa f,Ff l d⟩
 |qy f d o=>intro g c;rw[auW]at c;subst c;exact⟨qa f,Ff l d⟩
 |aP z C d o=>intro g c;rw[auW]at c;subst c;exact⟨show 0<_ by omega,MY l d⟩
 |reset f j=>
  intro g c;rw[auW]at c;subst c;refine⟨qa f,λa d=> ?_⟩;have p:a∈ [bh.mk e0 _ [] []]:=d;rw[auW]at p;subst p;exact l _ _ _ _ _ j
 |call A D a b d j F e f h i=>
  intro g c;rcases auX.1 c with rfl|c
  ·refine⟨⟨?_,qa d,qa j⟩,λa d=>(by cases d)⟩;rcases f with⟨_,rfl⟩|⟨_,f⟩
   ·trivial
   ·exact qa f
  ·exact i g c
 |mY a b B E e cK d j u v f w h i=>
  intro g c;rcases auX.1 c with rfl|c
  ·exact⟨qa f,λa d=>(by cases d)⟩
  rcases auX.1 c with rfl|c
  ·refine⟨?_,λa d=>(by cases d)⟩;rcases w with rfl|rfl
   ·exact(show oM a from qa d)
   ·exact⟨⟨_,v⟩,trivial,(show oM a from qa d)⟩
  rcases auX.1 c with rfl|c
  ·exact⟨⟨(show oM b from qa j),trivial,DB u⟩,λa d=>(by cases d)⟩
  ·exact i g c
theorem OS{Q:Sc->List Va->Nat->Nat->List aB->List Va->Prop}(r: ∀s m n f d b,Q s m n f d b-> ∀q∈d,G1 q/\ ∀a∈cD q,xK (eb a)){g:Sc}{i:List Va}{j:Nat}{s:Sc}{o:List Va}{n:Nat}{q:List aB}{b:List Va}(h:GL Q g i j s o n q b): ∀q'∈q,G1 q'/\ ∀a∈cD q',xK (eb a):=by
 induction h with
 |start=>intro q e;cases e
 |step h p t u v e k=>
  intro q' l;rcases auS.1 l with c|c
  ·exact k q' c
  ·grind
theorem Ju{n m:Nat}{b:List Va}(h:NV n b m): ∀v∈b,v.last=true->GC v.ty v.first:=by
 induction h with
 |nil=>intro v a;cases a
 |snoc h d e f g i=>
  intro v a j;rcases auS.1 a with c|c
  ·grind
  ·grind
theorem Lp{Q:Sc->List Va->Nat->Nat->List aB->List Va->Prop}(l: ∀d h e f g c,Q d h e f g c->(∀a∈g,G1 a/\ ∀o∈cD a,xK (eb o))/\ ∀v∈c,v.last=false):Fe (ED Q):=by
 rintro d h e f b ⟨c,s,t,a,x,p,u,m,rfl⟩;have n:=OS (λd h e f g c i=>(l d h e f g c i).1) m;have w:=ET (λd h e f g c i=>(l d h e f g c i).2) m;refine .mk (λv q r=> ?_) (λa j=>(n a j).1) (λa j=>(n a j).2);rcases auS.1 q with k|k
 ·exact Ju p v k r
 ·grind
theorem Nr(b:Nat): ∀d,Fe (GB b d)
 |0=>Lp λc i e f g h a=>⟨Nq (λ_ _ _ _ _ a=>a.elim) a,Ax a⟩
 |d+1=>Lp λc i e f g h a=>⟨Nq (Nr b d) a,Ax a⟩
end
def Lr(T:eD)(vp:Va×Nat):Prop:=T.ty vp.1.name=vp.1.ty/\T.ls vp.1.name=vp.1.last/\T.lp vp.1.name=vp.2
theorem yK{T:eD} : ∀{l:List Va} {p i:Nat} {v:Va},l[i]?=some v->(∀c∈vT p l,Lr T c)->Has T.pt p (oX l)->T.ty v.name=v.ty/\T.ls v.name=v.last/\(v.last=true->(Sm.b_ (l.map ey) p)[i]?=some (some (T.lp v.name))/\T.pt (T.lp v.name)= .val v.ty)
 | [],p,i,v,b,_,_=>by simp at b
 |a::l,p,i,v,b,d,f=>by
  have g:=d (a,p) (avj ..);cases e:a.last with
  |true=>
   have h:oX (a::l)= .val a.ty::oX l:=by unfold oX;rw[aww (by omega)];rfl
   have j:Sm.b_ ((a::l).map ey) p=some p::Sm.b_ (l.map ey) (p+1):=by
    show(if a.last then _ else _)=_;rw[au2 e]
   have k:vT p (a::l)=(a,p)::vT (p+1) l:=by show(a,p)::vT (if a.last then p+1 else p) l=_;rw[au2 e]
   rw[h]at f;obtain⟨s,n⟩:=Has.cons f;rw[k]at d;rw[j];cases i with
   |zero=>
    simp at b;subst b;obtain⟨o,q,r⟩:=g;exact⟨o,q,λ_=>⟨by rw[r];rfl,by simp_all⟩⟩
   |succ i=>exact yK (i:=i) (by simpa using b) (λc m=>d c (au7 _ m)) n
  |false=>
   have h:oX (a::l)=oX l:=by unfold oX;rw[awx (by simp[e])]
   have j:Sm.b_ ((a::l).map ey) p=none::Sm.b_ (l.map ey) p:=by
    show(if a.last then _ else _)=_;rw[auU (by simp[e])]
   have k:vT p (a::l)=(a,p)::vT p l:=by show(a,p)::vT (if a.last then p+1 else p) l=_;rw[auU (by simp[e])]
   rw[h]at f;rw[k]at d;rw[j];cases i with
   |zero=>
    simp at b;subst b;exact⟨g.1,g.2.1,λb=>by simp_all⟩
   |succ i=>exact yK (i:=i) (by simpa using b) (λc m=>d c (au7 _ m)) f
theorem AV{T:eD}{pt:Nat->PK} : ∀{l:List aB} {c j p:Nat} {q:aB},l[j]?=some q->(Sm.dX (fM l) c)[j]?=some p->(∀d∈E6 p q,d∈lS c l)/\(Has pt c (rJ T l)->Has pt p (lT T q))
 | [],c,j,p,q,a,_=>by simp at a
 |g::l,c,j,p,q,a,e=>by
  simp only[fM,Sm.dX]at e;cases j with
  |zero=>
   simp at a e;subst a;subst e;refine⟨λd f=> ?_,λb=> ?_⟩
   ·simp only[lS];exact auY _ f
   ·rw[rJ]at b;exact(Has.app b).1
  |succ j=>
   obtain⟨h,i⟩:=AV (T:=T) (pt:=pt) (l:=l) (c:=c+Sm.qP (dE g)) (j:=j) (by simpa using a) (by simpa using e);refine⟨λd f=> ?_,λb=>i ?_⟩
   ·simp only[lS];exact au0 _ (h d f)
   ·rw[rJ]at b;have:=(Has.app b).2;rw[E_]at this;exact this
theorem uv{T:eD}{pt:Nat->PK} : ∀{l:List bh} {c k:Nat} {a:bh},l[k]?=some a->(∀g∈Dz (c+Sm.aS (((eZ l).take k).map Sm.gb)) (eb a),g∈p9 c l)/\(Has pt c (qD T l)->Has pt (c+Sm.aS (((eZ l).take k).map Sm.gb)) (pw T (eb a)))
 | [],c,k,a,d=>by simp at d
 | .mk i b j m::l,c,k,a,d=>by
  cases k with
  |zero=>
   simp at d;subst d;refine⟨λg h=> ?_,λf=> ?_⟩
   ·simp only[p9];exact auY _ h
   ·rw[qD]at f;exact(Has.app f).1
  |succ k=>
   obtain⟨n,o⟩:=uv (T:=T) (pt:=pt) (l:=l) (c:=c+Sm.bP (eV b)) (k:=k) (by simpa using d);have e:c+Sm.aS (((eZ (.mk i b j m::l)).take (k+1)).map Sm.gb)=c+Sm.bP (eV b)+Sm.aS (((eZ l).take k).map Sm.gb):=by
    have:Sm.aS (((eZ (.mk i b j m::l)).take (k+1)).map Sm.gb)=Sm.bP (eV b)+Sm.aS (((eZ l).take k).map Sm.gb):=rfl;rw[this];omega
   rw[e];refine⟨λg h=> ?_,λf=>o ?_⟩
   ·simp only[p9];exact au0 _ (n g h)
   ·rw[qD]at f;have:=(Has.app f).2;rw[ur]at this;exact this
theorem Ls{T:eD}{b:bj}(h:xK b): ∀p,(∀k∈Dz p b,Lr T k)->Has T.pt p (pw T b)->qT T p b:=by
 induction h with
 | @mk b J K L C=>
  intro p s A;cases b with
  |mk N M=>
  simp only[Dz]at s;rw[pw]at A;obtain⟨H,t⟩:=Has.app A;rw[E9]at t;refine .mk (λI v D=>yK D (λk o=>s k (auY _ o)) H) (λx l m q w=> ?_) (λx l m g j q w d=> ?_)
  ·have a:=(AV (T:=T) (pt:=T.pt) q w).2 t;cases l with
   |df n e=>exact jI T a
   |call n y z j b B e=>
    rw[lT]at a;obtain⟨E,f⟩:=Has.cons a;obtain⟨f,r⟩:=Has.app f;obtain⟨r,u⟩:=Has.app r;rw[cX]at r u;rw[cX]at u;exact⟨λx F=>by rw[E,F,G0],jI T f,jI T r,jI T u⟩
   |sw e i=>rw[lT]at a;exact jI T (Has.app a).1
   |aP i=>rw[lT]at a;exact(Has.cons a).1
   |reset e b=>rw[lT]at a;exact jI T (Has.app a).1
  ·obtain⟨G,a⟩:=AV (T:=T) (pt:=T.pt) q w;have a:=a t;refine C l (auQ q) j (auQ d) (oI l m g) (λk o=>s k (au0 _ (G k ?_))) ?_
   ·cases l with
    |df n e=>simp[cD]at d
    |call n y z j b B e=>simp[cD]at d
    |sw e i=>exact(uv (T:=T) (pt:=T.pt) (c:=m+xE e) (show i[g]?=some j from d)).1 k o
    |aP i=>exact(uv (T:=T) (pt:=T.pt) (c:=m+1) (show i[g]?=some j from d)).1 k o
    |reset e b=>
     cases g with
     |succ g=>simp[cD]at d
     |zero=>simp[cD]at d;subst d;exact o
   ·cases l with
    |df n e=>simp[cD]at d
    |call n y z j b B e=>simp[cD]at d
    |sw e i=>
     rw[lT]at a;have f:=(Has.app a).2;rw[cX]at f;exact(uv (T:=T) (pt:=T.pt) (c:=m+xE e) (show i[g]?=some j from d)).2 f
    |aP i=>
     rw[lT]at a;have f:=(Has.cons a).2;exact(uv (T:=T) (pt:=T.pt) (c:=m+1) (show i[g]?=some j from d)).2 f
    |reset e b=>
     cases g with
     |succ g=>simp[cD]at d
     |zero=>
      simp[cD]at d;subst d;rw[lT]at a;have f:=(Has.app a).2;rw[cX]at f;exact f
theorem uw{T T':eD}(h:T.ty=T'.ty): ∀e:E,qS T e=qS T' e
 | .nil=>rfl
 | .int _=>rfl
 | .bool _=>rfl
 | .ctor _=>rfl
 | .var d=>by simp only[qS,h]
 | .last d=>by simp only[qS,h]
 | .un g a=>rfl
 | .bin g a b=>rfl
 | .ite c a b=>uw h a
 | .ga c f=>uw h c
 | .pre f=>uw h f
 | .arrow a b=>uw h a
 | .fI d c a=>uw h a
 | .merge d i j k a b c=>uw h c
theorem js{T T':eD}(h:T.ty=T'.ty): ∀e:E,j4 T e=j4 T' e
 | .nil=>rfl
 | .int _=>rfl
 | .bool _=>rfl
 | .ctor _=>rfl
 | .var f=>rfl
 | .last f=>rfl
 | .un g a=>js h a
 | .bin g a b=>by simp only[j4];rw[js h a,js h b]
 | .ite c a b=>by simp only[j4];rw[js h a,js h b,js h c]
 | .ga c d=>by simp only[j4];rw[uw h c,js h c,js h d]
 | .pre d=>by simp only[j4];rw[uw h d,js h d]
 | .arrow a b=>by simp only[j4];rw[js h a,js h b]
 | .fI f c a=>js h a
 | .merge f i j k a b c=>by simp only[j4];rw[js h a,js h b,js h c]
mutual
theorem Og{T T':eD}(h:T.ty=T'.ty): ∀q:aB,lT T q=lT T' q
 | .df c e=>by rw[lT,lT,js h e]
 | .call c f g d b i e=>by rw[lT,lT,js h e,js h d,js h b]
 | .sw e a=>by rw[lT,lT,js h e,DD h a]
 | .aP a=>by rw[lT,lT,DD h a]
 | .reset e b=>by rw[lT,lT,js h e,G3 h b]
theorem DD{T T':eD}(h:T.ty=T'.ty): ∀l:List bh,qD T l=qD T' l
 | []=>rfl
 | .mk a b c d::l=>by rw[qD,qD,G3 h b,DD h l]
theorem G3{T T':eD}(h:T.ty=T'.ty): ∀b:bj,pw T b=pw T' b
 | .mk c a=>by rw[pw,pw,H7 h a]
theorem H7{T T':eD}(h:T.ty=T'.ty): ∀l:List aB,rJ T l=rJ T' l
 | []=>rfl
 |a::l=>by rw[rJ,rJ,Og h a,H7 h l]
end
def Fh(d:Nd):List (Va×Nat):=d.ins.map (λv=>(v,0))++(vT (Sm.bP (eV d.b)) d.outs++Dz 0 d.b)
def Fi(d:Nd)(x:Nm):Option (Va×Nat):=(Fh d).find? λvp=>decide (vp.1.name=x)
def T0(d:Nd):eD where
 ty x:=match Fi d x with|some vp=>vp.1.ty|none=> .int
 ls x:=match Fi d x with|some vp=>vp.1.last|none=>false
 lp x:=match Fi d x with|some vp=>vp.2|none=>0
 pt _:= .any
noncomputable def TN(d:Nd):eD:= {T0 d with pt:= λk=>((pw (T0 d) d.b++oX d.outs)[k]?).getD .any}
theorem G4{d:Nd}(g:(tn (Fh d)).Nodup){a:Va×Nat}(h:a∈Fh d):Lr (TN d) a:=by
 have:Fi d a.1.name=some a:=by
  unfold Fi;cases c:(Fh d).find? λb=>decide (b.1.name=a.1.name)with
  |none=>
   have:=List.find?_eq_none.1 c a h;simp at this
  |some b=>
   have i:=axf c;obtain⟨f,k⟩:=ave.1 i;obtain⟨j,e⟩:=ave.1 h;have l:f<(tn (Fh d)).length:=by grind
   have:=(awW l g (j:=j)).1 (by grind);subst this;rw[k]at e;exact e
 refine⟨?_,?_,?_⟩
 ·show(match Fi d a.1.name with|some a=>a.1.ty|none=> .int)=_;rw[this]
 ·show(match Fi d a.1.name with|some a=>a.1.last|none=>false)=_;rw[this]
 ·show(match Fi d a.1.name with|some a=>a.2|none=>0)=_;rw[this]
end Go.Ex
namespace Go.Ex
open Go.Mt Go.Mk
open Go.Sm (Path US It)
theorem OT{d:Nd}(a:xK d.b)(b: ∀v∈d.outs,v.last=true->GC v.ty v.first):FA (pw (T0 d) d.b++oX d.outs) (Sm.gX cU (cC d)):=(OR (T0 d) a).app (Np d.outs b)
theorem G5{d:Nd}{k:Nat}{x:PK}(h:(TN d).pt k=x)(c:x≠ .any):(pw (T0 d) d.b++oX d.outs)[k]?=some x:=by
 have a:((pw (T0 d) d.b++oX d.outs)[k]?).getD .any=x:=h;cases b:(pw (T0 d) d.b++oX d.outs)[k]? with
 |none=>rw[b]at a;exact absurd a.symm c
 |some e=>rw[b]at a;exact av3 some a
theorem DE{l:List PK}{m:List (Option Int)}(h:FA l m){k:Nat}{x:PK}(b:l[k]?=some x): ∃y,m[k]?=some y/\Of x y:=by
 have a:=qC b;rw[h.1]at a;exact⟨_,auO a,h.2 k x _ b (auO a)⟩
def jt(l:List Nd):Nat->Nat->US->Prop
 |0,_,_=>False
 |n+1,k,u=> ∃d,l[k]?=some d/\u.i=k/\Mem (TN d) (jt l n) (rf u)
structure OU(d:Nd):Prop where
 wf:xK d.b
 of: ∀v∈d.outs,v.last=true->GC v.ty v.first
 nd:(tn (Fh d)).Nodup
theorem l_{c:UInt8}{n n':Nat}{x:Nm}(h:gT n n' x):x≠⟨#[c]⟩:=by
 obtain⟨b,a,_,_,rfl⟩:=h;exact Ms b c a
theorem Oh{d:Nd} :tn (Fh d)=d.ins.map (·.name)++(d.outs.map (·.name)++tn (Dz 0 d.b)):=by
 unfold Fh tn;rw[avi,avi,axr,show List.map (λa:Va×Nat=>a.1.name) (vT (Sm.bP (eV d.b)) d.outs)=d.outs.map (·.name)from GZ _ _];rfl
theorem OV{k:Nat}{d:Nd}(h:GN k d):OU d:=by
 obtain⟨_,j,⟨last,first,p,f⟩,q,r,g⟩:=h;refine⟨Nr k 3 _ _ _ _ _ g,λv c l=> ?_,?_⟩
 ·rw[f]at c;simp only[auX,au3,avF]at c;rcases c with rfl|rfl
  ·grind
  ·cases l
 ·have i:=(No k 3 _ _ _ _ _ g).2 0;rw[Oh,j,f,<-avh,avL];refine⟨(show([aV.name,bV.name,⟨#[120]⟩,yV.name]:List Nm).Nodup by decide),i.d,λa s o m e=> ?_⟩;subst e;have b:=i.b a m;have n:a=aV.name\/a=bV.name\/a=⟨#[120]⟩\/a=yV.name:=by grind
  rcases n with rfl|rfl|rfl|rfl
  ·exact l_ b W
  ·exact l_ b W
  ·exact l_ b W
  ·exact l_ b W
theorem Ns{d:Nd}(h:OU d):(∀k t,(TN d).pt k= .val t->VT t (Sm.bZ (Sm.gX cU (cC d)) k))/\(∀k N,(TN d).pt k= .aP N->0<=Sm.bZ (Sm.gX cU (cC d)) k/\Sm.bZ (Sm.gX cU (cC d)) k<(N:Int))/\ ∀k j,(TN d).pt k= .call j->(Sm.gX cU (cC d))[k]?=some none:=by
 have f:=OT h.wf h.of;refine⟨λk t c=> ?_,λk N c=> ?_,λk j c=> ?_⟩
 ·obtain⟨b,e,a⟩:=DE f (G5 c (by simp));cases b with
  |none=>exact a.elim
  |some v=>unfold Sm.bZ;rw[e];exact a
 ·obtain⟨b,e,a⟩:=DE f (G5 c (by simp));cases b with
  |none=>
   have g:0<N:=a;unfold Sm.bZ;rw[e];show(0:Int)<=0/\(0:Int)<N;omega
  |some v=>exact a.elim
 ·obtain⟨b,e,a⟩:=DE f (G5 c (by simp));cases b with
  |none=>exact e
  |some v=>exact a.elim
section
variable{l:List Nd}(hP:GP l)
include hP
theorem AW{j:Nat}(c:j<l.length):Sm.cZ (dG l).nodes (nm 102 j)=some j:=by
 have e: ∀(a:Nat) (d:Nd),l[a]?=some d->d.name=nm 102 a:= λa d g=>(hP.2.2 a d g).1
 show(l.map cC).findIdx? (λd=>decide (d.name=nm 102 j))=some j;rw[awY];obtain⟨h,b,i,k,m,n⟩:=yF l ((λd:Sm.Nd=>decide (d.name=nm 102 j))∘cC) ⟨l[j],avb c,by show decide (l[j].name=nm 102 j)=true;rw[e j _ (auO c)];simp⟩;have f:b.name=nm 102 j:=auV m;rw[e h b k]at f;rw[i,(iX f).2]
theorem AX{n j:Nat}{d:Nd}(b:l[j]?=some d):jt l (n+1) j (US.init (dG l) j):=by
 obtain⟨h,i,o⟩:=Ns (OV (hP.2.2 j d b));have f: ∀a,(US.init (dG l) j).mem a=Sm.bZ (Sm.gX cU (cC d)) a:= λa=>by
  show(match(l.map cC)[j]? with|some d=>Sm.bZ (Sm.gX cU d) a|none=>0)=_;rw[au6,b];rfl
 refine⟨d,b,W,λa=> ?_⟩;cases g:(TN d).pt a with
 |val c=>show VT c ((US.init (dG l) j).mem a);rw[f];exact h a c g
 |any=>trivial
 |aP e=>show 0<=(US.init (dG l) j).mem a/\(US.init (dG l) j).mem a<(e:Int);rw[f];exact i a e g
 |call m=>intro p k;cases k
theorem H8: ∀(n k:Nat),k<n-> ∀(u:US),jt l n k u-> ∀a b,VT .int a->VT .bool b-> ∃B C u',Sm.d_ (dG l) n u [a,b] [B,C] u'/\VT .int B/\VT .fJ C/\jt l n k u':=by
 intro n
 induction n with
 |zero=>intro k hk;omega
 |succ n ih=>
  intro k hk u hu a b va vb;obtain⟨d,D,U,V⟩:=hu;have H:=hP.2.2 k d D;have z:=OV H;obtain⟨f1,f2,f3⟩:=Ns z;have S1:=qC D;have X:=Dy H;obtain⟨i8,w,⟨last,first,hf,p⟩,n',RL,Y⟩:=H
  let T:=TN d
  let R:=Sm.gX cU (cC d)
  let Z:Nat->US->List Int->List Int->US->Prop:= λg u f x u'=>g<k/\Sm.d_ (dG l) n u f x u'/\u'.i=g/\jt l n g u'
  let aD:Nat->US:=US.init (dG l)
  have XS: ∀g u',jt l n g u'->u'.i=g:= λg u' j=>by
   cases n with
   |zero=>exact j.elim
   |succ n=>obtain⟨_,_,i,_⟩:=j;exact i
  have hW:Wd T R (jt l n) Z aD k:=by
   refine⟨f1,f2,f3,λg hj=>⟨?_,rfl⟩,λg hj u0 d8 a0 b0 d9 f9=> ?_⟩
   ·have RN:l[g]?=some l[g]:=auO (by omega);cases n with
    |zero=>omega
    |succ n=>exact AX hP RN
   ·obtain⟨B,C,u',i,q,E,y⟩:=ih g (by omega) u0 d8 a0 b0 d9 f9;exact⟨B,C,u',⟨hj,i,XS g u' y,y⟩,q,E⟩
  have Qp:qT T 0 d.b:=by
   refine Ls z.wf 0 (λvp I=>G4 z.nd (au0 _ (au0 _ I))) (λf h o=> ?_);rw[show pw T d.b=pw (T0 d) d.b from G3 (T:=T) (T':=T0 d) (show T.ty=(T0 d).ty from rfl) d.b]at o;show((pw (T0 d) d.b++oX d.outs)[0+f]?).getD .any=h;rw[awc,auL (qC o),o];rfl
  have gc:Has T.pt (Sm.bP (eV d.b)) (oX d.outs):= λf h o=>by
   show((pw (T0 d) d.b++oX d.outs)[Sm.bP (eV d.b)+f]?).getD .any=h;rw[auR (by rw[ur];omega),ur,avP,o];rfl
  have ac: ∀(f:Nat) (v:Va),d.outs[f]?=some v->T.ty v.name=v.ty/\T.ls v.name=v.last/\(v.last=true->(Sm.b_ (d.outs.map ey) (Sm.bP (eV d.b)))[f]?=some (some (T.lp v.name))/\T.pt (T.lp v.name)= .val v.ty):= λf v c=>
   yK c (λvp I=>G4 z.nd (au0 _ (auY _ I))) gc
  have ah: ∀v∈d.ins,T.ty v.name=v.ty/\T.ls v.name=v.last:= λv c=>by
   have:=G4 z.nd (auY _ (ava.2 ⟨v,c,rfl⟩));exact⟨this.1,this.2.1⟩
  have Ui: ∀v∈d.outs,v.clock=none:= λv c=>by
   rw[p]at c;simp only[auX,au3,avF]at c;rcases c with rfl|rfl<;>rfl
  have J:((d.ins++d.outs).map (·.name)).Nodup:=by rw[w,p];exact(show([aV.name,bV.name,⟨#[120]⟩,yV.name]:List Nm).Nodup by decide)
  have co:(d.outs.map (·.name)).Nodup:=by rw[p];exact(show([⟨#[120]⟩,yV.name]:List Nm).Nodup by decide)
  have K: ∀h,fu (d.ins++d.outs) h-> ¬gT 0 n' h:=by
   rintro h ⟨v,c,rfl⟩ F;rw[w,p]at c;simp only[avM,avn,auX,au3,avF]at c;rcases c with rfl|rfl|rfl|rfl
   ·exact l_ F W
   ·exact l_ F W
   ·exact l_ F W
   ·exact l_ F W
  let r:Env:=[(aV.name,some a,0),(bV.name,some b,0)]
  have L:get r aV.name=some (some a,0,0):=rfl;have M:get r bV.name=some (some b,0,1):=rfl;have N: ∀h,h≠aV.name->h≠bV.name->get r h=none:= λh i q=>by
   show(if aV.name=h then _ else if bV.name=h then _ else none)=none;rw[auU (λe=>i e.symm),auU (λe=>q e.symm)]
  have ge:mx T r (fu (d.ins++d.outs)) ⟨d.ins,[],[]⟩ r.length:=by
   refine⟨⟨λv c=>(ah v c).1,λv c=>(by cases c),λv c=>(by cases c)⟩,λv c hc=> ?_,λv c=>(by cases c)⟩;have Yc:fu (d.ins++d.outs) v.name:=⟨v,auY _ c,rfl⟩;rw[w]at c;simp only[auX,au3,avF]at c;rcases c with rfl|rfl
   ·exact⟨Yc,⟨a,0,0,L,(show 0<2 by decide)⟩,by show VT .int (val r aV.name);unfold val;rw[L];exact va⟩
   ·exact⟨Yc,⟨b,0,1,M,(show 1<2 by decide)⟩,by show VT .bool (val r bV.name);unfold val;rw[M];exact vb⟩
  obtain⟨s,hE,hO,hL⟩:=HQ hW 3 _ _ _ _ _ Y r (rf u) (fu (d.ins++d.outs)) 0 V ge (λv c=>by
    obtain⟨f,T_⟩:=ave.1 c;obtain⟨O,P,Q⟩:=ac f v T_;refine⟨⟨v,au0 _ c,W⟩,⟨O,P,λj=>(Q j).2⟩,Ui v c,?_⟩;rw[p]at c;simp only[auX,au3,avF]at c;rcases c with rfl|rfl
    ·exact N _ (show(⟨#[120]⟩:Nm)≠aV.name by decide) (show(⟨#[120]⟩:Nm)≠bV.name by decide)
    ·exact N _ (show yV.name≠aV.name by decide) (show yV.name≠bV.name by decide)) co K (λh o=>N h (l_ o) (l_ o)) Qp
  obtain⟨i6,PO,i7⟩:=(Av k 3).st _ _ _ _ _ Y (fu (d.ins++d.outs)) (λv c=>⟨v,au0 _ c,rfl⟩) K co;obtain⟨sp,wf⟩:=AO hP;have TJ:(dG l).nodes[u.i]?=some (cC d):=by show(l.map cC)[u.i]?=_;rw[U,au6,D];rfl
  have S:bJ (dG l) T R s d u Z aD:=by
   refine⟨sp,wf,auQ TJ,W,W,hL s (br.refl s),i7,Qp,J,λv c=> ?_,λf v c=> ?_,λv c=> ?_,λv c d7 hq o=> ?_,λv c=> ?_⟩
   ·obtain⟨i,q⟩:=ah v c;rw[w]at c;simp only[auX,au3,avF]at c;rcases c with rfl|rfl
    ·exact⟨i,q,W,W⟩
    ·exact⟨i,q,W,W⟩
   ·obtain⟨O,P,Q⟩:=ac f v c;exact⟨O,P,Ui v (auQ c),Q⟩
   ·exact(nQ.1 ((PO v.name).2 ⟨v,c,W⟩)).1
   ·have PU: ¬ ∃t∈dw d.b,t.name=v.name:=by
     rintro⟨t,A,e⟩;exact K v.name ⟨v,auY _ c,W⟩ (e▸i6 t A)
    have:v.name∈Sm.kT (eV d.b):=nQ.2 ⟨⟨d7,hq,o⟩,λt A e=>PU ⟨t,A,e⟩⟩;obtain⟨t,A,e⟩:=(PO v.name).1 this;rw[avi,avL]at J;exact J.2.2 v.name (avw c) t.name (avw A) e.symm
   ·obtain⟨x,sb,f,i,q,E,y⟩:=hO.o v c;exact⟨x,sb,f,i,E,y⟩
  have hC:=Oc S (⟨λg u f x u' j=>⟨j.2.1,AW hP (by have:=j.1;omega)⟩,λg=>rfl⟩) X.1 X.2.1 TJ (by rw[w];exact(show 2<=1000 by decide)) (by rw[p];exact(show 2<=1000 by decide)) (ins:=[a,b]) (by rw[w];rfl) (λf v m c G=>by
   rw[w]at c;cases f with
   |zero=>simp at c G;subst c;subst G;exact⟨0,0,hE.get L⟩
   |succ f=>
    cases f with
    |zero=>simp at c G;subst c;subst G;exact⟨0,1,hE.get M⟩
    |succ f=>simp at c)
  have d6: ∀v∈d.outs,VT v.ty (val s v.name):= λv c=>by
   obtain⟨x,sb,f,i,q,E,y⟩:=hO.o v c;rw[sL i];exact y
  have e1:d.outs.map (λv=>val s v.name)= [val s ⟨#[120]⟩,val s yV.name]:=by rw[p];rfl
  rw[e1]at hC;refine⟨_,_,_,⟨_,cC d,hC⟩,d6 ⟨⟨#[120]⟩,.int,none,last,first⟩ (by rw[p];exact avj ..),d6 yV (by rw[p];exact au7 _ (avj ..)),d,D,U,(Lm (ap:=jZ d) S hW V (λg u f x u' j=>⟨j.2.2.1,j.2.2.2⟩) u.i)⟩
end
end Go.Ex
