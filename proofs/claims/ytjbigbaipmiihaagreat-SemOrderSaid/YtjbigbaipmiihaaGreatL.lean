/- A part of the proof of the last text of this claim, without conditions. -/
import Derived.Test.YtjbigbaipmiihaaGreatK
import Derived.Deep.Matrix
import Derived.SizedLaws
set_option maxRecDepth 4000
set_option linter.all false
namespace Go.Mt
open Go.ChangeShapes
end Go.Mt
namespace Go.Proofs.Sz
open Go.Mt Go.Sm Go.Proofs
open Tryz
instance:bw prog 12:=cR (by kernel_rfl)
instance:bw prog 16:=cR (by kernel_rfl)
instance:bw prog 14:=cR (by kernel_rfl)
theorem Kj(a b:List Int)(v:a.length<=1000000):PT prog 16 [.sl (bL a),.sl (bL b)] (·=[.bool (decide (a=b))]):=by
 have w:(bL a).length=a.length:=by simp[bL]
 have F:(bL b).length=b.length:=by simp[bL]
 refine OL (CT.ob func16 W ntmps16 W λz A=>?_);refine tC [2] W ?_;by_cases j:a.length=b.length;rotate_left
 .have c:((((bL a).length:Nat):Int) !=(((bL b).length:Nat):Int))=true:=by grind
  have d:decide (a=b)=false:=asX (λe=>j (by rw[e]));rw[d];refine tO [2,14] W<|aQ c W W W W<|tL [1,2] W<|TC.ret ⟨_,W,[_],W,W⟩
 have c:((((bL a).length:Nat):Int) !=(((bL b).length:Nat):Int))=false:=by grind
 refine tO [2,14] W<|aQ c W W W W<|tL [0,2,3] W<|TC.lp (λk s=>∃(i:Nat) (c:List (Nat×List M)),s=⟨[nN 5 i,nD 1 (.sl (bL b)),nD 0 (.sl (bL a))],c,[]⟩/\i<=a.length/\k=a.length-i/\∀(j:Nat),j<i->a[j]?=b[j]?) a.length _
  ⟨0,_,rfl,by omega,rfl,λj h=>by omega⟩ W ?_
 rintro s t ⟨i,B,rfl,C,rfl,E⟩;refine tC [2] W<|TC.cond W (λl=>?_) (λl=>?_)
 .have g:i<a.length:=by grind
  have h:i<b.length:=by omega
  have d:(bL a)[((i:Nat):Int).toNat]?=some [.int .i32 a[i]]:=by simp[bL,g]
  have f:(bL b)[((i:Nat):Int).toNat]?=some [.int .i32 b[i]]:=by simp[bL,h]
  have m:=aso g;have n:=aso h;generalize a[i]=x at d m;generalize b[i]=y at f n;refine tC [3] W ?_;by_cases q:x=y
  .have k:(x !=y)=false:=by grind
   refine tC [] W<|TC.draw bX<|fR 2 W<|bJ W W W (asm i) d W<|fR 3 W<|bJ W W W (asm i) f W<|fR 1 W<|mG W W W (r:=.bool false) (by show some (D.bool (_ !=_))=_;rw[k])<|TF.nil ⟨by kernel_rfl,?_⟩;refine tO [0,2,20] W<|ay W W W (by omega)<|tL [] W<|again (k':=a.length-(i+1)) (by omega) ⟨i+1,_,rfl,by omega,rfl,λu o=>?_⟩ W W;rcases as8.1 o with p|p
   .grind
   .grind
  .have o:(x !=y)=true:=by grind
   have k:decide (a=b)=false:=asX (λe=>q (by grind));rw[k];refine tC [] W<|TC.draw bX<|fR 2 W<|bJ W W W (asm i) d W<|fR 3 W<|bJ W W W (asm i) f W<|fR 1 W<|mG W W W (r:=.bool true) (by show some (D.bool (_ !=_))=_;rw[o])<|TF.nil ⟨by kernel_rfl,?_⟩;refine tC [1,2] W<|TC.ret ⟨_,W,[_],W,W⟩
 .have e:i=a.length:=by grind
  have d:decide (a=b)=true:=asP (atX λj=>by
   grind)
  rw[d];refine TC.exit<|tC [2] W<|TC.ret ⟨_,W,[_],W,W⟩
theorem Iu(P:Pg)(d:Nd)(a:P.nodes.length<=1000000)(h:P.nodes[P.nodes.length-1]?=some d):PT prog 12 [.agg P.cells] (·=[.str d.name]):=by
 have a:P.nodes.length-1<P.nodes.length:=by
  grind
 have a:(P.nodes.map Nd.cells)[((((P.nodes.map Nd.cells).length:Nat):Int)-1).toNat]?=some d.cells:=by
  simp_all
 rw[Nd.aA]at a;refine OL (CT.ob func12 W ntmps12 W λb c=>?_);refine tO [2,2,12] W<|cI W W W (by simp;omega)<|tR [13] W<|aP W W W (by simp;omega) a W<|tL [] W<|TC.ret ⟨_,rfl,[_],rfl,rfl⟩
def p5(x:Int):Int:=if Int.tmod x 3=1\/Int.tmod x 3= -1 then 1 else 0
def j9(l:List Int):List (List Int):=(l.take 20).map λx=>[x,p5 x]
def p6(l:List (List Int)):List (List D):=l.map λr=>[.sl (bL r)]
def FT(a:List Int)(v:D)(m:pG .i32 a v):PT prog 14 [v] (·=[.sl (p6 (j9 a))]):=by
 obtain⟨j,n,B⟩:=m;refine OL (CT.ob func14 W ntmps14 W λC E=>?_);refine tC [2,2,2,3] W ?_;have y:∀i,i<=a.length->i<=20->(p6 (j9 (a.take i))).length=i:= λi a a=>by simp[p6,j9];omega
 have p:∀i,i<a.length->i<20->∀x,a[i]?=some x->p6 (j9 (a.take (i+1)))=p6 (j9 (a.take i))++[[.sl (bL [x,p5 x])]]:= λi b b x b=>by
  have e:a.take (i+1)=a.take i++[x]:=by rw[au5,b];rfl
  unfold p6 j9;rw[au6,au6,auT (by omega),auT (by omega),e];simp
 refine TC.lp (λk s=>∃(i:Nat) (b:List (Nat×List M)),s=⟨[nN 4 i,nM 3 (gw 0 (p6 (j9 (a.take i)))),nM 0 (.d v)],b,dK [] 1 (p6 (j9 (a.take i)))⟩/\i<=a.length/\i<=20/\k=20-i) 20 _
  ⟨0,_,rfl,by omega,by omega,rfl⟩ W ?_
 rintro z A ⟨i,F,rfl,G,H,rfl⟩;have q:i<a.length/\i<20\/(i=a.length\/i=20):=by omega
 rcases q with⟨d,o⟩|r
 .have s:decide (((i:Nat):Int)<((a.length:Nat):Int))=true:=asP (by omega);have k:=aso d;have t:v=.sl (kj .i32 a):=by
   rcases n with h|h
   .rw[h]at d;simp at d
   .exact h
  have c:(kj .i32 a)[((i:Nat):Int).toNat]?=some [.int .i32 a[i]]:=by simp[kj,d]
  have b:=p i d o _ k;have f:=y i (by omega) (by omega);generalize a[i]=x at k c b;subst t;refine tO [2,12] W<|bK W W j<|tR [13] W<|aQ s W W W W<|tR [16] W ?_
  first|refine aH W W ?_|(refine aC W ?_;(refine aQ (asP (by omega)) W W W W ?_))
  refine tL [1,3] W ?_;by_cases g:Int.tmod x 3=1
  .have h:p5 x=1:=by unfold p5;rw[asB (.inl g)]
   have l:(Int.tmod x 3==1)=true:=by simpa using g
   rw[h]at b;refine tO [2,2,22] W<|aP W W W (asm i) c W<|tR [24] W<|oY W W W W<|tR [25] W<|aQ l W W W W<|tR [31] W ?_
   first|refine aH W W ?_|(refine aC W ?_;(refine oY W W W W ?_))
   refine tR [1,2,2,37] W<|aP W W W (asm i) c W<|tR [42] W<|rq (H0:=[]) W W W W (by rfl) W (by rw[f];omega) (by rw[f];omega)<|tR [2,19] W<|ay W W W (by omega)<|tL [] W<|again (k':=20-(i+1)) (by omega) ⟨i+1,_,rfl,by omega,by omega,rfl⟩ (by rw[b];rfl) (kc W (kc (by rw[b];rfl) W))
  .have l:(Int.tmod x 3==1)=false:=by simpa using g
   by_cases h:Int.tmod x 3= -1
   .have u:p5 x=1:=by unfold p5;rw[asB (.inr h)]
    have w:(Int.tmod x 3== -1)=true:=by simpa using h
    rw[u]at b;refine tO [2,2,22] W<|aP W W W (asm i) c W<|tR [24] W<|oY W W W W<|tR [25] W<|aQ l W W W W<|tR [29] W ?_
    first|refine aH W W ?_|(refine aC W ?_;(refine aP W W W (asm i) c W ?_))
    refine tR [31] W ?_
    first|refine aH W W ?_|(refine aC W ?_;(refine oY W W W W ?_))
    refine tR [32] W ?_
    first|refine aH W W ?_|(refine aC W ?_;(refine aQ w W W W W ?_))
    refine tR [1,2,2,37] W<|aP W W W (asm i) c W<|tR [42] W<|rq (H0:=[]) W W W W (by rfl) W (by rw[f];omega) (by rw[f];omega)<|tR [2,19] W<|ay W W W (by omega)<|tL [] W<|again (k':=20-(i+1)) (by omega) ⟨i+1,_,rfl,by omega,by omega,rfl⟩ (by rw[b];rfl) (kc W (kc (by rw[b];rfl) W))
   .have u:p5 x=0:=by unfold p5;rw[asu (by omega)]
    have w:(Int.tmod x 3== -1)=false:=by simpa using h
    rw[u]at b;refine tO [2,2,22] W<|aP W W W (asm i) c W<|tR [24] W<|oY W W W W<|tR [25] W<|aQ l W W W W<|tR [29] W ?_
    first|refine aH W W ?_|(refine aC W ?_;(refine aP W W W (asm i) c W ?_))
    refine tR [31] W ?_
    first|refine aH W W ?_|(refine aC W ?_;(refine oY W W W W ?_))
    refine tR [32] W ?_
    first|refine aH W W ?_|(refine aC W ?_;(refine aQ w W W W W ?_))
    refine tR [0,2,37] W<|aP W W W (asm i) c W<|tR [42] W<|rq (H0:=[]) W W W W (by rfl) W (by rw[f];omega) (by rw[f];omega)<|tR [2,19] W<|ay W W W (by omega)<|tL [] W<|again (k':=20-(i+1)) (by omega) ⟨i+1,_,rfl,by omega,by omega,rfl⟩ (by rw[b];rfl) (kc W (kc (by rw[b];rfl) W))
 .have f:j9 (a.take i)=j9 a:=by
   unfold j9;rw[au6];rcases r with rfl|rfl
   .rw[show min 20 a.length=min 20 a.length from rfl]
    congr 1
    rcases Nat.le_total 20 a.length with h|h
    .rw[auj h]
    .rw[auT h,ath (asj _),ath h]
   .rfl
  rw[f];have b:=ji [] 1 (p6 (j9 a)) (λg c=>by obtain⟨h,_,rfl⟩:=asK.1 c;rfl);by_cases d:i<a.length
  .have c:i=20:=by omega
   refine tO [2,12] W<|bK W W j<|tR [13] W<|aQ (asP (by omega)) W W W W<|tR [16] W ?_
   first|refine aH W W ?_|(refine aC W ?_;(refine aQ (asX (by omega)) W W W W ?_))
   refine tL [0] W<|TC.exit<|TC.cq 3 W b<|tC [2] W<|TC.ret ⟨_,W,[_],W,W⟩
  .have c:decide (((i:Nat):Int)<((a.length:Nat):Int))=false:=asX (by omega);refine tO [2,12] W<|bK W W j<|tR [13] W<|aQ c W W W W<|tL [0] W<|TC.exit<|TC.cq 3 W b<|tC [2] W<|TC.ret ⟨_,W,[_],W,W⟩
end Go.Proofs.Sz
namespace Go.Sm
open Go.Mt
variable{j:Nat}{q:aB}
abbrev LR(s:Nm):Va:=⟨s,2,⟨#[]⟩,[],false,L_,(0,0)⟩
abbrev eA:Nm:=⟨#[97]⟩
abbrev eX:Nm:=⟨#[120]⟩
abbrev Kk(s:Nm):Xp:=.mk 4 0 0 s [] [] (0,0)
abbrev NU:Xp:=.mk 9 0 0 ⟨#[]⟩ [] [.mk 1 0 0 ⟨#[]⟩ [] [] (0,0),.mk 7 3 0 ⟨#[]⟩ [] [Kk eX,Kk eA] (0,0)] (0,0)
abbrev wY:aB:=.mk 1 [eX] ⟨#[]⟩ [] false NU [] (0,0)
abbrev Iw:Nd:=⟨⟨#[102]⟩,[LR eA],[LR eX],.mk [] [wY],(0,0)⟩
abbrev Kl:Pg:=⟨[],[Iw]⟩
def Ej(u:US)(a:Int):aI where
 ok π:=π=[]
 fr π:=match π with|[]=>sV Iw|_=>⟨[],[],[],[]⟩
 val π k:=match π,k with|[],0=>some a|[],1=>some (u.mem 0)|_,_=>none
 rk _ _:=0
 sb _ _:=0
 ek _ _:=0
 br _ _:=0
 iE _ _:=false
 ev _ _:=u.mem 0
 ew _ _:=[(0,jl 3 (u.mem 0) a)]
 outs _ _:=[]
 iF _ _:=u
 k7 _ _:=0
 nan _ _:=false
 rd:=u.mem
 rp:=u.cw
 rs:=u.an
 dX:=1
 sz:=1
 ap:=[.cell [] 1]
 wt _:=2
theorem BC(h:[wY][j]?=some q):j=0/\q=wY:=by grind
def rR{u:US}{a:Int}{π:Path}(h:((Ej u a).fr π).aq[j]?=some q):q=wY:=by
 cases π with
 |nil=>exact(BC h).2
 |cons _ _=>cases h
def rS(u:US)(a:Int):(Ej u a).find [] eX=some ([],1):=by kernel_rfl
def Ek(u:US)(a:Int):ic ((Ej u a).fr []) 1 (LR eX) 0:=⟨by kernel_rfl,⟨wY,rfl,asx.2 W⟩,λi q h b=>by have:=(BC b).1;omega⟩
def Km(u:US)(l:u.i=0)(a:Int):eV Kl 1 u [a] [u.mem 0] (.mk 0 (λ_=>jl 3 (u.mem 0) a) u.cw u.an):=by
 have g:∀{k:Nat},¬fH (Ej u a) k:=by
  rintro k ⟨d,j,q,p,b,i,m,n,o,f,_⟩;cases f
 refine⟨Ej u a,Iw,?_⟩;constructor
 case nd=>rw[l];rfl
 case sz=>kernel_rfl
 case Cd=>rfl
 case iK=>intro j d h;cases h
 case qc=>rfl
 case sW=>rfl
 case yS=>
  intro k v n _ h;cases k with
  |zero=>exact⟨h,Nat.one_pos⟩
  |succ k=>cases h
 case cell=>
  rintro d k v o rfl f p m
  match k with
  |0=>exact absurd (m W) (by decide)
  |1=>
   injection f with f
   subst f;refine⟨.nil,asj _,Nat.one_pos,λn i=>⟨0,some ([],0),Ek u a,.leaf (q:=wY) W (.inl W) (asj _),rS u a,wY,rfl,λ_=>⟨rfl,?_⟩,λh=>absurd h (by decide)⟩⟩;injection i with i;exact i.symm
  |k+2=>cases f
 case eq=>
  rintro d j q p rfl c f;obtain⟨rfl,rfl⟩:=BC c;injection f with f
  subst f;exact⟨.df W eX W λ_=>.fO Nat.one_pos (.bin (.var (rS u a) Nat.one_pos) (.var (σ:=([],0)) (by kernel_rfl) Nat.one_pos)),Nat.one_pos⟩
 case lhs=>intro d j q h c e;rw[rR c]at e;exact absurd e (by decide)
 case nx=>intro _ _;exact as2 _
 case vB=>intro d h;cases d with
  |nil=>exact absurd W h
  |cons _ _=>exact⟨W,W⟩
 case gh=>intro d j q c e;rw[rR c]at e;exact absurd e (by decide)
 case lh=>
  rintro d j q rfl c x i σ f _;obtain⟨rfl,rfl⟩:=BC c;rw[asx.1 i,rS]at f;injection f with f;subst f;exact asj _
 case I9=>
  intro i v f;cases i with
  |zero=>injection f with f;subst f;exact rS u a
  |succ i=>cases f
 case HA=>
  rintro d j q x rfl c _ f _;obtain⟨rfl,rfl⟩:=BC c;injection f with f;subst f
  exact⟨([],1),LR eX,0,rS u a,Ek u a,W,W,.leaf (q:=wY) W (.inl W) (asj _),λ_=>asj _⟩
 case I_=>
  rintro d j q rfl c x f;obtain⟨rfl,rfl⟩:=BC c;rw[show x=eX from asx.1 f];exact⟨_,rS u a⟩
 case aj=>intro d j q _ c _;rw[rR c];rfl
 case rd=>exactλk _=>⟨λh=>absurd h g,λ_=>rfl⟩
 case rp=>exactλk _=>⟨λh=>absurd h g,λ_=>rfl⟩
 case rs=>exactλk _=>⟨λh=>absurd h g,λ_=>rfl⟩
 case nm=>
  intro k e;have e:k=0:=by have:k<1:=e;omega
  subst e;refine⟨?_,λh=>absurd (.inl ⟨[],0,wY,rfl,rfl,λ_=>⟨_,rS u a,rfl⟩,asx.2 W⟩) (h (jl 3 (u.mem 0) a))⟩;rintro v (⟨d,j,q,m,c,_,n⟩|⟨d,i,rfl,f,_⟩|⟨d,j,q,m,c,e,_⟩)
  .have:=asx.1 n;injection this with _ h;exact h.symm
  .match i with
   |0=>cases f
   |1=>cases f
   |i+2=>cases f
  .rw[rR c]at e;exact absurd e (by decide)
 case np=>
  refineλk _=>⟨?_,λ_=>rfl⟩
  rintro v ⟨d,j,q,f,c,e,_⟩;rw[rR c]at e;exact absurd e (by decide)
 case ns=>
  refineλk _=>⟨?_,λ_=>rfl⟩
  rintro v ⟨d,j,q,f,c,e,_⟩;rw[rR c]at e;exact absurd e (by decide)
 case ui=>exact l.symm
 case wc=>
  rintro d k v rfl f i
  match k with
  |0=>exact absurd (i W) (by decide)
  |1=>exact⟨asx.2 W,by show 1<=2;omega,λ_ _ _ _ _ _ _ _=>asj 2⟩
  |k+2=>cases f
 case wq=>
  intro d j q _ c;rw[rR c];exact⟨λh=>absurd h (by decide),λh=>absurd h (by decide),λh=>absurd h (by decide)⟩
 case ws=>show 2+0<=1000000000000;omega
 case outs=>rfl
end Go.Sm
namespace Go.Proofs.Sz
open Go.Mt Go.Sm Go.Proofs
open Tryz
def BD{k op n:Int}{s:Nm}{p:Int×Int}(h:k≠9):jD (.mk k op n s [] [] p):=.mk (λe=>absurd e h) (as2 _) (as2 _) (λe a=>by cases a)
def LU:jD NU:=by
 refine .mk (λ_=>by simp) (by decide) (as2 _) λe a=>?_
 simp at a;rcases a with rfl|rfl
 .exact BD (by decide)
 .refine .mk (λh=>absurd h (by decide)) (by decide) (as2 _) λe a=>?_
  simp at a;rcases a with rfl|rfl<;>exact BD (by decide)
theorem Kq:mw Kl where
 e:=⟨as2 _,λe he=>by cases he⟩
 n:=by decide
 d:=by
  intro d hd;rw[asx.1 hd];have h1:∀q∈[wY],q=wY:= λq hq=>asx.1 hq
  have h2:bP Iw.b=1:=by kernel_rfl
  refine⟨.mk (by decide) (by decide) ?_ ?_ ?_ ?_ ?_,by decide,by grind⟩
  .intro q hq a ha;rw[h1 q hq]at ha;cases ha
  .intro q hq;rw[h1 q hq];exact as2 _
  .intro q hq;rw[h1 q hq];exact⟨LU,as2 _,λe he=>by cases he⟩
  .intro q hq;rw[h1 q hq];show 1<=1000000;omega
  .intro q hq a ha;rw[h1 q hq]at ha;cases ha
 i:=by
  intro d hd;rw[asx.1 hd];have:fZ Iw.b=1:=by kernel_rfl
  exact⟨by decide,by omega⟩
def Nk:px Kl where
 d:=by
  intro d hd;rw[asx.1 hd];have h1:∀q∈[wY],q=wY:= λq hq=>asx.1 hq
  refine⟨.mk (λv hv=>by cases hv) ?_ ?_ ?_,?_,as2 _⟩
  .intro q hq;rw[h1 q hq];exact⟨.inl W,λ_=>rfl,λh=>absurd h (by decide)⟩
  .intro q hq a ha;rw[h1 q hq]at ha;cases ha
  .intro q hq a ha;rw[h1 q hq]at ha;cases ha
  .grind
instance:bw prog 9:=cR (by kernel_rfl)
instance:bw prog 22:=cR (by kernel_rfl)
def El:PT prog 22 [] (·=[.agg Kl.cells]):=by
 refine OL (CT.ob func22 W ntmps22 W λa b=>?_);refine tC [2,2,2,2,2,2] W<|TC.ret ⟨_,W,[_],W,W⟩
def NW:Nat->Int
 |0=>0
 |1=>1
 |2=>3
 |_=>6
theorem wZ:PT prog 9 [] (·=[.bool true]):=by
 obtain⟨_,h,⟨e,F,rfl,a,v⟩,b⟩:=Cv (n:=1) Kq (asj 1) ⟨#[102]⟩ 0 (by kernel_rfl) [];refine OL (CT.ob func9 W ntmps9 W λw y=>?_);refine tO [2,2,12] W<|aL El W W<|tR [13] W<|au b W W<|tL [2,0,2,2,3] W<|TC.lp (λk s=>∃(i:Nat) (a:List (Nat×List M)) (K:Hp) (F:Nat->Prop) (u:US),s=⟨[nN 4 i,nD 3 (.sl [[.int .i32 0],[.int .i32 1],[.int .i32 3]]),nR 1 e],a,K⟩/\i<=3/\k=3-i/\ol Kl 1 u e F K/\u.i=0/\u.mem 0=NW i) 3 _
  ⟨0,_,h,F,_,rfl,by omega,rfl,a,rfl,by kernel_rfl⟩ W ?_
 rintro s t ⟨i,z,K,F,u,rfl,A,rfl,a,f,g⟩;refine tC [2] W<|TC.cond W (λb=>?_) (λb=>?_)
 .have c:i=0\/i=1\/i=2:=by grind
  obtain⟨_,j,⟨rfl,k,q,B⟩,l⟩:=wM Kq Nk a (xs:=[IntKind.i32.wrap (((i:Nat):Int)+1)]) (d:=Iw) (by intro x m;rw[asx.1 m];unfold oD;rcases c with rfl|rfl|rfl<;>decide) (by rw[f];rfl) W (Km u f _);have o:([[.int .i32 0],[.int .i32 1],[.int .i32 3]]:List (List D))[((i:Nat):Int).toNat]?=some [.int .i32 (u.mem 0)]:=by rw[g];rcases c with rfl|rfl|rfl<;>rfl
  have p:(u.mem 0 !=u.mem 0)=false:=by simp
  refine tO [3,2,26] W<|ay W W W (by omega)<|tR [29] W<|au l W W<|tL [] W<|TC.draw bX<|fR 9 W ?_
  first|refine bj W W W W ?_|refine bm W W W ?_|(refine aX W W ?_;(refine bJ W W W (au4 0) W W ?_))
  refine fR 3 W ?_
  first|refine bj W W W W ?_|refine bm W W W ?_|(refine aX W W ?_;(refine bJ W W W (asm i) o W ?_))
  refine fR 1 W ?_
  first|refine bj W W W W ?_|refine bm W W W ?_|(refine aX W W ?_;(refine mG W W W (r:=.bool false) (by show some (D.bool (_ !=_))=_;rw[p]) ?_))
  refine fR 1 W<|TF.nil ⟨by kernel_rfl,?_⟩;refine tO [0,2,22] W<|ay W W W (by omega)<|tL [] W<|again (k':=3-(i+1)) (by omega) ⟨i+1,_,j,k,_,rfl,by omega,rfl,q,rfl,by show jl 3 (u.mem 0) _=_;rw[g];rcases c with rfl|rfl|rfl<;>decide⟩ W W
 .refine TC.exit<|tC [2] W<|TC.ret ⟨_,W,[_],W,W⟩
variable{F G F':Nat->Prop}{P:Pg}{n im i:Nat}{u:US}{H:Hp}
def tH(F G:Nat->Prop):Prop:=∀a,F a->¬G a
def Ab{K:Hp}(h:ol P n u im G H)(b:JH F H F' K)(d:tH G F):ol P n u im G K:=
 h.frame (λa c=>b.o a (h.lt a c) (d a c)) b.len
def u6{K:Hp}(h:ol P n u im G H)(d:JH F H F' K)(e:tH G F):tH G F':= λa b f=>by
 rcases d.f a f with c|c
 .exact e a b c
 .have:=h.lt a b;omega
def tH.symm(h:tH F G):tH G F:= λa b c=>h a c b
def Em{x:Int}(h:(Lit.int .i32 x).wf=true):oD x:=by
 have a:IntKind.i32.min<=x/\x<=IntKind.i32.max:=by simpa [Lit.wf] using h
 have b:IntKind.i32.min= -2147483648:=by decide
 have c:IntKind.i32.max=2147483647:=by decide
 rw[b,c]at a;exact a
section
open Go.Mk Go.Ex
variable{l:List Mk.Nd}(hP:GP l)
include hP
end
def Ac(x:Int):p5 x=0\/p5 x=1:=by unfold p5;split<;>simp
def Ix{l:List (List Int)}{r:List Int}(h:l[i]?=some r):(p6 l)[((i:Nat):Int).toNat]?=some [.sl (bL r)]:=by
 unfold p6;simp[h]
def Iy{a:List Int}(h:i<(j9 a).length):∃x∈a,(j9 a)[i]?=some [x,p5 x]:=by
 have b:i<(a.take 20).length:=by simpa [j9] using h
 refine⟨(a.take 20)[i],aua (asE b),?_⟩;unfold j9;rw[asF,aso b];rfl
end Go.Proofs.Sz
namespace Go.Proofs.Sz
open Go.Mt Go.Sm Go.Proofs
theorem made{l:List Mk.Nd}(a:Mk.GP l):∃(x:Nm) (d:Nd),d.name=x/\(Go.Ex.gZ l).nodes[l.length-1]?=some d/\mw (Go.Ex.gZ l)/\px (Go.Ex.gZ l)/\1<=l.length/\l.length<=1000/\
  PT Tryz.prog 12 [.agg (Go.Ex.gZ l).cells] (·=[.str x])/\fG (Go.Ex.gZ l).nodes x=some (l.length-1)/\Go.Ex.oc l l.length (l.length-1) (US.init (Go.Ex.gZ l) (l.length-1)):=by
 obtain⟨c,g,e⟩:=a;have a:Mk.GP l:=⟨c,g,e⟩;obtain⟨h,i⟩:=Go.Ex.FK a;have f:l.length-1<l.length:=by omega
 have b:=aso f;generalize l[l.length-1]=d at b;have j:(Go.Ex.gZ l).nodes.length=l.length:=by show(l.map Go.Ex.cM).length=_;simp
 have k:(Go.Ex.gZ l).nodes[(Go.Ex.gZ l).nodes.length-1]?=some (Go.Ex.cM d):=by rw[j];show(l.map Go.Ex.cM)[_]?=_;rw[asF,b];rfl
 refine⟨(Go.Ex.cM d).name,Go.Ex.cM d,W,by grind,h,i,c,by omega,Iu (Go.Ex.gZ l) (Go.Ex.cM d) (by grind) k,?_,?_⟩
 .rw[show(Go.Ex.cM d).name=Mk.nm 102 (l.length-1)from(e _ d b).1];exact Go.Ex.Eh a f
 .have:=Go.Ex.Ei a (n:=l.length-1) b;rw[show l.length-1+1=l.length by omega]at this;exact this
def Eo{l:List Mk.Nd}{n k:Nat}{u:US}(b:k<n)(h:Go.Ex.oc l n k u):u.i=k:=by
 cases n with
 |zero=>omega
 |succ n=>obtain⟨d,c,a,_⟩:=h;exact a
def G5:List Int->Bool
 |[_,b]=>b==0||b==1
 |_=>false
def G6{en:List En}{a c:Va}(d:a.tk=2)(e:c.tk=1)(xs:List Int):jm en [a,c] xs=G5 xs:=by
 match xs with
 |[]=>rfl
 |[_]=>simp[jm,G5]
 |[a,b]=>simp[jm,nV,d,e,G5]
 |_::_::_::_=>simp[jm,G5]
def BE{l:List Mk.Nd}(c:Mk.GP l){k:Nat}{d:Nd}(e:(Go.Ex.gZ l).nodes[k]?=some d):∃a b,d.ins=[a,b]/\a.tk=2/\b.tk=1:=by
 have a:(l.map Go.Ex.cM)[k]?=some d:=e;rw[asF,as0]at a;obtain⟨b,f,rfl⟩:=a;refine⟨Go.Ex.d_ Mk.aV,Go.Ex.d_ Mk.bV,?_,W,W⟩;show b.ins.map Go.Ex.d_=_;rw[(c.2.2 k b f).2.1];rfl
def Kr(l:List Mk.Nd):Mk.jt l=(Go.Ex.gZ l).nodes.map Nd.cells:=by
 have b:=(Go.Ex.zw l);injection b with _ a
 injection a with a _
 injection a with a
 exact a.symm
end Go.Proofs.Sz
namespace Go.Sm
open Go.Mt
def Pg.add(P:Pg)(t:Nd):Pg:=⟨P.aG,P.nodes++[t]⟩
theorem fE{a:Type}{l:List a}{i:Nat}{x:a}(h:l[i]?=some x):i<l.length:=by grind
abbrev eB:Nm:=⟨#[98]⟩
abbrev eR:Nm:=⟨#[114]⟩
abbrev eY:Nm:=⟨#[121]⟩
abbrev NX:Nm:=⟨#[116,111,112]⟩
abbrev tE(s:Nm)(k:Int)(n:Nm):Va:=⟨s,k,n,[],false,L_,(0,0)⟩
abbrev Nl(f:Nm):aB:=.mk 2 [eX,eY] f [Kk eA,Kk eB] true (Kk eR) [] (0,0)
abbrev Oj(f:Nm):Nd:=⟨NX,[tE eA 2 ⟨#[]⟩,tE eB 1 ⟨#[]⟩,tE eR 1 ⟨#[]⟩],[tE eX 2 ⟨#[]⟩,tE eY 3 Mk.nK],.mk [] [Nl f],(0,0)⟩
section
variable{f:Nm}{u:US}{a b r x y:Int}{su:US}
end
end Go.Sm
namespace Go.Proofs.Sz
open Go.Mt Go.Sm Go.Proofs
def Ok{P:Pg}{f:Nm}(hP:px P):px (P.add (Oj f))where
 d:=by
  intro d hd;rcases ast.1 hd with hd|hd
  .exact hP.d d hd
  rw[asx.1 hd];have h1:∀q∈[Nl f],q=Nl f:= λq hq=>asx.1 hq
  refine⟨.mk (λv hv=>by cases hv) ?_ ?_ ?_,?_,as2 _⟩
  .intro q hq;rw[h1 q hq];exact⟨.inr (.inl W),λh=>absurd h (show ¬((2:Int)=3\/(2:Int)=4\/(2:Int)=5) by decide),λh=>absurd h (show ¬(2:Int)=4 by decide)⟩
  .intro q hq a ha;rw[h1 q hq]at ha;cases ha
  .intro q hq a ha;rw[h1 q hq]at ha;cases ha
  .grind
section
open Go.Mk Go.Ex
variable{l:List Mk.Nd}(hP:GP l)
include hP
def Nn{n k:Nat}(f:k<n){u:US}(a:oc l n k u){x b:Int}(g:oD x)(c:b=0\/b=1):∃(c e:Int) (u':US),eV (gZ l) n u [x,b] [c,e] u'/\oc l n k u'/\∀(a:Nat) (F:Nat->Prop) (H:Hp),ol (gZ l) n u a F H->
  DT Tryz.prog 15 [.ref a 0,.d (.sl (bL [x,b]))] H λm K=>m=.di [.d (.sl (bL [c,e])),.d (.int .i64 0)]/\∃c,ol (gZ l) n u' a c K/\JH F H c K:=by
 obtain⟨p,q,u',h,D,E,r⟩:=LQ hP n k f u a x b g c;have i:=Eo f a;obtain⟨s,t⟩:=FK hP;obtain⟨d,e⟩:∃d,l[k]?=some d:=by
  cases n with
  |zero=>omega
  |succ n=>obtain⟨d,e,_⟩:=a;exact⟨d,e⟩
 have j:(gZ l).nodes[u.i]?=some (cM d):=by show(l.map cM)[u.i]?=_;rw[i,asF,e];rfl
 obtain⟨G,I,v,w,y⟩:=BE hP (i▸j);have z:jm (gZ l).aG (cM d).ins [x,b]=true:=by
  rw[v,G6 w y];rcases c with rfl|rfl<;>rfl
 refine⟨p,q,u',h,r,λC F H A=>wM s t A (λB o=>?_) j z h⟩;simp at o;rcases o with rfl|rfl
 .exact g
 .unfold oD;rcases c with rfl|rfl<;>omega
end
end Go.Proofs.Sz
namespace Go.Sm
open Go.Mt
def sw(a b k:Nat):Nat:=if k<a then k+b else if k<a+b then k-a else k
def Ks(a b k:Nat):sw b a (sw a b k)=k:=by unfold sw;(repeat' split)<;>omega
def No{a b k:Nat} :sw a b k<a+b↔k<a+b:=by unfold sw;(repeat' split)<;>omega
def G7{c:Type}(a b:List c)(j:Nat):(b++a)[sw a.length b.length j]?=(a++b)[j]?:=by
 unfold sw;split
 .grind
 .grind
def xA(s a b k:Nat):Nat:=if k<s then k else s+sw a b (k-s)
def Ep(s a b k:Nat):xA s b a (xA s a b k)=k:=by
 unfold xA;by_cases h:k<s
 .grind
 .rw[asu h,asu (by omega),atq,Ks];omega
def LV{s a b k n:Nat}(h:s+(a+b)<=n):xA s a b k<n↔k<n:=by unfold xA sw;(repeat' split)<;>omega
def AA(a b:Nat)(π:Path)(j:Nat):Nat:=match π with
 |[]=>sw a b j
 |_::_=>j
def u7(a b:Nat):Path->Path
 |[]=>[]
 |j::c=>AA a b c j::u7 a b c
def v_(a b:Nat)(π:Path)(j:Nat):AA b a (u7 a b π) (AA a b π j)=j:=by
 cases π with
 |nil=>exact Ks a b j
 |cons i π=>rfl
def wa(a b:Nat):∀π,u7 b a (u7 a b π)=π
 |[]=>rfl
 |j::π=>by show AA b a (u7 a b π) (AA a b π j)::u7 b a (u7 a b π)=_;rw[v_,wa a b π]
def Kt{a b:Nat}{π:Path} :u7 a b π=[]↔π=[]:=by cases π<;>simp[u7]
def ue(a A B:Nat):Path->Nat->Nat
 |[],p=>p
 |[j],p=>if j<a then p+B else p-A
 |_::i::b,p=>ue a A B (i::b) p
def qS(a b:List aB):∀s,dJ (a++b) s=dJ a s++dJ b (s+aR (a.map qP)):=by
 induction a with
 |nil=>intro s;simp[dJ,aR]
 |cons q l c=>intro s;simp only[atp,dJ,c,asT,i_];rw[atd]
def Er{l:List aB} :∀{s t j p:Nat},(dJ l s)[j]?=some p->∃m,p=s+m/\m<=aR (l.map qP)/\(dJ l t)[j]?=some (t+m):=by
 induction l with
 |nil=>intro s t j p h;cases h
 |cons q l a=>
  intro s t j p h;cases j with
  |zero=>injection h with h;exact⟨0,by omega,as2 _,rfl⟩
  |succ j=>
   obtain⟨m,c,d,b⟩:=a (s:=s+qP q) (t:=t+qP q) h;exact⟨qP q+m,by omega,by rw[asT,i_];omega,by show(dJ l (t+qP q))[j]?=_;rw[b];congr 1;omega⟩
def Ad(q:aB)(p a:Nat):cG q p a=p+cG q 0 a:=by
 unfold cG gy;split<;>omega
def Iz{l:List Xp} :∀{i:Nat} {e:Xp},l[i]?=some e->dS (l.take i)+xP e<=dS l:=by
 induction l with
 |nil=>intro i e h;cases h
 |cons x l a=>
  intro i e h;cases i with
  |zero=>injection h with h;subst h;simp[dS]
  |succ i=>have:=a (by simpa using h:l[i]?=some e);simp only[atZ,dS];omega
variable{π:Path}{r j a:Nat}{x:Nm}{s:Option (Path×Nat)}
structure Sw where
 a:Nat
 b:Nat
 A:Nat
 B:Nat
 s:Nat
def Sw.f(X:Sw):Nat->Nat:=xA X.s X.A X.B
def Sw.g(X:Sw):Nat->Nat:=xA X.s X.B X.A
def Sw.gf(X:Sw)(k:Nat):X.g (X.f k)=k:=Ep _ _ _ k
def Sw.fg(X:Sw)(k:Nat):X.f (X.g k)=k:=Ep _ _ _ k
def Sw.P(X:Sw):Path->Path:=u7 X.a X.b
def Sw.Q(X:Sw):Path->Path:=u7 X.b X.a
def Sw.J(X:Sw):Path->Nat->Nat:=AA X.a X.b
def Sw.I(X:Sw):Path->Nat->Nat:=AA X.b X.a
def Sw.QP(X:Sw)(π:Path):X.Q (X.P π)=π:=wa _ _ π
def Sw.PQ(X:Sw)(π:Path):X.P (X.Q π)=π:=wa _ _ π
def Sw.IJ(X:Sw)(π:Path)(j:Nat):X.I (X.P π) (X.J π j)=j:=v_ _ _ π j
def Sw.JI(X:Sw)(π:Path)(j:Nat):X.J (X.Q π) (X.I π j)=j:=v_ _ _ π j
def Uo(X:Sw)(π:Path)(j:Nat):X.P (j::π)=X.J π j::X.P π:=rfl
def Sw.m(X:Sw)(σ:Path×Nat):Path×Nat:=(X.P σ.1,σ.2)
def Sw.q(X:Sw)(σ:Path×Nat):Path×Nat:=(X.P σ.1,X.J σ.1 σ.2)
def Sw.w(X:Sw)(w:List (Nat×Int)):List (Nat×Int):=w.map λx=>(X.f x.1,x.2)
def Sw.w4(X:Sw)(l r:List (Nat×Int)):X.w (l++r)=X.w l++X.w r:=asN
structure m_(X:Sw)(c a:aI):Prop where
 ok:∀π,a.ok (X.P π)↔c.ok π
 vars:∀π,(a.fr (X.P π)).vars=(c.fr π).vars
 aq:∀π j,(a.fr (X.P π)).aq[X.J π j]?=(c.fr π).aq[j]?
 val:∀π k,a.val (X.P π) k=c.val π k
 rk:∀π k,a.rk (X.P π) k=c.rk π k
 sb:∀π k,a.sb (X.P π) k=c.sb π k
 ek:∀π j,a.ek (X.P π) (X.J π j)=c.ek π j
 dX:a.dX=c.dX
section
variable{X:Sw}{c c':aI}{en:List En}
def m_.IA(h:m_ X c c')(j:Nat)(π:Path):(c'.fr (X.P (j::π))).aq=(c.fr (j::π)).aq:=atX λi=>h.aq (j::π) i
def m_.find(h:m_ X c c')(x:Nm):∀π,c'.find (X.P π) x=(c.find π x).map X.m
 |[]=>by
  have:=h.vars [];show(fN (c'.fr []).vars x).map _=((fN (c.fr []).vars x).map _).map _;rw[show c'.fr []=c'.fr (X.P [])from rfl,this,Option.map_map];rfl
 |j::π=>by
  have a:=h.vars (j::π);rw[Uo]at a⊢;show(match fN (c'.fr (X.J π j::X.P π)).vars x with|some k=>some (X.J π j::X.P π,k)|none=>c'.find (X.P π) x)=(match fN (c.fr (j::π)).vars x with|some k=>some (j::π,k)|none=>c.find π x).map X.m;rw[a,h.find x π];cases fN (c.fr (j::π)).vars x<;>rfl
def m_.qT(h:m_ X c c'){σ:Path×Nat}(hf:c.find π x=some σ):c'.find (X.P π) x=some (X.m σ):=by rw[h.find,hf];rfl
def m_.Ku(h:m_ X c c'){a:Path×Nat}(hf:c'.find (X.P π) x=some a):∃σ,c.find π x=some σ/\a=X.m σ:=by
 rw[h.find]at hf;obtain⟨σ,b,d⟩:=as0.1 hf;exact⟨σ,b,d.symm⟩
def m_.jE(h:m_ X c c')(σ:Path×Nat):c'.jE (X.m σ)=c.jE σ:=h.rk σ.1 σ.2
def m_.get(h:m_ X c c')(σ:Path×Nat):c'.get (X.m σ)=c.get σ:=by show(c'.val (X.P σ.1) σ.2).getD 0=_;rw[h.val];rfl
def m_.c9(h:m_ X c c')(σ:Path×Nat):c'.c9 en (X.m σ)=c.c9 en σ:=by
 show(match(c'.fr (X.P σ.1)).vars[σ.2]? with|some v=>eU en v.tk v.tn|none=>[])=_;rw[h.vars];rfl
def m_.ja(h:m_ X c c')(π:Path)(q:aB):c'.ja (X.P π) q↔c.ja π q:=by
 unfold aI.ja;cases q.lhs with
 |nil=>exact atn
 |cons x l=>
  constructor
  .intro g b;obtain⟨i,d,e⟩:=g b;obtain⟨a,f,rfl⟩:=h.Ku d;exact⟨a,f,by rw[<-h.val];exact e⟩
  .intro g b;obtain⟨a,d,e⟩:=g b;exact⟨X.m a,h.qT d,by show(c'.val (X.P a.1) a.2).isSome=true;rw[h.val];exact e⟩
def m_.pr(h:m_ X c c'){l:List (Nm×Nm)}{b:Bool}(g:yR en c π r l b):yR en c' (X.P π) r l b:=by
 induction g with
 |nil=>exact .nil
 |no a d e=>exact .no (h.qT a) (by rw[h.jE];exact d) (λn a=>by rw[h.c9];exact e n (by rw[<-h.val];exact a))
 |xv a d e f _ i=>exact .xv (h.qT a) (by rw[h.jE];exact d) ((h.val _ _).trans e) (by rw[h.c9];exact f) i
def m_.src(h:m_ X c c')(g:Src c r π j x s):Src c' r (X.P π) (X.J π j) x (s.map X.q):=by
 induction g with
 |leaf a b d=>exact .leaf ((h.aq _ _).trans a) b (by rw[h.ek];exact d)
 | @br π j x q j' q' s b d e f k l _ m=>
  refine .br (j':=j') (a:=q') ((h.aq _ _).trans b) d (by rw[h.ek];exact e) ?_ k ?_ m
  .rw[<-Uo,h.IA];exact f
  .intro i q n a;rw[<-Uo,h.IA]at a;exact l i q n a
 |last b d e f=>
  refine .last ((h.aq _ _).trans b) d (by rw[h.ek];exact e) λq' a=>f q' ?_
  rw[<-Uo,h.IA]at a;exact a
def Sw.flip(X:Sw):Sw:=⟨X.b,X.a,X.B,X.A,X.s⟩
def m_.flip(h:m_ X c c'):m_ X.flip c' c:=by
 have a:∀a,X.flip.P a=X.Q a:= λ_=>rfl
 have b:∀a j,X.flip.J a j=X.I a j:= λ_ _=>rfl
 have e:=X.PQ;constructor
 .intro b;rw[a,<-h.ok (X.Q b),e]
 .intro b;rw[a,<-h.vars (X.Q b),e]
 .intro d j;rw[a,b,<-h.aq (X.Q d),e,X.JI]
 .intro b k;rw[a,<-h.val (X.Q b),e]
 .intro b k;rw[a,<-h.rk (X.Q b),e]
 .intro b k;rw[a,<-h.sb (X.Q b),e]
 .intro d j;rw[a,b,<-h.ek (X.Q d),e,X.JI]
 .exact h.dX.symm
def m_.NY(h:m_ X c c')(g:Src c' r (X.P π) (X.J π j) x s):Src c r π j x (s.map λσ=>(X.Q σ.1,X.I σ.1 σ.2)):=by
 have:=h.flip.src g;rw[show X.flip.P (X.P π)=π from X.QP π,show X.flip.J (X.P π) (X.J π j)=j from X.IJ π j]at this;exact this
structure uv(X:Sw)(c c':aI):Prop extends m_ X c c' where
 sz:c'.sz=c.sz
 fs:∀k,X.f k<c.sz↔k<c.sz
 cK:∀π,(c'.fr (X.P π)).cK=(c.fr π).cK.map (Option.map X.f)
 rd:∀k,c'.rd (X.f k)=c.rd k
def uv.lp(h:uv X c c'){k:Nat}{o:Option Nat}(g:(c.fr π).cK[k]?=some o):(c'.fr (X.P π)).cK[k]?=some (o.map X.f):=by
 rw[h.cK,asF,g];rfl
def uv.ev(h:uv X c c'){e:Xp}{v:Int}{w:List (Nat×Int)}(g:gI en c π r e a v w):∀{a':Nat},(∀k,k<xP e->X.f (a+k)=a'+k)->gI en c' (X.P π) r e a' v (X.w w):=by
 induction g with
 |uO b=>intro a' d;exact .uO b
 |var b d=>intro a' f;rw[<-h.get];exact .var (h.qT b) (by rw[h.jE];exact d)
 |last b d f=>intro a' i;rw[<-h.rd];exact .last (h.qT b) (h.lp d) (by rw[h.sz,h.fs];exact f)
 |un _ d=>intro a' b;exact .un (d λk d=>b k (by simp only[xP,dS];omega))
 | @bin r i n s m x y p a v w j l _ _ d f=>
  intro a' b;rw[X.w4];exact .bin (d λk d=>b k (by simp only[xP,dS];omega)) (f λk d=>by rw[atd,b (xP x+k) (by simp only[xP,dS];omega)];omega)
 | @ite r j n s t x y z p a v w l m q o _ _ _ d f i=>
  intro a' b;rw[X.w4,X.w4];exact .ite (d λk d=>b k (by simp only[xP,dS];omega)) (f λk d=>by rw[atd,b (xP x+k) (by simp only[xP,dS];omega)];omega) (i λk d=>by rw[atd,atd,b (xP x+(xP y+k)) (by simp only[xP,dS];omega)];omega)
 | @fO r j n s l x y p a v w i _ f=>
  intro a' d;have b:=d 0 (by simp only[xP,dS,dh];rw[asB (by decide)];omega);simp at b;show gI en c' (X.P _) r _ a' _ ((X.f a,v)::X.w w);rw[b,<-h.rd a,b];exact .fO (by rw[h.sz,<-b,h.fs];exact i) (by rw[h.dX];exact f λk b=>by rw[atd,atd,d (1+(xP x+k)) (by simp only[xP,dS,dh];rw[asB (by decide)];omega)];omega)
 | @pre r j n s l y p a v w i _ f=>
  intro a' d;have b:=d 0 (by simp only[xP,dS,dh];rw[asB (by decide)];omega);simp at b;show gI en c' (X.P _) r _ a' _ ((X.f a,v)::X.w w);rw[b,<-h.rd a,b];exact .pre (by rw[h.sz,<-b,h.fs];exact i) (by rw[h.dX];exact f λk b=>by rw[atd,d (1+k) (by simp only[xP,dS,dh];rw[asB (by decide)];omega)];omega)
 | @arrow r m n s q x y p a v w o f i _ _ j l=>
  intro a' d;have b:=d 0 (by simp only[xP,dS,dh];rw[asB (by decide)];omega);simp only[auq]at b;show gI en c' (X.P _) r _ a' _ ((X.f a,0)::X.w (w++f));rw[X.w4,b,<-h.rd a,b];exact .arrow (by rw[h.sz,<-b,h.fs];exact i) (j λk b=>by rw[atd,d (1+k) (by simp only[xP,dS,dh];rw[asB (by decide)];omega)];omega) (l λk b=>by rw[atd,atd,d (1+(xP x+k)) (by simp only[xP,dS,dh];rw[asB (by decide)];omega)];omega)
 |fq _ d=>intro a' b;exact .fq (d λk d=>b k (by simp only[xP,dS];omega))
 | @merge r x q s z p t a u i y e v w f j m n o b _ l=>
  intro a' d;have:=Iz b;exact .merge (h.qT f) (by rw[h.jE];exact j) m (by rw[h.c9,h.get];exact n) (λb x d f=>by rw[h.c9,h.get];exact o b x d f) b (l λk b=>by rw[atd,d (dS (p.take i)+k) (by simp only[xP];omega)];omega)
def uv.bh(h:uv X c c'){l:List Xp}{v:List Int}{w:List (Nat×Int)}(g:vy en c π r l a v w):∀{a':Nat},(∀k,k<dS l->X.f (a+k)=a'+k)->vy en c' (X.P π) r l a' v (X.w w):=by
 induction g with
 |nil=>intro a' b;exact .nil
 | @cons e l a v w i j d _ f=>
  intro a' b;rw[X.w4];exact .cons (h.ev d λk d=>b k (by simp only[dS];omega)) (f λk d=>by rw[atd,b (xP e+k) (by simp only[dS];omega)];omega)
theorem uv.je(h:uv X c c'){l:List Tr}{o:Option Tr}(g:pd en c π r l o)(a:∀t∈l,xP t.e=0):pd en c' (X.P π) r l o:=by
 induction g with
 |nil=>exact .nil
 | @xv t l v b d=>exact .xv (h.ev b λk a=>by grind) d
 | @no t l o b _ d=>exact .no (h.ev b λk a=>by grind) (d λt b=>a t (asI _ b))
end
end Go.Sm
namespace Go.Sm
open Go.Mt
variable{π:Path}{j p k:Nat}{q:aB}{f:Nat->Nat}{X:Sw}{a:a_}
def aD(r:Nat)(d:Nd):Sw:=⟨(d.b.aq.take r).length,(d.b.aq.drop r).length,aR ((d.b.aq.take r).map qP),aR ((d.b.aq.drop r).map qP),aS d.b.vars⟩
def iV(r:Nat)(d:Nd):Nd:=⟨d.name,d.ins,d.outs,.mk d.b.vars (d.b.aq.drop r++d.b.aq.take r),d.ps⟩
def sx(a b:Nat):It->It
 |.cell π k=>.cell (u7 a b π) k
 |.call π j=>.call (u7 a b π) (AA a b π j)
 |.br π j=>.br (u7 a b π) (AA a b π j)
 |.lv π j=>.lv (u7 a b π) (AA a b π j)
def Ae(a b:Nat)(i:It):sx b a (sx a b i)=i:=by cases i<;>simp[sx,wa,v_]
def G8(X:Sw)(π:Path)(f:wA):wA:=⟨f.vars,f.cK.map (Option.map X.f),f.aq,f.pos.map (ue X.a X.A X.B π)⟩
def we(X:Sw)(d':Nd)(Tf:US->US)(c:aI):aI where
 ok π:=c.ok (X.Q π)
 fr π:=match π with
  |[]=>sV d'
  |j::π=>G8 X (X.Q (j::π)) (c.fr (X.Q (j::π)))
 val π:=c.val (X.Q π)
 rk π:=c.rk (X.Q π)
 sb π:=c.sb (X.Q π)
 ek π j:=c.ek (X.Q π) (X.I π j)
 br π j:=c.br (X.Q π) (X.I π j)
 iE π j:=c.iE (X.Q π) (X.I π j)
 ev π j:=c.ev (X.Q π) (X.I π j)
 ew π j:=X.w (c.ew (X.Q π) (X.I π j))
 outs π j:=c.outs (X.Q π) (X.I π j)
 iF π j:=Tf (c.iF (X.Q π) (X.I π j))
 k7 π j:=c.k7 (X.Q π) (X.I π j)
 nan π j:=c.nan (X.Q π) (X.I π j)
 rd k:=c.rd (X.g k)
 rp k:=c.rp (X.g k)
 rs k:=(c.rs (X.g k)).map Tf
 dX:=c.dX
 sz:=c.sz
 ap:=c.ap.map (sx X.a X.b)
 wt i:=c.wt (sx X.b X.a i)
theorem tI{l:List Va} :∀{a a':Nat},(∀k,k<aS l->f (a+k)=a'+k)->(b_ l a).map (Option.map f)=b_ l a':=by
 induction l with
 |nil=>intro a a' h;rfl
 |cons v l c=>
  intro a a' h;rw[sY]at h;unfold b_;by_cases b:v.last
  .rw[asB b]at h;rw[asB b,asB b,asT,c (a':=a'+1) λk b=>by grind];have:=h 0 (by omega);simp at this;rw[auk,this]
  .grind
def IB{l:List aB} :∀{a a':Nat},(∀k,k<=aR (l.map qP)->f (a+k)=a'+k)->(dJ l a).map f=dJ l a':=by
 induction l with
 |nil=>intro a a' h;rfl
 |cons q l b=>
  intro a a' h;rw[asT,i_]at h;have:=h 0 (by omega);simp at this;rw[dJ,dJ,asT,this,b (a':=a'+qP q) λk b=>by rw[atd,h (qP q+k) (by omega)];omega]
def Es(X:Sw)(π:Path)(lo n:Nat):Prop:=(∀k,k<=n->ue X.a X.A X.B π (lo+k)=ue X.a X.A X.B π lo+k)/\∀k,k<n->X.f (lo+k)=ue X.a X.A X.B π lo+k
def Es.sub{lo n a n':Nat}(h:Es X π lo n)(b:lo<=a)(c:a+n'<=lo+n):Es X π a n':=by
 have e:=h.1 (a-lo) (by omega);rw[show lo+(a-lo)=a by omega]at e;refine⟨λk b=>?_,λk b=>?_⟩
 .have:=h.1 (a-lo+k) (by omega);rw[show lo+(a-lo+k)=a+k by omega]at this;omega
 .have:=h.2 (a-lo+k) (by omega);rw[show lo+(a-lo+k)=a+k by omega]at this;omega
def IC{b:bF}{s:Nat}(h:Es X π s (bP b)):G8 X π (uN b s)=uN b (ue X.a X.A X.B π s):=by
 have e:=qb b;unfold G8 uN;simp only;rw[tI λk a=>h.2 k (by omega),IB (a':=ue X.a X.A X.B π s+aS b.vars) λk a=>by rw[atd,h.1 (aS b.vars+k) (by omega)];omega]
section
variable{P:Pg}{c:aI}{d:Nd}{r:Nat}{Tf:US->US}
def FU:bP d.b=(aD r d).s+((aD r d).A+(aD r d).B):=by
 rw[qb];show _=aS d.b.vars+(aR ((d.b.aq.take r).map qP)+aR ((d.b.aq.drop r).map qP));rw[<-kJ,<-asN,as9]
def CS:bP (iV r d).b=bP d.b:=by
 rw[qb (iV r d).b,FU (r:=r) (d:=d)];show aS d.b.vars+aR ((d.b.aq.drop r++d.b.aq.take r).map qP)=aS d.b.vars+(aR ((d.b.aq.take r).map qP)+aR ((d.b.aq.drop r).map qP));rw[asN,kJ];omega
def NZ(h:k<(aD r d).s):(aD r d).f k=k:=by unfold Sw.f xA;rw[asB h]
def N0(h:bP d.b<=k):(aD r d).f k=k:=by
 rw[FU (r:=r)]at h;unfold Sw.f xA sw;rw[asu (by omega),asu (by omega),asu (by omega)];omega
def ln(hg:oB P c d):m_ (aD r d) c (we (aD r d) (iV r d) Tf c)where
 ok π:=by show c.ok ((aD r d).Q ((aD r d).P π))↔_;rw[Sw.QP]
 vars π:=by
  cases π with
  |nil=>rw[hg.qc];rfl
  |cons j π=>show(c.fr ((aD r d).Q ((aD r d).P (j::π)))).vars=_;rw[Sw.QP]
 aq π j:=by
  cases π with
  |nil=>
   rw[hg.qc];show(d.b.aq.drop r++d.b.aq.take r)[sw (d.b.aq.take r).length (d.b.aq.drop r).length j]?=d.b.aq[j]?;rw[G7,as9]
  |cons i π=>show(c.fr ((aD r d).Q ((aD r d).P (i::π)))).aq[j]?=_;rw[Sw.QP]
 val π k:=by show c.val ((aD r d).Q ((aD r d).P π)) k=_;rw[Sw.QP]
 rk π k:=by show c.rk ((aD r d).Q ((aD r d).P π)) k=_;rw[Sw.QP]
 sb π k:=by show c.sb ((aD r d).Q ((aD r d).P π)) k=_;rw[Sw.QP]
 ek π j:=by show c.ek ((aD r d).Q ((aD r d).P π)) ((aD r d).I ((aD r d).P π) ((aD r d).J π j))=_;rw[Sw.QP,Sw.IJ]
 dX:=rfl
def ID(hg:oB P c d)(PV:c.sz=bT d):uv (aD r d) c (we (aD r d) (iV r d) Tf c)where
 tom_:=ln hg
 sz:=rfl
 fs k:=LV (by have:=FU (r:=r) (d:=d);rw[PV];unfold bT;omega)
 cK π:=by
  cases π with
  |nil=>
   rw[hg.qc];show List.replicate d.ins.length none++b_ d.outs (bP (iV r d).b)++b_ d.b.vars 0=(List.replicate d.ins.length none++b_ d.outs (bP d.b)++b_ d.b.vars 0).map _;rw[CS,asN,asN,List.map_replicate,tI (a':=bP d.b) λk hk=>N0 (by omega),tI (a':=0) λk hk=>NZ (by rw[atH];exact hk)];rfl
  |cons j π=>show(c.fr ((aD r d).Q ((aD r d).P (j::π)))).cK.map _=_;rw[Sw.QP]
 rd k:=by show c.rd ((aD r d).g ((aD r d).f k))=_;rw[Sw.gf]
def LW(b:oB P c d)(h:(c.fr π).pos[j]?=some p):((we (aD r d) (iV r d) Tf c).fr ((aD r d).P π)).pos[(aD r d).J π j]?=some (ue (aD r d).a (aD r d).A (aD r d).B (j::π) p):=by
 cases π with
 |nil=>
  rw[b.qc]at h;have h:(dJ d.b.aq (aS d.b.vars))[j]?=some p:=h;rw[<-as9 r d.b.aq,qS]at h;show(dJ (d.b.aq.drop r++d.b.aq.take r) (aS d.b.vars))[sw (d.b.aq.take r).length (d.b.aq.drop r).length j]?=some (if j<(d.b.aq.take r).length then p+aR ((d.b.aq.drop r).map qP)else p-aR ((d.b.aq.take r).map qP));rw[qS];by_cases a:j<(d.b.aq.take r).length
  .rw[asl (by rw[il];exact a)]at h;obtain⟨m,f,g,e⟩:=Er (t:=aS d.b.vars+aR ((d.b.aq.drop r).map qP)) h;unfold sw;rw[asB a,asB a,ass (by rw[il];omega),il,Nat.add_sub_cancel,e]
   congr 1;omega
  .rw[ass (by rw[il];omega),il]at h;have i:j-(d.b.aq.take r).length<(d.b.aq.drop r).length:=by have:=fE h;rw[il]at this;exact this
   obtain⟨m,f,g,e⟩:=Er (t:=aS d.b.vars) h;unfold sw;rw[asu a,asu a,asB (by omega),asl (by rw[il];omega),e]
   congr 1;omega
 |cons i π=>
  show((c.fr ((aD r d).Q ((aD r d).P (i::π)))).pos.map (ue (aD r d).a (aD r d).A (aD r d).B ((aD r d).Q ((aD r d).P (i::π)))))[j]?=_;rw[Sw.QP,asF,h];rfl
theorem Kv(f:oB P c d)(a:(c.fr []).aq[j]?=some q)(b:(c.fr []).pos[j]?=some p):Es (aD r d) [j] p (qP q):=by
 rw[f.qc]at a b;have a:d.b.aq[j]?=some q:=a;have b:(dJ d.b.aq (aS d.b.vars))[j]?=some p:=b;rw[<-as9 r d.b.aq,qS]at b;rw[<-as9 r d.b.aq]at a;by_cases f:j<(d.b.aq.take r).length
 .rw[asl (by rw[il];exact f)]at b;rw[asl f]at a;have g:=tV b a;have e:∀k,ue (aD r d).a (aD r d).A (aD r d).B [j] k=k+(aD r d).B:= λk=>asB f
  refine⟨λk a=>by grind,λk a=>?_⟩;have a:p+k<(aD r d).s+(aD r d).A:=by show _<aS d.b.vars+aR ((d.b.aq.take r).map qP);omega
  have a:(aD r d).s<=p:=g.1;rw[e];unfold Sw.f xA sw;rw[asu (by omega),asB (by omega)];omega
 .rw[ass (by rw[il];omega),il]at b;rw[ass (by omega)]at a;have g:=tV b a;have e:∀k,ue (aD r d).a (aD r d).A (aD r d).B [j] k=k-(aD r d).A:= λk=>asu f
  have a:p+qP q<=(aD r d).s+(aD r d).A+(aD r d).B:=g.2;have a:(aD r d).s+(aD r d).A<=p:=g.1;refine⟨λk a=>by grind,λk a=>?_⟩;rw[e];unfold Sw.f xA sw;rw[asu (by omega),asu (by omega),asB (by omega)];omega
variable(Pk:mw P)(hW:px P)(hg:oB P c d)
include Pk hW hg
def CU:∀{π:Path} {j p:Nat} {q:aB},c.ok π->(c.fr π).aq[j]?=some q->(c.fr π).pos[j]?=some p->Es (aD r d) (j::π) p (qP q)
 |[],j,p,q,_,a,e=>Kv hg a e
 |i::e,j,p,q,u,m,n=>by
  obtain⟨g,x,a,h⟩:=hg.iK i e u;obtain⟨b,w,f⟩:=shape Pk hW hg e g;obtain⟨v,o⟩:∃p,(c.fr e).pos[i]?=some p:=by rw[f.pos];rw[f.aq]at a;exact ua a
  obtain⟨k,s⟩:=JG hg g a o h;have t:=Bb f.wf (by rw[<-f.aq];exact asn a);have y:=tX (p:=v) s.ha h t.2.2.1 (t.2.1 h);rw[s.fr]at m n;have z:=tV (l:=k.cy.aq) n m;have A:=qb k.cy;exact Es.sub (X:=aD r d) (π:=i::e) (CU g a o) (by omega) (by omega)
def Et(e:c.ok π)(f:(c.fr π).aq[j]?=some q)(l:(c.fr π).pos[j]?=some p)(m:pf c π j q p a)(g:q.kd=3\/q.kd=4\/q.kd=5):Es (aD r d) (j::π) (cG q p (c.br π j)) (bP a.cy)/\ue (aD r d).a (aD r d).A (aD r d).B (j::π) (cG q p (c.br π j))=cG q (ue (aD r d).a (aD r d).A (aD r d).B (j::π) p) (c.br π j):=by
 obtain⟨b,s,h⟩:=shape Pk hW hg π e;have i:=Bb h.wf (by rw[<-h.aq];exact asn f);have o:=tX (p:=p) m.ha g i.2.2.1 (i.2.1 g);have k:=CU (r:=r) Pk hW hg e f l;refine⟨k.sub (by omega) (by omega),?_⟩;have n:=Ad q p (c.br π j);have:=k.1 (cG q 0 (c.br π j)) (by omega);rw[n,Ad q (ue (aD r d).a (aD r d).A (aD r d).B (j::π) p) (c.br π j),this]
def Kw(f:c.ok π)(g:(c.fr π).aq[j]?=some q)(h:(c.fr π).pos[j]?=some p)(b:pf c π j q p a)(i:q.kd=3\/q.kd=4\/q.kd=5):pf (we (aD r d) (iV r d) Tf c) ((aD r d).P π) ((aD r d).J π j) q (ue (aD r d).a (aD r d).A (aD r d).B (j::π) p) a:=by
 obtain⟨k,l⟩:=Et (r:=r) Pk hW hg f g h b i;have e:(we (aD r d) (iV r d) Tf c).br ((aD r d).P π) ((aD r d).J π j)=c.br π j:=by show c.br ((aD r d).Q ((aD r d).P π)) ((aD r d).I ((aD r d).P π) ((aD r d).J π j))=_;rw[Sw.QP,Sw.IJ]
 refine⟨by rw[e];exact b.ha,by rw[<-Uo,(ln hg).ok];exact b.ok,?_⟩;rw[e,<-l,<-Uo];show G8 _ ((aD r d).Q ((aD r d).P (j::π))) (c.fr ((aD r d).Q ((aD r d).P (j::π))))=_;rw[Sw.QP,b.fr,IC k]
end
end Go.Sm
namespace Go.Sm
open Go.Mt
variable{π:Path}{k j r p:Nat}{d:Nd}{P:Pg}{c:aI}{Tf:US->US}{v:Va}{q:aB}
def Sw.eP(X:Sw)(a:Path):∃π,a=X.P π:=⟨X.Q a,(X.PQ a).symm⟩
def Sw.eJ(X:Sw)(π:Path)(j':Nat):∃j,j'=X.J π j:=⟨X.I (X.P π) j',by have:=X.JI (X.P π) j';rw[X.QP]at this;exact this.symm⟩
def Sw.eF(X:Sw)(k':Nat):∃k,k'=X.f k:=⟨X.g k',(X.fg k').symm⟩
def Sw.Np(X:Sw){σ τ:Path×Nat}(h:X.m σ=X.m τ):σ=τ:=by
 have a:(X.m σ).1=(X.m τ).1:=by rw[h]
 have b:(X.m σ).2=(X.m τ).2:=by rw[h]
 have c:X.P σ.1=X.P τ.1:=a;have d:=b;have a:=atB X.Q c;rw[X.QP,X.QP]at a;exact Prod.ext a d
def Sw.Nq(X:Sw)(h:X.P π=[]):π=[]:=Kt.1 h
def Sw.w5(X:Sw){l:Nat}(h:X.f k=X.f l):k=l:=by have:=atB X.g h;rwa [X.gf,X.gf]at this
structure Mq(X:Sw)(Tf:US->US)(c c':aI):Prop extends uv X c c' where
 br:∀π j,c'.br (X.P π) (X.J π j)=c.br π j
 iE:∀π j,c'.iE (X.P π) (X.J π j)=c.iE π j
 Af:∀π j,c'.ev (X.P π) (X.J π j)=c.ev π j
 AB:∀π j,c'.ew (X.P π) (X.J π j)=X.w (c.ew π j)
 outs:∀π j,c'.outs (X.P π) (X.J π j)=c.outs π j
 iF:∀π j,c'.iF (X.P π) (X.J π j)=Tf (c.iF π j)
 k7:∀π j,c'.k7 (X.P π) (X.J π j)=c.k7 π j
 nan:∀π j,c'.nan (X.P π) (X.J π j)=c.nan π j
 rp:∀k,c'.rp (X.f k)=c.rp k
 rs:∀k,c'.rs (X.f k)=(c.rs k).map Tf
def IE(hg:oB P c d)(PV:c.sz=bT d):Mq (aD r d) Tf c (we (aD r d) (iV r d) Tf c)where
 touv:=ID hg PV
 br π j:=by show c.br ((aD r d).Q ((aD r d).P π)) ((aD r d).I ((aD r d).P π) ((aD r d).J π j))=_;rw[Sw.QP,Sw.IJ]
 iE π j:=by show c.iE ((aD r d).Q ((aD r d).P π)) ((aD r d).I ((aD r d).P π) ((aD r d).J π j))=_;rw[Sw.QP,Sw.IJ]
 Af π j:=by show c.ev ((aD r d).Q ((aD r d).P π)) ((aD r d).I ((aD r d).P π) ((aD r d).J π j))=_;rw[Sw.QP,Sw.IJ]
 AB π j:=by show(aD r d).w (c.ew ((aD r d).Q ((aD r d).P π)) ((aD r d).I ((aD r d).P π) ((aD r d).J π j)))=_;rw[Sw.QP,Sw.IJ]
 outs π j:=by show c.outs ((aD r d).Q ((aD r d).P π)) ((aD r d).I ((aD r d).P π) ((aD r d).J π j))=_;rw[Sw.QP,Sw.IJ]
 iF π j:=by show Tf (c.iF ((aD r d).Q ((aD r d).P π)) ((aD r d).I ((aD r d).P π) ((aD r d).J π j)))=_;rw[Sw.QP,Sw.IJ]
 k7 π j:=by show c.k7 ((aD r d).Q ((aD r d).P π)) ((aD r d).I ((aD r d).P π) ((aD r d).J π j))=_;rw[Sw.QP,Sw.IJ]
 nan π j:=by show c.nan ((aD r d).Q ((aD r d).P π)) ((aD r d).I ((aD r d).P π) ((aD r d).J π j))=_;rw[Sw.QP,Sw.IJ]
 rp k:=by show c.rp ((aD r d).g ((aD r d).f k))=_;rw[Sw.gf]
 rs k:=by show(c.rs ((aD r d).g ((aD r d).f k))).map Tf=_;rw[Sw.gf]
def Eu(d:Nd):Prop:=∀(i j:Nat) (q a:aB) (x:Nm),d.b.aq[i]?=some q->d.b.aq[j]?=some a->x∈cm q->x∈cm a->i=j
def Sw.sh(X:Sw)(π:Path)(p:Nat):Nat:=ue X.a X.A X.B π p
structure tJ(X:Sw)(Tf:US->US)(d d':Nd)(c c':aI):Prop extends Mq X Tf c c' where
 pos:∀(π:Path) (j p:Nat),(c.fr π).pos[j]?=some p->(c'.fr (X.P π)).pos[X.J π j]?=some (X.sh (j::π) p)
 Nr:∀(π:Path) (j p:Nat) (q:aB),c.ok π->(c.fr π).aq[j]?=some q->(c.fr π).pos[j]?=some p->∀k,k<qP q->X.f (p+k)=X.sh (j::π) p+k
 BF:∀(π:Path) (j p:Nat) (q:aB) (a:a_),c.ok π->(c.fr π).aq[j]?=some q->(c.fr π).pos[j]?=some p->pf c π j q p a->(q.kd=3\/q.kd=4\/q.kd=5)->pf c' (X.P π) (X.J π j) q (X.sh (j::π) p) a/\∀k,k<bP a.cy->X.f (cG q p (c.br π j)+k)=cG q (X.sh (j::π) p) (c.br π j)+k
 Kx:∀(π:Path) (j:Nat) (q:aB),c.ok π->(c.fr π).aq[j]?=some q->∀a∈q.aj,∀t:Tr,(t∈a.fm\/t∈a.fo)->xP t.e=0
 Mr:∀(π:Path) (j:Nat) (q:aB),c.ok π->(c.fr π).aq[j]?=some q->∃p,(c.fr π).pos[j]?=some p
 zQ:∀π k v j,c.ok π->ic (c.fr π) k v j->ic (c'.fr (X.P π)) k v (X.J π j)
 Ky:∀π k v j,c.ok π->ic (c'.fr (X.P π)) k v (X.J π j)->ic (c.fr π) k v j
theorem Ah{f g:wA}{j':Nat}{h:Nat->Nat}(c:Eu d)(hf:f.aq=d.b.aq)(p:g.vars=f.vars)(m:j'=h j)(n:∀i,∃a,i=h a)(b:∀i,g.aq[h i]?=f.aq[i]?):ic f k v j↔ic g k v j':=by
 subst m;constructor
 .rintro⟨s,⟨q,a,e⟩,t⟩;refine⟨by grind,⟨q,(b j).trans a,e⟩,λl u w i o=>?_⟩;obtain⟨r,rfl⟩:=n l;rw[b,hf]at i;rw[hf]at a;have:=c _ _ _ _ _ a i e o;subst this;omega
 .rintro⟨r,⟨q,a,e⟩,s⟩;rw[b]at a;refine⟨by grind,⟨q,a,e⟩,λo t u i l=>?_⟩;rw[hf]at i a;have:=c _ _ _ _ _ a i e l;omega
def Kz(Pk:mw P)(hW:px P)(hg:oB P c d)(PV:c.sz=bT d)(hO:Eu d):tJ (aD r d) Tf d (iV r d) c (we (aD r d) (iV r d) Tf c)where
 toMq:=IE hg PV
 pos π j p h:=LW hg h
 Nr π j p q h1 h2 h3:=(CU Pk hW hg h1 h2 h3).2
 BF π j p q a h1 h2 h3 h4 h5:=⟨Kw Pk hW hg h1 h2 h3 h4 h5,by obtain⟨g1,g2⟩:=Et (r:=r) Pk hW hg h1 h2 h3 h4 h5;intro k hk;have:=g1.2 k hk;rw[g2]at this;exact this⟩
 Kx π j q h1 h2 a ha t ht:=by
  obtain⟨b,s,hS⟩:=shape Pk hW hg π h1;exact((Bb hS.wf (by rw[<-hS.aq];exact asn h2)).2.2.2.2 a ha t ht).2
 Mr π j q h1 h2:=by
  obtain⟨b,s,hS⟩:=shape Pk hW hg π h1;rw[hS.pos];rw[hS.aq]at h2;exact ua h2
 zQ π k v j OI h:=by
  cases π with
  |nil=>exact(Ah (h:=(aD r d).J []) hO (by rw[hg.qc];rfl) ((ln hg).vars []) W (λi=>(aD r d).eJ [] i) ((ln hg).aq [])).1 h
  |cons i π=>
   unfold ic at h⊢;rw[(ln (r:=r) (Tf:=Tf) hg).vars,(ln (r:=r) (Tf:=Tf) hg).IA];exact h
 Ky π k v j OI h:=by
  cases π with
  |nil=>exact(Ah (h:=(aD r d).J []) hO (by rw[hg.qc];rfl) ((ln hg).vars []) W (λi=>(aD r d).eJ [] i) ((ln hg).aq [])).2 h
  |cons i π=>
   unfold ic at h⊢;rw[(ln (r:=r) (Tf:=Tf) hg).vars,(ln (r:=r) (Tf:=Tf) hg).IA]at h;exact h
section
variable{X:Sw}{Tf:US->US}{d d':Nd}{c c':aI}{P:Pg}{Qn:List Nd}{step Xl:US->List Int->List Int->US->Prop}
def tJ.p0(h:tJ X Tf d d' c c')(a:c.ok π)(b:(c.fr π).aq[j]?=some q)(f:(c.fr π).pos[j]?=some p)(g:q.kd=2\/q.kd=4):X.f p=X.sh (j::π) p:=by
 have e:=jk q;have i:gR q.kd=1:=by unfold gR;rw[asB g]
 exact h.Nr π j p q a b f 0 (by omega)
def tJ.eqv(h:tJ X Tf d d' c c')(B:∀x,fG Qn x=fG P.nodes x)(C:∀(o:Option US) (f l:List Int) (k:US) (a:Nat) (x:Nm),fG P.nodes x=some a->step (o.getD (US.init P a)) f l k->Xl ((o.map Tf).getD (US.init ⟨P.aG,Qn⟩ a)) f l (Tf k))
  (I:∀u,(Tf u).i=u.i) (a:c.ok π) (f:(c.fr π).aq[j]?=some q) (l:(c.fr π).pos[j]?=some p) (g:KU P step c π j q p):KU ⟨P.aG,Qn⟩ Xl c' (X.P π) (X.J π j) q (X.sh (j::π) p):=by
 have e:=jk q;have m:=h.Nr π j p q a f l;cases g with
 |df k x n o=>
  refine .df k x n λr=>?_
  rw[h.ek,h.Af,h.AB];exact h.touv.ev (o ((h.ja π q).1 r)) λk a=>m k (by omega)
 |call n x w r y z u A D E F G H=>
  have K:gR q.kd=1:=by unfold gR;rw[asB (.inl n)]
  have o:=h.p0 a f l (.inl n);refine .call n (by rw[h.sz,<-o,h.fs];exact x) w ((B _).trans r) (X.w y) (X.w z) u (λk=>?_) (λk=>?_) (by rw[h.AB,E,X.w4]) (λk=>?_) (λk J s=>?_) (λa=>by rw[h.outs];exact H ((h.ja π q).1 a))
  .have:=A ((h.ja π q).1 k);cases t:q.has with
   |false=>rw[t]at this;exact⟨(h.Af π j).trans this.1,by rw[this.2];rfl⟩
   |true=>
    rw[t]at this;rw[h.ek,h.Af];exact h.touv.ev this λk a=>by rw[atd,m (1+k) (by omega)];omega
  .rw[h.ek];exact h.touv.bh (D ((h.ja π q).1 k)) λk a=>by rw[ry]at a;rw[atd,atd,m (1+(xP q.ex+k)) (by omega)];omega
  .have:=C _ _ _ _ _ _ r (F ((h.ja π q).1 k));rw[h.Af,h.outs,h.iF,<-o,h.rs];by_cases t:c.ev π j=0
   .grind
   .grind
  .rw[<-o,h.rs]at s;obtain⟨v,t,rfl⟩:=as0.1 s;rw[I];exact G ((h.ja π q).1 k) v t
 |sw n o k s t u r=>
  refine .sw n (by rw[h.ek,h.Af,h.AB];exact h.touv.ev o λk a=>m k (by omega)) k (h.BF π j p q k a f l s (.inl n)).1 (by rw[h.Af];exact t) (λi b a f=>by rw[h.br]at a;rw[h.Af];exact u i b a f) (by rw[h.iE];exact r)
 |aN n D A u F r t G w k s x H y E=>
  have o:=h.p0 a f l (.inr n);have z:∀{i:Nat} {a:a_},q.aj[i]?=some a->a∈q.aj:= λh=>asn h
  refine .aN n (by rw[h.sz,<-o,h.fs];exact D) A u (by rw[<-o,h.rd];exact F) r t (by rw[h.ek];exact h.touv.je G λt k=>h.Kx π j q a f u (z r) t (.inl k)) ?_ k (h.BF π j p q k a f l s (.inr (.inl n))).1 x
   (by rw[h.dX];exact h.touv.je (π:=j::π) H λt l=>h.Kx π j q a f k (z s.ha) t (.inr l)) ?_ (by rw[h.AB,E];rfl)
  .cases t with
   |none=>show _/\_;rw[h.br,h.iE,<-o,h.rp];exact w
   |some t=>show _/\_;rw[h.br,h.iE];exact w
  .cases x with
   |none=>show _/\_;rw[h.k7,h.nan,h.br];exact y
   |some t=>show _/\_;rw[h.k7,h.nan];exact y
 |reset n o k t s r=>
  exact .reset n (by rw[h.ek,h.Af,h.AB];exact h.touv.ev o λk a=>m k (by omega)) k (h.BF π j p q k a f l t (.inr (.inr n))).1 (by rw[h.br];exact s) (by rw[h.iE,h.Af];exact r)
def tJ.dZ(h:tJ X Tf d d' c c'){a:Option Nat}(m:c.ok π)(g:Cc P c π k v a):Cc ⟨P.aG,Qn⟩ c' (X.P π) k v (a.map X.f):=by
 obtain⟨o,r,t,u⟩:=g;refine⟨by rw[h.sb,h.val];exact h.pr o,by rw[h.sb,h.rk];exact r,by rw[h.rk,h.dX];exact t,λn e=>?_⟩;rw[h.val]at e;obtain⟨l,s,w,x,f⟩:=u n e;refine⟨X.J π l,s.map X.q,h.zQ _ _ _ _ m w,by rw[h.sb];exact h.src x,?_⟩;cases s with
 |none=>
  obtain⟨p,rfl,b,i⟩:=f;exact⟨X.f p,W,by rw[h.sz,h.fs];exact b,by rw[h.rd];exact i⟩
 |some b=>
  obtain⟨p,q,y,i,j⟩:=f;exact⟨h.qT p,q,(h.aq _ _).trans y,λa=>⟨(i a).1,by show n=c'.ev (X.P b.1) (X.J b.1 b.2);rw[h.Af];exact(i a).2⟩,λa=>⟨(j a).1,(h.ja _ _).2 (j a).2⟩⟩
end
end Go.Sm
namespace Go.Sm
open Go.Mt
def FV(X:Sw)(Tf:US->US)(u:US):US:=.mk u.i (λk=>u.mem (X.g k)) (λk=>u.cw (X.g k)) λk=>(u.an (X.g k)).map Tf
theorem Ev{a:Type}(V M O:List a){m:Nat}(h:m<M.length):(V++M++O)[V.length+m]?=M[m]?:=by grind
def xS(en:List En)(r:Nat)(d:Nd)(k:Nat):(gH en (iV r d))[(aD r d).f k]?=(gH en d)[k]?:=by
 have a:gH en (iV r d)=gx en d.b.vars++(jd en (d.b.aq.drop r)++jd en (d.b.aq.take r))++gx en d.outs:=by
  unfold gH;rw[Cg];show gx en d.b.vars++jd en (d.b.aq.drop r++d.b.aq.take r)++gx en d.outs=_;rw[lT,asN,atL,<-lT,<-lT]
 have b:gH en d=gx en d.b.vars++(jd en (d.b.aq.take r)++jd en (d.b.aq.drop r))++gx en d.outs:=by
  unfold gH;rw[Cg]
  conv=>lhs;rw[<-as9 r d.b.aq]
  rw[lT,asN,atL,<-lT,<-lT]
 have c:(gx en d.b.vars).length=(aD r d).s:=nE _ _;have e:(jd en (d.b.aq.take r)).length=(aD r d).A:=by rw[qD,xI];rfl
 have f:(jd en (d.b.aq.drop r)).length=(aD r d).B:=by rw[qD,xI];rfl
 rw[a,b];unfold Sw.f xA;by_cases a:k<(aD r d).s
 .rw[asB a,asl (by simp;omega),asl (by omega),asl (by simp;omega),asl (by omega)]
 .rw[asu a];by_cases a:k-(aD r d).s<(aD r d).A+(aD r d).B
  .have b:=No.2 a;have b:=Ev (gx en d.b.vars) (jd en (d.b.aq.drop r)++jd en (d.b.aq.take r)) (gx en d.outs) (m:=sw (aD r d).A (aD r d).B (k-(aD r d).s)) (by rw[asq];omega);have a:=Ev (gx en d.b.vars) (jd en (d.b.aq.take r)++jd en (d.b.aq.drop r)) (gx en d.outs) (m:=k-(aD r d).s) (by rw[asq];omega);rw[c]at b a;rw[show(aD r d).s+(k-(aD r d).s)=k by omega]at a;rw[b,a,<-e,<-f,G7]
  .have b:sw (aD r d).A (aD r d).B (k-(aD r d).s)=k-(aD r d).s:=by unfold sw;rw[asu (by omega),asu a]
   rw[b,ass (by simp;omega),ass (by simp;omega)]
   congr 1;simp;omega
section
variable{X:Sw}{Tf:US->US}{d d':Nd}{c c':aI}
def tJ.pos'(h:tJ X Tf d d' c c'){π:Path}{j b:Nat}{q:aB}(f:c.ok π)(g:(c.fr π).aq[j]?=some q)(a:(c'.fr (X.P π)).pos[X.J π j]?=some b):∃p,(c.fr π).pos[j]?=some p/\b=X.sh (j::π) p:=by
 obtain⟨p,e⟩:=h.Mr π j q f g;rw[h.pos π j p e]at a;injection a with a
 exact⟨p,e,a.symm⟩
def tJ.Ns(h:tJ X Tf d d' c c')(n:∀a j q p,c.ok a->(c.fr a).aq[j]?=some q->(c.fr a).pos[j]?=some p->(q.kd=3\/q.kd=4\/q.kd=5)->∃b,pf c a j q p b)(k:Nat):fH c' (X.f k)↔fH c k:=by
 constructor
 .rintro⟨t,u,q,z,m,b,f,v,g,o,i,w,x⟩;obtain⟨a,rfl⟩:=X.eP t;obtain⟨j,rfl⟩:=X.eJ a u;rw[h.ok]at b;rw[h.aq]at f;obtain⟨p,l,rfl⟩:=h.pos' b f v;rw[h.iE]at o;rw[h.br]at i w x;obtain⟨A,r⟩:=n a j q p b f l g;have e:=r.ha;rw[i]at e;injection e with e;subst e
  have y:=(h.BF a j p q m b f l r g).2;have s:=y (X.f k-cG q (X.sh (j::a) p) (c.br a j)) (by omega);rw[show cG q (X.sh (j::a) p) (c.br a j)+(X.f k-cG q (X.sh (j::a) p) (c.br a j))=X.f k by omega]at s;have B:=X.w5 s;exact⟨a,j,q,p,m,b,f,l,g,o,i,by omega,by omega⟩
 .rintro⟨a,j,q,p,l,b,f,g,i,r,m,u,v⟩;obtain⟨w,o⟩:=n a j q p b f g i;have e:=o.ha;rw[m]at e;injection e with e;subst e
  have s:=(h.BF a j p q l b f g o i).2;have t:=s (k-cG q p (c.br a j)) (by omega);rw[show cG q p (c.br a j)+(k-cG q p (c.br a j))=k by omega]at t;exact⟨X.P a,X.J a j,q,_,l,(h.ok a).2 b,(h.aq _ _).trans f,h.pos a j p g,i,by rw[h.iE];exact r,by rw[h.br];exact m,by rw[h.br];omega,by rw[h.br];omega⟩
def tJ.N1(h:tJ X Tf d d' c c')(k:Nat)(v:Int):mQ c' (X.f k) v↔mQ c k v:=by
 have m:∀{a:Path} {j:Nat},(X.f k,v)∈X.w (c.ew a j)↔(k,v)∈c.ew a j:= λ{j l} =>by
  constructor
  .intro b;obtain⟨y,f,a⟩:=asK.1 b;have g:=atB Prod.fst a;have i:y.2=v:=atB Prod.snd a;rw[<-X.w5 g,<-i];exact f
  .intro a;exact asK.2 ⟨_,a,W⟩
 constructor
 .rintro(⟨g,l,q,b,a,f,j⟩|⟨g,p,b,a,f⟩|⟨g,l,q,b,a,f,j,r⟩)
  .obtain⟨i,rfl⟩:=X.eP g;obtain⟨n,rfl⟩:=X.eJ i l;rw[h.AB]at j;exact .inl ⟨i,n,q,(h.ok i).1 b,by rw[<-h.aq];exact a,(h.ja i q).1 f,m.1 j⟩
  .obtain⟨i,rfl⟩:=X.eP g;rw[h.cK,asF]at a;obtain⟨t,n,o⟩:=as0.1 a;obtain⟨u,rfl,s⟩:=as0.1 o;rw[X.w5 s]at n;exact .inr (.inl ⟨i,p,(h.ok i).1 b,n,by rw[<-h.val];exact f⟩)
  .obtain⟨i,rfl⟩:=X.eP g;obtain⟨o,rfl⟩:=X.eJ i l;rw[h.ok]at b;rw[h.aq]at a;obtain⟨s,n,e⟩:=h.pos' b a j;rw[<-h.p0 b a n (.inr f)]at e;have:=X.w5 e;subst this;exact .inr (.inr ⟨i,o,q,b,a,f,n,by rw[r,h.k7]⟩)
 .rintro(⟨a,j,q,b,f,g,i⟩|⟨a,l,b,f,g⟩|⟨a,j,q,b,f,g,i,n⟩)
  .exact .inl ⟨X.P a,X.J a j,q,(h.ok a).2 b,(h.aq _ _).trans f,(h.ja a q).2 g,by rw[h.AB];exact m.2 i⟩
  .exact .inr (.inl ⟨X.P a,l,(h.ok a).2 b,h.lp f,(h.val _ _).trans g⟩)
  .exact .inr (.inr ⟨X.P a,X.J a j,q,(h.ok a).2 b,(h.aq _ _).trans f,g,by rw[h.p0 b f i (.inr g)];exact h.pos a j k i,by rw[n,h.k7]⟩)
def tJ.N2(h:tJ X Tf d d' c c')(k:Nat)(v:Bool):wB c' (X.f k) v↔wB c k v:=by
 constructor
 .rintro⟨l,m,q,a,b,g,n,o⟩;obtain⟨f,rfl⟩:=X.eP l;obtain⟨j,rfl⟩:=X.eJ f m;rw[h.ok]at a;rw[h.aq]at b;obtain⟨p,i,e⟩:=h.pos' a b n;rw[<-h.p0 a b i (.inr g)]at e;have:=X.w5 e;subst this;exact⟨f,j,q,a,b,g,i,by rw[o,h.nan]⟩
 .rintro⟨a,j,q,b,f,g,i,l⟩;exact⟨X.P a,X.J a j,q,(h.ok a).2 b,(h.aq _ _).trans f,g,by rw[h.p0 b f i (.inr g)];exact h.pos a j k i,by rw[l,h.nan]⟩
def tJ.N3(h:tJ X Tf d d' c c')(k:Nat)(g:US):vA c' (X.f k) g↔ ∃v,g=Tf v/\vA c k v:=by
 constructor
 .rintro⟨m,n,q,a,b,i,o,p,r⟩;obtain⟨f,rfl⟩:=X.eP m;obtain⟨l,rfl⟩:=X.eJ f n;rw[h.ok]at a;rw[h.aq]at b;obtain⟨s,j,e⟩:=h.pos' a b p;rw[<-h.p0 a b j (.inl i)]at e;have:=X.w5 e;subst this;exact⟨_,by rw[r,h.iF],f,l,q,a,b,i,(h.ja f q).1 o,j,rfl⟩
 .rintro⟨v,rfl,a,j,q,b,f,i,m,l,n⟩;exact⟨X.P a,X.J a j,q,(h.ok a).2 b,(h.aq _ _).trans f,i,(h.ja a q).2 m,by rw[h.p0 b f l (.inl i)];exact h.pos a j k l,by rw[n,h.iF]⟩
end
def KA(r:Nat)(d:Nd):bT (iV r d)=bT d:=by unfold bT;rw[CS];rfl
def IF{P:Pg}{Qn:List Nd}{n:Nat}{x:US->List Int->List Int->US->Prop}{c:aI}{d:Nd}{r:Nat}{u u':US}{ins outs:List Int}{Tf:US->US}(E:mw P)(F:px P)(G:Eu d)(H:Qn[u.i]?=some (iV r d))(I:∀x,fG Qn x=fG P.nodes x)
  (J:∀(o:Option US) (f outs:List Int) (u':US) (a:Nat) (g:Nm),fG P.nodes g=some a->eV P n (o.getD (US.init P a)) f outs u'->x ((o.map Tf).getD (US.init ⟨P.aG,Qn⟩ a)) f outs (Tf u'))
  (ac:∀u,(Tf u).i=u.i) (a:gW P (eV P n) c d u ins outs u'):gW ⟨P.aG,Qn⟩ x (we (aD r d) (iV r d) Tf c) (iV r d) (FV (aD r d) Tf u) ins outs (FV (aD r d) Tf u'):=by
 have y:=a.lg;have h:=Kz (r:=r) (Tf:=Tf) E F y a.sz G;have q:=h.Ns y.br;generalize m:we (aD r d) (iV r d) Tf c=g at h q;have t:∀{a:Path},(aD r d).P a=[]->a=[]:=(aD r d).Nq;have o:∀k,(aD r d).f k<g.sz↔k<c.sz:= λk=>by rw[h.sz,h.fs]
 constructor
 case nd=>exact H
 case sz=>rw[h.sz,a.sz,KA]
 case Cd=>exact(h.ok []).2 a.Cd
 case iK=>
  intro w z j;obtain⟨f,rfl⟩:=(aD r d).eP z;obtain⟨p,rfl⟩:=(aD r d).eJ f w;rw[<-Uo,h.ok]at j;obtain⟨A,s,B,C⟩:=a.iK p f j;exact⟨(h.ok f).2 A,s,(h.aq _ _).trans B,C⟩
 case qc=>exact(by rw[<-m];rfl)
 case sW=>exact a.sW
 case yS=>
  intro k v n f j;have:=a.yS k v n f j;exact⟨(h.val [] k).trans this.1,by have e:=h.rk [] k;rw[h.dX];rw[show g.rk [] k=c.rk [] k from e];exact this.2⟩
 case cell=>
  intro s k v B f l j w;obtain⟨p,rfl⟩:=(aD r d).eP s;rw[h.ok]at f;rw[h.vars]at l;rw[h.cK,asF]at j;obtain⟨z,A,rfl⟩:=as0.1 j;exact h.dZ f (a.cell p k v z f l A λe=>w (by rw[e];rfl))
 case eq=>
  intro C B z M f j D;obtain⟨p,rfl⟩:=(aD r d).eP C;obtain⟨w,rfl⟩:=(aD r d).eJ p B;rw[h.ok]at f;rw[h.aq]at j;obtain⟨A,s,rfl⟩:=h.pos' f j D;obtain⟨K,L⟩:=a.eq p w z A f j s;exact⟨h.eqv I J ac f j s K,by rw[h.ek,h.dX];exact L⟩
 case lhs=>
  intro L K s w z Q R i A S;obtain⟨j,rfl⟩:=(aD r d).eP L;obtain⟨B,rfl⟩:=(aD r d).eJ j K;rw[h.ok]at w;rw[h.aq]at z;obtain⟨f,n,M,N,O,T,U,V,C,X,Y,Z,p,ah,co⟩:=a.lhs j B s w z Q ((h.ja j s).1 R) i A S;have QL:c.ok f.1:=by
   rcases avd (c.ok f.1)with e|e
   .exact e
   .rw[(a.vB _ e).1]at p;cases p
  refine⟨(aD r d).m f,n,h.qT M,(h.val _ _).trans N,by rw[h.outs];exact O,(h.sb _ _).trans (T.trans (h.ek _ _).symm),by rw[h.ek,h.jE];exact U,λi' x' OQ k1 k2 k3=>?_,C,(aD r d).J f.1 X,h.zQ _ _ _ _ QL Y,Z,by show(g.fr ((aD r d).P f.1)).vars[f.2]?=_;rw[h.vars];exact p,?_,λe=>co (t e)⟩
  .obtain⟨D,k4,rfl⟩:=h.Ku k2;exact V i' x' D k1 k4 ((aD r d).Np k3)
  .show Src g (g.sb ((aD r d).P f.1) f.2) _ _ _ _;rw[h.sb];exact h.src ah
 case nx=>
  intro s p;obtain⟨f,rfl⟩:=(aD r d).eP s;obtain⟨j,rfl⟩:=(aD r d).eJ f p;rw[h.k7];exact a.nx f j
 case vB=>
  intro p j;obtain⟨f,rfl⟩:=(aD r d).eP p;rw[h.ok]at j;have s:=a.vB f j;cases f with
  |nil=>exact absurd a.Cd j
  |cons w f=>rw[h.vars,h.IA];exact s
 case gh=>
  intro z w s j A;obtain⟨f,rfl⟩:=(aD r d).eP z;obtain⟨p,rfl⟩:=(aD r d).eJ f w;rw[h.aq]at j;have:=a.gh f p s j A;rw[<-Uo,h.sb,h.ek,h.val];exact this
 case lh=>
  intro C B z j p s K M L e;obtain⟨f,rfl⟩:=(aD r d).eP C;obtain⟨w,rfl⟩:=(aD r d).eJ f B;rw[h.ok]at j;rw[h.aq]at p;obtain⟨A,D,rfl⟩:=h.Ku L;exact a.lh f w z j p s K A D (t e)
 case I9=>intro i v l;exact h.qT (a.I9 i v l)
 case HA=>
  intro K D s A w z N L O;obtain⟨j,rfl⟩:=(aD r d).eP K;obtain⟨B,rfl⟩:=(aD r d).eJ j D;rw[h.ok]at w;rw[h.aq]at z;obtain⟨f,C,Q,M,R,S,p,U,V⟩:=a.HA j B s A w z N L ((h.ja j s).1 O);have T:c.ok f.1:=by
   rcases avd (c.ok f.1)with e|e
   .exact e
   .rw[(a.vB _ e).1]at p;cases p
  refine⟨(aD r d).m f,C,(aD r d).J f.1 Q,h.qT M,h.zQ _ _ _ _ T R,S,by show(g.fr ((aD r d).P f.1)).vars[f.2]?=_;rw[h.vars];exact p,?_,λe=>V (t e)⟩;show Src g (g.sb ((aD r d).P f.1) f.2) _ _ _ _;rw[h.sb];exact h.src U
 case I_=>
  intro B A z j p s D;obtain⟨f,rfl⟩:=(aD r d).eP B;obtain⟨w,rfl⟩:=(aD r d).eJ f A;rw[h.ok]at j;rw[h.aq]at p;obtain⟨K,C⟩:=a.I_ f w z j p s D;exact⟨_,h.qT C⟩
 case aj=>
  intro w s p z A B;obtain⟨f,rfl⟩:=(aD r d).eP w;obtain⟨j,rfl⟩:=(aD r d).eJ f s;exact a.aj f j p ((h.ok f).1 z) (by rw[<-h.aq];exact A) B
 case rd=>
  intro p j;obtain⟨k,rfl⟩:=(aD r d).eF p;rw[o]at j;have:=a.rd k j;rw[q,h.rd];refine⟨λf=>(this.1 f).trans ?_,λf=>(this.2 f).trans ?_⟩
  .unfold bZ;rw[xS]
  .show _=u.mem ((aD r d).g ((aD r d).f k));rw[Sw.gf]
 case rp=>
  intro p f;obtain⟨k,rfl⟩:=(aD r d).eF p;rw[o]at f;have:=a.rp k f;rw[q,h.rp,xS];refine⟨this.1,λj=>(this.2 j).trans ?_⟩;show _=u.cw ((aD r d).g ((aD r d).f k));rw[Sw.gf]
 case rs=>
  intro j f;obtain⟨k,rfl⟩:=(aD r d).eF j;rw[o]at f;have:=a.rs k f;rw[q,h.rs,xS];refine⟨λa f=>by rw[this.1 a f];rfl,λg=>by rw[this.2 g];show _=(u.an ((aD r d).g ((aD r d).f k))).map Tf;rw[Sw.gf]⟩
 case nm=>
  intro j f;obtain⟨k,rfl⟩:=(aD r d).eF j;rw[o]at f;have:=a.nm k f;show(∀v,mQ g _ v->u'.mem ((aD r d).g ((aD r d).f k))=v)/\(_->u'.mem ((aD r d).g ((aD r d).f k))=_);rw[Sw.gf,h.rd];exact⟨λv g=>this.1 v ((h.N1 k v).1 g),λg=>this.2 λv a=>g v ((h.N1 k v).2 a)⟩
 case np=>
  intro j f;obtain⟨k,rfl⟩:=(aD r d).eF j;rw[o]at f;have:=a.np k f;show(∀v,wB g _ v->u'.cw ((aD r d).g ((aD r d).f k))=v)/\(_->u'.cw ((aD r d).g ((aD r d).f k))=_);rw[Sw.gf,h.rp];exact⟨λv g=>this.1 v ((h.N2 k v).1 g),λg=>this.2 λv a=>g v ((h.N2 k v).2 a)⟩
 case ns=>
  intro s j;obtain⟨k,rfl⟩:=(aD r d).eF s;rw[o]at j;have:=a.ns k j;show(∀v,vA g _ v->(u'.an ((aD r d).g ((aD r d).f k))).map Tf=some v)/\(_->(u'.an ((aD r d).g ((aD r d).f k))).map Tf=_);rw[Sw.gf,h.rs];refine⟨λv f=>?_,λf=>?_⟩
  .obtain⟨w,rfl,p⟩:=(h.N3 k v).1 f;rw[this.1 w p];rfl
  .rw[this.2 λv a=>f (Tf v) ((h.N3 k (Tf v)).2 ⟨v,rfl,a⟩)]
 case ui=>exact a.ui
 case wc=>
  intro K k v p l L;obtain⟨f,rfl⟩:=(aD r d).eP K;rw[h.ok]at p;rw[h.vars]at l;obtain⟨M,N,O⟩:=a.wc f k v p l λe=>L (by rw[e];rfl)
  have ew:g.wt (.cell ((aD r d).P f) k)=c.wt (.cell f k):=by
   rw[<-m];show c.wt (sx _ _ (sx _ _ (.cell f k)))=_;rw[Ae]
  rw[ew];refine⟨by rw[<-m];exact asK.2 ⟨_,M,W⟩,N,λD S T C Q z A R=>?_⟩;obtain⟨w,rfl⟩:=(aD r d).eJ f D;obtain⟨j,rfl⟩:=(aD r d).eP S;obtain⟨s,rfl⟩:=(aD r d).eJ j T;rw[h.sb]at z;rw[h.aq]at A;have B:Src c (c.sb f k) f w v.name (some ((aD r d).Q ((aD r d).P j),(aD r d).I ((aD r d).P j) ((aD r d).J j s))):=(h.NY z);rw[Sw.QP,Sw.IJ]at B;rw[h.AB];show 1+((c.ew j s).map _).length<=_;rw[asD];exact O w j s C (h.Ky _ _ _ _ p Q) B A R
 case wq=>
  intro C B w z A;obtain⟨f,rfl⟩:=(aD r d).eP C;obtain⟨j,rfl⟩:=(aD r d).eJ f B;rw[h.ok]at z;rw[h.aq]at A;obtain⟨D,K,L⟩:=a.wq f j w z A;have s:∀{i:It},i∈c.ap->sx (aD r d).a (aD r d).b i∈g.ap:= λ{i} a=>by rw[<-m];exact asK.2 ⟨_,a,W⟩
  have ew:∀i:It,g.wt (sx (aD r d).a (aD r d).b i)=c.wt i:= λi=>by rw[<-m];show c.wt (sx _ _ (sx _ _ i))=_;rw[Ae]
  have O:(g.ew ((aD r d).P f) ((aD r d).J f j)).length=(c.ew f j).length:=by rw[h.AB];exact asD _
  rw[O];refine⟨λp b=>?_,λp=>?_,λp=>?_⟩
  .obtain⟨M,N⟩:=D p ((h.ja f w).1 b);exact⟨s M,by have:=ew (.call f j);rw[show sx _ _ (It.call f j)=It.call ((aD r d).P f) ((aD r d).J f j)from rfl]at this;rw[this];exact N⟩
  .obtain⟨M,N⟩:=K p;exact⟨s M,by have:=ew (.br f j);rw[show sx _ _ (It.br f j)=It.br ((aD r d).P f) ((aD r d).J f j)from rfl]at this;rw[this];exact N⟩
  .obtain⟨M,N⟩:=L p;exact⟨s M,by have:=ew (.lv f j);rw[show sx _ _ (It.lv f j)=It.lv ((aD r d).P f) ((aD r d).J f j)from rfl]at this;rw[this];exact N⟩
 case ws=>
  have:g.ap.map g.wt=c.ap.map c.wt:=by
   rw[<-m];show(c.ap.map (sx _ _)).map (λi=>c.wt (sx _ _ i))=_;rw[avf];exact as6 λi _=>by show c.wt (sx _ _ (sx _ _ i))=_;rw[Ae]
  rw[this];exact a.ws
 case outs=>
  rw[a.outs];refine as6 λi _=>(h.get ([],d.ins.length+i)).symm
variable{P:Pg}{d:Nd}{PX r i ci:Nat}
def kU(PX:Nat)(d:Nd):Nat:=PX%d.b.aq.length
def p7(PX:Nat)(P:Pg):Pg:=⟨P.aG,P.nodes.map λd=>iV (kU PX d) d⟩
def xu(PX:Nat)(P:Pg)(i:Nat):Sw:=match P.nodes[i]? with
 |some d=>aD (kU PX d) d
 |none=>⟨0,0,0,0,0⟩
def si(PX:Nat)(P:Pg):Nat->US->US
 |0,u=>u
 |n+1,u=>FV (xu PX P u.i) (si PX P n) u
def G9(PX:Nat)(P:Pg)(n:Nat)(u:US):(si PX P n u).i=u.i:=by cases n<;>rfl
def G_(PX:Nat)(P:Pg)(x:Nm):fG (p7 PX P).nodes x=fG P.nodes x:=by
 show fG (P.nodes.map _) x=_;unfold fG;rw[auu];rfl
def wg(h:P.nodes[i]?=some d):(p7 PX P).nodes[i]?=some (iV (kU PX d) d):=by
 show(P.nodes.map _)[i]?=_;rw[asF,h];rfl
def BG(h:P.nodes[ci]?=some d)(k:Nat):(US.init P ci).mem k=bZ (gH P.aG d) k:=by
 show(match P.nodes[ci]? with|some d=>bZ (gH P.aG d) k|none=>0)=_;rw[h]
def LX{u v:US}(a:u.i=v.i)(b:u.mem=v.mem)(c:u.cw=v.cw)(d:u.an=v.an):u=v:=by
 cases u;cases v;have a:=a;have b:=b;have c:=c;have d:=d;simp only[US.i,US.mem,US.cw,US.an]at a b c d;rw[a,b,c,d]
def BH{n:Nat}(h:P.nodes[ci]?=some d):si PX P (n+1) (US.init P ci)=US.init (p7 PX P) ci:=by
 refine LX W (funext λk=>?_) W W;have e:xu PX P ci=aD (kU PX d) d:=by unfold xu;rw[h]
 show(US.init P ci).mem ((xu PX P ci).g k)=_;rw[BG h,BG (wg h),e];have:=xS P.aG (kU PX d) d ((aD (kU PX d) d).g k);rw[Sw.fg]at this;unfold bZ;show((gH P.aG d)[_]?.getD none).getD 0=((gH P.aG (iV (kU PX d) d))[k]?.getD none).getD 0;rw[this]
def LY{l:List Nd}{x:Nm}(h:fG l x=some i):∃d,l[i]?=some d:=by
 unfold fG at h;obtain⟨a,_⟩:=as4.1 h;exact⟨_,aso a⟩
def BI{PX:Nat}(e:mw P)(f:px P)(g:∀d∈P.nodes,Eu d):∀(n:Nat) (u:US) (ins outs:List Int) (u':US),eV P n u ins outs u'->eV (p7 PX P) n (si PX P n u) ins outs (si PX P n u')
 |0,_,_,_,_,h=>h
 |n+1,u,ins,outs,u',⟨c,d,b⟩=>by
  have a:=b.nd;have h:si PX P (n+1) u=FV (aD (kU PX d) d) (si PX P n) u:=by
   show FV (xu PX P u.i) _ u=_;unfold xu;rw[a]
  have i:si PX P (n+1) u'=FV (aD (kU PX d) d) (si PX P n) u':=by
   show FV (xu PX P u'.i) _ u'=_;unfold xu;rw[b.ui,a]
  rw[h,i];refine⟨_,_,IF (Qn:=(p7 PX P).nodes) e f (g d (asn a)) (wg a) (G_ PX P) (λo p outs v j x k l=>?_) (G9 PX P n) b⟩;have:=BI (PX:=PX) e f g n _ _ _ _ l;cases o with
  |some w=>exact this
  |none=>
   obtain⟨q,m⟩:=LY k;cases n with
   |zero=>exact this
   |succ n=>
    show eV _ _ (US.init (p7 PX P) j) _ _ _;rw[<-BH (PX:=PX) (n:=n) m];exact this
def KB{q:aB}(h:q∈(iV r d).b.aq):q∈d.b.aq:=by
 have h:=h;rcases ast.1 h with h|h
 .grind
 .grind
def KC:(iV r d).b.aq.length=d.b.aq.length:=by
 show(d.b.aq.drop r++d.b.aq.take r).length=_;simp;omega
def Ai(l r:List aB):jU (l++r)=jU l+jU r:=by
 induction l with
 |nil=>simp[jU]
 |cons q l a=>simp only[atp,jU,a];omega
def FW:fZ (iV r d).b=fZ d.b:=by
 have e:fZ d.b=jU d.b.aq:=by cases d.b;rw[fZ];rfl
 show fZ (.mk _ (d.b.aq.drop r++d.b.aq.take r))=_;rw[fZ,Ai,e]
 conv=>rhs;rw[<-as9 r d.b.aq,Ai]
 omega
theorem LZ(h:mw P):mw (p7 PX P)where
 e:=h.e
 n:=by show(P.nodes.map _).length<=_;rw[asD];exact h.n
 d:=by
  intro d' Q6;obtain⟨d,hd,rfl⟩:=asK.1 Q6;obtain⟨h1,h2,h3⟩:=h.d d hd;refine⟨?_,h2,by rw[CS];exact h3⟩;have hl:=KC (r:=kU PX d) (d:=d);have hm:= λq=>KB (r:=kU PX d) (d:=d) (q:=q)
  show uc (.mk d.b.vars (d.b.aq.drop _++d.b.aq.take _));generalize hb:d.b=b at*;cases h1 with
  | @mk vars aq g1 g2 g3 g4 g5 g6 g7=>
   have hl:(aq.drop (kU PX d)++aq.take (kU PX d)).length=aq.length:=by simp;omega
   have hm:∀q,q∈aq.drop (kU PX d)++aq.take (kU PX d)->q∈aq:= λq h=>by
    grind
   exact .mk g1 (by show(aq.drop _++aq.take _).length<=_;rw[hl];exact g2) (λq hq=>g3 q (hm q hq)) (λq hq=>g4 q (hm q hq)) (λq hq=>g5 q (hm q hq)) (λq hq=>g6 q (hm q hq)) (λq hq=>g7 q (hm q hq))
 i:=by
  intro d' Q6;obtain⟨d,hd,rfl⟩:=asK.1 Q6;exact⟨(h.i d hd).1,by rw[FW];exact(h.i d hd).2⟩
theorem L0(h:px P):px (p7 PX P)where
 d:=by
  intro d' Q6;obtain⟨d,hd,rfl⟩:=asK.1 Q6;obtain⟨h1,h2,h3⟩:=h.d d hd;refine⟨?_,h2,h3⟩;show Cu (.mk d.b.vars (d.b.aq.drop _++d.b.aq.take _));generalize hb:d.b=b at*;cases h1 with
  | @mk vars aq g0 g1 g2 g3=>
   have hm:∀q,q∈aq.drop (kU PX d)++aq.take (kU PX d)->q∈aq:= λq h=>by
    grind
   exact .mk g0 (λq hq=>g1 q (hm q hq)) (λq hq=>g2 q (hm q hq)) (λq hq=>g3 q (hm q hq))
def FX{l:List Mk.Nd}(e:Mk.GP l):∀d∈(Go.Ex.gZ l).nodes,Eu d:=by
 intro z f;obtain⟨d,h,rfl⟩:=asK.1 f;obtain⟨k,m⟩:=asJ.1 h;obtain⟨G,A,⟨last,first,B,b⟩,C,D,n⟩:=e.2.2 k d m;obtain⟨H,E,w⟩:=(Go.Ex.zG k 3).st _ _ _ _ _ n (Go.Ex.eZ d.outs) (λv a=>⟨v,a,rfl⟩) (by
  rintro x ⟨v,a,rfl⟩ c;rw[b]at a;simp at a;rcases a with rfl|rfl
  .exact Go.Ex.lA c W
  .exact Go.Ex.lA c W) (by rw[b];exact(show([⟨#[120]⟩,Mk.yV.name]:List Nm).Nodup by decide))
 cases w with
 |mk _ _ a=>
  intro i j y F x c o p q;have g:∀{i:Nat} {q:aB},(Go.Ex.cM d).b.aq[i]?=some q->∃a,(Go.Ex.cP d.b)[i]?=some a/\Go.Ex.dx a=q:= λ{i q} h=>by
   have h:(Go.Ex.eD d.b).aq[i]?=some q:=h;rw[Go.Ex.tA,Go.Ex.io,asF,as0]at h;exact h
  obtain⟨r,s,rfl⟩:=g c;obtain⟨t,u,rfl⟩:=g o;exact a i j r t x s u p q
end Go.Sm
namespace Go.Proofs.Sz
open Go.Mt Go.Sm Go.Proofs
open Tryz
def L3{a:Type}(L:List a)(b j:Nat)(h:j<L.length):(L.drop (b%L.length)++L.take (b%L.length))[j]?=L[(j+b)%L.length]?:=by
 have c:b%L.length<L.length:=atY _ (by omega);have e:(j+b)%L.length=(j+b%L.length)%L.length:=by simp_all
 rw[e];generalize b%L.length=k at c;by_cases d:j+k<L.length
 .rw[auP d,asl (by simp;omega),at5];congr 1;omega
 .rw[Nat.mod_eq_sub_mod (by omega),auP (by omega),ass (by simp;omega),at6,asB (by simp;omega)];congr 1;simp;omega
theorem Ha{n i:Nat}{rs rows:List (List D)}{m:M}{H:Hp}(h:Acc n i rs m H)(d:rows≠[]):
  ∃a,Acc n a (rs++rows) (h_ m H rows) (eQ n m H rows)/\(rs≠[]->a=i)/\(rs=[]->a=H.length)/\(∀j ob,(rs≠[]->j≠i)->H[j]?=some ob->(eQ n m H rows)[j]?=some ob)/\H.length<=(eQ n m H rows).length:=by
 rcases h with⟨rfl,rfl⟩|⟨b,a,rfl,c⟩
 .cases rows with
  |nil=>exact absurd W d
  |cons q r=>
   refine⟨H.length,.inr ⟨by simp,0,by simp[h_,uF],by simp[eQ,jS]⟩,λh=>absurd W h,λ_=>rfl,λj ob _ h=>?_,by simp[eQ,jS]⟩;simp only[eQ,jS];rw[asl (rV h)];exact h
 .have f:=rV c;have e:eQ n (.bC i a rs.length) H rows=H.set i (.row true n (a+1) (aY rs++aY rows)):=by simp only[eQ,c]
  rw[e];exact⟨i,.inr ⟨by simp[b],a+1,by simp[h_],by rw[uU];simp[f]⟩,λ_=>rfl,λh=>absurd h b,λj ob a h=>by grind,by simp⟩
def Aj(J:List Int)(v:D)(K:pG .u8 J v)(xs:List Int)(x:D)(hx:pG .i32 xs x)(n:Int)(hn:(Lit.int .u8 n).wf=true):PT prog 7 [v,x,.int .u8 n] (·=[.bool true]):=by
 obtain⟨a,rfl,VJ⟩:∃a:Nat,n=(a:Int)/\a<256:=by
  have c:IntKind.u8.min<=n/\n<=IntKind.u8.max:=by simpa [Lit.wf] using hn
  have j:IntKind.u8.min=0:=by decide
  have p:IntKind.u8.max=255:=by decide
  rw[j,p]at c;exact⟨n.toNat,by omega,by omega⟩
 refine OL (CT.ob func7 W ntmps7 W λs0 Oo=>?_);refine tC [2] W ?_;rcases asp 300 J.length with h1|h1
 .refine tO [2,27] W<|aL wZ W W<|tR [31] W ?_
  first|refine aH W W ?_|(refine aC W ?_;(refine bK W W K.1 ?_))
  refine tR [32] W ?_
  first|refine aH W W ?_|(refine aC W ?_;(refine gG W W W (r:=.bool true) (by show some (D.bool (decide _))=_;rw[asP (by omega)]) ?_))
  refine tR [1,2,34] W<|aL wZ W W<|tL [] W<|TC.ret ⟨_,W,_,W,W⟩
 refine tO [2,27] W<|aL wZ W W<|tR [31] W ?_
 first|refine aH W W ?_|(refine aC W ?_;(refine bK W W K.1 ?_))
 refine tR [32] W ?_
 first|refine aH W W ?_|(refine aC W ?_;(refine gG W W W (r:=.bool false) (by show some (D.bool (decide _))=_;rw[asX (by omega)]) ?_))
 refine tR [0,2,36] W<|yi (CT.yw (JW J v ⟨K,by omega⟩)) W W ?_;rintro _ _ ⟨⟨_,rfl,l,rfl,z⟩,rfl⟩;refine tL [] W ?_;obtain⟨O,d,Tu,P,A,wf,UE,rT,X,Qr,i8⟩:=made z;have P1:=Go.Ex.zw l;have co:(Go.Ex.gZ l).nodes.length=l.length:=by show(l.map Go.Ex.cM).length=_;simp
 have Sl:(Mk.jt l).length=l.length:=by simp[Mk.jt]
 have d6:=LZ (PX:=a) A;rw[P1]at X;obtain⟨R,B⟩:∃R,R=(p7 a (Go.Ex.gZ l)).nodes.map Nd.cells:=⟨_,rfl⟩;have t3:R.length=l.length:=by rw[B,asD];show((Go.Ex.gZ l).nodes.map _).length=_;rw[asD,co]
 have Rw:∀r∈R,r.length=7:= λr c=>by rw[B]at c;obtain⟨d,_,rfl⟩:=asK.1 c;rfl
 have i9:(p7 a (Go.Ex.gZ l)).cells=[.sl [Mk.tj],.sl R]:=by rw[B];rfl
 refine tC [2,2,2,3] W<|TC.lp (λk s=>∃(i:Nat) (c:List (Nat×List M)) (H:Hp) (m:M) (f:Nat),s=⟨[nN 9 i,(8,.loc 8 0),(7,.loc 7 0),nM 1 (.d x),nD 2 (.int .u8 (a:Int))],c,H⟩/\get c 7=some [.d (.sl [Mk.tj]),.d (.sl (Mk.jt l))]/\get c 8=some [.d (.sl [Mk.tj]),m]/\Acc 7 f (R.take i) m H/\i<=l.length/\k=l.length-i) l.length _
  ⟨0,_,_,.d (.sl []),0,rfl,rfl,rfl,.inl ⟨rfl,rfl⟩,by omega,rfl⟩ W ?_
 rintro k ah ⟨i,bx,I,m,o,rfl,f,h,g,hi,rfl⟩;have C:decide (((i:Nat):Int)<(((Mk.jt l).length:Nat):Int))=decide (i<l.length):=by rw[Sl];exact decide_eq_decide.2 (by omega)
 rcases asp i l.length with s|s
 .rw[asP s]at C;refine tO [2,42] W<|jf W W f W<|tR [44] W<|aQ C W W W W<|tL [1,3] W ?_;obtain⟨e,Q⟩:∃e,(Go.Ex.gZ l).nodes[i]?=some e:=⟨_,aso (by rw[co];exact s)⟩;have P_:(Mk.jt l)[((i:Nat):Int).toNat]?=some e.cells:=by rw[Kr l,Int.toNat_natCast,asF,Q];rfl
  have mt:R[i]?=some (iV (kU a e) e).cells:=by rw[B,asF,wg Q];rfl
  have P2:=(A.d e (asn Q)).1;have t4:e.b.aq.length<=1000000:=by generalize e.b=b at P2;cases P2 with|mk _ p=>exact p
  have d7:R.take (i+1)=R.take i++[(iV (kU a e) e).cells]:=by rw[au5,mt];rfl
  obtain⟨L,t⟩:∃L,L=e.b.aq.map aB.cells:=⟨_,rfl⟩;have d8:L.length=e.b.aq.length:=by rw[t,asD]
  obtain⟨c,F⟩:∃c,c=L.drop (a%L.length)++L.take (a%L.length):=⟨_,rfl⟩;have t5:c.length=L.length:=by rw[F];simp;omega
  have Tl:(iV (kU a e) e).cells=[.str e.name,.sl (aE e.ins),.sl (aE e.outs),.sl (aE e.b.vars),.sl c,.int .i64 e.ps.1,.int .i64 e.ps.2]:=by
   rw[Nd.aA,F,d8,t,<-List.map_drop,<-auA,<-asN];rfl
  have d9:∀r∈L,r.length=16:= λr j=>by rw[t]at j;obtain⟨q,_,rfl⟩:=asK.1 j;exact aB.len q
  have pm:∀j,∀r∈c.take j,r.length=16:= λu r j=>by
   have:=aua j;rw[F]at this;rcases ast.1 this with p|p
   .exact d9 r (List.mem_of_mem_drop p)
   .exact d9 r (aua p)
  rw[Nd.aA,<-t]at P_;rw[Tl]at d7;refine tO [2,48] W<|jf W W f W<|tR [50] W<|aP W W W (asm i) P_ W<|tL [2,2,2,3] W<|TC.lp (λk s=>∃(j:Nat) (f:List (Nat×List M)) (H:Hp) (g:M) (h:Nat),s=⟨[nN 12 j,nD 11 (.sl L),(10,.loc 10 0),nN 9 i,(8,.loc 8 0),(7,.loc 7 0),nM 1 (.d x),nD 2 (.int .u8 (a:Int))],f,H⟩/\get f 7=some [.d (.sl [Mk.tj]),.d (.sl (Mk.jt l))]/\get f 8=some [.d (.sl [Mk.tj]),m]/\get f 10=some [.d (.str e.name),.d (.sl (aE e.ins)),.d (.sl (aE e.outs)),.d (.sl (aE e.b.vars)),g,.d (.int .i64 e.ps.1),.d (.int .i64 e.ps.2)]/\Acc 7 o (R.take i) m H/\Acc 16 h (c.take j) g H/\(R.take i≠[]->c.take j≠[]->o≠h)/\j<=L.length/\k=L.length-j) L.length _
   ⟨0,_,_,.d (.sl []),0,rfl,f,h,rfl,g,.inl ⟨rfl,rfl⟩,λ_ h=>absurd W h,by omega,rfl⟩ W ?_
  rintro k ah ⟨j,bx,I,m1,a1,rfl,f,h,Y,g,E,f4,hj,rfl⟩;have G:decide (((j:Nat):Int)<((L.length:Nat):Int))=decide (j<L.length):=decide_eq_decide.2 (by omega);rcases asp j L.length with S|S
  .rw[asP S]at G;have Z:=L3 L a j S;rw[<-F]at Z;obtain⟨q,hq⟩:∃q,e.b.aq[(j+a)%L.length]?=some q:=⟨_,aso (by rw[<-d8];exact(atY _ (by omega)))⟩;have f8:L[(j+a)%L.length]?=some q.cells:=by rw[t]at hq⊢;rw[asF,hq];rfl
   have Rn:L[(((j+a)%L.length:Nat):Int).toNat]?=some q.cells:=by rw[Int.toNat_natCast];exact f8
   rw[f8]at Z;have Wj:c.take (j+1)=c.take j++[q.cells]:=by rw[au5,Z];rfl
   obtain⟨a2,T,g2,g3,g4,g5⟩:=Ha E (rows:=[q.cells]) (by simp);have OO:(c.take j).length<=1000000:=by rw[atP];omega
   have SA:Int.tmod ((j:Int)+(a:Int)) (L.length:Int)=(((j+a)%L.length:Nat):Int):=rfl;have hz:(((L.length:Nat):Int)==0)=false:=asY.2 (by omega);have f9:Acc 7 o (R.take i) m (eQ 16 m1 I [q.cells]):=by
    by_cases N:R.take i=[]
    .rw[N]at g⊢;exact g.any
    .exact g.other λa c=>g4 o a (λh=>f4 N h) c
   have qr:R.take i≠[]->c.take (j+1)≠[]->o≠a2:= λa _ h=>by
    by_cases N:c.take j=[]
    .have:=g.lt a;rw[h,g3 N]at this;omega
    .exact f4 a N (h.trans (g2 N))
   rw[<-Wj]at T;obtain⟨b0,b1,b2,b3,b4,b5,b6,b7,b8,b9,c0,c1,c2,c3,c4,c5,PD⟩:=pT q.len;rw[PD]at Rn T f9;refine tO [2,60] W<|aQ G W W W W<|tL [1,3] W<|TC.draw bX<|fR 2 W<|oK W W Y W<|fR 3 W<|qx W W ?_;rw[IntWalk.i64_in _ ⟨by omega,by omega⟩];refine oZ W W W (by omega)<|fR 2 W<|BR W W W hz ?_;rw[SA];refine bJ W W W (asm _) Rn W<|fR 2 W<|xH E W W W W W W (by omega) (by omega)<|fR 2 W<|iI W W Y (fX _ _ _) W W<|TF.nil ⟨by kernel_rfl,?_⟩;refine tO [2,62] W<|ay W W W (by omega)<|tL [] W<|again (k':=L.length-(j+1)) (by omega) ⟨j+1,_,_,_,a2,rfl,f,h,rfl,f9,T,qr,by omega,rfl⟩ W W
  .rw[asX (show ¬j<L.length by omega)]at G;have Z:j=L.length:=by omega
   subst Z;rw[ath (by omega)]at E;obtain⟨T,N,g2,g3,g4,g5⟩:=Ha g (rows:=[[.str e.name,.sl (aE e.ins),.sl (aE e.outs),.sl (aE e.b.vars),.sl c,.int .i64 e.ps.1,.int .i64 e.ps.2]]) (by simp);rw[<-d7]at N;have OO:(R.take i).length<=1000:=by rw[atP];omega
   refine tO [2,60] W<|aQ G W W W W<|tL [0] W<|TC.exit<|TC.gP (OS:=[.d (.str e.name),.d (.sl (aE e.ins)),.d (.sl (aE e.outs)),.d (.sl (aE e.b.vars)),.d (.sl c),.d (.int .i64 e.ps.1),.d (.int .i64 e.ps.2)]) 10 Y (dT (dT (dT (dT (f_ (E.view λr a=>pm c.length r (by rw[asU];exact a)) W)))))<|tO [2,81] W<|jf W W h W<|tR [84] W<|mj g W W W W W (mi W) (by simp;omega) (by simp;omega)<|tR [999] W<|fh W W h (fX _ _ _) W W<|tR [2,46] W<|ay W W W (by omega)<|tL [] W<|again (k':=l.length-(i+1)) (by omega) ⟨i+1,_,_,_,T,rfl,f,rfl,N,by omega,rfl⟩ W W
 rw[asX (show ¬i<l.length by omega)]at C;have rg:i=l.length:=by omega
 subst rg;rw[ath (by omega)]at g;obtain⟨_,K1,⟨U,u,rfl,H,ac⟩,OT⟩:=Cv (n:=l.length) A UE O (l.length-1) Qr I;obtain⟨_,V,⟨ib,Fb,rfl,w,y⟩,OV⟩:=Cv (n:=l.length) d6 UE O (l.length-1) ((G_ a (Go.Ex.gZ l) O).trans Qr) K1;rw[P1]at OT;rw[i9]at OV;have O1:∀F:Nat->Prop,tH F (λ_=>False):= λF a _ h=>h
 have rt:US.init (p7 a (Go.Ex.gZ l)) (l.length-1)=si a (Go.Ex.gZ l) l.length (US.init (Go.Ex.gZ l) (l.length-1)):=by
  obtain⟨c,j⟩:∃a,l.length=a+1:=⟨l.length-1,by omega⟩;have:=BH (PX:=a) (n:=c) P;rw[<-j]at this;exact this.symm
 rw[rt]at w;refine tO [2,42] W<|jf W W f W<|tR [44] W<|aQ C W W W W<|tL [0] W<|TC.exit<|TC.gP (OS:=[.d (.sl [Mk.tj]),.d (.sl R)]) 8 h (dT (f_ (g.view Rw) W))<|tC [] W<|TC.draw bX<|qw W W f W W<|qw W W f W W<|aW X W W<|bp OT W W<|fR 5 W<|TF.nil ⟨by kernel_rfl,?_⟩;refine tC [] W<|TC.draw bX<|fR 1 W<|qw W W f W W<|aW X W W<|bp OV W W<|fR 5 W<|TF.nil ⟨by kernel_rfl,?_⟩;refine tO [2,101] W<|aL (FT xs x hx) W W<|tL [2,3] W ?_;have s:∀q:List (List Int),(p6 q).length=q.length:= λq=>by simp[p6]
 have rx:∀q:List Int,(j9 q).length<=20:= λq=>by simp[j9];omega
 have gc:=hx.2.2;have t6:=rx xs;refine TC.lp (λk s=>∃(i:Nat) (g:List (Nat×List M)) (K:Hp) (c f:Nat->Prop) (u:US),s=⟨[nN 18 i,nD 17 (.sl (p6 (j9 xs))),nR 15 ib,nR 13 U],g,K⟩/\i<=(j9 xs).length/\k=(j9 xs).length-i/\
   ol (Go.Ex.gZ l) l.length u U c K/\ol (p7 a (Go.Ex.gZ l)) l.length (si a (Go.Ex.gZ l) l.length u) ib f K/\tH c f/\Go.Ex.oc l l.length (l.length-1) u) (j9 xs).length _
  ⟨0,_,V,u,Fb,_,rfl,by omega,rfl,(Ab H y (O1 u)),w,(u6 H y (O1 u)),i8⟩ W ?_
 rintro k ah ⟨i,bx,i6,u,Fb,i7,rfl,hi,rfl,H,w,ge,hG⟩;refine tC [2] W<|TC.cond W (λhc=>?_) (λhc=>?_)
 .have Q:i<(j9 xs).length:=by have:=asC hc;rw[s]at this;omega
  obtain⟨c,t,d7⟩:=Iy Q;have E:=Ix d7;obtain⟨j,p,S,T,d8,Y⟩:=Nn z (k:=l.length-1) (n:=l.length) (by omega) hG (Em (gc c t)) (Ac c);have d9:=BI (PX:=a) A wf (FX z) _ _ _ _ _ T;obtain⟨v1,v2,Z,t1,t2⟩:=BE z P;have f4:(p7 a (Go.Ex.gZ l)).nodes[(si a (Go.Ex.gZ l) l.length i7).i]?=some (iV (kU a d) d):=by rw[G9,Eo (by omega) hG];exact wg P
  have V8:jm (p7 a (Go.Ex.gZ l)).aG (iV (kU a d) d).ins [c,p5 c]=true:=by
   show jm _ d.ins _=true;rw[Z,G6 t1 t2];rcases Ac c with q|q<;>rw[q]<;>rfl
  obtain⟨_,K1,⟨rfl,f8,F,ac⟩,Ym⟩:=Y U u i6 H;have G:=(u6 w ac ge.symm).symm;obtain⟨_,V,⟨rfl,f9,mt,y⟩,Tc⟩:=wM d6 (L0 (PX:=a) wf) (Ab w ac ge.symm) (xs:=[c,p5 c]) (by
   intro pm q;simp at q;rcases q with rfl|rfl
   .exact Em (gc _ t)
   .unfold oD;rcases Ac c with L|L<;>omega) f4 V8 d9
  have N:PT prog 16 [.sl (bL [j,p]),.sl (bL [j,p])] (·=[.bool true]):=by have:=Kj [j,p] [j,p] (by simp);simpa using this
  refine tO [3,2,112] W<|aP W W W (asm i) E W<|tR [114] W<|au Ym W W<|tR [2,121] W<|aP W W W (asm i) E W<|tR [123] W<|au Tc W W<|tR [2,131] W ?_
  first|refine aH W W ?_|(refine aC W ?_;(refine aL N W W ?_))
  refine tR [0,2,107] W<|ay W W W (by omega)<|tL [] W<|again (k':=(j9 xs).length-(i+1)) (by omega) ⟨i+1,_,V,f8,f9,S,rfl,by omega,rfl,(Ab F y G),mt,(u6 F y G),d8⟩ W W
 .refine TC.exit<|tC [2] W<|TC.ret ⟨_,W,[_],W,W⟩
end Go.Proofs.Sz
