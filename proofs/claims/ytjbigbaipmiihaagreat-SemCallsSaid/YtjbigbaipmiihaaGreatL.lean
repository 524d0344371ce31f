/- A part of the proof. -/
import Derived.Test.YtjbigbaipmiihaaGreatK
import Derived.SizedLaws
set_option maxRecDepth 4000
set_option linter.all false
namespace Go.Proofs.Sz
open Go.Mt Go.Sm Go.Proofs
open Tryz
instance:bz prog 12:=cN (by kernel_rfl)
instance:bz prog 16:=cN (by kernel_rfl)
instance:bz prog 14:=cN (by kernel_rfl)
theorem rK(a b:List Int)(A:a.length<=1000000):PT prog 16 [.sl (bF a),.sl (bF b)] (·= [.bool (decide (a=b))]):=by
 have B:(bF a).length=a.length:=by simp[bF]
 have H:(bF b).length=b.length:=by simp[bF]
 refine PI (CT.ob func16 W ntmps16 W λC E=> ?_);refine tC [2] W ?_;by_cases s:a.length=b.length;rotate_left
 ·have i:((((bF a).length:Nat):Int) !=(((bF b).length:Nat):Int))=true:=by grind
  have f:decide (a=b)=false:=avc (λe=>s (by rw[e]));rw[f];refine tO [2,14] W<|aQ i W W W W<|tL [1,2] W<|TC.ret ⟨_,W,[_],W,W⟩
 have i:((((bF a).length:Nat):Int) !=(((bF b).length:Nat):Int))=false:=by grind
 refine tO [2,14] W<|aQ i W W W W<|tL [0,2,3] W<|TC.lp (λm n=> ∃(c:Nat) (o:List (Nat×List M)),n=⟨[nN 5 c,nD 1 (.sl (bF b)),nD 0 (.sl (bF a))],o,[]⟩/\c<=a.length/\m=a.length-c/\ ∀(d:Nat),d<c->a[d]?=b[d]?) a.length _
  ⟨0,_,rfl,by omega,rfl,λd z=>by omega⟩ W ?_
 rintro m n ⟨c,o,rfl,F,rfl,G⟩;refine tC [2] W<|TC.cond W (λt=> ?_) (λt=> ?_)
 ·have p:c<a.length:=by grind
  have q:c<b.length:=by omega
  have j:(bF a)[((c:Nat):Int).toNat]?=some [.int .i32 a[c]]:=by simp[bF,p]
  have k:(bF b)[((c:Nat):Int).toNat]?=some [.int .i32 b[c]]:=by simp[bF,q]
  have u:=auO p;have v:=auO q;generalize a[c]=g at j u;generalize b[c]=h at k v;refine tC [3] W ?_;by_cases y:g=h
  ·have l:(g !=h)=false:=by grind
   refine tC [] W<|TC.draw bN<|fR 2 W<|a_ W W W (auJ c) j W<|fR 3 W<|a_ W W W (auJ c) k W<|fR 1 W<|kq W W W (r:= .bool false) (by show some (D.bool (_ !=_))=_;rw[l])<|TF.nil ⟨by kernel_rfl,?_⟩;refine tO [0,2,20] W<|az W W W (by omega)<|tL [] W<|again (k':=a.length-(c+1)) (by omega) ⟨c+1,_,rfl,by omega,rfl,λd w=> ?_⟩ W W;rcases avB.1 w with x|x
   ·grind
   ·grind
  ·have l:(g !=h)=true:=by grind
   have f:decide (a=b)=false:=avc (λe=>y (by grind));rw[f];refine tC [] W<|TC.draw bN<|fR 2 W<|a_ W W W (auJ c) j W<|fR 3 W<|a_ W W W (auJ c) k W<|fR 1 W<|kq W W W (r:= .bool true) (by show some (D.bool (_ !=_))=_;rw[l])<|TF.nil ⟨by kernel_rfl,?_⟩;refine tC [1,2] W<|TC.ret ⟨_,W,[_],W,W⟩
 ·have e:c=a.length:=by grind
  have f:decide (a=b)=true:=au5 (awt λd=>by
   grind)
  rw[f];refine TC.exit<|tC [2] W<|TC.ret ⟨_,W,[_],W,W⟩
theorem Ct(P:Pg)(d:Nd)(b:P.nodes.length<=1000000)(h:P.nodes[P.nodes.length-1]?=some d):PT prog 12 [.agg P.cells] (·= [.str d.name]):=by
 have c:P.nodes.length-1<P.nodes.length:=by
  grind
 have a:(P.nodes.map Nd.cells)[((((P.nodes.map Nd.cells).length:Nat):Int)-1).toNat]?=some d.cells:=by
  simp_all
 rw[Nd.aC]at a;refine PI (CT.ob func12 W ntmps12 W λe f=> ?_);refine tO [2,2,12] W<|cL W W W (by simp;omega)<|tR [13] W<|aG W W W (by simp;omega) a W<|tL [] W<|TC.ret ⟨_,rfl,[_],rfl,rfl⟩
def nr(x:Int):Int:=if Int.tmod x 3=1\/Int.tmod x 3= -1 then 1 else 0
def cJ(l:List Int):List (List Int):=(l.take 20).map λx=>[x,nr x]
def iV(l:List (List Int)):List (List D):=l.map λr=>[.sl (bF r)]
theorem mA(b:List Int)(v:D)(x:kJ .i32 b v):PT prog 14 [v] (·= [.sl (iV (cJ b))]):=by
 obtain⟨q,y,K⟩:=x;refine PI (CT.ob func14 W ntmps14 W λL N=> ?_);refine tC [2,2,2,3] W ?_;have H: ∀a,a<=b.length->a<=20->(iV (cJ (b.take a))).length=a:= λa h l=>by simp[iV,cJ];omega
 have z: ∀a,a<b.length->a<20-> ∀c,b[a]?=some c->iV (cJ (b.take (a+1)))=iV (cJ (b.take a))++ [[.sl (bF [c,nr c])]]:= λa h l c A=>by
  have e:b.take (a+1)=b.take a++ [c]:=by rw[axx,A];rfl
  unfold iV cJ;rw[axy,axy,axn (by omega),axn (by omega),e];simp
 refine TC.lp (λr s=> ∃(a:Nat) (t:List (Nat×List M)),s=⟨[nN 4 a,nM 3 (gN 0 (iV (cJ (b.take a)))),nM 0 (.d v)],t,dZ [] 1 (iV (cJ (b.take a)))⟩/\a<=b.length/\a<=20/\r=20-a) 20 _
  ⟨0,_,rfl,by omega,by omega,rfl⟩ W ?_
 rintro r s ⟨a,t,rfl,O,Q,rfl⟩;have B:a<b.length/\a<20\/(a=b.length\/a=20):=by omega
 rcases B with⟨h,l⟩|C
 ·have m:decide (((a:Nat):Int)<((b.length:Nat):Int))=true:=au5 (by omega);have u:=auO h;have E:v= .sl (kQ .i32 b):=by
   rcases y with g|g
   ·rw[g]at h;simp at h
   ·exact g
  have f:(kQ .i32 b)[((a:Nat):Int).toNat]?=some [.int .i32 b[a]]:=by simp[kQ,h]
  have d:=z a h l _ u;have i:=H a (by omega) (by omega);generalize b[a]=c at u f d;subst E;refine tO [2,12] W<|bp W W q<|tR [13] W<|aQ m W W W W<|tR [16] W ?_
  first|refine ax W W ?_|(refine av W ?_;(refine aQ (au5 (by omega)) W W W W ?_))
  refine tL [1,3] W ?_;by_cases n:Int.tmod c 3=1
  ·have j:nr c=1:=by unfold nr;rw[au2 (.inl n)]
   have k:(Int.tmod c 3==1)=true:=by simpa using n
   rw[j]at d;refine tO [2,2,22] W<|aG W W W (auJ a) f W<|tR [24] W<|pJ W W W W<|tR [25] W<|aQ k W W W W<|tR [31] W ?_
   first|refine ax W W ?_|(refine av W ?_;(refine pJ W W W W ?_))
   refine tR [1,2,2,37] W<|aG W W W (auJ a) f W<|tR [42] W<|rZ (H0:=[]) W W W W (by rfl) W (by rw[i];omega) (by rw[i];omega)<|tR [2,19] W<|az W W W (by omega)<|tL [] W<|again (k':=20-(a+1)) (by omega) ⟨a+1,_,rfl,by omega,by omega,rfl⟩ (by rw[d];rfl) (kc W (kc (by rw[d];rfl) W))
  ·have k:(Int.tmod c 3==1)=false:=by simpa using n
   by_cases o:Int.tmod c 3= -1
   ·have j:nr c=1:=by unfold nr;rw[au2 (.inr o)]
    have p:(Int.tmod c 3== -1)=true:=by simpa using o
    rw[j]at d;refine tO [2,2,22] W<|aG W W W (auJ a) f W<|tR [24] W<|pJ W W W W<|tR [25] W<|aQ k W W W W<|tR [29] W ?_
    first|refine ax W W ?_|(refine av W ?_;(refine aG W W W (auJ a) f W ?_))
    refine tR [31] W ?_
    first|refine ax W W ?_|(refine av W ?_;(refine pJ W W W W ?_))
    refine tR [32] W ?_
    first|refine ax W W ?_|(refine av W ?_;(refine aQ p W W W W ?_))
    refine tR [1,2,2,37] W<|aG W W W (auJ a) f W<|tR [42] W<|rZ (H0:=[]) W W W W (by rfl) W (by rw[i];omega) (by rw[i];omega)<|tR [2,19] W<|az W W W (by omega)<|tL [] W<|again (k':=20-(a+1)) (by omega) ⟨a+1,_,rfl,by omega,by omega,rfl⟩ (by rw[d];rfl) (kc W (kc (by rw[d];rfl) W))
   ·have j:nr c=0:=by unfold nr;rw[auU (by omega)]
    have p:(Int.tmod c 3== -1)=false:=by simpa using o
    rw[j]at d;refine tO [2,2,22] W<|aG W W W (auJ a) f W<|tR [24] W<|pJ W W W W<|tR [25] W<|aQ k W W W W<|tR [29] W ?_
    first|refine ax W W ?_|(refine av W ?_;(refine aG W W W (auJ a) f W ?_))
    refine tR [31] W ?_
    first|refine ax W W ?_|(refine av W ?_;(refine pJ W W W W ?_))
    refine tR [32] W ?_
    first|refine ax W W ?_|(refine av W ?_;(refine aQ p W W W W ?_))
    refine tR [0,2,37] W<|aG W W W (auJ a) f W<|tR [42] W<|rZ (H0:=[]) W W W W (by rfl) W (by rw[i];omega) (by rw[i];omega)<|tR [2,19] W<|az W W W (by omega)<|tL [] W<|again (k':=20-(a+1)) (by omega) ⟨a+1,_,rfl,by omega,by omega,rfl⟩ (by rw[d];rfl) (kc W (kc (by rw[d];rfl) W))
 ·have F:cJ (b.take a)=cJ b:=by
   unfold cJ;rw[axy];rcases C with rfl|rfl
   ·rw[show min 20 b.length=min 20 b.length from rfl]
    congr 1
    rcases Nat.le_total 20 b.length with g|g
    ·rw[awN g]
    ·rw[axn g,avK (auK _),avK g]
   ·rfl
  rw[F];have w:=jB [] 1 (iV (cJ b)) (λI G=>by obtain⟨J,_,rfl⟩:=ava.1 G;rfl);by_cases h:a<b.length
  ·have P:a=20:=by omega
   refine tO [2,12] W<|bp W W q<|tR [13] W<|aQ (au5 (by omega)) W W W W<|tR [16] W ?_
   first|refine ax W W ?_|(refine av W ?_;(refine aQ (avc (by omega)) W W W W ?_))
   refine tL [0] W<|TC.exit<|TC.cw 3 W w<|tC [2] W<|TC.ret ⟨_,W,[_],W,W⟩
  ·have m:decide (((a:Nat):Int)<((b.length:Nat):Int))=false:=avc (by omega);refine tO [2,12] W<|bp W W q<|tR [13] W<|aQ m W W W W<|tL [0] W<|TC.exit<|TC.cw 3 W w<|tC [2] W<|TC.ret ⟨_,W,[_],W,W⟩
end Go.Proofs.Sz
namespace Go.Sm
open Go.Mt
abbrev MZ(s:Nm):Va:=⟨s,2,⟨#[]⟩,[],false,Nc,(0,0)⟩
abbrev eA:Nm:=⟨#[97]⟩
abbrev eX:Nm:=⟨#[120]⟩
abbrev DF(s:Nm):Xp:= .mk 4 0 0 s [] [] (0,0)
abbrev OX:Xp:= .mk 9 0 0 ⟨#[]⟩ [] [.mk 1 0 0 ⟨#[]⟩ [] [] (0,0),.mk 7 3 0 ⟨#[]⟩ [] [DF eX,DF eA] (0,0)] (0,0)
abbrev xL:aB:= .mk 1 [eX] ⟨#[]⟩ [] false OX [] (0,0)
abbrev Jv:Nd:=⟨⟨#[102]⟩,[MZ eA],[MZ eX],.mk [] [xL],(0,0)⟩
abbrev Lu:Pg:=⟨[],[Jv]⟩
def Fj(u:US)(a:Int):aK where
 ok π:=π= []
 fr π:=match π with| []=>rl Jv|_=>⟨[],[],[],[]⟩
 val π k:=match π,k with| [],0=>some a| [],1=>some (u.mem 0)|_,_=>none
 rk _ _:=0
 sb _ _:=0
 ek _ _:=0
 bA _ _:=0
 iO _ _:=false
 ev _ _:=u.mem 0
 ew _ _:=[(0,jE 3 (u.mem 0) a)]
 outs _ _:=[]
 iP _ _:=u
 lg _ _:=0
 nan _ _:=false
 rd:=u.mem
 rp:=u.cu
 rs:=u.an
 eh:=1
 sz:=1
 ap:=[.cell [] 1]
 wt _:=2
theorem Cu{j:Nat}{q:aB}(h: [xL][j]?=some q):j=0/\q=xL:=by grind
theorem sM{u:US}{a:Int}{π:Path}{j:Nat}{q:aB}(h:((Fj u a).fr π).au[j]?=some q):q=xL:=by
 cases π with
 |nil=>exact(Cu h).2
 |cons _ _=>cases h
theorem sN(u:US)(a:Int):(Fj u a).find [] eX=some ([],1):=by kernel_rfl
theorem Fk(u:US)(a:Int):gR ((Fj u a).fr []) 1 (MZ eX) 0:=⟨by kernel_rfl,⟨xL,rfl,auW.2 W⟩,λc d e b=>by have:=(Cu b).1;omega⟩
theorem Lv(u:US)(t:u.i=0)(a:Int):d_ Lu 1 u [a] [u.mem 0] (.mk 0 (λ_=>jE 3 (u.mem 0) a) u.cu u.an):=by
 have o: ∀{e:Nat},¬fO (Fj u a) e:=by
  rintro e ⟨f,h,q,w,b,A,B,C,D,y,_⟩;cases y
 refine⟨Fj u a,Jv,?_⟩;constructor
 case nd=>rw[t];rfl
 case sz=>kernel_rfl
 case Bd=>rfl
 case i_=>intro h f c;cases c
 case qe=>rfl
 case sU=>rfl
 case ya=>
  intro e v x _ c;cases e with
  |zero=>exact⟨c,Nat.one_pos⟩
  |succ e=>cases c
 case cell=>
  rintro f e v E rfl i j k
  match e with
  |0=>exact absurd (k W) (by decide)
  |1=>
   injection i with i
   subst i;refine⟨.nil,auK _,Nat.one_pos,λx p=>⟨0,some ([],0),Fk u a,.leaf (q:=xL) W (.inl W) (auK _),sN u a,xL,rfl,λ_=>⟨rfl,?_⟩,λc=>absurd c (by decide)⟩⟩;injection p with p;exact p.symm
  |e+2=>cases i
 case eq=>
  rintro f h q w rfl d r;obtain⟨rfl,rfl⟩:=Cu d;injection r with r
  subst r;exact⟨.df W eX W λ_=> .ga Nat.one_pos (.bin (.var (sN u a) Nat.one_pos) (.var (σ:=([],0)) (by kernel_rfl) Nat.one_pos)),Nat.one_pos⟩
 case lhs=>intro f h q c d g;rw[sM d]at g;exact absurd g (by decide)
 case nx=>intro _ _;exact avp _
 case vD=>intro f c;cases f with
  |nil=>exact absurd W c
  |cons _ _=>exact⟨W,W⟩
 case gh=>intro f h q d g;rw[sM d]at g;exact absurd g (by decide)
 case lh=>
  rintro f h q rfl d n s σ m _;obtain⟨rfl,rfl⟩:=Cu d;rw[auW.1 s,sN]at m;injection m with m;subst m;exact auK _
 case II=>
  intro l v i;cases l with
  |zero=>injection i with i;subst i;exact sN u a
  |succ l=>cases i
 case F_=>
  rintro f h q n rfl d _ j _;obtain⟨rfl,rfl⟩:=Cu d;injection j with j;subst j
  exact⟨([],1),MZ eX,0,sN u a,Fk u a,W,W,.leaf (q:=xL) W (.inl W) (auK _),λ_=>auK _⟩
 case IK=>
  rintro f h q rfl d n s;obtain⟨rfl,rfl⟩:=Cu d;rw[show n=eX from auW.1 s];exact⟨_,sN u a⟩
 case aj=>intro f h q _ d _;rw[sM d];rfl
 case rd=>exactλe _=>⟨λc=>absurd c o,λ_=>rfl⟩
 case rp=>exactλe _=>⟨λc=>absurd c o,λ_=>rfl⟩
 case rs=>exactλe _=>⟨λc=>absurd c o,λ_=>rfl⟩
 case nm=>
  intro e g;have g:e=0:=by have:e<1:=g;omega
  subst g;refine⟨?_,λc=>absurd (.inl ⟨[],0,xL,rfl,rfl,λ_=>⟨_,sN u a,rfl⟩,auW.2 W⟩) (c (jE 3 (u.mem 0) a))⟩;rintro v (⟨f,h,q,k,d,_,z⟩|⟨f,l,rfl,j,_⟩|⟨f,h,q,k,d,g,_⟩)
  ·have:=auW.1 z;injection this with _ c;exact c.symm
  ·match l with
   |0=>cases j
   |1=>cases j
   |l+2=>cases j
  ·rw[sM d]at g;exact absurd g (by decide)
 case np=>
  refineλe _=>⟨?_,λ_=>rfl⟩
  rintro v ⟨f,h,q,k,d,g,_⟩;rw[sM d]at g;exact absurd g (by decide)
 case ns=>
  refineλe _=>⟨?_,λ_=>rfl⟩
  rintro v ⟨f,h,q,k,d,g,_⟩;rw[sM d]at g;exact absurd g (by decide)
 case ui=>exact t.symm
 case wc=>
  rintro f e v rfl i k
  match e with
  |0=>exact absurd (k W) (by decide)
  |1=>exact⟨auW.2 W,by show 1<=2;omega,λ_ _ _ _ _ _ _ _=>auK 2⟩
  |e+2=>cases i
 case wq=>
  intro f h q _ d;rw[sM d];exact⟨λc=>absurd c (by decide),λc=>absurd c (by decide),λc=>absurd c (by decide)⟩
 case ws=>show 2+0<=1000000000000;omega
 case outs=>rfl
end Go.Sm
namespace Go.Proofs.Sz
open Go.Mt Go.Sm Go.Proofs
open Tryz
theorem xM{k op n:Int}{s:Nm}{p:Int×Int}(h:k≠9):jP (.mk k op n s [] [] p):= .mk (λe=>absurd e h) (avp _) (avp _) (λe a=>by cases a)
theorem M0:jP OX:=by
 refine .mk (λ_=>by simp) (by decide) (avp _) λe a=> ?_
 simp at a;rcases a with rfl|rfl
 ·exact xM (by decide)
 ·refine .mk (λb=>absurd b (by decide)) (by decide) (avp _) λe a=> ?_
  simp at a;rcases a with rfl|rfl<;>exact xM (by decide)
theorem Lw:lL Lu where
 e:=⟨avp _,λe he=>by cases he⟩
 n:=by decide
 d:=by
  intro d hd;rw[auW.1 hd];have h1: ∀q∈ [xL],q=xL:= λq hq=>auW.1 hq
  have h2:bP Jv.b=1:=by kernel_rfl
  refine⟨.mk (by decide) (by decide) ?_ ?_ ?_ ?_ ?_,by decide,by grind⟩
  ·intro q hq a ha;rw[h1 q hq]at ha;cases ha
  ·intro q hq;rw[h1 q hq];exact avp _
  ·intro q hq;rw[h1 q hq];exact⟨M0,avp _,λe he=>by cases he⟩
  ·intro q hq;rw[h1 q hq];show 1<=1000000;omega
  ·intro q hq a ha;rw[h1 q hq]at ha;cases ha
 i:=by
  intro d hd;rw[auW.1 hd];have:gg Jv.b=1:=by kernel_rfl
  exact⟨by decide,by omega⟩
theorem Oj:p6 Lu where
 d:=by
  intro d hd;rw[auW.1 hd];have h1: ∀q∈ [xL],q=xL:= λq hq=>auW.1 hq
  refine⟨.mk (λv hv=>by cases hv) ?_ ?_ ?_,?_,avp _⟩
  ·intro q hq;rw[h1 q hq];exact⟨.inl W,λ_=>rfl,λh=>absurd h (by decide)⟩
  ·intro q hq a ha;rw[h1 q hq]at ha;cases ha
  ·intro q hq a ha;rw[h1 q hq]at ha;cases ha
  ·grind
instance:bz prog 9:=cN (by kernel_rfl)
instance:bz prog 22:=cN (by kernel_rfl)
theorem Fm:PT prog 22 [] (·= [.agg Lu.cells]):=by
 refine PI (CT.ob func22 W ntmps22 W λa b=> ?_);refine tC [2,2,2,2,2,2] W<|TC.ret ⟨_,W,[_],W,W⟩
def OY:Nat->Int
 |0=>0
 |1=>1
 |2=>3
 |_=>6
theorem fN:PT prog 9 [] (·= [.bool true]):=by
 obtain⟨_,p,⟨k,c,rfl,f,z⟩,g⟩:=lk (n:=1) Lw (auK 1) ⟨#[102]⟩ 0 (by kernel_rfl) [];refine PI (CT.ob func9 W ntmps9 W λA B=> ?_);refine tO [2,2,12] W<|aE Fm W W<|tR [13] W<|aq g W W<|tL [2,0,2,2,3] W<|TC.lp (λi j=> ∃(a:Nat) (l:List (Nat×List M)) (e:Hp) (c:Nat->Prop) (b:US),j=⟨[nN 4 a,nD 3 (.sl [[.int .i32 0],[.int .i32 1],[.int .i32 3]]),nR 1 k],l,e⟩/\a<=3/\i=3-a/\iS Lu 1 b k c e/\b.i=0/\b.mem 0=OY a) 3 _
  ⟨0,_,p,c,_,rfl,by omega,rfl,f,rfl,by kernel_rfl⟩ W ?_
 rintro i j ⟨a,l,e,c,b,rfl,C,rfl,f,m,o⟩;refine tC [2] W<|TC.cond W (λg=> ?_) (λg=> ?_)
 ·have h:a=0\/a=1\/a=2:=by grind
  obtain⟨_,q,⟨rfl,s,x,E⟩,t⟩:=pD Lw Oj f (xs:=[IntKind.i32.wrap (((a:Nat):Int)+1)]) (d:=Jv) (by intro y u;rw[auW.1 u];unfold lG;rcases h with rfl|rfl|rfl<;>decide) (by rw[m];rfl) W (Lv b m _);have v:([[.int .i32 0],[.int .i32 1],[.int .i32 3]]:List (List D))[((a:Nat):Int).toNat]?=some [.int .i32 (b.mem 0)]:=by rw[o];rcases h with rfl|rfl|rfl<;>rfl
  have w:(b.mem 0 !=b.mem 0)=false:=by simp
  refine tO [3,2,26] W<|az W W W (by omega)<|tR [29] W<|aq t W W<|tL [] W<|TC.draw bN<|fR 9 W ?_
  first|refine aX W W W W ?_|refine aY W W W ?_|(refine aR W W ?_;(refine a_ W W W (awT 0) W W ?_))
  refine fR 3 W ?_
  first|refine aX W W W W ?_|refine aY W W W ?_|(refine aR W W ?_;(refine a_ W W W (auJ a) v W ?_))
  refine fR 1 W ?_
  first|refine aX W W W W ?_|refine aY W W W ?_|(refine aR W W ?_;(refine kq W W W (r:= .bool false) (by show some (D.bool (_ !=_))=_;rw[w]) ?_))
  refine fR 1 W<|TF.nil ⟨by kernel_rfl,?_⟩;refine tO [0,2,22] W<|az W W W (by omega)<|tL [] W<|again (k':=3-(a+1)) (by omega) ⟨a+1,_,q,s,_,rfl,by omega,rfl,x,rfl,by show jE 3 (b.mem 0) _=_;rw[o];rcases h with rfl|rfl|rfl<;>decide⟩ W W
 ·refine TC.exit<|tC [2] W<|TC.ret ⟨_,W,[_],W,W⟩
def gU(F G:Nat->Prop):Prop:= ∀a,F a-> ¬G a
theorem dS{P:Pg}{n:Nat}{u:US}{c:Nat}{F f a:Nat->Prop}{H K:Hp}(h:iS P n u c a H)(d:Gv F H f K)(g:gU a F):iS P n u c a K:=
 h.frame (λb e=>d.o b (h.lt b e) (g b e)) d.len
theorem cP{P:Pg}{n:Nat}{u:US}{f:Nat}{F c a:Nat->Prop}{H K:Hp}(h:iS P n u f a H)(g:Gv F H c K)(i:gU a F):gU a c:= λb d j=>by
 rcases g.f b j with e|e
 ·exact i b d e
 ·have:=h.lt b d;omega
theorem gU.symm{F a:Nat->Prop}(h:gU F a):gU a F:= λb c d=>h b d c
theorem j5{x:Int}(h:(Lit.int .i32 x).wf=true):lG x:=by
 have a:IntKind.i32.min<=x/\x<=IntKind.i32.max:=by simpa [Lit.wf] using h
 have b:IntKind.i32.min= -2147483648:=by decide
 have c:IntKind.i32.max=2147483647:=by decide
 rw[b,c]at a;exact a
section
open Go.Mk Go.Ex
variable{l:List Mk.Nd}(hP:GP l)
include hP
end
theorem jn(x:Int):nr x=0\/nr x=1:=by unfold nr;split<;>simp
theorem nW{l:List (List Int)}{i:Nat}{r:List Int}(h:l[i]?=some r):(iV l)[((i:Nat):Int).toNat]?=some [.sl (bF r)]:=by
 unfold iV;simp[h]
theorem nX{a:List Int}{i:Nat}(h:i<(cJ a).length): ∃x∈a,(cJ a)[i]?=some [x,nr x]:=by
 have b:i<(a.take 20).length:=by simpa [cJ] using h
 refine⟨(a.take 20)[i],av8 (avb b),?_⟩;unfold cJ;rw[au6,auO b];rfl
theorem made{l:List Mk.Nd}(a:Mk.GP l): ∃(x:Nm) (d:Nd),d.name=x/\(Go.Ex.dG l).nodes[l.length-1]?=some d/\lL (Go.Ex.dG l)/\p6 (Go.Ex.dG l)/\1<=l.length/\l.length<=1000/\
  PT prog 12 [.agg (Go.Ex.dG l).cells] (·= [.str x])/\cZ (Go.Ex.dG l).nodes x=some (l.length-1)/\Go.Ex.jt l l.length (l.length-1) (US.init (Go.Ex.dG l) (l.length-1)):=by
 obtain⟨c,g,e⟩:=a;have a:Mk.GP l:=⟨c,g,e⟩;obtain⟨h,i⟩:=Go.Ex.AO a;have f:l.length-1<l.length:=by omega
 have b:=auO f;generalize l[l.length-1]=d at b;have j:(Go.Ex.dG l).nodes.length=l.length:=by show(l.map Go.Ex.cC).length=_;simp
 have k:(Go.Ex.dG l).nodes[(Go.Ex.dG l).nodes.length-1]?=some (Go.Ex.cC d):=by rw[j];show(l.map Go.Ex.cC)[_]?=_;rw[au6,b];rfl
 refine⟨(Go.Ex.cC d).name,Go.Ex.cC d,W,by grind,h,i,c,by omega,Ct (Go.Ex.dG l) (Go.Ex.cC d) (by grind) k,?_,?_⟩
 ·rw[show(Go.Ex.cC d).name=Mk.nm 102 (l.length-1)from(e _ d b).1];exact Go.Ex.AW a f
 ·have:=Go.Ex.AX a (n:=l.length-1) b;rw[show l.length-1+1=l.length by omega]at this;exact this
theorem qb{l:List Mk.Nd}{n k:Nat}{u:US}(b:k<n)(h:Go.Ex.jt l n k u):u.i=k:=by
 cases n with
 |zero=>omega
 |succ n=>obtain⟨d,c,a,_⟩:=h;exact a
def qE:List Int->Bool
 | [_,b]=>b==0||b==1
 |_=>false
theorem DG{en:List En}{a c:Va}(d:a.tk=2)(e:c.tk=1)(xs:List Int):ir en [a,c] xs=qE xs:=by
 match xs with
 | []=>rfl
 | [_]=>simp[ir,qE]
 | [f,b]=>simp[ir,lF,d,e,qE]
 |_::_::_::_=>simp[ir,qE]
theorem xN{l:List Mk.Nd}(f:Mk.GP l){k:Nat}{d:Nd}(g:(Go.Ex.dG l).nodes[k]?=some d): ∃a b,d.ins= [a,b]/\a.tk=2/\b.tk=1:=by
 have c:(l.map Go.Ex.cC)[k]?=some d:=g;rw[au6,avv]at c;obtain⟨e,h,rfl⟩:=c;refine⟨Go.Ex.ey Mk.aV,Go.Ex.ey Mk.bV,?_,W,W⟩;show e.ins.map Go.Ex.ey=_;rw[(f.2.2 k e h).2.1];rfl
theorem AZ(l:List Mk.Nd):Mk.eL l=(Go.Ex.dG l).nodes.map Nd.cells:=by
 have b:=(Go.Ex.jS l);injection b with _ a
 injection a with a _
 injection a with a
 exact a.symm
end Go.Proofs.Sz
namespace Go.Sm
open Go.Mt
def Pg.add(P:Pg)(t:Nd):Pg:=⟨P.aJ,P.nodes++ [t]⟩
theorem yk{P:Pg}{t:Nd}{x:Nm}{i:Nat}(h:cZ P.nodes x=some i):cZ (P.add t).nodes x=some i:=by
 show cZ (P.nodes++ [t]) x=_;unfold cZ at*;rw[List.findIdx?_append,h];rfl
theorem fy{a:Type}{l:List a}{i:Nat}{x:a}(h:l[i]?=some x):i<l.length:=by grind
theorem Ly{P:Pg}{t d:Nd}{i:Nat}(h:P.nodes[i]?=some d):(P.add t).nodes[i]?=some d:=by
 show(P.nodes++ [t])[i]?=_;rw[auL (fy h),h]
theorem Cv{P:Pg}{t:Nd}{x:Nm}{i:Nat}(h:cZ P.nodes x=some i):US.init (P.add t) i=US.init P i:=by
 unfold cZ at h;obtain⟨a,_⟩:=avq.1 h;unfold US.init;rw[show(P.add t).nodes[i]?=P.nodes[i]? from auL a];rfl
theorem F9.add{P:Pg}{t:Nd}{step r:US->List Int->List Int->US->Prop}{c:aK}{π:Path}{j:Nat}{q:aB}{p:Nat}(w: ∀n i o s,step n i o s->r n i o s)(h:F9 P step c π j q p):F9 (P.add t) r c π j q p:=by
 cases h with
 |df a i x e=>exact .df a i x e
 |call a k y b z A B f C l m D E=>exact .call a k y (yk b) z A B f C l (λu=>w _ _ _ _ (by rw[Cv b];exact m u)) D E
 |sw a e d g F G b=>exact .sw a e d g F G b
 |aP a k v H m f t I u d g J K L l=>exact .aP a k v H m f t I (by grind) d g J K (by grind) l
 |reset a e d g f b=>exact .reset a e d g f b
theorem gy.add{P:Pg}{t:Nd}{step m:US->List Int->List Int->US->Prop}{c:aK}{d:Nd}{u u':US}{ins outs:List Int}(o: ∀u g i u',step u g i u'->m u g i u')(h:gy P step c d u ins outs u'):gy (P.add t) m c d u ins outs u':=
 {
  h with
  nd:=Ly h.nd
  cell:= λa n v p f b d e=>let⟨q,r,s,w⟩:=h.cell a n v p f b d e;⟨q,r,s,w⟩
  eq:= λa j k l f b d=>⟨(h.eq a j k l f b d).1.add o,(h.eq a j k l f b d).2⟩}
theorem d_.add{P:Pg}{t:Nd} : ∀{n:Nat} {u:US} {ins outs:List Int} {u':US},d_ P n u ins outs u'->d_ (P.add t) n u ins outs u'
 |0,_,_,_,_,a=>a
 |n+1,_,_,_,_,⟨c,d,a⟩=>⟨c,d,a.add λ_ _ _ _=>d_.add⟩
abbrev eB:Nm:=⟨#[98]⟩
abbrev eR:Nm:=⟨#[114]⟩
abbrev eY:Nm:=⟨#[121]⟩
abbrev Cw:Nm:=⟨#[116,111,112]⟩
abbrev tE(s:Nm)(k:Int)(n:Nm):Va:=⟨s,k,n,[],false,Nc,(0,0)⟩
abbrev uR(f:Nm):aB:= .mk 2 [eX,eY] f [DF eA,DF eB] true (DF eR) [] (0,0)
abbrev nc(f:Nm):Nd:=⟨Cw,[tE eA 2 ⟨#[]⟩,tE eB 1 ⟨#[]⟩,tE eR 1 ⟨#[]⟩],[tE eX 2 ⟨#[]⟩,tE eY 3 Mk.nj],.mk [] [uR f],(0,0)⟩
def oO(f:Nm)(u:US)(a b r x y:Int)(su:US):aK where
 ok π:=π= []
 fr π:=match π with| []=>rl (nc f)|_=>⟨[],[],[],[]⟩
 val π k:=match π,k with| [],0=>some a| [],1=>some b| [],2=>some r| [],3=>some x| [],4=>some y|_,_=>none
 rk _ k:=if k<3 then 0 else 1
 sb _ _:=1
 ek _ _:=1
 bA _ _:=0
 iO _ _:=false
 ev _ _:=r
 ew _ _:=[]
 outs _ _:=[x,y]
 iP _ _:=su
 lg _ _:=0
 nan _ _:=false
 rd:=u.mem
 rp:=u.cu
 rs:=u.an
 eh:=2
 sz:=1
 ap:=[.cell [] 3,.cell [] 4,.call [] 0]
 wt _:=1
section
variable{f:Nm}{u:US}{a b r x y:Int}{su:US}
theorem wX{j:Nat}{q:aB}(h: [uR f][j]?=some q):j=0/\q=uR f:=by grind
theorem wY{π:Path}{j:Nat}{q:aB}(h:((oO f u a b r x y su).fr π).au[j]?=some q):j=0/\q=uR f/\π= []:=by
 cases π with
 |nil=>exact⟨(wX h).1,(wX h).2,W⟩
 |cons _ _=>cases h
theorem vU:(oO f u a b r x y su).find [] eX=some ([],3):=rfl
theorem xO:(oO f u a b r x y su).find [] eY=some ([],4):=rfl
theorem yM{k:Nat}{z:Nm} :Src (oO f u a b r x y su) ((oO f u a b r x y su).sb [] k) [] 0 z (some ([],0)):= .leaf (q:=uR f) W (.inr W) (auK _)
theorem G9:cd (uR f)= [eX,eY]:=by simp[cd,jQ]
theorem H9:gR ((oO f u a b r x y su).fr []) 3 (tE eX 2 ⟨#[]⟩) 0:=⟨rfl,⟨uR f,rfl,by rw[G9];exact avj⟩,λd e g c=>by have:=(wX c).1;omega⟩
theorem H_:gR ((oO f u a b r x y su).fr []) 4 (tE eY 3 Mk.nj) 0:=⟨rfl,⟨uR f,rfl,by rw[G9];exact au7 _ avj⟩,λd e g c=>by have:=(wX c).1;omega⟩
theorem DH:(oO f u a b r x y su).jg [] (uR f):= λ_=>⟨_,vU,rfl⟩
theorem Fq{P:Pg}{n z:Nat}(J:u.i=P.nodes.length)(H:cZ P.nodes f=some z)(S: ∀v,u.an 0=some v->v.i=z)(K:d_ P n (((if r=0 then u.an 0 else none)).getD (US.init P z)) [a,b] [x,y] su):
  d_ (P.add (nc f)) (n+1) u [a,b,r] [x,y] (.mk u.i u.mem u.cu λk=>if k=0 then some su else u.an k):=by
 have C: ∀{k:Nat},¬fO (oO f u a b r x y su) k:=by
  rintro k ⟨e,h,j,I,b,p,m,A,T,L,_⟩;cases L
 refine⟨oO f u a b r x y su,nc f,?_⟩;constructor
 case nd=>exact(by rw[J];show(P.nodes++ [_])[_]?=_;simp)
 case sz=>kernel_rfl
 case Bd=>rfl
 case i_=>intro h e c;cases c
 case qe=>rfl
 case sU=>rfl
 case ya=>
  intro k v n _ c
  match k with
  |0=>exact⟨c,by show 0<2;omega⟩
  |1=>exact⟨c,by show 0<2;omega⟩
  |2=>exact⟨c,by show 0<2;omega⟩
  |k+3=>cases c
 case cell=>
  rintro e k v U rfl g t o
  match k with
  |0=>exact absurd (o W) (show ¬3<=0 by decide)
  |1=>exact absurd (o W) (show ¬3<=1 by decide)
  |2=>exact absurd (o W) (show ¬3<=2 by decide)
  |3=>
   injection g with g
   subst g;exact⟨.nil,auK _,by show 1<2;omega,λn M=>⟨0,some ([],0),H9,yM (k:=3),vU,uR f,rfl,λc=>absurd c (show ¬(2:Int)=1 by decide),λ_=>⟨avj,DH⟩⟩⟩
  |4=>
   injection g with g
   subst g;exact⟨.nil,auK _,by show 1<2;omega,λn M=>⟨0,some ([],0),H_,yM (k:=4),xO,uR f,rfl,λc=>absurd c (show ¬(2:Int)=1 by decide),λ_=>⟨au7 _ avj,DH⟩⟩⟩
  |k+5=>cases g
 case eq=>
  rintro e h j I rfl d D;obtain⟨rfl,rfl⟩:=wX d;injection D with D
  subst D;have N:uY (P.add (nc f)).aJ (oO f u a b r x y su) [] 1 [DF eA,DF eB] (0+1+xP (DF eR)) [a,b] ([]++([]++ [])):=
   .cons (.var (σ:=([],0)) W (by show 0<1;omega)) (.cons (.var (σ:=([],1)) W (by show 0<1;omega)) .nil)
  exact⟨.call W (by show 0<1;omega) z (yk H) [] [] [a,b] (λ_=>gP.var (σ:=([],2)) W (by show 0<1;omega)) (λ_=>N) W (λ_=>by rw[Cv H];exact K.add) (λ_=>S) (λ_=>auK _),by show 1<2;omega⟩
 case lhs=>
  rintro e h j rfl d _ _ q B i;obtain⟨rfl,rfl⟩:=wX d
  match q with
  |0=>
   injection i with i;subst i
   refine⟨([],3),x,vU,W,W,W,auK _,λw O Q p m A=> ?_,_,0,H9,rfl,rfl,yM (k:=3),λ_=>auK _⟩
   match w with
   |0=>rfl
   |1=>injection p with p;subst p;rw[xO]at m;injection m with m;rw[A]at m;cases m
   |w+2=>cases p
  |1=>
   injection i with i;subst i
   refine⟨([],4),y,xO,W,W,W,auK _,λw O Q p m A=> ?_,_,0,H_,rfl,rfl,yM (k:=4),λ_=>by grind⟩
   match w with
   |0=>injection p with p;subst p;rw[vU]at m;injection m with m;rw[A]at m;cases m
   |1=>rfl
   |w+2=>cases p
  |q+2=>cases i
 case nx=>intro _ _;exact avp _
 case vD=>intro e c;cases e with
  |nil=>exact absurd W c
  |cons _ _=>exact⟨W,W⟩
 case gh=>intro e h j d l;obtain⟨rfl,rfl,rfl⟩:=wY d;exact⟨W,W⟩
 case lh=>
  rintro e h j rfl d B i σ s _;obtain⟨rfl,rfl⟩:=wX d;rcases auX.1 i with rfl|i
  ·rw[vU]at s;injection s with s;subst s;exact auK _
  ·rw[auW.1 i,xO]at s;injection s with s;subst s;show 3<=4;omega
 case II=>
  intro q v g
  match q with
  |0=>injection g with g;subst g;exact vU
  |1=>injection g with g;subst g;exact xO
  |q+2=>cases g
 case F_=>rintro e h j B rfl d l;rw[(wX d).2]at l;exact absurd l (show ¬(2:Int)=1 by decide)
 case IK=>
  rintro e h j rfl d B i;obtain⟨rfl,rfl⟩:=wX d;rw[G9]at i;rcases auX.1 i with rfl|i
  ·exact⟨_,vU⟩
  ·rw[auW.1 i];exact⟨_,xO⟩
 case aj=>intro e h j _ d _;rw[(wY d).2.1];rfl
 case rd=>exactλk _=>⟨λc=>absurd c C,λ_=>rfl⟩
 case rp=>exactλk _=>⟨λc=>absurd c C,λ_=>rfl⟩
 case rs=>exactλk _=>⟨λc=>absurd c C,λ_=>rfl⟩
 case nm=>
  refineλk _=>⟨?_,λ_=>rfl⟩
  rintro v (⟨e,h,j,o,d,_,R⟩|⟨e,q,rfl,t,_⟩|⟨e,h,j,o,d,l,_⟩)
  ·cases R
  ·match q with
   |0=>cases t
   |1=>cases t
   |2=>cases t
   |3=>cases t
   |4=>cases t
   |q+5=>cases t
  ·rw[(wY d).2.1]at l;exact absurd l (show ¬(2:Int)=4 by decide)
 case np=>
  refineλk _=>⟨?_,λ_=>rfl⟩
  rintro v ⟨e,h,j,o,d,l,_⟩;rw[(wY d).2.1]at l;exact absurd l (show ¬(2:Int)=4 by decide)
 case ns=>
  intro k l;have l:k=0:=by have:k<1:=l;omega
  subst l;refine⟨?_,λc=>absurd ⟨[],0,uR f,rfl,rfl,rfl,DH,rfl,rfl⟩ (c su)⟩;rintro v ⟨e,h,j,o,d,l,_,_,rfl⟩;rfl
 case ui=>rfl
 case wc=>
  rintro e k v rfl g o;have G: ∀h E F j,gR ((oO f u a b r x y su).fr []) k v h->Src (oO f u a b r x y su) ((oO f u a b r x y su).sb [] k) [] h v.name (some (E,F))->((oO f u a b r x y su).fr E).au[F]?=some j->j.kd=1->1+((oO f u a b r x y su).ew E F).length<=(oO f u a b r x y su).wt (.cell [] k):= λ_ _ _ _ _ _ _ _=>auK 1
  match k with
  |0=>exact absurd (o W) (show ¬3<=0 by decide)
  |1=>exact absurd (o W) (show ¬3<=1 by decide)
  |2=>exact absurd (o W) (show ¬3<=2 by decide)
  |3=>exact⟨avj,auK _,G⟩
  |4=>exact⟨au7 _ avj,auK _,G⟩
  |k+5=>cases g
 case wq=>
  intro e h j _ d;obtain⟨rfl,rfl,rfl⟩:=wY d;exact⟨λ_ _=>⟨au7 _ (au7 _ avj),avp _⟩,λc=>absurd c (show ¬((2:Int)=3\/(2:Int)=4\/(2:Int)=5) by decide),λc=>absurd c (show ¬(2:Int)=4 by decide)⟩
 case ws=>show 1+(1+(1+0))<=1000000000000;omega
 case outs=>rfl
end
end Go.Sm
namespace Go.Proofs.Sz
open Go.Mt Go.Sm Go.Proofs
open Tryz
theorem Ok{P:Pg}{f:Nm}(hP:lL P)(hn:P.nodes.length<=1000):lL (P.add (nc f))where
 e:=hP.e
 n:=by show(P.nodes++ [_]).length<=_;rw[auN];simp;omega
 d:=by
  intro d hd;rcases auS.1 hd with hd|hd
  ·exact hP.d d hd
  rw[auW.1 hd];have h1: ∀q∈ [uR f],q=uR f:= λq hq=>auW.1 hq
  have h2:bP (nc f).b=1:=by kernel_rfl
  have hl: ∀s,jP (DF s):= λs=>xM (by decide)
  refine⟨.mk (avp _) (by show 1<=1000000;omega) ?_ ?_ ?_ ?_ ?_,by show 2<=1000;omega,by simp_all⟩
  ·intro q hq a ha;rw[h1 q hq]at ha;cases ha
  ·intro q hq;rw[h1 q hq];exact avp _
  ·intro q hq;rw[h1 q hq];exact⟨hl _,by show 2<=1000000;omega,λe he=>by
    rcases auX.1 he with rfl|he
    ·exact hl _
    ·grind⟩
  ·intro q hq;rw[h1 q hq];show 2<=1000000;omega
  ·intro q hq a ha;rw[h1 q hq]at ha;cases ha
 i:=by
  intro d hd;rcases auS.1 hd with hd|hd
  ·exact hP.i d hd
  rw[auW.1 hd];have:gg (nc f).b=2:=by kernel_rfl
  exact⟨by show 3<=1000;omega,by omega⟩
theorem Ol{P:Pg}{f:Nm}(hP:p6 P):p6 (P.add (nc f))where
 d:=by
  intro d hd;rcases auS.1 hd with hd|hd
  ·exact hP.d d hd
  rw[auW.1 hd];have h1: ∀q∈ [uR f],q=uR f:= λq hq=>auW.1 hq
  refine⟨.mk (λv hv=>by cases hv) ?_ ?_ ?_,?_,avp _⟩
  ·intro q hq;rw[h1 q hq];exact⟨.inr (.inl W),λh=>absurd h (show ¬((2:Int)=3\/(2:Int)=4\/(2:Int)=5) by decide),λh=>absurd h (show ¬(2:Int)=4 by decide)⟩
  ·intro q hq a ha;rw[h1 q hq]at ha;cases ha
  ·intro q hq a ha;rw[h1 q hq]at ha;cases ha
  ·grind
section
open Go.Mk Go.Ex
variable{l:List Mk.Nd}(hP:GP l)
include hP
theorem G_{n k:Nat}(i:k<n){u:US}(f:jt l n k u){x b:Int}(j:lG x)(g:b=0\/b=1): ∃(a c:Int) (u':US),d_ (dG l) n u [x,b] [a,c] u'/\jt l n k u'/\ ∀(e:Nat) (F:Nat->Prop) (H:Hp),iS (dG l) n u e F H->
  DT prog 15 [.ref e 0,.d (.sl (bF [x,b]))] H λm K=>m= .dq [.d (.sl (bF [a,c])),.d (.int .i64 0)]/\ ∃o,iS (dG l) n u' e o K/\Gv F H o K:=by
 obtain⟨a,c,u',p,E,G,t⟩:=H8 hP n k i u f x b j g;have q:=qb i f;obtain⟨v,w⟩:=AO hP;obtain⟨d,h⟩: ∃d,l[k]?=some d:=by
  cases n with
  |zero=>omega
  |succ n=>obtain⟨d,h,_⟩:=f;exact⟨d,h⟩
 have r:(dG l).nodes[u.i]?=some (cC d):=by show(l.map cC)[u.i]?=_;rw[q,au6,h];rfl
 obtain⟨I,J,y,z,A⟩:=xN hP (q▸r);have B:ir (dG l).aJ (cC d).ins [x,b]=true:=by
  rw[y,DG z A];rcases g with rfl|rfl<;>rfl
 refine⟨a,c,u',p,t,λe F H C=>pD v w C (λD s=> ?_) r B p⟩;simp at s;rcases s with rfl|rfl
 ·exact j
 ·unfold lG;rcases g with rfl|rfl<;>omega
end
theorem Lz{l:List Mk.Nd}(g:Mk.GP l):(Go.Ex.dG l).nodes.findIdx? (λd=>decide (d.name=Cw))=none:=by
 rw[av4];intro d h;obtain⟨a,j,rfl⟩:=ava.1 h;obtain⟨f,i⟩:=ave.1 j;refine avc λe=> ?_
 have c:a.name=Cw:=e;rw[(g.2.2 f a i).1]at c;have:=av3 (λb:ByteArray=>b.data.toList.head?) c;simp[Mk.nm]at this
theorem A1(zs:List Int)(v:D)(g:kJ .u8 zs v)(xs:List Int)(x:D)(hx:kJ .i32 xs x)(h:List Bool)(y:D)(G:OC h y):PT prog 5 [v,x,y] (·= [.bool true]):=by
 refine PI (CT.ob func5 W ntmps5 W λs0 Oo=> ?_);refine tC [2] W ?_;rcases auM 300 zs.length with h1|h1
 ·refine tO [2,29] W<|aE fN W W<|tR [33] W ?_
  first|refine ax W W ?_|(refine av W ?_;(refine bp W W g.1 ?_))
  refine tR [34] W ?_
  first|refine ax W W ?_|(refine av W ?_;(refine dY W W W (r:= .bool true) (by show some (D.bool (decide _))=_;rw[au5 (by omega)]) ?_))
  refine tR [1,2,36] W<|aE fN W W<|tL [] W<|TC.ret ⟨_,W,_,W,W⟩
 refine tO [2,29] W<|aE fN W W<|tR [33] W ?_
 first|refine ax W W ?_|(refine av W ?_;(refine bp W W g.1 ?_))
 refine tR [34] W ?_
 first|refine ax W W ?_|(refine av W ?_;(refine dY W W W (r:= .bool false) (by show some (D.bool (decide _))=_;rw[avc (by omega)]) ?_))
 refine tR [0,2,38] W<|pK (Sy (ue zs v ⟨g,by omega⟩)) W W ?_;rintro _ _ ⟨⟨_,rfl,a,rfl,R⟩,rfl⟩;refine tL [] W ?_;obtain⟨c,d,TJ,hd,sp,wf,S3,t4,SW,S,WJ⟩:=made R;have QT:=Go.Ex.jS a;have PS:=AZ a;have A:(Go.Ex.dG a).nodes.length=a.length:=by show(a.map Go.Ex.cC).length=_;simp
 rw[QT]at SW;have Q1: ∀r∈Mk.eL a,r.length=7:= λr T=>by rw[PS]at T;obtain⟨d,_,rfl⟩:=ava.1 T;rfl
 have H:(Mk.eL a).length=a.length:=by simp[Mk.eL]
 have Wc:Mk.eL a≠ []:= λb=>by rw[b]at H;simp at H;omega
 refine tO [2,40] W<|aE SW W W<|tL [2,2] W<|TC.draw bN<|fR 9 W<|aW kV W W<|fR 5 W<|TF.nil ⟨by kernel_rfl,?_⟩;refine tO [2,2,2,2,2,2,75] W<|iL true W W W W (by rfl) Wc Q1 (by rw[H];omega)<|tR [2,81] W<|fU W W W W (by rfl) (by simp;rfl) (by rw[H];simp;omega) (by rw[H];simp;omega)<|tL [] W ?_;have rg:((Go.Ex.dG a).add (nc c)).cells= [.sl [Mk.nq],.sl (Mk.eL a++ [(nc c).cells])]:=by
  show [D.sl ((Go.Ex.dG a).aJ.map En.cells),D.sl (((Go.Ex.dG a).nodes++ [nc c]).map Nd.cells)]=_;rw[avi,<-PS];rfl
 have ah:=Ok (f:=c) sp (by rw[A];omega);have f9:=Ol (f:=c) wf;have rt:cZ ((Go.Ex.dG a).add (nc c)).nodes Cw=some a.length:=by
  show cZ ((Go.Ex.dG a).nodes++ [nc c]) Cw=_;unfold cZ;rw[List.findIdx?_append,Lz R];simp[List.findIdx?_cons,A]
 refine Rn [(13,.loc 13 0),nD 8 (.str c),(7,.loc 7 0),nM 1 (.d x),nM 2 (.d y)] [.row true 7 1 (bf (Mk.eL a++ [(nc c).cells]))] W (by simp[bf];rfl)<|TC.gM (PV:=[.d (.sl [Mk.nq]),.d (.sl (Mk.eL a++ [(nc c).cells]))]) 13 W (dV (fX (Acc.view (n:=7) (i:=0) (rs:=Mk.eL a++ [(nc c).cells]) (.inr ⟨by simp,1,by simp,rfl⟩) (λr T=>by
  rcases auS.1 T with b|b
  ·exact Q1 r b
  ·rw[auW.1 b];rfl)) (pg _))) ?_
 obtain⟨_,I,⟨it,Ft,rfl,gc,t5⟩,PR⟩:=lk (n:=a.length+1) ah (by omega) Cw a.length rt [.row true 7 1 (bf (Mk.eL a++ [(nc c).cells]))];rw[rg]at PR;obtain⟨_,B,⟨o,Fg,rfl,rx,ge⟩,PX⟩:=lk (n:=a.length) sp S3 c (a.length-1) S I;rw[QT]at PX;have U: ∀d8:Nat->Prop,gU d8 (λ_=>False):= λd8 t3 _ b=>b
 refine tO [2,85] W<|aq PR W W<|tR [2,0,2,93] W<|aq PX W W<|tR [2,97] W<|aE (mA xs x hx) W W<|tL [2,3] W ?_;have P0: ∀z:List (List Int),(iV z).length=z.length:= λz=>by simp[iV]
 have Zo: ∀z:List Int,(cJ z).length<=20:= λz=>by simp[cJ];omega
 have V:=hx.2.2;have t6:=Zo xs;refine TC.lp (λk d9=> ∃(i:Nat) (C:List (Nat×List M)) (F:Hp) (J X:Nat->Prop) (o:Nat) (Y p:US),d9=⟨[nN 19 i,nD 18 (.sl (iV (cJ xs))),nR 16 o,nR 14 it,nD 8 (.str c),(7,.loc 7 0),nM 2 (.d y)],C,F⟩/\get C 7=some [.d (.sl [Mk.nq]),.d (.sl (Mk.eL a))]/\i<=(cJ xs).length/\k=(cJ xs).length-i/\
   iS ((Go.Ex.dG a).add (nc c)) (a.length+1) p it J F/\iS (Go.Ex.dG a) a.length Y o X F/\gU J X/\Go.Ex.jt a a.length (a.length-1) Y/\p.i=a.length/\(∀v,p.an 0=some v->v.i=a.length-1)/\(p.an 0).getD (US.init (Go.Ex.dG a) (a.length-1))=Y) (cJ xs).length _
  ⟨0,_,B,Ft,Fg,o,_,_,rfl,rfl,by omega,rfl,(dS gc ge (U Ft)),rx,(cP gc ge (U Ft)),WJ,rfl,λv g=>(by cases g),rfl⟩ W ?_
 rintro k d9 ⟨i,C,F,J,X,o,Y,p,rfl,Z,hi,rfl,SR,i6,Xq,hG,q,i7,U4⟩;refine tC [2] W<|TC.cond W (λhc=> ?_) (λhc=> ?_)
 ·have PP:i<(cJ xs).length:=by have:=auV hc;rw[P0]at this;omega
  obtain⟨e,Vz,WI⟩:=nX PP;have j:=nW WI;refine tC [3] W ?_;by_cases E:h[i]?=some true
  ·have w:i<h.length:=by
    rcases auM i h.length with b|b
    ·exact b
    ·rw[auP b]at E;cases E
   obtain rfl:y= .sl (lb h):=by
    rcases G.2 with b|b
    ·rw[b]at w;simp at w
    ·exact b
   have R8:=xZ E;obtain⟨_,K0,⟨i8,Fn,rfl,i9,mt⟩,ZN⟩:=lk (n:=a.length) sp S3 c (a.length-1) S F;rw[QT]at ZN;have pm:=cP SR mt (U J);obtain⟨l,m,s,Qp,t,Ra⟩:=G_ R (k:=a.length-1) (n:=a.length) (by omega) WJ (j5 (V e Vz)) (jn e);have co:=Fq (f:=c) (u:=p) (r:=1) (by rw[q,A]) S i7 (by rw[auU (by decide)];exact Qp);have d6:ir ((Go.Ex.dG a).add (nc c)).aJ (nc c).ins [e,nr e,1]=true:=by rcases jn e with b|b<;>rw[b]<;>rfl
   obtain⟨_,I,⟨rfl,V3,K,L⟩,Rq⟩:=pD ah f9 (dS SR mt (U J)) (xs:=[e,nr e,1]) (by
    intro qr N;simp at N;rcases N with rfl|rfl|rfl
    ·exact j5 (V _ Vz)
    ·unfold lG;rcases jn e with b|b<;>omega
    ·unfold lG;omega) (d:=nc c) (by rw[q,<-A];show(_++ [_])[_]?=_;simp) d6 co
   have d7:=dS i9 L pm.symm;have O:=(cP i9 L pm.symm).symm;obtain⟨_,B,⟨rfl,Wf,ac,Q⟩,TV⟩:=Ra i8 Fn I d7;have SX:=dS K Q O;have Wm:=cP K Q O;have QG:PT prog 16 [.sl (bF [l,m]),.sl (bF [l,m])] (·= [.bool true]):=by have:=rK [l,m] [l,m] (by simp);simpa using this
   refine tO [2,2,106] W<|bp W W G.1<|tR [107] W<|aQ (au5 (by omega)) W W W W<|tR [111] W ?_
   first|refine ax W W ?_|(refine av W ?_;(refine aG W W W (auJ i) R8 W ?_))
   refine tR [1,2,2,115] W<|Il W W Z W W<|tR [117] W<|aq ZN W W<|tL [] W<|TC.draw bN<|fR 3 W<|a_ W W W (auJ i) j W<|fR 1 W<|a_ W W W (awT 0) W W<|fR 3 W<|a_ W W W (auJ i) j W<|fR 1 W<|a_ W W W (by decide) W W<|fR 3 W<|bg Rq W W<|fR 5 W<|TF.nil ⟨by kernel_rfl,?_⟩;refine tO [2,143] W<|aG W W W (auJ i) j W<|tR [145] W<|aq TV W W<|tR [2,153] W ?_
   first|refine ax W W ?_|(refine av W ?_;(refine aE QG W W ?_))
   refine tR [0,2,103] W<|az W W W (by omega)<|tL [] W<|again (k':=(cJ xs).length-(i+1)) (by omega) ⟨i+1,C,B,V3,Wf,i8,s,_,rfl,Z,by omega,rfl,SX,ac,Wm,t,q,λv g=> ?_,rfl⟩ W W;have:s=v:=by have P:=g;injection P
   subst this;exact qb (by omega) t
  ·obtain⟨l,m,s,Qp,t,Ra⟩:=G_ R (k:=a.length-1) (n:=a.length) (by omega) hG (j5 (V e Vz)) (jn e);have co:=Fq (f:=c) (u:=p) (r:=0) (by rw[q,A]) S i7 (by rw[au2 W,U4];exact Qp);have d6:ir ((Go.Ex.dG a).add (nc c)).aJ (nc c).ins [e,nr e,0]=true:=by rcases jn e with b|b<;>rw[b]<;>rfl
   obtain⟨_,I,⟨rfl,V3,K,L⟩,Rq⟩:=pD ah f9 SR (xs:=[e,nr e,0]) (by
    intro qr N;simp at N;rcases N with rfl|rfl|rfl
    ·exact j5 (V _ Vz)
    ·unfold lG;rcases jn e with b|b<;>omega
    ·unfold lG;omega) (d:=nc c) (by rw[q,<-A];show(_++ [_])[_]?=_;simp) d6 co
   have d7:=dS i6 L Xq.symm;have O:=(cP i6 L Xq.symm).symm;obtain⟨_,B,⟨rfl,Wf,ac,Q⟩,TV⟩:=Ra o X I d7;have SX:=dS K Q O;have Wm:=cP K Q O;have QG:PT prog 16 [.sl (bF [l,m]),.sl (bF [l,m])] (·= [.bool true]):=by have:=rK [l,m] [l,m] (by simp);simpa using this
   rcases auM i h.length with w|w
   ·have QR:decide (((i:Nat):Int)<((h.length:Nat):Int))=true:=au5 (by omega);obtain rfl:y= .sl (lb h):=by
     rcases G.2 with b|b
     ·rw[b]at w;simp at w
     ·exact b
    have R8:(lb h)[((i:Nat):Int).toNat]?=some [.bool false]:=xZ (by
     rw[auO w]at E⊢;cases hq:h[i]with
     |false=>rfl
     |true=>rw[hq]at E;exact absurd W E)
    refine tO [2,2,106] W<|bp W W G.1<|tR [107] W<|aQ QR W W W W<|tR [111] W ?_
    first|refine ax W W ?_|(refine av W ?_;(refine aG W W W (auJ i) R8 W ?_))
    refine tL [0] W<|TC.draw bN<|fR 3 W<|a_ W W W (auJ i) j W<|fR 1 W<|a_ W W W (awT 0) W W<|fR 3 W<|a_ W W W (auJ i) j W<|fR 1 W<|a_ W W W (by decide) W W<|fR 3 W<|bg Rq W W<|fR 5 W<|TF.nil ⟨by kernel_rfl,?_⟩;refine tO [2,143] W<|aG W W W (auJ i) j W<|tR [145] W<|aq TV W W<|tR [2,153] W ?_
    first|refine ax W W ?_|(refine av W ?_;(refine aE QG W W ?_))
    refine tR [0,2,103] W<|az W W W (by omega)<|tL [] W<|again (k':=(cJ xs).length-(i+1)) (by omega) ⟨i+1,C,B,V3,Wf,o,s,_,rfl,Z,by omega,rfl,SX,ac,Wm,t,q,λv g=> ?_,rfl⟩ W W;have:s=v:=by have P:=g;injection P
    subst this;exact qb (by omega) t
   ·have QR:decide (((i:Nat):Int)<((h.length:Nat):Int))=false:=avc (by omega);refine tO [2,2,106] W<|bp W W G.1<|tR [107] W<|aQ QR W W W W<|tL [0] W<|TC.draw bN<|fR 3 W<|a_ W W W (auJ i) j W<|fR 1 W<|a_ W W W (awT 0) W W<|fR 3 W<|a_ W W W (auJ i) j W<|fR 1 W<|a_ W W W (by decide) W W<|fR 3 W<|bg Rq W W<|fR 5 W<|TF.nil ⟨by kernel_rfl,?_⟩;refine tO [2,143] W<|aG W W W (auJ i) j W<|tR [145] W<|aq TV W W<|tR [2,153] W ?_
    first|refine ax W W ?_|(refine av W ?_;(refine aE QG W W ?_))
    refine tR [0,2,103] W<|az W W W (by omega)<|tL [] W<|again (k':=(cJ xs).length-(i+1)) (by omega) ⟨i+1,C,B,V3,Wf,o,s,_,rfl,Z,by omega,rfl,SX,ac,Wm,t,q,λv g=> ?_,rfl⟩ W W;have:s=v:=by have P:=g;injection P
    subst this;exact qb (by omega) t
 ·refine TC.exit<|tC [2] W<|TC.ret ⟨_,W,[_],W,W⟩
end Go.Proofs.Sz
