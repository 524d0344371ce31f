/- A part of the proof of the last text of this claim, without conditions. -/
import Derived.Test.YtjbigbaipmiihaaGreatK
set_option maxRecDepth 4000
set_option linter.all false
namespace Go.Proofs.Sz
open Go.Mt Go.Sm Go.Proofs
open Tryz
instance:bz prog 12:=cN (by kernel_rfl)
instance:bz prog 16:=cN (by kernel_rfl)
instance:bz prog 14:=cN (by kernel_rfl)
theorem rK(a b:List Int)(F:a.length<=1000000):PT prog 16 [.sl (bF a),.sl (bF b)] (·= [.bool (decide (a=b))]):=by
 have h:(bF a).length=a.length:=by simp[bF]
 have A:(bF b).length=b.length:=by simp[bF]
 refine PI (CT.ob func16 W ntmps16 W λG H=> ?_);refine tC [2] W ?_;by_cases B:a.length=b.length;rotate_left
 ·have m:((((bF a).length:Nat):Int) !=(((bF b).length:Nat):Int))=true:=by rw[h,A];simp;omega
  have g:decide (a=b)=false:=avc (λe=>B (by rw[e]));rw[g];refine tO [2,14] W ?_;refine aQ m W W W W ?_;refine tL [1,2] W ?_;exact TC.ret ⟨_,W,[_],W,W⟩
 have m:((((bF a).length:Nat):Int) !=(((bF b).length:Nat):Int))=false:=by rw[h,A];simp;omega
 refine tO [2,14] W ?_;refine aQ m W W W W ?_;refine tL [0,2,3] W ?_;refine TC.lp (λu v=> ∃(c:Nat) (w:List (Nat×List M)),v=⟨[nN 5 c,nD 1 (.sl (bF b)),nD 0 (.sl (bF a))],w,[]⟩/\c<=a.length/\u=a.length-c/\ ∀(d:Nat),d<c->a[d]?=b[d]?) a.length _
  ⟨0,_,rfl,by omega,rfl,λd f=>by omega⟩ W ?_
 rintro u v ⟨c,w,rfl,C,rfl,x⟩;refine tC [2] W ?_;refine TC.cond W (λn=> ?_) (λn=> ?_)
 ·have y:c<a.length:=by have:=auV n;rw[h]at this;omega
  have z:c<b.length:=by omega
  have o:(bF a)[((c:Nat):Int).toNat]?=some [.int .i32 a[c]]:=by simp[bF,y]
  have p:(bF b)[((c:Nat):Int).toNat]?=some [.int .i32 b[c]]:=by simp[bF,z]
  have i:a[c]?=some a[c]:=auO y;have q:b[c]?=some b[c]:=auO z;generalize a[c]=k at o i;generalize b[c]=l at p q;refine tC [3] W ?_;by_cases j:k=l
  ·have s:(k !=l)=false:=by rw[j];simp
   refine tC [] W ?_;refine TC.draw bN ?_;refine fR 2 W ?_;refine a_ W W W (auJ c) o W ?_;refine fR 3 W ?_;refine a_ W W W (auJ c) p W ?_;refine fR 1 W ?_;refine kq W W W (r:= .bool false) (by show some (D.bool (_ !=_))=_;rw[s]) ?_;refine TF.nil ⟨by kernel_rfl,?_⟩;refine tO [0,2,20] W ?_;refine az W W W (by omega) ?_;refine tL [] W ?_;refine again (k':=a.length-(c+1)) (by omega) ⟨c+1,_,rfl,by omega,rfl,λd E=> ?_⟩ W W;rcases avB.1 E with t|t
   ·exact x d t
   ·subst t;rw[i,q,j]
  ·have s:(k !=l)=true:=by simpa using j
   have g:decide (a=b)=false:=avc (λe=>j (by rw[e,q]at i;injection i with f;exact f.symm));rw[g];refine tC [] W ?_;refine TC.draw bN ?_;refine fR 2 W ?_;refine a_ W W W (auJ c) o W ?_;refine fR 3 W ?_;refine a_ W W W (auJ c) p W ?_;refine fR 1 W ?_;refine kq W W W (r:= .bool true) (by show some (D.bool (_ !=_))=_;rw[s]) ?_;refine TF.nil ⟨by kernel_rfl,?_⟩;refine tC [1,2] W ?_;exact TC.ret ⟨_,W,[_],W,W⟩
 ·have e:c=a.length:=by have:=au9 n;rw[h]at this;exact Nat.le_antisymm C (by omega)
  have g:decide (a=b)=true:=au5 (awt λd=>by
   rcases auM d a.length with f|f
   ·exact x d (by omega)
   ·rw[auP f,auP (by omega)])
  rw[g];refine TC.exit ?_;refine tC [2] W ?_;exact TC.ret ⟨_,W,[_],W,W⟩
theorem Ct(P:Pg)(d:Nd)(c:P.nodes.length<=1000000)(h:P.nodes[P.nodes.length-1]?=some d):PT prog 12 [.agg P.cells] (·= [.str d.name]):=by
 have e:P.nodes.length-1<P.nodes.length:=by
  rcases auM (P.nodes.length-1) P.nodes.length with a|a
  ·exact a
  ·rw[auP a]at h;cases h
 have b:(P.nodes.map Nd.cells)[((((P.nodes.map Nd.cells).length:Nat):Int)-1).toNat]?=some d.cells:=by
  rw[show((((P.nodes.map Nd.cells).length:Nat):Int)-1).toNat=P.nodes.length-1 by simp,au6,h];rfl
 rw[Nd.aC]at b;refine PI (CT.ob func12 W ntmps12 W λf g=> ?_);refine tO [2,2,12] W ?_;refine cL W W W (by simp;omega) ?_;refine tR [13] W ?_;refine aG W W W (by simp;omega) b W ?_;refine tL [] W ?_;exact TC.ret ⟨_,W,[_],W,W⟩
def nr(x:Int):Int:=if Int.tmod x 3=1\/Int.tmod x 3= -1 then 1 else 0
def cJ(l:List Int):List (List Int):=(l.take 20).map λx=>[x,nr x]
def iV(l:List (List Int)):List (List D):=l.map λr=>[.sl (bF r)]
theorem mA(b:List Int)(v:D)(A:kJ .i32 b v):PT prog 14 [v] (·= [.sl (iV (cJ b))]):=by
 obtain⟨s,B,K⟩:=A;refine PI (CT.ob func14 W ntmps14 W λL N=> ?_);refine tC [2,2,2,3] W ?_;have J: ∀a,a<=b.length->a<=20->(iV (cJ (b.take a))).length=a:= λa h m=>by simp[iV,cJ];omega
 have Q: ∀a,∀l∈iV (cJ (b.take a)),l.length=1:= λa l n=>by obtain⟨z,_,rfl⟩:=ava.1 n;rfl
 have C: ∀a,a<b.length->a<20-> ∀c,b[a]?=some c->iV (cJ (b.take (a+1)))=iV (cJ (b.take a))++ [[.sl (bF [c,nr c])]]:= λa h m c E=>by
  have e:b.take (a+1)=b.take a++ [c]:=by rw[axx,E];rfl
  unfold iV cJ;rw[axy,axy,axn (by omega),axn (by omega),e];simp
 refine TC.lp (λt u=> ∃(a:Nat) (w:List (Nat×List M)),u=⟨[nN 4 a,nM 3 (gN 0 (iV (cJ (b.take a)))),nM 0 (.d v)],w,dZ [] 1 (iV (cJ (b.take a)))⟩/\a<=b.length/\a<=20/\t=20-a) 20 _
  ⟨0,_,rfl,by omega,by omega,rfl⟩ W ?_
 rintro t u ⟨a,w,rfl,O,R,rfl⟩;have F:a<b.length/\a<20\/(a=b.length\/a=20):=by omega
 rcases F with⟨h,m⟩|G
 ·have o:decide (((a:Nat):Int)<((b.length:Nat):Int))=true:=au5 (by omega);have x:b[a]?=some b[a]:=auO h;have H:v= .sl (kQ .i32 b):=by
   rcases B with g|g
   ·rw[g]at h;simp at h
   ·exact g
  have f:(kQ .i32 b)[((a:Nat):Int).toNat]?=some [.int .i32 b[a]]:=by simp[kQ,h]
  have d:=C a h m _ x;have i:=J a (by omega) (by omega);generalize b[a]=c at x f d;subst H;refine tO [2,12] W ?_;refine bp W W s ?_;refine tR [13] W ?_;refine aQ o W W W W ?_;refine tR [16] W ?_
  first|refine ax W W ?_|(refine av W ?_;(refine aQ (au5 (by omega)) W W W W ?_))
  refine tL [1,3] W ?_;by_cases p:Int.tmod c 3=1
  ·have j:nr c=1:=by unfold nr;rw[au2 (.inl p)]
   have k:(Int.tmod c 3==1)=true:=by simpa using p
   rw[j]at d;refine tO [2,2,22] W ?_;refine aG W W W (auJ a) f W ?_;refine tR [24] W ?_;refine pJ W W W W ?_;refine tR [25] W ?_;refine aQ k W W W W ?_;refine tR [31] W ?_
   first|refine ax W W ?_|(refine av W ?_;(refine pJ W W W W ?_))
   refine tR [1,2,2,37] W ?_;refine aG W W W (auJ a) f W ?_;refine tR [42] W ?_;refine rZ (H0:=[]) W W W W (by rfl) W (by rw[i];omega) (by rw[i];omega) ?_;refine tR [2,19] W ?_;refine az W W W (by omega) ?_;refine tL [] W ?_;exact again (k':=20-(a+1)) (by omega) ⟨a+1,_,rfl,by omega,by omega,rfl⟩ (by rw[d];rfl) (kc W (kc (by rw[d];rfl) W))
  ·have k:(Int.tmod c 3==1)=false:=by simpa using p
   by_cases q:Int.tmod c 3= -1
   ·have j:nr c=1:=by unfold nr;rw[au2 (.inr q)]
    have r:(Int.tmod c 3== -1)=true:=by simpa using q
    rw[j]at d;refine tO [2,2,22] W ?_;refine aG W W W (auJ a) f W ?_;refine tR [24] W ?_;refine pJ W W W W ?_;refine tR [25] W ?_;refine aQ k W W W W ?_;refine tR [29] W ?_
    first|refine ax W W ?_|(refine av W ?_;(refine aG W W W (auJ a) f W ?_))
    refine tR [31] W ?_
    first|refine ax W W ?_|(refine av W ?_;(refine pJ W W W W ?_))
    refine tR [32] W ?_
    first|refine ax W W ?_|(refine av W ?_;(refine aQ r W W W W ?_))
    refine tR [1,2,2,37] W ?_;refine aG W W W (auJ a) f W ?_;refine tR [42] W ?_;refine rZ (H0:=[]) W W W W (by rfl) W (by rw[i];omega) (by rw[i];omega) ?_;refine tR [2,19] W ?_;refine az W W W (by omega) ?_;refine tL [] W ?_;exact again (k':=20-(a+1)) (by omega) ⟨a+1,_,rfl,by omega,by omega,rfl⟩ (by rw[d];rfl) (kc W (kc (by rw[d];rfl) W))
   ·have j:nr c=0:=by unfold nr;rw[auU (by omega)]
    have r:(Int.tmod c 3== -1)=false:=by simpa using q
    rw[j]at d;refine tO [2,2,22] W ?_;refine aG W W W (auJ a) f W ?_;refine tR [24] W ?_;refine pJ W W W W ?_;refine tR [25] W ?_;refine aQ k W W W W ?_;refine tR [29] W ?_
    first|refine ax W W ?_|(refine av W ?_;(refine aG W W W (auJ a) f W ?_))
    refine tR [31] W ?_
    first|refine ax W W ?_|(refine av W ?_;(refine pJ W W W W ?_))
    refine tR [32] W ?_
    first|refine ax W W ?_|(refine av W ?_;(refine aQ r W W W W ?_))
    refine tR [0,2,37] W ?_;refine aG W W W (auJ a) f W ?_;refine tR [42] W ?_;refine rZ (H0:=[]) W W W W (by rfl) W (by rw[i];omega) (by rw[i];omega) ?_;refine tR [2,19] W ?_;refine az W W W (by omega) ?_;refine tL [] W ?_;exact again (k':=20-(a+1)) (by omega) ⟨a+1,_,rfl,by omega,by omega,rfl⟩ (by rw[d];rfl) (kc W (kc (by rw[d];rfl) W))
 ·have I:cJ (b.take a)=cJ b:=by
   unfold cJ;rw[axy];rcases G with rfl|rfl
   ·rw[show min 20 b.length=min 20 b.length from rfl]
    congr 1
    rcases Nat.le_total 20 b.length with g|g
    ·rw[awN g]
    ·rw[axn g,avK (auK _),avK g]
   ·rfl
  rw[I];have y:=jB [] 1 (iV (cJ b)) (λl n=>by obtain⟨z,_,rfl⟩:=ava.1 n;rfl);by_cases h:a<b.length
  ·have P:a=20:=by omega
   refine tO [2,12] W ?_;refine bp W W s ?_;refine tR [13] W ?_;refine aQ (au5 (by omega)) W W W W ?_;refine tR [16] W ?_
   first|refine ax W W ?_|(refine av W ?_;(refine aQ (avc (by omega)) W W W W ?_))
   refine tL [0] W ?_;refine TC.exit ?_;refine TC.cw 3 W y ?_;refine tC [2] W ?_;exact TC.ret ⟨_,W,[_],W,W⟩
  ·have o:decide (((a:Nat):Int)<((b.length:Nat):Int))=false:=avc (by omega);refine tO [2,12] W ?_;refine bp W W s ?_;refine tR [13] W ?_;refine aQ o W W W W ?_;refine tL [0] W ?_;refine TC.exit ?_;refine TC.cw 3 W y ?_;refine tC [2] W ?_;exact TC.ret ⟨_,W,[_],W,W⟩
end Go.Proofs.Sz
namespace Go.Sm
open Go.Mt
abbrev MZ(s:Nm):Va:=⟨s,2,⟨#[]⟩,[],false,Nc,(0,0)⟩
abbrev eA:Nm:=⟨#[97]⟩
abbrev eX:Nm:=⟨#[120]⟩
abbrev DF(s:Nm):Xp:= .mk 4 0 0 s [] [] (0,0)
abbrev OX:Xp:= .mk 9 0 0 ⟨#[]⟩ [] [.mk 1 0 0 ⟨#[]⟩ [] [] (0,0),.mk 7 3 0 ⟨#[]⟩ [] [DF eX,DF eA] (0,0)] (0,0)
abbrev xL:aB:= .mk 1 [eX] ⟨#[]⟩ [] false OX [] (0,0)
abbrev Jv:Nd:=⟨⟨#[102]⟩,[MZ eA],[MZ eX],.mk [] [xL],(0,0)⟩
abbrev Lu:Pg:=⟨[],[Jv]⟩
def Fj(u:US)(a:Int):aK where
 ok π:=π= []
 fr π:=match π with| []=>rl Jv|_=>⟨[],[],[],[]⟩
 val π k:=match π,k with| [],0=>some a| [],1=>some (u.mem 0)|_,_=>none
 rk _ _:=0
 sb _ _:=0
 ek _ _:=0
 bA _ _:=0
 iO _ _:=false
 ev _ _:=u.mem 0
 ew _ _:=[(0,jE 3 (u.mem 0) a)]
 outs _ _:=[]
 iP _ _:=u
 lg _ _:=0
 nan _ _:=false
 rd:=u.mem
 rp:=u.cu
 rs:=u.an
 eh:=1
 sz:=1
 ap:=[.cell [] 1]
 wt _:=2
theorem Cu{j:Nat}{q:aB}(h: [xL][j]?=some q):j=0/\q=xL:=by
 cases j with
 |zero=>injection h with h;exact⟨W,h.symm⟩
 |succ j=>cases h
theorem sM{u:US}{a:Int}{π:Path}{j:Nat}{q:aB}(h:((Fj u a).fr π).au[j]?=some q):q=xL:=by
 cases π with
 |nil=>exact(Cu h).2
 |cons _ _=>cases h
theorem sN(u:US)(a:Int):(Fj u a).find [] eX=some ([],1):=by kernel_rfl
theorem Fk(u:US)(a:Int):gR ((Fj u a).fr []) 1 (MZ eX) 0:=⟨by kernel_rfl,⟨xL,rfl,auW.2 W⟩,λc d e b=>by have:=(Cu b).1;omega⟩
theorem Lv(u:US)(t:u.i=0)(a:Int):d_ Lu 1 u [a] [u.mem 0] (.mk 0 (λ_=>jE 3 (u.mem 0) a) u.cu u.an):=by
 have o: ∀{e:Nat},¬fO (Fj u a) e:=by
  rintro e ⟨f,h,q,w,b,A,B,C,D,y,_⟩;cases y
 refine⟨Fj u a,Jv,?_⟩;constructor
 case nd=>rw[t];rfl
 case sz=>kernel_rfl
 case Bd=>rfl
 case i_=>intro h f c;cases c
 case qe=>rfl
 case sU=>rfl
 case ya=>
  intro e v x _ c;cases e with
  |zero=>exact⟨c,Nat.one_pos⟩
  |succ e=>cases c
 case cell=>
  rintro f e v E rfl i j k
  match e with
  |0=>exact absurd (k W) (by decide)
  |1=>
   injection i with i
   subst i;refine⟨.nil,auK _,Nat.one_pos,λx p=>⟨0,some ([],0),Fk u a,.leaf (q:=xL) W (.inl W) (auK _),sN u a,xL,rfl,λ_=>⟨rfl,?_⟩,λc=>absurd c (by decide)⟩⟩;injection p with p;exact p.symm
  |e+2=>cases i
 case eq=>
  rintro f h q w rfl d r;obtain⟨rfl,rfl⟩:=Cu d;injection r with r
  subst r;exact⟨.df W eX W λ_=> .ga Nat.one_pos (.bin (.var (sN u a) Nat.one_pos) (.var (σ:=([],0)) (by kernel_rfl) Nat.one_pos)),Nat.one_pos⟩
 case lhs=>intro f h q c d g;rw[sM d]at g;exact absurd g (by decide)
 case nx=>intro _ _;exact avp _
 case vD=>intro f c;cases f with
  |nil=>exact absurd W c
  |cons _ _=>exact⟨W,W⟩
 case gh=>intro f h q d g;rw[sM d]at g;exact absurd g (by decide)
 case lh=>
  rintro f h q rfl d n s σ m _;obtain⟨rfl,rfl⟩:=Cu d;rw[auW.1 s,sN]at m;injection m with m;subst m;exact auK _
 case II=>
  intro l v i;cases l with
  |zero=>injection i with i;subst i;exact sN u a
  |succ l=>cases i
 case F_=>
  rintro f h q n rfl d _ j _;obtain⟨rfl,rfl⟩:=Cu d;injection j with j;subst j
  exact⟨([],1),MZ eX,0,sN u a,Fk u a,W,W,.leaf (q:=xL) W (.inl W) (auK _),λ_=>auK _⟩
 case IK=>
  rintro f h q rfl d n s;obtain⟨rfl,rfl⟩:=Cu d;rw[show n=eX from auW.1 s];exact⟨_,sN u a⟩
 case aj=>intro f h q _ d _;rw[sM d];rfl
 case rd=>exactλe _=>⟨λc=>absurd c o,λ_=>rfl⟩
 case rp=>exactλe _=>⟨λc=>absurd c o,λ_=>rfl⟩
 case rs=>exactλe _=>⟨λc=>absurd c o,λ_=>rfl⟩
 case nm=>
  intro e g;have g:e=0:=by have:e<1:=g;omega
  subst g;refine⟨?_,λc=>absurd (.inl ⟨[],0,xL,rfl,rfl,λ_=>⟨_,sN u a,rfl⟩,auW.2 W⟩) (c (jE 3 (u.mem 0) a))⟩;rintro v (⟨f,h,q,k,d,_,z⟩|⟨f,l,rfl,j,_⟩|⟨f,h,q,k,d,g,_⟩)
  ·have:=auW.1 z;injection this with _ c;exact c.symm
  ·match l with
   |0=>cases j
   |1=>cases j
   |l+2=>cases j
  ·rw[sM d]at g;exact absurd g (by decide)
 case np=>
  refineλe _=>⟨?_,λ_=>rfl⟩
  rintro v ⟨f,h,q,k,d,g,_⟩;rw[sM d]at g;exact absurd g (by decide)
 case ns=>
  refineλe _=>⟨?_,λ_=>rfl⟩
  rintro v ⟨f,h,q,k,d,g,_⟩;rw[sM d]at g;exact absurd g (by decide)
 case ui=>exact t.symm
 case wc=>
  rintro f e v rfl i k
  match e with
  |0=>exact absurd (k W) (by decide)
  |1=>exact⟨auW.2 W,by show 1<=2;omega,λ_ _ _ _ _ _ _ _=>auK 2⟩
  |e+2=>cases i
 case wq=>
  intro f h q _ d;rw[sM d];exact⟨λc=>absurd c (by decide),λc=>absurd c (by decide),λc=>absurd c (by decide)⟩
 case ws=>show 2+0<=1000000000000;omega
 case outs=>rfl
end Go.Sm
namespace Go.Proofs.Sz
open Go.Mt Go.Sm Go.Proofs
open Tryz
theorem xM{k op n:Int}{s:Nm}{p:Int×Int}(h:k≠9):jP (.mk k op n s [] [] p):= .mk (λe=>absurd e h) (avp _) (avp _) (λe a=>by cases a)
theorem M0:jP OX:=by
 refine .mk (λ_=>by simp) (by decide) (avp _) λe a=> ?_
 simp only[auX,au3,avF]at a;rcases a with rfl|rfl
 ·exact xM (by decide)
 ·refine .mk (λb=>absurd b (by decide)) (by decide) (avp _) λe a=> ?_
  simp only[auX,au3,avF]at a;rcases a with rfl|rfl<;>exact xM (by decide)
theorem Lw:lL Lu where
 e:=⟨avp _,λe he=>by cases he⟩
 n:=by decide
 d:=by
  intro d hd;rw[auW.1 hd];have h1: ∀q∈ [xL],q=xL:= λq hq=>auW.1 hq
  have h2:bP Jv.b=1:=by kernel_rfl
  refine⟨.mk (by decide) (by decide) ?_ ?_ ?_ ?_ ?_,by decide,by rw[h2];decide⟩
  ·intro q hq a ha;rw[h1 q hq]at ha;cases ha
  ·intro q hq;rw[h1 q hq];exact avp _
  ·intro q hq;rw[h1 q hq];exact⟨M0,avp _,λe he=>by cases he⟩
  ·intro q hq;rw[h1 q hq];show 1<=1000000;omega
  ·intro q hq a ha;rw[h1 q hq]at ha;cases ha
 i:=by
  intro d hd;rw[auW.1 hd];have:gg Jv.b=1:=by kernel_rfl
  exact⟨by decide,by omega⟩
theorem Oj:p6 Lu where
 d:=by
  intro d hd;rw[auW.1 hd];have h1: ∀q∈ [xL],q=xL:= λq hq=>auW.1 hq
  refine⟨.mk (λv hv=>by cases hv) ?_ ?_ ?_,?_,avp _⟩
  ·intro q hq;rw[h1 q hq];exact⟨.inl W,λ_=>rfl,λh=>absurd h (by decide)⟩
  ·intro q hq a ha;rw[h1 q hq]at ha;cases ha
  ·intro q hq a ha;rw[h1 q hq]at ha;cases ha
  ·rintro v (hv|hv)<;>rw[auW.1 hv]<;>exact avp _
instance:bz prog 9:=cN (by kernel_rfl)
instance:bz prog 22:=cN (by kernel_rfl)
theorem Fm:PT prog 22 [] (·= [.agg Lu.cells]):=by
 refine PI (CT.ob func22 W ntmps22 W λa b=> ?_);refine tC [2,2,2,2,2,2] W ?_;exact TC.ret ⟨_,W,[_],W,W⟩
def OY:Nat->Int
 |0=>0
 |1=>1
 |2=>3
 |_=>6
theorem fN:PT prog 9 [] (·= [.bool true]):=by
 obtain⟨_,p,⟨k,c,rfl,g,z⟩,e⟩:=lk (n:=1) Lw (auK 1) ⟨#[102]⟩ 0 (by kernel_rfl) [];refine PI (CT.ob func9 W ntmps9 W λA B=> ?_);refine tO [2,2,12] W ?_;refine aE Fm W W ?_;refine tR [13] W ?_;refine aq e W W ?_;refine tL [2,0,2,2,3] W ?_;refine TC.lp (λi j=> ∃(a:Nat) (l:List (Nat×List M)) (f:Hp) (c:Nat->Prop) (b:US),j=⟨[nN 4 a,nD 3 (.sl [[.int .i32 0],[.int .i32 1],[.int .i32 3]]),nR 1 k],l,f⟩/\a<=3/\i=3-a/\iS Lu 1 b k c f/\b.i=0/\b.mem 0=OY a) 3 _
  ⟨0,_,p,c,_,rfl,by omega,rfl,g,rfl,by kernel_rfl⟩ W ?_
 rintro i j ⟨a,l,f,c,b,rfl,C,rfl,g,m,o⟩;refine tC [2] W ?_;refine TC.cond W (λe=> ?_) (λe=> ?_)
 ·have h:a=0\/a=1\/a=2:=by have:=auV e;omega
  obtain⟨_,q,⟨rfl,s,x,E⟩,t⟩:=pD Lw Oj g (xs:=[IntKind.i32.wrap (((a:Nat):Int)+1)]) (d:=Jv) (by intro y u;rw[auW.1 u];unfold lG;rcases h with rfl|rfl|rfl<;>decide) (by rw[m];rfl) W (Lv b m _);have v:([[.int .i32 0],[.int .i32 1],[.int .i32 3]]:List (List D))[((a:Nat):Int).toNat]?=some [.int .i32 (b.mem 0)]:=by rw[o];rcases h with rfl|rfl|rfl<;>rfl
  have w:(b.mem 0 !=b.mem 0)=false:=by simp
  refine tO [3,2,26] W ?_;refine az W W W (by omega) ?_;refine tR [29] W ?_;refine aq t W W ?_;refine tL [] W ?_;refine TC.draw bN ?_;refine fR 9 W ?_
  first|refine aX W W W W ?_|refine aY W W W ?_|(refine aR W W ?_;(refine a_ W W W (awT 0) W W ?_))
  refine fR 3 W ?_
  first|refine aX W W W W ?_|refine aY W W W ?_|(refine aR W W ?_;(refine a_ W W W (auJ a) v W ?_))
  refine fR 1 W ?_
  first|refine aX W W W W ?_|refine aY W W W ?_|(refine aR W W ?_;(refine kq W W W (r:= .bool false) (by show some (D.bool (_ !=_))=_;rw[w]) ?_))
  refine fR 1 W ?_;refine TF.nil ⟨by kernel_rfl,?_⟩;refine tO [0,2,22] W ?_;refine az W W W (by omega) ?_;refine tL [] W ?_;exact again (k':=3-(a+1)) (by omega) ⟨a+1,_,q,s,_,rfl,by omega,rfl,x,rfl,by show jE 3 (b.mem 0) _=_;rw[o];rcases h with rfl|rfl|rfl<;>decide⟩ W W
 ·refine TC.exit ?_;refine tC [2] W ?_;exact TC.ret ⟨_,W,[_],W,W⟩
def gU(F G:Nat->Prop):Prop:= ∀a,F a-> ¬G a
theorem dS{P:Pg}{n:Nat}{u:US}{c:Nat}{F f a:Nat->Prop}{H K:Hp}(h:iS P n u c a H)(d:Gv F H f K)(g:gU a F):iS P n u c a K:=
 h.frame (λb e=>d.o b (h.lt b e) (g b e)) d.len
theorem cP{P:Pg}{n:Nat}{u:US}{f:Nat}{F c a:Nat->Prop}{H K:Hp}(h:iS P n u f a H)(g:Gv F H c K)(i:gU a F):gU a c:= λb d j=>by
 rcases g.f b j with e|e
 ·exact i b d e
 ·have:=h.lt b d;omega
theorem gU.symm{F a:Nat->Prop}(h:gU F a):gU a F:= λb c d=>h b d c
theorem j5{x:Int}(h:(Lit.int .i32 x).wf=true):lG x:=by
 have a:IntKind.i32.min<=x/\x<=IntKind.i32.max:=by simpa [Lit.wf] using h
 have b:IntKind.i32.min= -2147483648:=by decide
 have c:IntKind.i32.max=2147483647:=by decide
 rw[b,c]at a;exact a
section
open Go.Mk Go.Ex
variable{l:List Mk.Nd}(hP:GP l)
include hP
theorem Fo{n k:Nat}(j:k<n){u:US}(c:jt l n k u){x b:Int}(f:lG x)(e:b=0\/b=1): ∃(o:List Int) (u':US),o.length=2/\jt l n k u'/\ ∀(a:Nat) (F:Nat->Prop) (H:Hp),iS (dG l) n u a F H->
  DT prog 15 [.ref a 0,.d (.sl (bF [x,b]))] H λm K=>m= .dq [.d (.sl (bF o)),.d (.int .i64 0)]/\ ∃g,iS (dG l) n u' a g K/\Gv F H g K:=by
 obtain⟨p,q,u',r,G,I,s⟩:=H8 hP n k j u c x b f e;have J:=c;cases n with
 |zero=>omega
 |succ n=>
 obtain⟨d,h,t,_⟩:=c;obtain⟨v,w⟩:=AO hP;have y:(dG l).nodes[u.i]?=some (cC d):=by show(l.map cC)[u.i]?=_;rw[t,au6,h];rfl
 have z:=(hP.2.2 k d h).2.1;have A:ir (dG l).aJ (cC d).ins [x,b]=true:=by
  show ir [Am] (d.ins.map ey) [x,b]=true;rw[z];have B:lF 1 2 b=true:=by rcases e with rfl|rfl<;>rfl
  have C:lF 2 0 x=true:=rfl;show(lF 2 0 x&&(lF 1 2 b&&true))=true;rw[B,C];rfl
 refine⟨[p,q],u',W,s,λa F H D=>pD v w D (λE i=> ?_) y A r⟩;simp only[auX,au3,avF]at i;rcases i with rfl|rfl
 ·exact f
 ·unfold lG;rcases e with rfl|rfl<;>omega
end
theorem jn(x:Int):nr x=0\/nr x=1:=by unfold nr;split<;>simp
theorem nW{l:List (List Int)}{i:Nat}{r:List Int}(h:l[i]?=some r):(iV l)[((i:Nat):Int).toNat]?=some [.sl (bF r)]:=by
 unfold iV;simp[h]
theorem nX{a:List Int}{i:Nat}(h:i<(cJ a).length): ∃x∈a,(cJ a)[i]?=some [x,nr x]:=by
 have b:i<(a.take 20).length:=by simpa [cJ] using h
 refine⟨(a.take 20)[i],av8 (avb b),?_⟩;unfold cJ;rw[au6,auO b];rfl
theorem made{l:List Mk.Nd}(a:Mk.GP l): ∃(x:Nm) (d:Nd),d.name=x/\(Go.Ex.dG l).nodes[l.length-1]?=some d/\lL (Go.Ex.dG l)/\p6 (Go.Ex.dG l)/\1<=l.length/\l.length<=1000/\
  PT prog 12 [.agg (Go.Ex.dG l).cells] (·= [.str x])/\cZ (Go.Ex.dG l).nodes x=some (l.length-1)/\Go.Ex.jt l l.length (l.length-1) (US.init (Go.Ex.dG l) (l.length-1)):=by
 obtain⟨f,i,g⟩:=a;have a:Mk.GP l:=⟨f,i,g⟩;obtain⟨j,k⟩:=Go.Ex.AO a;have h:l.length-1<l.length:=by omega
 have b:l[l.length-1]?=some l[l.length-1]:=auO h;generalize l[l.length-1]=d at b;have m:=(g _ d b).1;have c:(Go.Ex.dG l).nodes.length=l.length:=by show(l.map Go.Ex.cC).length=_;simp
 have e:(Go.Ex.dG l).nodes[(Go.Ex.dG l).nodes.length-1]?=some (Go.Ex.cC d):=by rw[c];show(l.map Go.Ex.cC)[_]?=_;rw[au6,b];rfl
 refine⟨(Go.Ex.cC d).name,Go.Ex.cC d,W,by rw[c]at e;exact e,j,k,f,by omega,Ct (Go.Ex.dG l) (Go.Ex.cC d) (by rw[c];omega) e,?_,?_⟩
 ·rw[show(Go.Ex.cC d).name=Mk.nm 102 (l.length-1)from m];exact Go.Ex.AW a h
 ·have:=Go.Ex.AX a (n:=l.length-1) b;rw[show l.length-1+1=l.length by omega]at this;exact this
theorem qb{l:List Mk.Nd}{n k:Nat}{u:US}(b:k<n)(h:Go.Ex.jt l n k u):u.i=k:=by
 cases n with
 |zero=>omega
 |succ n=>obtain⟨d,c,a,_⟩:=h;exact a
theorem yr(F:List Int)(v:D)(G:kJ .u8 F v)(xs:List Int)(x:D)(Z:kJ .i32 xs x)(f:List Int)(y:D)(hy:kJ .i32 f y):PT prog 8 [v,x,y] (·= [.bool true]):=by
 refine PI (CT.ob func8 W ntmps8 W λs0 Oo=> ?_);refine tC [2] W ?_;rcases auM 400 F.length with h1|h1
 ·refine tO [2,23] W ?_;refine aE fN W W ?_;refine tR [27] W ?_
  first|refine ax W W ?_|(refine av W ?_;(refine bp W W G.1 ?_))
  refine tR [28] W ?_
  first|refine ax W W ?_|(refine av W ?_;(refine dY W W W (r:= .bool true) (by show some (D.bool (decide _))=_;rw[au5 (by omega)]) ?_))
  refine tR [1,2,30] W ?_;refine aE fN W W ?_;refine tL [] W ?_;exact TC.ret ⟨_,W,_,W,W⟩
 refine tO [2,23] W ?_;refine aE fN W W ?_;refine tR [27] W ?_
 first|refine ax W W ?_|(refine av W ?_;(refine bp W W G.1 ?_))
 refine tR [28] W ?_
 first|refine ax W W ?_|(refine av W ?_;(refine dY W W W (r:= .bool false) (by show some (D.bool (decide _))=_;rw[avc (by omega)]) ?_))
 refine tR [0,2,32] W ?_;refine pK (Sy (ue F v ⟨G,by omega⟩)) W W ?_;rintro _ _ ⟨⟨_,rfl,a,rfl,H⟩,rfl⟩;refine tL [] W ?_;obtain⟨nm,d,TJ,hd,I,wf,J,_,K,L,M⟩:=made H;rw[Go.Ex.jS]at K;obtain⟨_,p,⟨l,c,rfl,g,q⟩,N⟩:=lk (n:=a.length) I J nm (a.length-1) L [];rw[Go.Ex.jS]at N;refine TC.draw bN ?_;refine fR 2 W ?_;refine aW K W W ?_;refine bg N W W ?_;refine fR 5 W ?_;refine TF.nil ⟨by kernel_rfl,?_⟩;refine tO [2,41] W ?_;refine aE (mA xs x Z) W W ?_;refine tL [2,3] W ?_;have P0: ∀j:List (List Int),(iV j).length=j.length:= λj=>by simp[iV]
 have Zo: ∀j:List Int,(cJ j).length<=20:= λj=>by simp[cJ];omega
 have X3:=Z.2.2;have d6:=hy.2.2;have d8:=Zo xs;have d9:=Zo f;have PU: ∀Y:Nat->Prop,gU Y (λ_=>False):= λY d7 _ co=>co
 clear N q;refine TC.lp (λk m=> ∃(i:Nat) (b:Hp) (c:Nat->Prop) (e:US),m=⟨[nN 11 i,nD 10 (.sl (iV (cJ xs))),nR 8 l,(7,.loc 7 0),nM 2 (.d y)],[(7,[.d (.sl [Mk.nq]),.d (.sl (Mk.eL a))]),(7,[.d (.sl []),.d (.sl [])])],b⟩/\i<=(cJ xs).length/\k=(cJ xs).length-i/\
   iS (Go.Ex.dG a) a.length e l c b/\Go.Ex.jt a a.length (a.length-1) e) (cJ xs).length _
  ⟨0,p,c,_,rfl,by omega,rfl,g,M⟩ W ?_
 clear g;rintro k m ⟨i,b,c,e,rfl,hi,rfl,g,s⟩;refine tC [2] W ?_;refine TC.cond W (λt=> ?_) (λt=> ?_)
 ·have O:i<(cJ xs).length:=by have:=auV t;rw[P0]at this;omega
  obtain⟨u,P,Q⟩:=nX O;obtain⟨o,R,ho,S,A⟩:=Fo H (k:=a.length-1) (n:=a.length) (by omega) s (j5 (X3 u P)) (jn u);have B:=nW Q;obtain⟨_,p,⟨rfl,T,C,q⟩,U⟩:=A l c b g;refine tO [3,2,52] W ?_;refine aG W W W (auJ i) B W ?_;refine tR [53] W ?_;refine aq U W W ?_;refine tR [2,47] W ?_;refine az W W W (by omega) ?_;refine tL [] W ?_;exact again (k':=(cJ xs).length-(i+1)) (by omega) ⟨i+1,p,T,R,rfl,by omega,rfl,C,S⟩ W W
 refine TC.exit ?_;have UK:e.i=a.length-1:=qb (by omega) s;obtain⟨_,V,⟨E,ac,_⟩,UB⟩:=EB I J g (d:=d) (by rw[UK];exact hd) (i:=a.length-1) (by rw[TJ];exact L);obtain⟨_,K3,⟨X,h,rfl,w,z⟩,QN⟩:=lk (n:=a.length) I J nm (a.length-1) L V;rw[Go.Ex.jS]at QN;have Zq:gU E h:=cP ac z (PU E);have ah:=dS ac z (PU E);refine tO [2,55] W ?_;refine aq UB W W ?_;refine tL [] W ?_;refine TC.draw bN ?_;refine fR 2 W ?_;refine aW K W W ?_;refine bg QN W W ?_;refine fR 5 W ?_;refine TF.nil ⟨by kernel_rfl,?_⟩;refine tO [2,64] W ?_;refine aE (mA f y hy) W W ?_;refine tL [2,3] W ?_;refine TC.lp (λk m=> ∃(i:Nat) (b:Hp) (c h:Nat->Prop) (e:US),m=⟨[nN 14 i,nR 12 X,nD 10 (.sl (iV (cJ f))),nR 8 l],[(7,[.d (.sl [Mk.nq]),.d (.sl (Mk.eL a))]),(7,[.d (.sl []),.d (.sl [])])],b⟩/\i<=(cJ f).length/\k=(cJ f).length-i/\
   iS (Go.Ex.dG a) a.length e l c b/\iS (Go.Ex.dG a) a.length e X h b/\gU c h/\Go.Ex.jt a a.length (a.length-1) e) (cJ f).length _
  ⟨0,K3,E,h,_,rfl,by omega,rfl,ah,w,Zq,M⟩ W ?_
 clear ah w Zq M g s;rintro k m ⟨i,b,c,h,e,rfl,hi,rfl,g,w,Xq,s⟩;refine tC [2] W ?_;refine TC.cond W (λt=> ?_) (λt=> ?_)
 ·have O:i<(cJ f).length:=by have:=auV t;rw[P0]at this;omega
  obtain⟨u,P,Q⟩:=nX O;obtain⟨o,R,ho,S,A⟩:=Fo H (k:=a.length-1) (n:=a.length) (by omega) s (j5 (d6 u P)) (jn u);have B:=nW Q;obtain⟨_,p,⟨rfl,T,C,q⟩,U⟩:=A l c b g;have Xr:=dS w q Xq.symm;have TM:=(cP w q Xq.symm).symm;obtain⟨_,V,⟨rfl,Wf,V4,z⟩,SZ⟩:=A X h p Xr;have UR:=dS C z TM;have V5:=cP C z TM;have QG:PT prog 16 [.sl (bF o),.sl (bF o)] (·= [.bool true]):=by have:=rK o o (by omega);simpa using this
  refine tO [3,2,75] W ?_;refine aG W W W (auJ i) B W ?_;refine tR [77] W ?_;refine aq U W W ?_;refine tR [2,84] W ?_;refine aG W W W (auJ i) B W ?_;refine tR [86] W ?_;refine aq SZ W W ?_;refine tR [2,98] W ?_
  first|refine ax W W ?_|(refine av W ?_;(refine aE QG W W ?_))
  refine tR [0,2,70] W ?_;refine az W W W (by omega) ?_;refine tL [] W ?_;exact again (k':=(cJ f).length-(i+1)) (by omega) ⟨i+1,V,T,Wf,R,rfl,by omega,rfl,UR,V4,V5,S⟩ W W
 ·refine TC.exit ?_;refine tC [2] W ?_;exact TC.ret ⟨_,W,[_],W,W⟩
end Go.Proofs.Sz
