/- A part of the proof. -/
import Derived.Test.YtjbigbaipmiihaaGreatK
import Derived.Deep.Matrix
import Derived.SizedLaws
set_option maxRecDepth 4000
set_option linter.all false
namespace Go.Mt
open Go.ChangeShapes
def OW(k:IntKind)(zss:List (List Int))(v:D):Prop:=lB v=some zss.length/\ ∀(i:Nat) (z:List Int),zss[i]?=some z-> ∃rows d,v= .sl rows/\rows[((i:Nat):Int).toNat]?=some [d]/\kJ k z d
def yL(k:IntKind)(w:World)(a:Option Addr)(len cap:Nat):Prop:=
 (a=none/\len=0/\cap=0)\/ ∃x,a=some x/\len<=cap/\cap<=maxLen/\ ∀r,r<len-> ∃A L C Z,w.cell? (x.add r)=some (.slice A L C)/\fe k w A L C Z/\L<=140737488355328
theorem Lt(k:IntKind)(z:Option Addr)(e p:Nat)(w:World)(E:yL k w z e p)(R:e<=140737488355328):
  ∃(N:List (List Int)) (v:D),OW k N v/\gv (λ_ _=>False) w v (.slice z e p):=by
 rcases E with⟨rfl,rfl,rfl⟩|⟨C,rfl,S,T,A⟩
 ·exact⟨[],.sl [],⟨W,λc i a=>by simp at a⟩,.slnil none⟩
 by_cases F:e=0
 ·subst F;exact⟨[],.ov,⟨W,λc i a=>by simp at a⟩,.ov _ _⟩
 obtain⟨b,B,P⟩:=C;have G:P=none:=by obtain⟨t,u,x,y,q,_⟩:=A 0 (by omega);simpa [Addr.add] using World.cell?_spot q
 subst G;have Q: ∀f:Nat,∃(i:List Int) (d:D) (o:Value),f<e->kJ k i d/\gv (λ_ _=>False) w d o/\flat o=true/\w.cell? ((⟨b,B,none⟩:Addr).add f)=some o:=by
  intro f;by_cases h:f<e
  ·obtain⟨t,u,x,y,q,g,H⟩:=A f h;obtain⟨i,d,I,J⟩:=jA k t u x y w g H;exact⟨i,d,_,λ_=>⟨I,J,rfl,q⟩⟩
  ·exact⟨[],.sl [],.bool false,λa=>absurd a h⟩
 have⟨K,a⟩:=Classical.axiomOfChoice Q;have⟨l,a⟩:=Classical.axiomOfChoice a;have⟨L,m⟩:=Classical.axiomOfChoice a;have r:((List.range e).map λf=>[l f]).length=e:=by simp
 refine⟨(List.range e).map K,.sl ((List.range e).map λf=>[l f]),⟨by simp[lB],λc i n=> ?_⟩,?_⟩
 ·have g:c<e:=by
   rcases auM c e with a|a
   ·exact a
   ·rw[auP (by simpa using a)]at n;cases n
  simp[g]at n;subst n;exact⟨_,l c,W,by simp[g],(m c g).1⟩
 ·have:=gv.sl (O:= λ_ _=>False) (w:=w) ((List.range e).map λf=>[l f]) b B p 1 (λc _=>L c) (by intro a;rw[a]at r;simp at r;omega) (by omega) (by omega)
   (by intro f h;obtain⟨_,_,rfl⟩:=ava.1 h;rfl)
   (by
    intro c j g U;obtain rfl:j=0:=by omega
    refine⟨?_,λa=>a⟩;have:=(m c (by omega)).2.2.2;rcases avl c with rfl|M
    ·simpa [dI,Addr.add] using this
    ·simpa [dI,Addr.add,axD M] using this)
   (by intro c j g _;exact(m c (by omega)).2.2.1)
   (by
    intro c j f d h s;have g:c<e:=by
     rcases auM c e with a|a
     ·exact a
     ·rw[auP (by omega)]at h;cases h
    simp[g]at h;subst h;cases j with
    |zero=>simp at s;subst s;exact(m c g).2.1
    |succ j=>simp at s)
  rw[r]at this;exact this
theorem s9{H:Type}{P:Program}{e:TypeId} : ∀{l:List (DataW H)} {d:DataW H},d∈l-> ∀n∈d.weights P e,n∈DataW.weightsAll P e l
 |f::l,d,c,n,a=>by
  simp only[DataW.weightsAll,auS];rcases auX.1 c with rfl|b
  ·exact .inl a
  ·exact .inr (s9 b n a)
theorem Oi{H:Type}{enc:TypeId×Value->H}{P:Program}{w:World}{T:Bool}{t e q:TypeId}{k:IntKind}{v nb:Nat}{a:Option Addr}{len cap:Nat}{x:DataW H×List MemPlace}(ht:P.underlying t=some (.slice e))(p:P.underlying e=some (.slice q))(y:P.underlying q=some (.int k))
  (ce:P.cellsOf e=1) (z:P.cellsOf q=1) (R: ∃m,P.bytesOf e=m+1) (A:P.bytesOf q=nb+1) (h:DataW.trod enc P w 0 (λ_=>true) T v t [.slice a len cap]=some x) (r: ∀s∈x.1.weights P t,s<=reachBytes):
  yL k w a len cap/\len<=140737488355328:=by
 have U:=reachBytes_lt;rcases Deep.open_int_rows ht p y ce z h with⟨f,_⟩|⟨B,Y,Z,i,d,j,c,f,_,C,D,E,F⟩
 ·simp at f;obtain⟨rfl,rfl,rfl⟩:=f;exact⟨.inl ⟨W,W,W⟩,by omega⟩
 ·simp at f;obtain⟨rfl,rfl,rfl⟩:=f;subst E;have S:len<=140737488355328:=by
   have:=r ((len+(cap-len))*P.bytesOf e) (by simp[DataW.weights,ht]);obtain⟨m,G⟩:=R;rw[G]at this;have n:len<=len*(m+1):=avr _ (by omega);have o:len*(m+1)<=(len+(cap-len))*(m+1):=avk _ (avN _ _);omega
  refine⟨.inr ⟨B,W,C,D,λb I=> ?_⟩,S⟩;obtain⟨J,K,L,n,M,o,N⟩:=F b (by omega);refine⟨i b,d b,j b,c b,J,?_,?_⟩
  ·cases g:i b with
   |none=>
    have:=o g;refine .inl ⟨W,by omega,this,avA (by omega)⟩
   |some l=>
    exact .inr ⟨l,W,K,L,n,λu V=>(N l g).2 u (by omega),M⟩
  ·cases g:i b with
   |none=>have:=o g;omega
   |some l=>
    have O:(.slice (lits k ((c b).take (d b))) (lits k ((c b).drop (d b))):DataW H)∈(List.range len).map λb=>Deep.intRow k (i b) (d b) (c b):=by
     refine ava.2 ⟨b,awp.2 I,?_⟩;simp[Deep.intRow,g]
    have:=r (((lits (H:=H) k ((c b).take (d b))).length+(lits (H:=H) k ((c b).drop (d b))).length)*P.bytesOf q) (by
     simp only[DataW.weights,ht,auX,auS];refine .inr (.inl (s9 O _ ?_));simp[DataW.weights,p])
    rw[A]at this;have Q:(lits (H:=H) k ((c b).take (d b))).length+(lits (H:=H) k ((c b).drop (d b))).length=(c b).length:=by simp[lits];omega
    rw[Q,n]at this;have X:j b<=j b*(nb+1):=avr _ (by omega);omega
end Go.Mt
namespace Go.Proofs.Sz
open Go.Mt Go.Sm Go.Proofs
open Tryz
instance:bz prog 12:=cN (by kernel_rfl)
instance:bz prog 16:=cN (by kernel_rfl)
instance:bz prog 14:=cN (by kernel_rfl)
theorem rK(a b:List Int)(A:a.length<=1000000):PT prog 16 [.sl (bF a),.sl (bF b)] (·= [.bool (decide (a=b))]):=by
 have B:(bF a).length=a.length:=by simp[bF]
 have H:(bF b).length=b.length:=by simp[bF]
 refine PI (CT.ob func16 W ntmps16 W λC E=> ?_);refine tC [2] W ?_;by_cases s:a.length=b.length;rotate_left
 ·have i:((((bF a).length:Nat):Int) !=(((bF b).length:Nat):Int))=true:=by grind
  have f:decide (a=b)=false:=avc (λe=>s (by rw[e]));rw[f];refine tO [2,14] W<|aQ i W W W W<|tL [1,2] W<|TC.ret ⟨_,W,[_],W,W⟩
 have i:((((bF a).length:Nat):Int) !=(((bF b).length:Nat):Int))=false:=by grind
 refine tO [2,14] W<|aQ i W W W W<|tL [0,2,3] W<|TC.lp (λm n=> ∃(c:Nat) (o:List (Nat×List M)),n=⟨[nN 5 c,nD 1 (.sl (bF b)),nD 0 (.sl (bF a))],o,[]⟩/\c<=a.length/\m=a.length-c/\ ∀(d:Nat),d<c->a[d]?=b[d]?) a.length _
  ⟨0,_,rfl,by omega,rfl,λd z=>by omega⟩ W ?_
 rintro m n ⟨c,o,rfl,F,rfl,G⟩;refine tC [2] W<|TC.cond W (λt=> ?_) (λt=> ?_)
 ·have p:c<a.length:=by grind
  have q:c<b.length:=by omega
  have j:(bF a)[((c:Nat):Int).toNat]?=some [.int .i32 a[c]]:=by simp[bF,p]
  have k:(bF b)[((c:Nat):Int).toNat]?=some [.int .i32 b[c]]:=by simp[bF,q]
  have u:=auO p;have v:=auO q;generalize a[c]=g at j u;generalize b[c]=h at k v;refine tC [3] W ?_;by_cases y:g=h
  ·have l:(g !=h)=false:=by grind
   refine tC [] W<|TC.draw bN<|fR 2 W<|a_ W W W (auJ c) j W<|fR 3 W<|a_ W W W (auJ c) k W<|fR 1 W<|kq W W W (r:= .bool false) (by show some (D.bool (_ !=_))=_;rw[l])<|TF.nil ⟨by kernel_rfl,?_⟩;refine tO [0,2,20] W<|az W W W (by omega)<|tL [] W<|again (k':=a.length-(c+1)) (by omega) ⟨c+1,_,rfl,by omega,rfl,λd w=> ?_⟩ W W;rcases avB.1 w with x|x
   ·grind
   ·grind
  ·have l:(g !=h)=true:=by grind
   have f:decide (a=b)=false:=avc (λe=>y (by grind));rw[f];refine tC [] W<|TC.draw bN<|fR 2 W<|a_ W W W (auJ c) j W<|fR 3 W<|a_ W W W (auJ c) k W<|fR 1 W<|kq W W W (r:= .bool true) (by show some (D.bool (_ !=_))=_;rw[l])<|TF.nil ⟨by kernel_rfl,?_⟩;refine tC [1,2] W<|TC.ret ⟨_,W,[_],W,W⟩
 ·have e:c=a.length:=by grind
  have f:decide (a=b)=true:=au5 (awt λd=>by
   grind)
  rw[f];refine TC.exit<|tC [2] W<|TC.ret ⟨_,W,[_],W,W⟩
theorem Ct(P:Pg)(d:Nd)(b:P.nodes.length<=1000000)(h:P.nodes[P.nodes.length-1]?=some d):PT prog 12 [.agg P.cells] (·= [.str d.name]):=by
 have c:P.nodes.length-1<P.nodes.length:=by
  grind
 have a:(P.nodes.map Nd.cells)[((((P.nodes.map Nd.cells).length:Nat):Int)-1).toNat]?=some d.cells:=by
  simp_all
 rw[Nd.aC]at a;refine PI (CT.ob func12 W ntmps12 W λe f=> ?_);refine tO [2,2,12] W<|cL W W W (by simp;omega)<|tR [13] W<|aG W W W (by simp;omega) a W<|tL [] W<|TC.ret ⟨_,rfl,[_],rfl,rfl⟩
def nr(x:Int):Int:=if Int.tmod x 3=1\/Int.tmod x 3= -1 then 1 else 0
def cJ(l:List Int):List (List Int):=(l.take 20).map λx=>[x,nr x]
def iV(l:List (List Int)):List (List D):=l.map λr=>[.sl (bF r)]
theorem mA(b:List Int)(v:D)(x:kJ .i32 b v):PT prog 14 [v] (·= [.sl (iV (cJ b))]):=by
 obtain⟨q,y,K⟩:=x;refine PI (CT.ob func14 W ntmps14 W λL N=> ?_);refine tC [2,2,2,3] W ?_;have H: ∀a,a<=b.length->a<=20->(iV (cJ (b.take a))).length=a:= λa h l=>by simp[iV,cJ];omega
 have z: ∀a,a<b.length->a<20-> ∀c,b[a]?=some c->iV (cJ (b.take (a+1)))=iV (cJ (b.take a))++ [[.sl (bF [c,nr c])]]:= λa h l c A=>by
  have e:b.take (a+1)=b.take a++ [c]:=by rw[axx,A];rfl
  unfold iV cJ;rw[axy,axy,axn (by omega),axn (by omega),e];simp
 refine TC.lp (λr s=> ∃(a:Nat) (t:List (Nat×List M)),s=⟨[nN 4 a,nM 3 (gN 0 (iV (cJ (b.take a)))),nM 0 (.d v)],t,dZ [] 1 (iV (cJ (b.take a)))⟩/\a<=b.length/\a<=20/\r=20-a) 20 _
  ⟨0,_,rfl,by omega,by omega,rfl⟩ W ?_
 rintro r s ⟨a,t,rfl,O,Q,rfl⟩;have B:a<b.length/\a<20\/(a=b.length\/a=20):=by omega
 rcases B with⟨h,l⟩|C
 ·have m:decide (((a:Nat):Int)<((b.length:Nat):Int))=true:=au5 (by omega);have u:=auO h;have E:v= .sl (kQ .i32 b):=by
   rcases y with g|g
   ·rw[g]at h;simp at h
   ·exact g
  have f:(kQ .i32 b)[((a:Nat):Int).toNat]?=some [.int .i32 b[a]]:=by simp[kQ,h]
  have d:=z a h l _ u;have i:=H a (by omega) (by omega);generalize b[a]=c at u f d;subst E;refine tO [2,12] W<|bp W W q<|tR [13] W<|aQ m W W W W<|tR [16] W ?_
  first|refine ax W W ?_|(refine av W ?_;(refine aQ (au5 (by omega)) W W W W ?_))
  refine tL [1,3] W ?_;by_cases n:Int.tmod c 3=1
  ·have j:nr c=1:=by unfold nr;rw[au2 (.inl n)]
   have k:(Int.tmod c 3==1)=true:=by simpa using n
   rw[j]at d;refine tO [2,2,22] W<|aG W W W (auJ a) f W<|tR [24] W<|pJ W W W W<|tR [25] W<|aQ k W W W W<|tR [31] W ?_
   first|refine ax W W ?_|(refine av W ?_;(refine pJ W W W W ?_))
   refine tR [1,2,2,37] W<|aG W W W (auJ a) f W<|tR [42] W<|rZ (H0:=[]) W W W W (by rfl) W (by rw[i];omega) (by rw[i];omega)<|tR [2,19] W<|az W W W (by omega)<|tL [] W<|again (k':=20-(a+1)) (by omega) ⟨a+1,_,rfl,by omega,by omega,rfl⟩ (by rw[d];rfl) (kc W (kc (by rw[d];rfl) W))
  ·have k:(Int.tmod c 3==1)=false:=by simpa using n
   by_cases o:Int.tmod c 3= -1
   ·have j:nr c=1:=by unfold nr;rw[au2 (.inr o)]
    have p:(Int.tmod c 3== -1)=true:=by simpa using o
    rw[j]at d;refine tO [2,2,22] W<|aG W W W (auJ a) f W<|tR [24] W<|pJ W W W W<|tR [25] W<|aQ k W W W W<|tR [29] W ?_
    first|refine ax W W ?_|(refine av W ?_;(refine aG W W W (auJ a) f W ?_))
    refine tR [31] W ?_
    first|refine ax W W ?_|(refine av W ?_;(refine pJ W W W W ?_))
    refine tR [32] W ?_
    first|refine ax W W ?_|(refine av W ?_;(refine aQ p W W W W ?_))
    refine tR [1,2,2,37] W<|aG W W W (auJ a) f W<|tR [42] W<|rZ (H0:=[]) W W W W (by rfl) W (by rw[i];omega) (by rw[i];omega)<|tR [2,19] W<|az W W W (by omega)<|tL [] W<|again (k':=20-(a+1)) (by omega) ⟨a+1,_,rfl,by omega,by omega,rfl⟩ (by rw[d];rfl) (kc W (kc (by rw[d];rfl) W))
   ·have j:nr c=0:=by unfold nr;rw[auU (by omega)]
    have p:(Int.tmod c 3== -1)=false:=by simpa using o
    rw[j]at d;refine tO [2,2,22] W<|aG W W W (auJ a) f W<|tR [24] W<|pJ W W W W<|tR [25] W<|aQ k W W W W<|tR [29] W ?_
    first|refine ax W W ?_|(refine av W ?_;(refine aG W W W (auJ a) f W ?_))
    refine tR [31] W ?_
    first|refine ax W W ?_|(refine av W ?_;(refine pJ W W W W ?_))
    refine tR [32] W ?_
    first|refine ax W W ?_|(refine av W ?_;(refine aQ p W W W W ?_))
    refine tR [0,2,37] W<|aG W W W (auJ a) f W<|tR [42] W<|rZ (H0:=[]) W W W W (by rfl) W (by rw[i];omega) (by rw[i];omega)<|tR [2,19] W<|az W W W (by omega)<|tL [] W<|again (k':=20-(a+1)) (by omega) ⟨a+1,_,rfl,by omega,by omega,rfl⟩ (by rw[d];rfl) (kc W (kc (by rw[d];rfl) W))
 ·have F:cJ (b.take a)=cJ b:=by
   unfold cJ;rw[axy];rcases C with rfl|rfl
   ·rw[show min 20 b.length=min 20 b.length from rfl]
    congr 1
    rcases Nat.le_total 20 b.length with g|g
    ·rw[awN g]
    ·rw[axn g,avK (auK _),avK g]
   ·rfl
  rw[F];have w:=jB [] 1 (iV (cJ b)) (λI G=>by obtain⟨J,_,rfl⟩:=ava.1 G;rfl);by_cases h:a<b.length
  ·have P:a=20:=by omega
   refine tO [2,12] W<|bp W W q<|tR [13] W<|aQ (au5 (by omega)) W W W W<|tR [16] W ?_
   first|refine ax W W ?_|(refine av W ?_;(refine aQ (avc (by omega)) W W W W ?_))
   refine tL [0] W<|TC.exit<|TC.cw 3 W w<|tC [2] W<|TC.ret ⟨_,W,[_],W,W⟩
  ·have m:decide (((a:Nat):Int)<((b.length:Nat):Int))=false:=avc (by omega);refine tO [2,12] W<|bp W W q<|tR [13] W<|aQ m W W W W<|tL [0] W<|TC.exit<|TC.cw 3 W w<|tC [2] W<|TC.ret ⟨_,W,[_],W,W⟩
end Go.Proofs.Sz
namespace Go.Sm
open Go.Mt
abbrev MZ(s:Nm):Va:=⟨s,2,⟨#[]⟩,[],false,Nc,(0,0)⟩
abbrev eA:Nm:=⟨#[97]⟩
abbrev eX:Nm:=⟨#[120]⟩
abbrev DF(s:Nm):Xp:= .mk 4 0 0 s [] [] (0,0)
abbrev OX:Xp:= .mk 9 0 0 ⟨#[]⟩ [] [.mk 1 0 0 ⟨#[]⟩ [] [] (0,0),.mk 7 3 0 ⟨#[]⟩ [] [DF eX,DF eA] (0,0)] (0,0)
abbrev xL:aB:= .mk 1 [eX] ⟨#[]⟩ [] false OX [] (0,0)
abbrev Jv:Nd:=⟨⟨#[102]⟩,[MZ eA],[MZ eX],.mk [] [xL],(0,0)⟩
abbrev Lu:Pg:=⟨[],[Jv]⟩
def Fj(u:US)(a:Int):aK where
 ok π:=π= []
 fr π:=match π with| []=>rl Jv|_=>⟨[],[],[],[]⟩
 val π k:=match π,k with| [],0=>some a| [],1=>some (u.mem 0)|_,_=>none
 rk _ _:=0
 sb _ _:=0
 ek _ _:=0
 bA _ _:=0
 iO _ _:=false
 ev _ _:=u.mem 0
 ew _ _:=[(0,jE 3 (u.mem 0) a)]
 outs _ _:=[]
 iP _ _:=u
 lg _ _:=0
 nan _ _:=false
 rd:=u.mem
 rp:=u.cu
 rs:=u.an
 eh:=1
 sz:=1
 ap:=[.cell [] 1]
 wt _:=2
theorem Cu{j:Nat}{q:aB}(h: [xL][j]?=some q):j=0/\q=xL:=by grind
theorem sM{u:US}{a:Int}{π:Path}{j:Nat}{q:aB}(h:((Fj u a).fr π).au[j]?=some q):q=xL:=by
 cases π with
 |nil=>exact(Cu h).2
 |cons _ _=>cases h
theorem sN(u:US)(a:Int):(Fj u a).find [] eX=some ([],1):=by kernel_rfl
theorem Fk(u:US)(a:Int):gR ((Fj u a).fr []) 1 (MZ eX) 0:=⟨by kernel_rfl,⟨xL,rfl,auW.2 W⟩,λc d e b=>by have:=(Cu b).1;omega⟩
theorem Lv(u:US)(t:u.i=0)(a:Int):d_ Lu 1 u [a] [u.mem 0] (.mk 0 (λ_=>jE 3 (u.mem 0) a) u.cu u.an):=by
 have o: ∀{e:Nat},¬fO (Fj u a) e:=by
  rintro e ⟨f,h,q,w,b,A,B,C,D,y,_⟩;cases y
 refine⟨Fj u a,Jv,?_⟩;constructor
 case nd=>rw[t];rfl
 case sz=>kernel_rfl
 case Bd=>rfl
 case i_=>intro h f c;cases c
 case qe=>rfl
 case sU=>rfl
 case ya=>
  intro e v x _ c;cases e with
  |zero=>exact⟨c,Nat.one_pos⟩
  |succ e=>cases c
 case cell=>
  rintro f e v E rfl i j k
  match e with
  |0=>exact absurd (k W) (by decide)
  |1=>
   injection i with i
   subst i;refine⟨.nil,auK _,Nat.one_pos,λx p=>⟨0,some ([],0),Fk u a,.leaf (q:=xL) W (.inl W) (auK _),sN u a,xL,rfl,λ_=>⟨rfl,?_⟩,λc=>absurd c (by decide)⟩⟩;injection p with p;exact p.symm
  |e+2=>cases i
 case eq=>
  rintro f h q w rfl d r;obtain⟨rfl,rfl⟩:=Cu d;injection r with r
  subst r;exact⟨.df W eX W λ_=> .ga Nat.one_pos (.bin (.var (sN u a) Nat.one_pos) (.var (σ:=([],0)) (by kernel_rfl) Nat.one_pos)),Nat.one_pos⟩
 case lhs=>intro f h q c d g;rw[sM d]at g;exact absurd g (by decide)
 case nx=>intro _ _;exact avp _
 case vD=>intro f c;cases f with
  |nil=>exact absurd W c
  |cons _ _=>exact⟨W,W⟩
 case gh=>intro f h q d g;rw[sM d]at g;exact absurd g (by decide)
 case lh=>
  rintro f h q rfl d n s σ m _;obtain⟨rfl,rfl⟩:=Cu d;rw[auW.1 s,sN]at m;injection m with m;subst m;exact auK _
 case II=>
  intro l v i;cases l with
  |zero=>injection i with i;subst i;exact sN u a
  |succ l=>cases i
 case F_=>
  rintro f h q n rfl d _ j _;obtain⟨rfl,rfl⟩:=Cu d;injection j with j;subst j
  exact⟨([],1),MZ eX,0,sN u a,Fk u a,W,W,.leaf (q:=xL) W (.inl W) (auK _),λ_=>auK _⟩
 case IK=>
  rintro f h q rfl d n s;obtain⟨rfl,rfl⟩:=Cu d;rw[show n=eX from auW.1 s];exact⟨_,sN u a⟩
 case aj=>intro f h q _ d _;rw[sM d];rfl
 case rd=>exactλe _=>⟨λc=>absurd c o,λ_=>rfl⟩
 case rp=>exactλe _=>⟨λc=>absurd c o,λ_=>rfl⟩
 case rs=>exactλe _=>⟨λc=>absurd c o,λ_=>rfl⟩
 case nm=>
  intro e g;have g:e=0:=by have:e<1:=g;omega
  subst g;refine⟨?_,λc=>absurd (.inl ⟨[],0,xL,rfl,rfl,λ_=>⟨_,sN u a,rfl⟩,auW.2 W⟩) (c (jE 3 (u.mem 0) a))⟩;rintro v (⟨f,h,q,k,d,_,z⟩|⟨f,l,rfl,j,_⟩|⟨f,h,q,k,d,g,_⟩)
  ·have:=auW.1 z;injection this with _ c;exact c.symm
  ·match l with
   |0=>cases j
   |1=>cases j
   |l+2=>cases j
  ·rw[sM d]at g;exact absurd g (by decide)
 case np=>
  refineλe _=>⟨?_,λ_=>rfl⟩
  rintro v ⟨f,h,q,k,d,g,_⟩;rw[sM d]at g;exact absurd g (by decide)
 case ns=>
  refineλe _=>⟨?_,λ_=>rfl⟩
  rintro v ⟨f,h,q,k,d,g,_⟩;rw[sM d]at g;exact absurd g (by decide)
 case ui=>exact t.symm
 case wc=>
  rintro f e v rfl i k
  match e with
  |0=>exact absurd (k W) (by decide)
  |1=>exact⟨auW.2 W,by show 1<=2;omega,λ_ _ _ _ _ _ _ _=>auK 2⟩
  |e+2=>cases i
 case wq=>
  intro f h q _ d;rw[sM d];exact⟨λc=>absurd c (by decide),λc=>absurd c (by decide),λc=>absurd c (by decide)⟩
 case ws=>show 2+0<=1000000000000;omega
 case outs=>rfl
end Go.Sm
namespace Go.Proofs.Sz
open Go.Mt Go.Sm Go.Proofs
open Tryz
theorem xM{k op n:Int}{s:Nm}{p:Int×Int}(h:k≠9):jP (.mk k op n s [] [] p):= .mk (λe=>absurd e h) (avp _) (avp _) (λe a=>by cases a)
theorem M0:jP OX:=by
 refine .mk (λ_=>by simp) (by decide) (avp _) λe a=> ?_
 simp at a;rcases a with rfl|rfl
 ·exact xM (by decide)
 ·refine .mk (λb=>absurd b (by decide)) (by decide) (avp _) λe a=> ?_
  simp at a;rcases a with rfl|rfl<;>exact xM (by decide)
theorem Lw:lL Lu where
 e:=⟨avp _,λe he=>by cases he⟩
 n:=by decide
 d:=by
  intro d hd;rw[auW.1 hd];have h1: ∀q∈ [xL],q=xL:= λq hq=>auW.1 hq
  have h2:bP Jv.b=1:=by kernel_rfl
  refine⟨.mk (by decide) (by decide) ?_ ?_ ?_ ?_ ?_,by decide,by grind⟩
  ·intro q hq a ha;rw[h1 q hq]at ha;cases ha
  ·intro q hq;rw[h1 q hq];exact avp _
  ·intro q hq;rw[h1 q hq];exact⟨M0,avp _,λe he=>by cases he⟩
  ·intro q hq;rw[h1 q hq];show 1<=1000000;omega
  ·intro q hq a ha;rw[h1 q hq]at ha;cases ha
 i:=by
  intro d hd;rw[auW.1 hd];have:gg Jv.b=1:=by kernel_rfl
  exact⟨by decide,by omega⟩
theorem Oj:p6 Lu where
 d:=by
  intro d hd;rw[auW.1 hd];have h1: ∀q∈ [xL],q=xL:= λq hq=>auW.1 hq
  refine⟨.mk (λv hv=>by cases hv) ?_ ?_ ?_,?_,avp _⟩
  ·intro q hq;rw[h1 q hq];exact⟨.inl W,λ_=>rfl,λh=>absurd h (by decide)⟩
  ·intro q hq a ha;rw[h1 q hq]at ha;cases ha
  ·intro q hq a ha;rw[h1 q hq]at ha;cases ha
  ·grind
instance:bz prog 9:=cN (by kernel_rfl)
instance:bz prog 22:=cN (by kernel_rfl)
theorem Fm:PT prog 22 [] (·= [.agg Lu.cells]):=by
 refine PI (CT.ob func22 W ntmps22 W λa b=> ?_);refine tC [2,2,2,2,2,2] W<|TC.ret ⟨_,W,[_],W,W⟩
def OY:Nat->Int
 |0=>0
 |1=>1
 |2=>3
 |_=>6
theorem fN:PT prog 9 [] (·= [.bool true]):=by
 obtain⟨_,p,⟨k,c,rfl,f,z⟩,g⟩:=lk (n:=1) Lw (auK 1) ⟨#[102]⟩ 0 (by kernel_rfl) [];refine PI (CT.ob func9 W ntmps9 W λA B=> ?_);refine tO [2,2,12] W<|aE Fm W W<|tR [13] W<|aq g W W<|tL [2,0,2,2,3] W<|TC.lp (λi j=> ∃(a:Nat) (l:List (Nat×List M)) (e:Hp) (c:Nat->Prop) (b:US),j=⟨[nN 4 a,nD 3 (.sl [[.int .i32 0],[.int .i32 1],[.int .i32 3]]),nR 1 k],l,e⟩/\a<=3/\i=3-a/\iS Lu 1 b k c e/\b.i=0/\b.mem 0=OY a) 3 _
  ⟨0,_,p,c,_,rfl,by omega,rfl,f,rfl,by kernel_rfl⟩ W ?_
 rintro i j ⟨a,l,e,c,b,rfl,C,rfl,f,m,o⟩;refine tC [2] W<|TC.cond W (λg=> ?_) (λg=> ?_)
 ·have h:a=0\/a=1\/a=2:=by grind
  obtain⟨_,q,⟨rfl,s,x,E⟩,t⟩:=pD Lw Oj f (xs:=[IntKind.i32.wrap (((a:Nat):Int)+1)]) (d:=Jv) (by intro y u;rw[auW.1 u];unfold lG;rcases h with rfl|rfl|rfl<;>decide) (by rw[m];rfl) W (Lv b m _);have v:([[.int .i32 0],[.int .i32 1],[.int .i32 3]]:List (List D))[((a:Nat):Int).toNat]?=some [.int .i32 (b.mem 0)]:=by rw[o];rcases h with rfl|rfl|rfl<;>rfl
  have w:(b.mem 0 !=b.mem 0)=false:=by simp
  refine tO [3,2,26] W<|az W W W (by omega)<|tR [29] W<|aq t W W<|tL [] W<|TC.draw bN<|fR 9 W ?_
  first|refine aX W W W W ?_|refine aY W W W ?_|(refine aR W W ?_;(refine a_ W W W (awT 0) W W ?_))
  refine fR 3 W ?_
  first|refine aX W W W W ?_|refine aY W W W ?_|(refine aR W W ?_;(refine a_ W W W (auJ a) v W ?_))
  refine fR 1 W ?_
  first|refine aX W W W W ?_|refine aY W W W ?_|(refine aR W W ?_;(refine kq W W W (r:= .bool false) (by show some (D.bool (_ !=_))=_;rw[w]) ?_))
  refine fR 1 W<|TF.nil ⟨by kernel_rfl,?_⟩;refine tO [0,2,22] W<|az W W W (by omega)<|tL [] W<|again (k':=3-(a+1)) (by omega) ⟨a+1,_,q,s,_,rfl,by omega,rfl,x,rfl,by show jE 3 (b.mem 0) _=_;rw[o];rcases h with rfl|rfl|rfl<;>decide⟩ W W
 ·refine TC.exit<|tC [2] W<|TC.ret ⟨_,W,[_],W,W⟩
def gU(F G:Nat->Prop):Prop:= ∀a,F a-> ¬G a
theorem dS{P:Pg}{n:Nat}{u:US}{c:Nat}{F f a:Nat->Prop}{H K:Hp}(h:iS P n u c a H)(d:Gv F H f K)(g:gU a F):iS P n u c a K:=
 h.frame (λb e=>d.o b (h.lt b e) (g b e)) d.len
theorem cP{P:Pg}{n:Nat}{u:US}{f:Nat}{F c a:Nat->Prop}{H K:Hp}(h:iS P n u f a H)(g:Gv F H c K)(i:gU a F):gU a c:= λb d j=>by
 rcases g.f b j with e|e
 ·exact i b d e
 ·have:=h.lt b d;omega
theorem gU.symm{F a:Nat->Prop}(h:gU F a):gU a F:= λb c d=>h b d c
theorem j5{x:Int}(h:(Lit.int .i32 x).wf=true):lG x:=by
 have a:IntKind.i32.min<=x/\x<=IntKind.i32.max:=by simpa [Lit.wf] using h
 have b:IntKind.i32.min= -2147483648:=by decide
 have c:IntKind.i32.max=2147483647:=by decide
 rw[b,c]at a;exact a
section
open Go.Mk Go.Ex
variable{l:List Mk.Nd}(hP:GP l)
include hP
theorem Fo{n k:Nat}(j:k<n){u:US}(e:jt l n k u){x b:Int}(f:lG x)(c:b=0\/b=1): ∃(o:List Int) (u':US),o.length=2/\jt l n k u'/\ ∀(a:Nat) (F:Nat->Prop) (H:Hp),iS (dG l) n u a F H->
  DT prog 15 [.ref a 0,.d (.sl (bF [x,b]))] H λm K=>m= .dq [.d (.sl (bF o)),.d (.int .i64 0)]/\ ∃g,iS (dG l) n u' a g K/\Gv F H g K:=by
 obtain⟨p,q,u',r,E,G,s⟩:=H8 hP n k j u e x b f c;cases n with
 |zero=>omega
 |succ n=>
 obtain⟨d,h,t,_⟩:=e;obtain⟨v,w⟩:=AO hP;have y:(dG l).nodes[u.i]?=some (cC d):=by show(l.map cC)[u.i]?=_;rw[t,au6,h];rfl
 have z:ir (dG l).aJ (cC d).ins [x,b]=true:=by
  show ir [Am] (d.ins.map ey) [x,b]=true;rw[(hP.2.2 k d h).2.1];have A:lF 1 2 b=true:=by rcases c with rfl|rfl<;>rfl
  have B:lF 2 0 x=true:=rfl;show(lF 2 0 x&&(lF 1 2 b&&true))=true;rw[A,B];rfl
 refine⟨[p,q],u',W,s,λa F H C=>pD v w C (λD i=> ?_) y z r⟩;simp at i;rcases i with rfl|rfl
 ·exact f
 ·unfold lG;rcases c with rfl|rfl<;>omega
end
theorem jn(x:Int):nr x=0\/nr x=1:=by unfold nr;split<;>simp
theorem nW{l:List (List Int)}{i:Nat}{r:List Int}(h:l[i]?=some r):(iV l)[((i:Nat):Int).toNat]?=some [.sl (bF r)]:=by
 unfold iV;simp[h]
theorem nX{a:List Int}{i:Nat}(h:i<(cJ a).length): ∃x∈a,(cJ a)[i]?=some [x,nr x]:=by
 have b:i<(a.take 20).length:=by simpa [cJ] using h
 refine⟨(a.take 20)[i],av8 (avb b),?_⟩;unfold cJ;rw[au6,auO b];rfl
theorem made{l:List Mk.Nd}(a:Mk.GP l): ∃(x:Nm) (d:Nd),d.name=x/\(Go.Ex.dG l).nodes[l.length-1]?=some d/\lL (Go.Ex.dG l)/\p6 (Go.Ex.dG l)/\1<=l.length/\l.length<=1000/\
  PT prog 12 [.agg (Go.Ex.dG l).cells] (·= [.str x])/\cZ (Go.Ex.dG l).nodes x=some (l.length-1)/\Go.Ex.jt l l.length (l.length-1) (US.init (Go.Ex.dG l) (l.length-1)):=by
 obtain⟨c,g,e⟩:=a;have a:Mk.GP l:=⟨c,g,e⟩;obtain⟨h,i⟩:=Go.Ex.AO a;have f:l.length-1<l.length:=by omega
 have b:=auO f;generalize l[l.length-1]=d at b;have j:(Go.Ex.dG l).nodes.length=l.length:=by show(l.map Go.Ex.cC).length=_;simp
 have k:(Go.Ex.dG l).nodes[(Go.Ex.dG l).nodes.length-1]?=some (Go.Ex.cC d):=by rw[j];show(l.map Go.Ex.cC)[_]?=_;rw[au6,b];rfl
 refine⟨(Go.Ex.cC d).name,Go.Ex.cC d,W,by grind,h,i,c,by omega,Ct (Go.Ex.dG l) (Go.Ex.cC d) (by grind) k,?_,?_⟩
 ·rw[show(Go.Ex.cC d).name=Mk.nm 102 (l.length-1)from(e _ d b).1];exact Go.Ex.AW a f
 ·have:=Go.Ex.AX a (n:=l.length-1) b;rw[show l.length-1+1=l.length by omega]at this;exact this
theorem qb{l:List Mk.Nd}{n k:Nat}{u:US}(b:k<n)(h:Go.Ex.jt l n k u):u.i=k:=by
 cases n with
 |zero=>omega
 |succ n=>obtain⟨d,c,a,_⟩:=h;exact a
instance:bz prog 18:=cN (by kernel_rfl)
instance:bz prog 29:=cN (by kernel_rfl)
instance:bz prog 30:=cN (by kernel_rfl)
theorem G6(en:D)(x:D):PT prog 30 [en,.agg [.int .u8 1,x]] (·= [.sl [[.str ⟨"false".toUTF8.data⟩],[.str ⟨"true".toUTF8.data⟩]]]):=by
 refine PI (CT.ob func30 W ntmps30 W λa b=> ?_);refine tC [2,2,1,2] W<|TC.ret ⟨_,W,[_],W,W⟩
theorem Jw{P:Pg}{x:Nm}{k:Nat}(h:cZ P.nodes x=some k)(r:P.nodes.length<=1000):PT prog 29 [.agg P.cells,.str x] (·= [iN k]):=by
 unfold cZ at h;obtain⟨s,w,i⟩:=avq.1 h;have i: ∀(b:Nat) (o:b<k),P.nodes[b].name≠x:= λb o f=>by grind
 refine PI (CT.ob func29 W ntmps29 W λt u=> ?_);refine tC [2,2,3] W<|TC.lp (λm g=> ∃(a:Nat) (j:List (Nat×List M)),g=⟨[nN 5 a,nD 2 (.bm P.cells 0),nD 1 (.str x)],j,[]⟩/\a<=k/\m=k-a) k _
  ⟨0,_,rfl,by omega,rfl⟩ W ?_
 rintro m g ⟨a,j,rfl,v,rfl⟩;have p:a<P.nodes.length:=by omega
 have c:(P.nodes.map Nd.cells)[((a:Nat):Int).toNat]?=some P.nodes[a].cells:=by simp[p]
 have q:a<k->P.nodes[a].name≠x:= λf=>i a f
 have n:a=k->P.nodes[a].name=x:=by grind
 generalize P.nodes[a]=d at c q n;rw[Nd.aC]at c;refine tO [2,14] W<|aQ (au5 (by simp;omega)) W W W W<|tR [1,3,2,20] W<|aG W W W (auJ a) c W<|tL [] W<|TC.cond W (λl=> ?_) (λl=> ?_)
 ·have e:a=k:=by
   grind
  subst e;refine tC [2] W<|TC.ret ⟨_,W,[_],W,W⟩
 ·have e:a≠k:= λe=>au9 l (n e)
  refine tO [2,16] W<|az W W W (by omega)<|tL [] W<|again (k':=k-(a+1)) (by omega) ⟨a+1,_,rfl,by omega,rfl⟩ W W
def qE:List Int->Bool
 | [_,b]=>b==0||b==1
 |_=>false
theorem Lx{xs:List Int}(h:xs.length≠2):qE xs=false:=by
 match xs with
 | []=>rfl
 | [_]=>rfl
 | [a,b]=>exact absurd W h
 |_::_::_::_=>rfl
theorem DG{en:List En}{a c:Va}(d:a.tk=2)(e:c.tk=1)(xs:List Int):ir en [a,c] xs=qE xs:=by
 match xs with
 | []=>rfl
 | [_]=>simp[ir,qE]
 | [f,b]=>simp[ir,lF,d,e,qE]
 |_::_::_::_=>simp[ir,qE]
theorem Jx{P:Pg}{x:Nm}{k:Nat}{d:Nd}{f e:Va}(B:cZ P.nodes x=some k)(C:P.nodes.length<=1000)(E:P.nodes[k]?=some d)(hi:d.ins= [f,e])(F:f.tk=2)(G:e.tk=1)(xs:List Int)(v:D)(H:kJ .i32 xs v)(I: ∀x∈xs,lG x):
  PT prog 18 [.agg P.cells,.str x,v] (·= [.bool (qE xs)]):=by
 have g:(P.nodes.map Nd.cells)[((k:Nat):Int).toNat]?=some d.cells:=by simp[E]
 rw[Nd.aC,hi]at g;obtain⟨L,J,_⟩:=H;refine PI (CT.ob func18 W ntmps18 W λN O=> ?_);refine tO [2,2,16] W<|aE (Jw B C) W W<|tL [] W ?_;by_cases z:xs.length=2;rotate_left
 ·have K:(((2:Nat):Int) !=((xs.length:Nat):Int))=true:=by simp;omega
  rw[Lx z];refine tO [2,18] W<|aQ (avc (by omega)) W W W W<|tR [23] W ?_
  first|refine ax W W ?_|(refine av W ?_;(refine aG W W W (auJ k) g W ?_))
  refine tR [28] W ?_
  first|refine ax W W ?_|(refine av W ?_;(refine bp W W L ?_))
  refine tR [29] W ?_
  first|refine ax W W ?_|(refine av W ?_;(refine aQ K W W W W ?_))
  refine tL [1,2] W<|TC.ret ⟨_,W,[_],W,W⟩
 match xs,z with
 | [c,b],_=>
 obtain rfl:v= .sl (bF [c,b]):=by rcases J with l|l;cases l;exact l
 have A:=I b (by simp);refine tO [2,18] W<|aQ (avc (by omega)) W W W W<|tR [23] W ?_
 first|refine ax W W ?_|(refine av W ?_;(refine aG W W W (auJ k) g W ?_))
 refine tL [0,2,3] W<|TC.lp (λm q=> ∃(a:Nat) (s:List (Nat×List M)),q=⟨[nN 8 a,nN 7 k,nD 3 (.bm P.cells 0),nD 2 (.sl (bF [c,b]))],s,[]⟩/\a<=2/\m=2-a/\(a=2->(b==0||b==1)=true)) 2 _
  ⟨0,_,rfl,by omega,rfl,by omega⟩ W ?_
 rintro m q ⟨a,s,rfl,hi,rfl,o⟩;have t:(aI [f,e])[((0:Nat):Int).toNat]?=some f.cells:=rfl;have u:(aI [f,e])[((1:Nat):Int).toNat]?=some e.cells:=rfl;have h:(bF [c,b])[((1:Nat):Int).toNat]?=some [.int .i32 b]:=rfl;rw[Va.aC,F]at t;rw[Va.aC,G]at u;obtain rfl|rfl|rfl:a=0\/a=1\/a=2:=by omega
 ·refine tO [2,1,3,2,40] W<|aG W W W (auJ k) g W<|tR [44] W<|aG W W W (auJ 0) t W<|tL [] W<|tF W W<|tO [0,2,36] W<|az W W W (by omega)<|tL [] W<|again (k':=1) (by omega) ⟨1,_,rfl,by omega,rfl,by omega⟩ W W
 ·refine tO [2,1,3,2,40] W<|aG W W W (auJ k) g W<|tR [44] W<|aG W W W (auJ 1) u W<|tL [] W ?_;have w:=G6 (.sl (P.aJ.map En.cells)) (.str e.tn);by_cases y:b<0
  ·have i:qE [c,b]=false:=by simp[qE];omega
   have j:=au5 y;rw[i];refine tC [] W<|TC.draw bN<|fR 6 W ?_
   first|refine aX W W W W ?_|refine aY W W W ?_|(refine aR W W ?_;(refine a_ W W W (auJ 1) h W ?_))
   refine fR 1 W ?_
   first|refine aX W W W W ?_|refine aY W W W ?_|(refine aR W W ?_;(refine kq W W W (r:= .bool true) (by show some (D.bool (decide _))=_;rw[j]) ?_))
   refine fR 14 W<|TF.nil ⟨by kernel_rfl,?_⟩;refine tC [1,2] W<|TC.ret ⟨_,W,[_],W,W⟩
  have j:=avc y;by_cases Q:b>=2
  ·have i:qE [c,b]=false:=by simp[qE];omega
   have p:decide (IntKind.i64.wrap b>=((2:Nat):Int))=true:=by rw[yC A];exact au5 (by omega)
   rw[i];refine tC [] W<|TC.draw bN<|fR 6 W ?_
   first|refine aX W W W W ?_|refine aY W W W ?_|(refine aR W W ?_;(refine a_ W W W (auJ 1) h W ?_))
   refine fR 1 W ?_
   first|refine aX W W W W ?_|refine aY W W W ?_|(refine aR W W ?_;(refine kq W W W (r:= .bool false) (by show some (D.bool (decide _))=_;rw[j]) ?_))
   refine fR 3 W ?_
   first|refine aX W W W W ?_|refine aY W W W ?_|(refine aR W W ?_;(refine a_ W W W (auJ 1) h W ?_))
   refine fR 5 W ?_
   first|refine aX W W W W ?_|refine aY W W W ?_|(refine aR W W ?_;(refine aW w W W ?_))
   refine fR 1 W ?_
   first|refine aX W W W W ?_|refine aY W W W ?_|(refine aR W W ?_;(refine kq W W W (r:= .bool true) (by show some (D.bool (decide _))=_;exact av3 (λn=>some (D.bool n)) p) ?_))
   refine fR 2 W<|TF.nil ⟨by kernel_rfl,?_⟩;refine tC [1,2] W<|TC.ret ⟨_,W,[_],W,W⟩
  have o:(b==0||b==1)=true:=by simp;omega
  have p:decide (IntKind.i64.wrap b>=((2:Nat):Int))=false:=by rw[yC A];exact avc (by omega)
  refine tC [] W<|TC.draw bN<|fR 6 W ?_
  first|refine aX W W W W ?_|refine aY W W W ?_|(refine aR W W ?_;(refine a_ W W W (auJ 1) h W ?_))
  refine fR 1 W ?_
  first|refine aX W W W W ?_|refine aY W W W ?_|(refine aR W W ?_;(refine kq W W W (r:= .bool false) (by show some (D.bool (decide _))=_;rw[j]) ?_))
  refine fR 3 W ?_
  first|refine aX W W W W ?_|refine aY W W W ?_|(refine aR W W ?_;(refine a_ W W W (auJ 1) h W ?_))
  refine fR 5 W ?_
  first|refine aX W W W W ?_|refine aY W W W ?_|(refine aR W W ?_;(refine aW w W W ?_))
  refine fR 1 W ?_
  first|refine aX W W W W ?_|refine aY W W W ?_|(refine aR W W ?_;(refine kq W W W (r:= .bool false) (by show some (D.bool (decide _))=_;exact av3 (λn=>some (D.bool n)) p) ?_))
  refine fR 2 W<|TF.nil ⟨by kernel_rfl,?_⟩;refine tO [0,2,36] W<|az W W W (by omega)<|tL [] W<|again (k':=0) (by omega) ⟨2,_,rfl,by omega,rfl,λ_=>o⟩ W W
 ·refine tC [2,0] W ?_;have i:qE [c,b]=true:=o W;rw[i];refine TC.exit<|tC [2] W<|TC.ret ⟨_,W,[_],W,W⟩
theorem G7{P:Pg}{d:Nd}{v:D}(a:lB v=some 0)(c:d.ins.length≠0):PT prog 19 [.agg P.cells,.agg d.cells,v] (·= [.int .i64 7]):=by
 have b:(((0:Nat):Int) !=(((aI d.ins).length:Nat):Int))=true:=by simp[aI];omega
 rw[Nd.aC];refine PI (CT.ob func19 W ntmps19 W λe f=> ?_);refine tO [2,2,14] W<|bp W W a<|tR [18] W<|aQ b W W W W<|tL [1,2] W<|TC.ret ⟨_,W,[_],W,W⟩
theorem G8{P:Pg}{d:Nd}{b c:Va}(h:qw P.aJ)(hi:d.ins= [b,c])(i:b.tk=2)(j:c.tk=1)(xs:List Int)(v:D)(e:kJ .i32 xs v)(k: ∀a∈xs,lG a):
  PT prog 19 [.agg P.cells,.agg d.cells,v] (·= [.int .i64 (if qE xs then 0 else 7)]):=by
 have l:d.ins.length=2:=by rw[hi];rfl
 match xs with
 | []=>exact G7 e.1 (by omega)
 |a::f=>
  rcases e.2.1 with g|rfl
  ·cases g
  ·have:=BY h d (by omega) (a::f) k;rw[hi,DG i j]at this;exact this
theorem Fp{P:Pg}{n:Nat}{u:US}{H:Hp}{c:Nat}{F:Nat->Prop}(g:iS P n u c F H){d:Nd}(h:P.nodes[u.i]?=some d){v:D}(e:PT prog 19 [.agg P.cells,.agg d.cells,v] (·= [.int .i64 7])):
  DT prog 15 [.ref c 0,.d v] H λm K=>m= .dq [.d (.sl []),.d (.int .i64 7)]/\K=H:=by
 obtain⟨k,j,b,i,l,o⟩:=g.iu;obtain⟨p,q,r,s,a,f⟩:=vK i;rw[h]at a;injection a with a
 subst a;rw[Nd.aC]at e;refine DT.ob func15 W ntmps15 W<|dO [2,2,14] W<|Po (kS (by kernel_rfl) W W W W W)<|dR [19] W ?_
 first|refine Po (ax W W) ?_|(refine Po (av W) ?_;refine Po (aA W W b W) ?_)
 refine dR [20] W ?_
 first|refine Po (ax W W) ?_|(refine Po (av W) ?_;refine Po (kS (by kernel_rfl) W W W W W) ?_)
 refine dL [0] W ?_;apply Ps bN
 ·intro t w;refine fR 3 W<|ay W W b W<|fR 2 W<|eQ W W f W W<|fR 3 W<|ay W W b W<|fR 2 W<|eQ W W f W W<|fR 1 W<|aW e W W<|fR 1 W<|TF.nil ⟨by kernel_rfl,rfl⟩
 refine dC [2,1,2] W<|DC.ret ⟨_,W,W,W⟩
theorem xN{l:List Mk.Nd}(f:Mk.GP l){k:Nat}{d:Nd}(g:(Go.Ex.dG l).nodes[k]?=some d): ∃a b,d.ins= [a,b]/\a.tk=2/\b.tk=1:=by
 have c:(l.map Go.Ex.cC)[k]?=some d:=g;rw[au6,avv]at c;obtain⟨e,h,rfl⟩:=c;refine⟨Go.Ex.ey Mk.aV,Go.Ex.ey Mk.bV,?_,W,W⟩;show e.ins.map Go.Ex.ey=_;rw[(f.2.2 k e h).2.1];rfl
theorem AZ(l:List Mk.Nd):Mk.eL l=(Go.Ex.dG l).nodes.map Nd.cells:=by
 have b:=(Go.Ex.jS l);injection b with _ a
 injection a with a _
 injection a with a
 exact a.symm
theorem yu(G:List Int)(v:D)(B:kJ .u8 G v)(xs:List Int)(x:D)(C:kJ .i32 xs x)(m:List (List Int))(y:D)(p:OW .i32 m y):PT prog 4 [v,x,y] (·= [.bool true]):=by
 refine PI (CT.ob func4 W ntmps4 W λs0 Oo=> ?_);refine tC [2] W ?_;rcases auM 400 G.length with h1|h1
 ·refine tO [2,26] W<|aE fN W W<|tR [30] W ?_
  first|refine ax W W ?_|(refine av W ?_;(refine bp W W B.1 ?_))
  refine tR [31] W ?_
  first|refine ax W W ?_|(refine av W ?_;(refine dY W W W (r:= .bool true) (by show some (D.bool (decide _))=_;rw[au5 (by omega)]) ?_))
  refine tR [1,2,38] W<|aE fN W W<|tL [] W<|TC.ret ⟨_,W,_,W,W⟩
 rcases auM 20 m.length with h2|h2
 ·refine tO [2,26] W<|aE fN W W<|tR [30] W ?_
  first|refine ax W W ?_|(refine av W ?_;(refine bp W W B.1 ?_))
  refine tR [31] W ?_
  first|refine ax W W ?_|(refine av W ?_;(refine dY W W W (r:= .bool false) (by show some (D.bool (decide _))=_;rw[avc (by omega)]) ?_))
  refine tR [35] W ?_
  first|refine ax W W ?_|(refine av W ?_;(refine bp W W p.1 ?_))
  refine tR [36] W ?_
  first|refine ax W W ?_|(refine av W ?_;(refine dY W W W (r:= .bool true) (by show some (D.bool (decide _))=_;rw[au5 (by omega)]) ?_))
  refine tR [1,2,38] W<|aE fN W W<|tL [] W<|TC.ret ⟨_,W,_,W,W⟩
 refine tO [2,26] W<|aE fN W W<|tR [30] W ?_
 first|refine ax W W ?_|(refine av W ?_;(refine bp W W B.1 ?_))
 refine tR [31] W ?_
 first|refine ax W W ?_|(refine av W ?_;(refine dY W W W (r:= .bool false) (by show some (D.bool (decide _))=_;rw[avc (by omega)]) ?_))
 refine tR [35] W ?_
 first|refine ax W W ?_|(refine av W ?_;(refine bp W W p.1 ?_))
 refine tR [36] W ?_
 first|refine ax W W ?_|(refine av W ?_;(refine dY W W W (r:= .bool false) (by show some (D.bool (decide _))=_;rw[avc (by omega)]) ?_))
 refine tR [0,2,40] W<|pK (Sy (ue G v ⟨B,by omega⟩)) W W ?_;rintro _ _ ⟨⟨_,rfl,b,rfl,H⟩,rfl⟩;refine tL [] W ?_;obtain⟨I,d,TJ,J,K,wf,S3,gc,SW,L,WJ⟩:=made H;have M:=Go.Ex.jS b;rw[M]at SW;obtain⟨_,N,⟨O,c,rfl,q,P⟩,PR⟩:=lk (n:=b.length) K S3 I (b.length-1) L [];obtain⟨_,s,⟨Q,i,rfl,E,t⟩,PX⟩:=lk (n:=b.length) K S3 I (b.length-1) L N;rw[M]at PR PX;have PU: ∀ac:Nat->Prop,gU ac (λ_=>False):= λac f9 _ F=>F
 refine tO [2,42] W<|aE SW W W<|tR [2,46] W<|aq PR W W<|tR [2,52] W<|aq PX W W<|tR [2,56] W<|aE (mA xs x C) W W<|tL [2,3] W ?_;have P0: ∀g:List (List Int),(iV g).length=g.length:= λg=>by simp[iV]
 have Zo: ∀g:List Int,(cJ g).length<=20:= λg=>by simp[cJ];omega
 have ge:=Zo xs;refine TC.lp (λk ah=> ∃(a:Nat) (o:Hp) (c i:Nat->Prop) (z:US),ah=⟨[nN 14 a,nD 13 (.sl (iV (cJ xs))),nR 11 Q,nR 9 O,nD 8 (.str I),(7,.loc 7 0),nM 2 (.d y)],[(7,[.d (.sl [Mk.nq]),.d (.sl (Mk.eL b))]),(7,[.d (.sl []),.d (.sl [])])],o⟩/\a<=(cJ xs).length/\k=(cJ xs).length-a/\
   iS (Go.Ex.dG b) b.length z O c o/\iS (Go.Ex.dG b) b.length z Q i o/\gU c i/\Go.Ex.jt b b.length (b.length-1) z) (cJ xs).length _
  ⟨0,s,c,i,_,rfl,by omega,rfl,(dS q t (PU c)),E,(cP q t (PU c)),WJ⟩ W ?_
 rintro k ah ⟨a,o,c,i,z,rfl,hi,rfl,q,E,Xq,hG⟩;refine tC [2] W<|TC.cond W (λhc=> ?_) (λhc=> ?_)
 ·have PP:a<(cJ xs).length:=by have:=auV hc;rw[P0]at this;omega
  obtain⟨x0,Vz,WI⟩:=nX PP;obtain⟨A,R,ho,S,Ra⟩:=Fo H (k:=b.length-1) (n:=b.length) (by omega) hG (j5 (C.2.2 x0 Vz)) (jn x0);have j:=nW WI;obtain⟨_,N,⟨rfl,T,SY,P⟩,U⟩:=Ra O c o q;have TM:=(cP E P Xq.symm).symm;obtain⟨_,s,⟨rfl,V,X,t⟩,Y⟩:=Ra Q i N (dS E P Xq.symm);have Z:=dS SY t TM;have V5:=cP SY t TM;have QG:PT prog 16 [.sl (bF A),.sl (bF A)] (·= [.bool true]):=by have:=rK A A (by omega);simpa using this
  have UK:=qb (by omega) hG;refine tC [3] W ?_;rcases auM a m.length with co|co
  rotate_left
  ·have QR:decide (((a:Nat):Int)<((m.length:Nat):Int))=false:=avc (by omega);refine tO [2,65] W<|bp W W p.1<|tR [66] W<|aQ QR W W W W<|tR [0,2,119] W<|aG W W W (auJ a) j W<|tR [121] W<|aq U W W<|tR [2,128] W<|aG W W W (auJ a) j W<|tR [130] W<|aq Y W W<|tR [2,135] W<|aE QG W W<|tR [0,2,62] W<|az W W W (by omega)<|tL [] W<|again (k':=(cJ xs).length-(a+1)) (by omega) ⟨a+1,s,T,V,R,rfl,by omega,rfl,Z,X,V5,S⟩ W W
  obtain⟨i6,dz,rfl,f,l⟩:=p.2 a m[a] (auO co);generalize m[a]=h at l;have d6: ∀x∈h,lG x:= λx C=>j5 (l.2.2 x C)
  refine tO [2,65] W<|bp W W p.1<|tR [66] W<|aQ (au5 (by omega)) W W W W<|tL [1] W ?_;rcases auM 100 h.length with d7|d7
  ·refine tO [2,69] W<|aG W W W (auJ a) f W<|tR [71] W<|bp W W l.1<|tR [72] W<|dY W W W (r:= .bool true) (by show some (D.bool (decide _))=_;rw[au5 (by omega)])<|tL [1,2] W<|TC.ret ⟨_,rfl,_,rfl,rfl⟩
  obtain⟨v1,v2,T_,Qw,S4⟩:=xN H J;have u:=Jx L (by rw[show(Go.Ex.dG b).nodes.length=b.length by show(b.map Go.Ex.cC).length=_;simp];omega) J T_ Qw S4 h dz l d6;have e:=G8 K.e T_ Qw S4 h dz l d6;have w:(Mk.eL b).length=b.length:=by simp[Mk.eL]
  have TO:(Mk.eL b)[((((Mk.eL b).length:Nat):Int)-1).toNat]?=some d.cells:=by
   rw[show((((Mk.eL b).length:Nat):Int)-1).toNat=b.length-1 by rw[w];omega,AZ,au6,J];rfl
  have d8:= λ(F:qE h=false)=>Fp (v:=dz) q (d:=d) (by grind) (by rw[F]at e;exact e)
  rw[M]at u e;rw[Nd.aC]at TO e;refine tO [2,69] W<|aG W W W (auJ a) f W<|tR [71] W<|bp W W l.1<|tR [72] W<|dY W W W (r:= .bool false) (by show some (D.bool (decide _))=_;rw[avc (by omega)])<|tL [0] W ?_;cases hf:qE h with
  |true=>
   rw[hf]at u e;refine tC [] W<|TC.draw bN<|fR 4 W<|a_ W W W (auJ a) f W<|fR 1 W<|aW u W W<|fR 1 W<|TF.nil ⟨by kernel_rfl,?_⟩;refine tC [] W<|TC.draw bN<|fR 6 W<|fT W W W (by rw[w];omega)<|a_ W W W (by rw[w];omega) TO W<|fR 3 W<|a_ W W W (auJ a) f W<|fR 1 W<|aW e W W<|fR 2 W<|JS W W W<|TF.nil ⟨by kernel_rfl,?_⟩;refine tO [0,2,0,2,119] W<|aG W W W (auJ a) j W<|tR [121] W<|aq U W W<|tR [2,128] W<|aG W W W (auJ a) j W<|tR [130] W<|aq Y W W<|tR [2,135] W<|aE QG W W<|tR [0,2,62] W<|az W W W (by omega)<|tL [] W<|again (k':=(cJ xs).length-(a+1)) (by omega) ⟨a+1,s,T,V,R,rfl,by omega,rfl,Z,X,V5,S⟩ W W
  |false=>
   rw[hf]at u e;obtain⟨_,_,⟨rfl,rfl⟩,d9⟩:=d8 hf;refine tC [] W<|TC.draw bN<|fR 4 W<|a_ W W W (auJ a) f W<|fR 1 W<|aW u W W<|fR 1 W<|TF.nil ⟨by kernel_rfl,?_⟩;refine tC [] W<|TC.draw bN<|fR 6 W<|fT W W W (by rw[w];omega)<|a_ W W W (by rw[w];omega) TO W<|fR 3 W<|a_ W W W (auJ a) f W<|fR 1 W<|aW e W W<|fR 2 W<|JS W W W<|TF.nil ⟨by kernel_rfl,?_⟩;refine tO [0,2,1,2,103] W<|aG W W W (auJ a) f W<|tR [105] W<|aq d9 W W<|tR [2,0,2,119] W<|aG W W W (auJ a) j W<|tR [121] W<|aq U W W<|tR [2,128] W<|aG W W W (auJ a) j W<|tR [130] W<|aq Y W W<|tR [2,135] W<|aE QG W W<|tR [0,2,62] W<|az W W W (by omega)<|tL [] W<|again (k':=(cJ xs).length-(a+1)) (by omega) ⟨a+1,s,T,V,R,rfl,by omega,rfl,Z,X,V5,S⟩ W W
 ·refine TC.exit<|tC [2] W<|TC.ret ⟨_,W,[_],W,W⟩
end Go.Proofs.Sz
