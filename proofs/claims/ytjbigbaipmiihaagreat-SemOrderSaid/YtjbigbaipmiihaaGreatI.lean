/- A part of the proof of the last text of this claim, without conditions. -/
import Derived.Test.YtjbigbaipmiihaaGreatH
set_option maxRecDepth 4000
set_option linter.all false
namespace Go.Mt
variable{P:Program}{H:Hp}{n:Nat}
theorem DT.drop{f:Nat}{ms:List M}{post:M->Hp->Prop}(n:Nat)(c:H.length<=n)
  (h:DT P f ms H λr K=>n<=K.length/\MB n r/\HB n (K.take n)/\post r (K.take n)):DT P f ms H post:=by
 obtain⟨r,K,⟨i,j,l,d⟩,e⟩:=h;exact⟨r,K.take n,d,CT.drop n c (post:= λa k=>a=r/\k=K.take n) (e.mono λa k ⟨g,b⟩=>by grind)⟩
def JP(n:Nat)(rs:List (List D)):Hp:=match rs with
 |[]=>[]
 |q::r=>[.row true n r.length (aY (q::r))]
def DM(H0:Hp)(n:Nat)(rs:List (List D)):dK H0 n rs=H0++JP n rs:=by cases rs<;>simp[dK,JP]
def xJ{B:Nat}{I:Nat->St->Prop}{k k':Nat}{sl O5:List (Nat×V)}{bx Po:List (Nat×List M)}{H':Hp}(a:k'<k)(b:I k' ⟨O5,Po,H'⟩)(f:∀t,get Po t=get bx t)(c:H=H')(d:keeps sl O5):yH P n B I k ⟨sl,bx,H⟩:=
 ⟨k',_,a,b,λ_ _ _ _ _ e=>by subst c;exact e.oh (ir d) f⟩
section
variable{X:bW}{ops:Array Oper}{rest:List Oper}{sl:List (Nat×V)}{bx:List (Nat×List M)}{OZ:List Ef->St->Prop}{d ty:Nat}{pos:String}{af:Array Edge}
theorem nr{T e a:Nat}{x y:Operand}{H0:Hp}{rs:List (List D)}{r:List D}{z:D}[ht:aU X.P T e][j:bY X.P e n][l:jR X.P e a][m:gN X.P e z](b:Nat.blt d X.n=true)
  (c:bh sl x=some (.m (gw H0.length rs))) (f:bh sl y=some (.m (.d (.sl [r])))) (h:Nat.blt 0 n=true) (g:(bg z).length=n) (o:r.length=n) (p:(rs.length+1)*a<=140737488355328) (s:rs.length+1<=140737488355328)
  (k:TF X ops rest ⟨(d,.m (gw H0.length (rs++[r])))::sl,bx,dK H0 n (rs++[r])⟩ λa b=>OZ (⟨some d,.m (gw H0.length (rs++[r])),[],[],none,true,some (dK H0 n (rs++[r]))⟩::a) b):
  TF X ops (⟨some d,.call ⟨.builtin .append,#[x,y],#[T,T]⟩,ty,pos,af,none⟩::rest) ⟨sl,bx,dK H0 n rs⟩ OZ:=by
 cases rs with
 |nil=>exact yy true b c f h g (by simp) (by grind) (by grind) k
 |cons q rs=>
  refine yz (acc:=true) (cs:=aY (q::rs)) b c f (by simp[dK]) g (by grind) (by grind) (by grind) ?_;have e:(dK H0 n (q::rs)).set H0.length (.row true n (rs.length+1) (aY (q::rs)++aY [r]))=dK H0 n (q::rs++[r]):=by simp[dK,aY]
  have i:M.bC H0.length (rs.length+1) (rs.length+1+1)=gw H0.length (q::rs++[r]):=by simp[gw]
  rw[<-e,<-i]at k;exact k
end
end Go.Mt
namespace Go.Proofs
open Go.Mt Go.Mk
open Tryz
def eE{P:Program}{f:Nat}{ms:List M}{v:D}{a:Nat}{c:Bool}{g g':GS}{r:M}(h:(ms.all (BU 2))=true)(i:CT P f ms (GH v a c g) λr' d=>r'=r/\d=GH v a c g')(n:Nat)(rs:List (List D)):
  CT P f ms (dK (GH v a c g) n rs) λr' d=>r'=r/\d=dK (GH v a c g') n rs:=by
 rw[DM,DM];refine(CT.suffix (JP n rs) (H:=GH v a c g) (pz v a c g) (λm a=>jx (atC.1 h m a)) (i.mono λr' d ⟨e,b⟩=>(⟨by rw[b];rfl,e,b⟩:d.length=(GH v a c g).length/\(r'=r/\d=GH v a c g')))).mono ?_;rintro r' k ⟨j,rfl,_,rfl,rfl⟩;exact⟨W,W⟩
def nt(v:D)(a:Nat)(b:Bool)(g:GS)(n:Nat)(rs:List (List D)):2<=(dK (GH v a b g) n rs).length/\HB 2 ((dK (GH v a b g) n rs).take 2)/\(dK (GH v a b g) n rs).take 2=GH v a b g:=by
 have c:=EV (GH v a b g) n rs;exact⟨(Ho (GH v a b g) n rs),by rw[show(2:Nat)=(GH v a b g).length from rfl,c];exact pz _ _ _ _,c⟩
section
variable{zs:List Int}{v:D}(ht:Tape zs v)(an:Nat)(main:Bool)
include ht
theorem zn(outs:List Va)(A:outs.length<=1000)(g:GS)(t:g.i<=zs.length):DT prog 110 [.ref 1 0,.d (.sl (aE outs))] (GH v an main g) λr K=>∃(l:List Va) (g':GS),r=.d (.sl (aE l))/\K=GH v an main g'/\Mv zs g g'/\LS outs l:=by
 refine DT.drop 2 (asj _)<|DT.ob func110 W ntmps110 W<|dC [2,2,2] W<|OB [nN 6 0,nM 5 (gw 2 (aE [])),nD 1 (.sl (aE outs)),nR 0 1] (dK (GH v an main g) 15 (aE [])) W W<|dC [3] W<|DC.lp (λm s=>∃(i:Nat) (l:List Va) (g':GS),s=⟨[nI 6 (i:Int),nM 5 (gw 2 (aE l)),nD 1 (.sl (aE outs)),nR 0 1],[],dK (GH v an main g') 15 (aE l)⟩/\i<=outs.length/\LS (outs.take i) l/\Mv zs g g'/\m=outs.length-i) outs.length _
  ⟨0,[],g,rfl,by omega,.nil,⟨rfl,rfl,asj _,t⟩,rfl⟩ W ?_
 rintro m s ⟨i,l,c,rfl,B,d,e,rfl⟩;refine dO [2,13] W<|Oq (bK W W W) ?_;rw[bA];refine dL [] W<|DC.cond W (λh=>?_) (λh=>?_)
 .have o:i<outs.length:=by grind
  have a:=eb o;have f:=asA o;generalize outs[i]=w at a f;have u:=d.len;rw[atP]at u;obtain⟨C,D,E,F,G,H,I,J,x,_⟩:=kM w;have b:aE (l++[w])=aE l++[w.cells]:=by rw[gY];rfl
  rw[x]at a b;obtain⟨r,K,⟨n,j,rfl,rfl,y⟩,h⟩:=fw ht an main 2 (by omega) (by omega) c e.le;have p:=eE W h 15 (aE l);have q:=y.mv;refine dC [3] W ?_;cases k:w.last with
  |false=>
   rw[k]at a b;refine dO [2,19] W<|Oq (aP W W W (asm i) a W)<|dR [1,2,34] W<|Oq (aP W W W (asm i) a W)<|dR [37] W<|Oq (rq (H0:=GH v an main c) W W W W (by rfl) W (by rw[bA];omega) (by rw[bA];omega))<|dR [2,16] W<|Oq (ay W W W (by omega))<|dL [] W<|bG (k':=outs.length-(i+1)) (by omega) ⟨i+1,l++[w],c,rfl,by omega,by rw[f];exact .cH d w,e,W⟩ (by rw[b];rfl) (kc W (kc (by rw[b];rfl) W))
  |true=>
   rw[k]at a b;rcases asR n with rfl|L
   .refine dO [2,19] W<|Oq (aP W W W (asm i) a W)<|dR [27] W ?_
    first|refine Oq (aH W W) ?_|(refine Oq (aC W) ?_;refine Oq (ax W W ((wz _ _ _ 1 (asj _)).trans W) W) ?_)
    refine dR [28] W ?_
    first|refine Oq (aH W W) ?_|(refine Oq (aC W) ?_;refine Oq (au p W W) ?_)
    refine dR [1,2,34] W<|Oq (aP W W W (asm i) a W)<|dR [37] W<|Oq (rq (H0:=GH v an main j) W W W W (by rfl) W (by rw[bA];omega) (by rw[bA];omega))<|dR [2,16] W<|Oq (ay W W W (by omega))<|dL [] W<|bG (k':=outs.length-(i+1)) (by omega) ⟨i+1,l++[w],j,rfl,by omega,by rw[f];exact .cH d w,e.trans q,W⟩ (by rw[b];rfl) (kc W (kc (by rw[b];rfl) W))
   .have z:(((n:Nat):Int)==0)=false:=asY.2 (by omega);refine dO [2,19] W<|Oq (aP W W W (asm i) a W)<|dR [27] W ?_
    first|refine Oq (aH W W) ?_|(refine Oq (aC W) ?_;refine Oq (ax W W ((wz _ _ _ 1 (asj _)).trans W) W) ?_)
    refine dR [28] W ?_
    first|refine Oq (aH W W) ?_|(refine Oq (aC W) ?_;refine Oq (au p W W) ?_)
    refine dR [29] W ?_
    first|refine Oq (aH W W) ?_|(refine Oq (aC W) ?_;refine Oq (aQ z W W W W) ?_)
    refine dR [0,2,16] W<|Oq (ay W W W (by omega))<|dL [] W<|bG (k':=outs.length-(i+1)) (by omega) ⟨i+1,l,j,rfl,by omega,by rw[f];exact .drop d w k,e.trans q,W⟩ W W
 .refine DC.exit ?_;have a:i=outs.length:=by grind
  subst a;rw[asU]at d;obtain⟨b,f,j⟩:=nt v an main c 15 (aE l);refine dC [2] W<|DC.cq 4 W (ji (GH v an main c) 15 (aE l) (cu l))<|DC.ret ⟨_,W,b,.d _,f,l,c,W,j,e,d⟩
end
variable{H:Hp}{d:D}{r ms:List M}
instance:bw prog 110:=cR (by kernel_rfl)
instance:bw prog 111:=cR (by kernel_rfl)
instance:bw prog 37:=cR (by kernel_rfl)
instance:bw prog 54:=cR (by kernel_rfl)
def wN.br{s:Sc}(h:wN s):wN s.br:=⟨h.ready,as2 _,h.da⟩
def Tr.len(t:Tr):t.cells.length=12:=by simp[Tr.cells,E.len]
def Fs(l:List Tr):∀r∈eT l,r.length=12:=by intro r a;obtain⟨_,_,rfl⟩:=asK.1 a;exact Tr.len _
def Bd(l:List Tr):(eT l).length=l.length:=by simp[eT]
structure Bm(a:List Int)(w:Int)(g g':GS):Prop where
 i:g.i<=g'.i
 le:g'.i<=a.length
 n:g.n<=g'.n
 qg:g'.n<=3*g'.i
 q0:min g.q 0-w<=g'.q
 q1:g'.q<=g.q
def qB:Nat->Int
 |0=>6
 |d+1=>6*(1+3*qB d)
def MV:∀d,d<=3->0<=qB d/\qB d<=40000
 |0,_=>by decide
 |1,_=>by decide
 |2,_=>by decide
 |3,_=>by decide
 |d+4,h=>by omega
def xK:∀d,d<=2->0<=qB d/\qB d<=4000
 |0,_=>by decide
 |1,_=>by decide
 |2,_=>by decide
 |d+3,h=>by omega
def ws(W:Int):Nat->Int
 |0=>0
 |i+1=>ws W i+W
def wO{W:Int}(h:0<=W):∀i,i<=3->0<=ws W i/\ws W i<=3*W
 |0,_=>by simp only[ws];omega
 |1,_=>by simp only[ws];omega
 |2,_=>by simp only[ws];omega
 |3,_=>by simp only[ws];omega
 |i+4,h=>by omega
def Iv(H:Hp):Prop:=∃a,H[1]?=some (.box a)/\a[0]?=some (.ref 0 0)
def Gy(v:D)(a:Nat)(b:Bool)(g:GS)(n:Nat)(rs:List (List D)):Iv (dK (GH v a b g) n rs):=⟨_,(wz _ _ _ 1 (asj _)).trans W,rfl⟩
structure Cw(c:Nat)(s:Sc):Prop where
 ready:s.ready.length<=c
 all:s.all.length<=1000
 da:s.da.length<=c
def Cw.b{c:Nat}{s:Sc}(h:Cw c s)(a:c<=1000):wN s:=⟨by have:=h.ready;omega,by have:=h.all;omega,by have:=h.da;omega⟩
def Cw.br{c:Nat}{s:Sc}(h:Cw c s):Cw c s.br:=⟨h.ready,as2 _,h.da⟩
section
variable(zs:List Int)(v:D)(an:Nat)(main:Bool)
def qQ(d:Nat):Prop:=∀(s:Sc),Cw (800-200*d) s->∀(c:List Va),c.length<=3->∀(g:GS),g.i<=zs.length->g.n<=3*g.i->g.q<=14-> -200000<=g.q->
 DT prog 37 [.ref 1 0,.d (.agg s.cells),.d (.sl (aE c)),dN d] (GH v an main g) λr K=>∃(b:bF) (a:GS),r=.d (.agg b.cells)/\K=GH v an main a/\GB an d s c g.n a.n b/\Bm zs (qB d) g a
end
section
variable{zs:List Int}{v:D}(ht:Tape zs v)(an:Nat)(main:Bool)
include ht
def vU(s:Sc)(A:wN s)(N:Nat)(T:1<=N/\N<=3)(g:GS)(B:g.i<=zs.length):DT prog 111 [.ref 1 0,.d (.agg s.cells),dN N] (GH v an main g) λr K=>∃(l:List Tr) (g':GS),r=.d (.sl (eT l))/\K=GH v an main g'/\Mv zs g g'/\zm s N l:=by
 obtain⟨U,V,⟨m,n,rfl,rfl,o⟩,C⟩:=fw ht an main 3 (by omega) (by omega) g B;have X:=o.lt;refine DT.drop 2 (asj _)<|DT.ob func111 W ntmps111 W<|dO [2,2,2,18] W<|Oq (au C W W)<|dL [2] W<|OB [nN 9 0,nN 8 m,nM 7 (gw 2 (eT [])),nD 4 (.aZ s.cells 0),nN 2 N,nR 0 1] (dK (GH v an main n) 12 (eT [])) W W<|dC [3] W<|DC.lp (λk a=>∃(i:Nat) (l:List Tr) (g':GS),a=⟨[nI 9 (i:Int),nN 8 m,nM 7 (gw 2 (eT l)),nD 4 (.aZ s.cells 0),nN 2 N,nR 0 1],[],dK (GH v an main g') 12 (eT l)⟩/\i<=m/\l.length=i/\(∀t∈l,GE s.br .bool false 2 t.e/\∃k,k<N/\t.to=nm 83 k)/\Mv zs g g'/\k=m-i) m _
  ⟨0,[],n,rfl,by omega,rfl,by simp,o.mv,rfl⟩ W ?_
 rintro k a ⟨i,l,b,rfl,Y,D,z,c,rfl⟩;refine dC [2] W<|DC.cond W (λp=>?_) (λp=>?_)
 .have Z:i<m:=by have:=asC p;omega
  obtain⟨r1,K1,⟨d,E,rfl,rfl,F,q⟩,u⟩:=dD ht an main 2 (by omega) s.br A.br .bool false b c.le;obtain⟨G,H,I,a,J,L,w⟩:=d.shape;rw[w]at u;obtain⟨r2,K2,⟨j,M,rfl,rfl,e⟩,O⟩:=fw ht an main N (by omega) (by omega) E q.le;obtain⟨r3,K3,⟨f,x,rfl,rfl,R⟩,P⟩:=fw ht an main 2 (by omega) (by omega) M e.le;have Q:=e.lt;have ac:=qN j;have y:eT (l++[⟨d,nm 83 j,((f:Nat):Int)==0⟩])=eT l++[bQ G H I a J L++[.str (⟨#[83]⟩++dg j),.bool (((f:Nat):Int)==0),.int .i64 0,.int .i64 0]]:=by
   simp only[eT,asN,asT,atu,Tr.cells,w];rfl
  refine dC [3] W ?_;apply DC.EW Iv (Gy _ _ _ _ _ _) bX
  .intro h S;refine iR 7 W ?_;apply OA
   .skip
    refine aW jO W W<|TF.nil ⟨W,W⟩
   apply OA
   .skip
    refine bp (eE W u 12 (eT l)) W W<|TF.nil ⟨W,W⟩
   refine iR 3 W<|OH W W (λH h=>h)<|iR 1 W ?_;apply OA
   .skip
    refine bp (eE W O 12 (eT l)) W W<|TF.nil ⟨W,W⟩
   apply OA
   .skip
    refine aW (mU (j+1) j (by omega) (by omega)) W W<|TF.nil ⟨rfl,rfl⟩
   apply OA
   .skip
    refine tS W W W (by have:(⟨#[83]⟩:ByteArray).size=1:=rfl;omega)<|TF.nil ⟨rfl,rfl⟩
   refine iR 3 W<|OH W W (λH h=>h) ?_;apply OA
   .skip
    refine bp (eE W P 12 (eT l)) W W<|TF.nil ⟨W,W⟩
   refine iR 3 W ?_;apply OA
   .skip
    refine nr (H0:=GH v an main x) W W W W (by rfl) W (by rw[Bd];omega) (by rw[Bd];omega)<|TF.nil ⟨rfl,rfl⟩
   refine iR 1 W<|jr.nil ⟨by kernel_rfl,by repeat' first|exact trivial|exact Gy _ _ _ _ _ _|refine⟨?_,?_⟩,rfl⟩
  refine dO [2,23] W<|Oq (ay W W W (by omega))<|dL [] W<|bG (k':=m-(i+1)) (by omega) ⟨i+1,l++[⟨d,nm 83 j,((f:Nat):Int)==0⟩],x,rfl,by omega,by simp[D],by
   intro t S;rcases ast.1 S with h|h
   .exact z t h
   .simp at h;subst h;exact⟨F,j,Q,W⟩,c.trans (q.trans (e.mv.trans R.mv)),W⟩ (by rw[y];rfl) (kc W (kc W (kc (by rw[y];rfl) W)))
 .refine DC.exit ?_;obtain⟨d,e,f⟩:=nt v an main b 12 (eT l);refine dC [2] W<|DC.cq 6 W (ji (GH v an main b) 12 (eT l) (Fs l))<|DC.ret ⟨_,W,d,.d _,e,l,b,W,f,c,by omega,z⟩
end
instance:bw prog 80:=cR (by kernel_rfl)
instance:bw prog 81:=cR (by kernel_rfl)
def dT(a:iv H r=some ms):iv H (.d d::r)=some (.d d::ms):=by simp only[iv,jg,a]
def f_{m:M}(h:jg H m=some d)(a:iv H r=some ms):iv H (m::r)=some (.d d::ms):=by simp only[iv,h,a]
def gK(l:List a_):(cj l).length=l.length:=by rw[mN];simp
def tr(l:List a_):∀r∈cj l,r.length=7:=by rw[mN];intro r a;obtain⟨_,_,rfl⟩:=asK.1 a;exact a_.len _
def lX(l:List a_)(a:a_):cj (l++[a])=cj l++[a.cells]:=by rw[mN,mN];simp
def rL(H:Hp):iv H []=some []:=rfl
abbrev H_(k op n:Int)(s:Nm)(a b:List (List D))(m:M):List M:=[.d (.int .u8 3),.d (.sl []),.d (.str ⟨#[]⟩),.d (.sl []),.d (.bool false),.d (.int .u8 k),.d (.int .u8 op),.d (.int .i32 n),.d (.str s),.d (.sl a),.d (.sl b),.d (.int .i64 0),.d (.int .i64 0),m,.d (.int .i64 0),.d (.int .i64 0)]
abbrev Ia:List M:=[.d (.int .u8 0),.d (.sl []),.d (.str ⟨#[]⟩),.d (.sl []),.d (.bool false),.d (.int .u8 0),.d (.int .u8 0),.d (.int .i32 0),.d (.str ⟨#[]⟩),.d (.sl []),.d (.sl []),.d (.int .i64 0),.d (.int .i64 0),.d (.sl []),.d (.int .i64 0),.d (.int .i64 0)]
section
variable{zs:List Int}{v:D}(ht:Tape zs v)(an:Nat)(main:Bool)
include ht
theorem zo(d:Nat)(hd:d<=2)(l:qQ zs v an main d)(s:Sc)(j:Cw (800-200*d) s)(outs:List Va)(H:outs.length<=3)(g:GS)(hg:g.i<=zs.length)(hn:g.n<=3*g.i)(QJ:0<g.q)(Xt:g.q<=14):
  DT prog 80 [.ref 1 0,.d (.agg s.cells),.d (.sl (aE outs)),dN (d+1)] (GH v an main g) λr K=>∃(q:aB) (g':GS),r=.d (.agg q.cells)/\K=GH v an main g'/\GQ (GB an d) an s outs g.n g'.n [q] []/\Bm zs (3*qB d) g g':=by
 obtain⟨r0,K0,⟨C,I,rfl,rfl,J⟩,L⟩:=fw ht an main 2 (by omega) (by omega) g hg;have hj:=J.lt;have m:=J.mv;have M:=j.b (by omega);have n:=xK d hd;have o:((d+1:Nat):Int)-1=(d:Int):=by omega
 have Ss:C=0\/C=1:=by omega
 rcases Ss with rfl|rfl
 .obtain⟨r1,K1,⟨N,O,rfl,rfl,P_,O7⟩,P⟩:=dD ht an main 2 (by omega) s M .ft true I m.le;obtain⟨p,t,u,w,x,y,Q⟩:=N.shape;rw[Q]at P;have f:=m.trans O7;refine DT.drop 2 (asj _)<|DT.ob func80 W ntmps80 W<|dO [2,2,2,2,23] W<|Oq (au L W W)<|dL [1,2] W ?_;apply Ow bX
  .intro e h;refine fR 2 W<|aW li W W<|bp P W W<|fR 2 W<|TF.nil ⟨by kernel_rfl,rfl⟩
  refine dC [2] W<|DC.vw [nN 11 0,nD 10 (.sl [[D.str cX],[.str cg],[.str bz]]),(9,.loc 9 0),(8,.loc 8 0),nD 5 (.aZ s.cells 0),nN 3 (d+1),nD 2 (.sl (aE outs)),nR 0 1]
   [(9,H_ p t u w x y (gw 2 (cj []))),(8,Ia)] (dK (GH v an main O) 7 (cj [])) W (by intro e;simp only[Go.Mt.get];cases Nat.beq 9 e<;>cases Nat.beq 8 e<;>rfl) W ?_
  refine dC [3] W<|DC.lp (λF R=>∃(i:Nat) (a:List a_) (g':GS),R=⟨[nI 11 (i:Int),nD 10 (.sl [[D.str cX],[.str cg],[.str bz]]),(9,.loc 9 0),(8,.loc 8 0),nD 5 (.aZ s.cells 0),nN 3 (d+1),nD 2 (.sl (aE outs)),nR 0 1],[(9,H_ p t u w x y (gw 2 (cj a))),(8,Ia)],dK (GH v an main g') 7 (cj a)⟩/\i<=3/\a.length=i/\mT (GB an d) s outs [cX,cg,bz] g.n a g'.n/\(g.i<=g'.i/\g'.i<=zs.length/\g.n<=g'.n/\g'.n<=3*g'.i/\ -(ws (qB d) i)<=g'.q/\g'.q<=g.q)/\F=3-i) 3 _
   ⟨0,[],O,rfl,by omega,rfl,by have h:=f.n;rw[h];exact .nil,⟨f.i,f.le,by rw[f.n];exact asj _,by have:=f.n;have:=f.i;omega,by have:=f.q;simp only[ws];omega,by rw[f.q];exact au4 _⟩,W⟩ W ?_
  rintro F R ⟨i,a,k,rfl,hi,z,A,⟨ac,B,b3,S,b5,b6⟩,rfl⟩;refine dC [2] W<|DC.cond W (λhc=>?_) (λhc=>?_)
  .have OJ:i<3:=by grind
   have ah:∃c:Nm,([cX,cg,bz]:List Nm)[i]?=some c/\([[D.str cX],[.str cg],[.str bz]]:List (List D))[((i:Nat):Int).toNat]?=some [.str c]:=by
    grind
   obtain⟨c,co,T⟩:=ah;have d6:=wO n.1 i (by omega);have U:decide ((i:Int)>0)=decide (0<i):=by grind
   refine dC [3] W ?_;rcases asR i with h0|h0
   .obtain⟨r3,K3,⟨b,E,rfl,rfl,Y,e⟩,Z⟩:=l s.br j.br outs H k B S (by omega) (by omega);obtain⟨bv,bq,G⟩:=b.shape;have V:=eE (by rfl) Z 7 (cj a);rw[G]at V;have X:cj (a++[.mk c b [] []])=cj a++[[.str c,.sl bv,.sl bq,.sl [],.sl [],.int .i64 0,.int .i64 0]]:=by rw[lX,a_.cells,G];rfl
    refine dO [2,2,44] W<|Oq (gG W W W (r:=.bool false) (by show some (D.bool (decide _))=_;rw[U,asX (by omega)]))<|dL [0] W ?_;apply Ow bX
    .intro s0 Oo;refine fR 4 W<|bJ W W W (asm i) T W<|fR 9 W<|gv W W W (by omega) ?_;rw[o];refine bp V W W<|fR 2 W<|nr (H0:=GH v an main E) W W W W (by rfl) W (by rw[gK];omega) (by rw[gK];omega)<|fR 1 W<|iI W W W (mK _ _) W W<|TF.nil ⟨by kernel_rfl,rfl⟩
    refine dO [2,41] W<|Oq (ay W W W (by omega))<|dL [] W<|xJ (k':=3-(i+1)) (by omega) ⟨i+1,a++[.mk c b [] []],E,rfl,by omega,by simp[z],.snoc A c (by grind) outs (LS.refl _) (λ_=>rfl) b Y,⟨by have:=e.i;omega,e.le,by have:=e.n;omega,e.qg,by have:=e.q0;simp only[ws];omega,by have:=e.q1;omega⟩,rfl⟩ (by intro h;simp only[Go.Mt.get];rw[X];cases Nat.beq 9 h<;>cases Nat.beq 8 h<;>rfl) (by rw[X];rfl) W
   .obtain⟨r4,K4,⟨G,g4,rfl,rfl,e,Rq⟩,Sj⟩:=zn ht an main outs (by omega) k B;have P':=Rq.len;have P1:=eE (by rfl) Sj 7 (cj a);obtain⟨r3,K3,⟨b,V,rfl,rfl,RH,h⟩,PW⟩:=l s.br j.br G (by omega) g4 e.le (by have:=e.n;have:=e.i;omega) (by have:=e.q;omega) (by have:=e.q;omega);obtain⟨bv,bq,X⟩:=b.shape;have Y:=eE (by rfl) PW 7 (cj a);rw[X]at Y;have Z:cj (a++[.mk c b [] []])=cj a++[[.str c,.sl bv,.sl bq,.sl [],.sl [],.int .i64 0,.int .i64 0]]:=by rw[lX,a_.cells,X];rfl
    refine dO [2,2,44] W<|Oq (gG W W W (r:=.bool true) (by show some (D.bool (decide _))=_;rw[U,asP (by omega)]))<|dR [1,2,47] W<|Oq (au P1 W W)<|dL [] W ?_;apply Ow bX
    .intro s0 Oo;refine fR 4 W<|bJ W W W (asm i) T W<|fR 9 W<|gv W W W (by omega) ?_;rw[o];refine bp Y W W<|fR 2 W<|nr (H0:=GH v an main V) W W W W (by rfl) W (by rw[gK];omega) (by rw[gK];omega)<|fR 1 W<|iI W W W (mK _ _) W W<|TF.nil ⟨by kernel_rfl,rfl⟩
    refine dO [2,41] W<|Oq (ay W W W (by omega))<|dL [] W<|xJ (k':=3-(i+1)) (by omega) ⟨i+1,a++[.mk c b [] []],V,rfl,by omega,by simp[z],.snoc A c (by grind) G Rq (λh=>by grind) b (by rw[<-e.n];exact RH),⟨by have:=h.i;have:=e.i;omega,h.le,by have:=h.n;have:=e.n;omega,h.qg,by have:=h.q0;have:=e.q;simp only[ws];omega,by have:=h.q1;have:=e.q;omega⟩,rfl⟩ (by intro E;simp only[Go.Mt.get];rw[Z];cases Nat.beq 9 E<;>cases Nat.beq 8 E<;>rfl) (by rw[Z];rfl) W
  .refine DC.exit ?_;have e:i=3:=by grind
   subst e;obtain⟨G,h,E⟩:=nt v an main k 7 (cj a);refine DC.gP (OS:=H_ p t u w x y (.d (.sl (cj a)))) 9 W (by repeat' first|exact rL _|refine dT ?_|refine f_ (ji (GH v an main k) 7 (cj a) (tr a)) ?_) ?_;refine dC [2] W ?_;have T:=wO n.1 3 (by omega);exact DC.ret ⟨_,W,G,.d _,h,.sw N a,k,by rw[aB.cells,Q];rfl,E,.tm P_ A z,⟨ac,B,b3,S,by omega,b6⟩⟩
 .obtain⟨r1,K1,⟨N,O,rfl,rfl,P_,O7⟩,P⟩:=dD ht an main 2 (by omega) s M .bool true I m.le;obtain⟨p,t,u,w,x,y,Q⟩:=N.shape;rw[Q]at P;have f:=m.trans O7;refine DT.drop 2 (asj _)<|DT.ob func80 W ntmps80 W<|dO [2,2,2,2,23] W<|Oq (au L W W)<|dL [0] W ?_;apply Ow bX
  .intro e h;refine fR 2 W<|aW jO W W<|bp P W W<|fR 2 W<|TF.nil ⟨by kernel_rfl,rfl⟩
  refine dC [2] W<|DC.vw [nN 11 0,nD 10 (.sl [[D.str pb],[.str mq]]),(9,.loc 9 0),(8,.loc 8 0),nD 5 (.aZ s.cells 0),nN 3 (d+1),nD 2 (.sl (aE outs)),nR 0 1]
   [(9,H_ p t u w x y (gw 2 (cj []))),(8,Ia)] (dK (GH v an main O) 7 (cj [])) W (by intro e;simp only[Go.Mt.get];cases Nat.beq 9 e<;>cases Nat.beq 8 e<;>rfl) W ?_
  refine dC [3] W<|DC.lp (λF R=>∃(i:Nat) (a:List a_) (g':GS),R=⟨[nI 11 (i:Int),nD 10 (.sl [[D.str pb],[.str mq]]),(9,.loc 9 0),(8,.loc 8 0),nD 5 (.aZ s.cells 0),nN 3 (d+1),nD 2 (.sl (aE outs)),nR 0 1],[(9,H_ p t u w x y (gw 2 (cj a))),(8,Ia)],dK (GH v an main g') 7 (cj a)⟩/\i<=2/\a.length=i/\mT (GB an d) s outs [pb,mq] g.n a g'.n/\(g.i<=g'.i/\g'.i<=zs.length/\g.n<=g'.n/\g'.n<=3*g'.i/\ -(ws (qB d) i)<=g'.q/\g'.q<=g.q)/\F=2-i) 2 _
   ⟨0,[],O,rfl,by omega,rfl,by have h:=f.n;rw[h];exact .nil,⟨f.i,f.le,by rw[f.n];exact asj _,by have:=f.n;have:=f.i;omega,by have:=f.q;simp only[ws];omega,by rw[f.q];exact au4 _⟩,W⟩ W ?_
  rintro F R ⟨i,a,k,rfl,hi,z,A,⟨ac,B,b3,S,b5,b6⟩,rfl⟩;refine dC [2] W<|DC.cond W (λhc=>?_) (λhc=>?_)
  .have OJ:i<2:=by grind
   have ah:∃c:Nm,([pb,mq]:List Nm)[i]?=some c/\([[D.str pb],[.str mq]]:List (List D))[((i:Nat):Int).toNat]?=some [.str c]:=by
    grind
   obtain⟨c,co,T⟩:=ah;have d6:=wO n.1 i (by omega);have U:decide ((i:Int)>0)=decide (0<i):=by grind
   refine dC [3] W ?_;rcases asR i with h0|h0
   .obtain⟨r3,K3,⟨b,E,rfl,rfl,Y,e⟩,Z⟩:=l s.br j.br outs H k B S (by omega) (by omega);obtain⟨bv,bq,G⟩:=b.shape;have V:=eE (by rfl) Z 7 (cj a);rw[G]at V;have X:cj (a++[.mk c b [] []])=cj a++[[.str c,.sl bv,.sl bq,.sl [],.sl [],.int .i64 0,.int .i64 0]]:=by rw[lX,a_.cells,G];rfl
    refine dO [2,2,44] W<|Oq (gG W W W (r:=.bool false) (by show some (D.bool (decide _))=_;rw[U,asX (by omega)]))<|dL [0] W ?_;apply Ow bX
    .intro s0 Oo;refine fR 4 W<|bJ W W W (asm i) T W<|fR 9 W<|gv W W W (by omega) ?_;rw[o];refine bp V W W<|fR 2 W<|nr (H0:=GH v an main E) W W W W (by rfl) W (by rw[gK];omega) (by rw[gK];omega)<|fR 1 W<|iI W W W (mK _ _) W W<|TF.nil ⟨by kernel_rfl,rfl⟩
    refine dO [2,41] W<|Oq (ay W W W (by omega))<|dL [] W<|xJ (k':=2-(i+1)) (by omega) ⟨i+1,a++[.mk c b [] []],E,rfl,by omega,by simp[z],.snoc A c (by grind) outs (LS.refl _) (λ_=>rfl) b Y,⟨by have:=e.i;omega,e.le,by have:=e.n;omega,e.qg,by have:=e.q0;simp only[ws];omega,by have:=e.q1;omega⟩,rfl⟩ (by intro h;simp only[Go.Mt.get];rw[X];cases Nat.beq 9 h<;>cases Nat.beq 8 h<;>rfl) (by rw[X];rfl) W
   .obtain⟨r4,K4,⟨G,g4,rfl,rfl,e,Rq⟩,Sj⟩:=zn ht an main outs (by omega) k B;have P':=Rq.len;have P1:=eE (by rfl) Sj 7 (cj a);obtain⟨r3,K3,⟨b,V,rfl,rfl,RH,h⟩,PW⟩:=l s.br j.br G (by omega) g4 e.le (by have:=e.n;have:=e.i;omega) (by have:=e.q;omega) (by have:=e.q;omega);obtain⟨bv,bq,X⟩:=b.shape;have Y:=eE (by rfl) PW 7 (cj a);rw[X]at Y;have Z:cj (a++[.mk c b [] []])=cj a++[[.str c,.sl bv,.sl bq,.sl [],.sl [],.int .i64 0,.int .i64 0]]:=by rw[lX,a_.cells,X];rfl
    refine dO [2,2,44] W<|Oq (gG W W W (r:=.bool true) (by show some (D.bool (decide _))=_;rw[U,asP (by omega)]))<|dR [1,2,47] W<|Oq (au P1 W W)<|dL [] W ?_;apply Ow bX
    .intro s0 Oo;refine fR 4 W<|bJ W W W (asm i) T W<|fR 9 W<|gv W W W (by omega) ?_;rw[o];refine bp Y W W<|fR 2 W<|nr (H0:=GH v an main V) W W W W (by rfl) W (by rw[gK];omega) (by rw[gK];omega)<|fR 1 W<|iI W W W (mK _ _) W W<|TF.nil ⟨by kernel_rfl,rfl⟩
    refine dO [2,41] W<|Oq (ay W W W (by omega))<|dL [] W<|xJ (k':=2-(i+1)) (by omega) ⟨i+1,a++[.mk c b [] []],V,rfl,by omega,by simp[z],.snoc A c (by grind) G Rq (λh=>by grind) b (by rw[<-e.n];exact RH),⟨by have:=h.i;have:=e.i;omega,h.le,by have:=h.n;have:=e.n;omega,h.qg,by have:=h.q0;have:=e.q;simp only[ws];omega,by have:=h.q1;have:=e.q;omega⟩,rfl⟩ (by intro E;simp only[Go.Mt.get];rw[Z];cases Nat.beq 9 E<;>cases Nat.beq 8 E<;>rfl) (by rw[Z];rfl) W
  .refine DC.exit ?_;have e:i=2:=by grind
   subst e;obtain⟨G,h,E⟩:=nt v an main k 7 (cj a);refine DC.gP (OS:=H_ p t u w x y (.d (.sl (cj a)))) 9 W (by repeat' first|exact rL _|refine dT ?_|refine f_ (ji (GH v an main k) 7 (cj a) (tr a)) ?_) ?_;refine dC [2] W ?_;have T:=wO n.1 2 (by omega);exact DC.ret ⟨_,W,G,.d _,h,.sw N a,k,by rw[aB.cells,Q];rfl,E,.pV P_ A z,⟨ac,B,b3,S,by omega,b6⟩⟩
end
end Go.Proofs
namespace Go.Proofs
open Go.Mt Go.Mk
open Tryz
abbrev MW(m:M):List M:=[.d (.int .u8 4),.d (.sl []),.d (.str ⟨#[]⟩),.d (.sl []),.d (.bool false),.d (.int .u8 0),.d (.int .u8 0),.d (.int .i32 0),.d (.str ⟨#[]⟩),.d (.sl []),.d (.sl []),.d (.int .i64 0),.d (.int .i64 0),m,.d (.int .i64 0),.d (.int .i64 0)]
section
variable{zs:List Int}{v:D}(ht:Tape zs v)(an:Nat)(main:Bool)
include ht
theorem DN(d:Nat)(V:d<=2)(C:qQ zs v an main d)(s:Sc)(c:Cw (800-200*d) s)(outs:List Va)(ho:outs.length<=3)(g:GS)(X:g.i<=zs.length)(hn:g.n<=3*g.i)(QJ:0<g.q)(Xt:g.q<=14):
  DT prog 81 [.ref 1 0,.d (.agg s.cells),.d (.sl (aE outs)),dN (d+1)] (GH v an main g) λr K=>∃(q:aB) (g':GS),r=.d (.agg q.cells)/\K=GH v an main g'/\GQ (GB an d) an s outs g.n g'.n [q] []/\Bm zs (3*qB d) g g':=by
 obtain⟨r0,K0,⟨x,E,rfl,rfl,F⟩,Y⟩:=fw ht an main 3 (by omega) (by omega) g X;have hj:=F.lt;have h:=F.mv;have G:=c.b (by omega);have H:=xK d V;have I:((d+1:Nat):Int)-1=(d:Int):=by omega
 have ac:1+((x:Nat):Int)=((x+1:Nat):Int):=by omega
 refine DT.drop 2 (asj _)<|DT.ob func81 W ntmps81 W<|dO [2,2,2,23] W<|Oq (au Y W W)<|dR [24] W<|Oq (ay W W W (by omega)) ?_;rw[ac];refine dL [] W ?_;generalize d8:x+1=N;have m:1<=N/\N<=3:=by omega
 refine dC [2] W<|DC.vw [nN 11 0,nN 10 N,(9,.loc 9 0),(8,.loc 8 0),nD 5 (.aZ s.cells 0),nN 3 (d+1),nD 2 (.sl (aE outs)),nR 0 1]
  [(9,MW (gw 2 (cj []))),(8,Ia)] (dK (GH v an main E) 7 (cj [])) W (by intro e;simp only[Go.Mt.get];cases Nat.beq 9 e<;>cases Nat.beq 8 e<;>rfl) W ?_
 refine dC [3] W<|DC.lp (λB J=>∃(i:Nat) (a:List a_) (g':GS) (t:List (Nat×List M)),J=⟨[nI 11 (i:Int),nN 10 N,(9,.loc 9 0),(8,.loc 8 0),nD 5 (.aZ s.cells 0),nN 3 (d+1),nD 2 (.sl (aE outs)),nR 0 1],t,dK (GH v an main g') 7 (cj a)⟩/\Go.Mt.get t 9=some (MW (gw 2 (cj a)))/\Go.Mt.get t 8=some Ia/\i<=N/\a.length=i/\uq (GB an d) s outs N g.n a g'.n/\(g.i<=g'.i/\g'.i<=zs.length/\g.n<=g'.n/\g'.n<=3*g'.i/\ -(ws (qB d) i)<=g'.q/\g'.q<=g.q)/\B=N-i) N _
  ⟨0,[],E,_,rfl,rfl,rfl,by omega,rfl,by have e:=h.n;rw[e];exact .nil,⟨h.i,h.le,by rw[h.n];exact asj _,by have:=h.n;have:=h.i;omega,by have:=h.q;simp only[ws];omega,by rw[h.q];exact au4 _⟩,W⟩ W ?_
 rintro B J ⟨i,a,k,t,rfl,n,y,hi,o,z,⟨ah,A,Z,b4,b5,b6⟩,rfl⟩;refine dC [2] W<|DC.cond W (λL=>?_) (λL=>?_)
 .have OJ:i<N:=by grind
  have d9:=wO H.1 i (by omega);have O:decide ((i:Int)>0)=decide (0<i):=by grind
  have P:=mU (i+1) i (by omega) (by omega);have f4:=qN i;refine dC [3] W ?_;rcases asR i with h0|h0
  .skip
   have w:LS outs outs:=LS.refl _;have e:Mv zs k k:=⟨rfl,rfl,asj _,A⟩;have P':=w.len;obtain⟨r5,K5,⟨p,U,rfl,rfl,f,co⟩,Vp⟩:=vU ht an main s G N m k e.le;have d6:=eE (by rfl) Vp 7 (cj a);obtain⟨r3,K3,⟨b,g3,rfl,rfl,RH,l⟩,PW⟩:=C s.br c.br outs (by omega) U f.le (by have:=e.n;have:=e.i;have:=f.n;have:=f.i;omega) (by have:=e.q;have:=f.q;omega) (by have:=e.q;have:=f.q;omega);obtain⟨bv,bq,Q⟩:=b.shape;have R:=eE (by rfl) PW 7 (cj a);rw[Q]at R;have TP:=tq s outs (by have:=c.ready;omega) (by omega);obtain⟨r6,K6,⟨u,S,rfl,rfl,j,d7⟩,XJ⟩:=vU ht an main (s.more outs) ⟨by have:=c.ready;simp only[Sc.more,asq];omega,by have:=c.all;simp only[Sc.more];omega,by have:=c.da;simp only[Sc.more];omega⟩ N m g3 l.le;have Qw:=eE (by rfl) XJ 7 (cj a);have T:cj (a++[.mk (nm 83 a.length) b p u])=cj a++[[.str (⟨#[83]⟩++dg i),.sl bv,.sl bq,.sl (eT p),.sl (eT u),.int .i64 0,.int .i64 0]]:=by rw[lX,a_.cells,Q,o];rfl
   refine dO [2,2,32] W<|Oq (gG W W W (r:=.bool false) (by show some (D.bool (decide _))=_;rw[O,asX (by omega)]))<|dR [0,2,37] W<|Oq (aL P W W)<|dR [38] W<|Oq (qv W W W (by have:(⟨#[83]⟩:ByteArray).size=1:=rfl;omega))<|dR [2,43] W<|Oq (au d6 W W)<|dR [2,53] W<|Oq (cI W W W (by omega)) ?_;rw[I];refine dR [54] W<|Oq (au R W W)<|dR [2,59] W<|Oq (aL TP W W)<|dR [61] W<|Oq (au Qw W W)<|dR [2,64] W<|Oq (jf W W n W)<|dR [67] W<|Oq (rq (H0:=GH v an main S) W W W W (by rfl) W (by rw[gK];omega) (by rw[gK];omega))<|dR [999] W<|Oq (fh W W n (mK _ _) W W)<|dR [2,29] W<|Oq (ay W W W (by omega))<|dL [] W<|bG (k':=N-(i+1)) (by omega) ⟨i+1,a++[.mk (nm 83 a.length) b p u],S,_,rfl,by rw[T];rfl,y,by omega,by simp[o],by
    have h6:=j.n;rw[h6];refine .snoc z outs w (λ_=>rfl) p co b ?_ u d7;have e1:=e.n;have e2:=f.n;rw[<-e1,<-e2];exact RH,⟨by have:=l.i;have:=e.i;have:=f.i;have:=j.i;omega,j.le,by have:=l.n;have:=e.n;have:=f.n;have:=j.n;omega,by have:=l.qg;have:=j.n;have:=j.i;omega,by have:=l.q0;have:=e.q;have:=f.q;have:=j.q;simp only[ws];omega,by have:=l.q1;have:=e.q;have:=f.q;have:=j.q;omega⟩,rfl⟩ (by rw[T];rfl) W
  .skip
   obtain⟨r4,K4,⟨p,g4,rfl,rfl,e,Q⟩,Sj⟩:=zn ht an main outs (by omega) k A;have P':=Q.len;obtain⟨r5,K5,⟨u,g5,rfl,rfl,f,co⟩,Vp⟩:=vU ht an main s G N m g4 e.le;have d6:=eE (by rfl) Vp 7 (cj a);obtain⟨r3,K3,⟨b,g3,rfl,rfl,RH,l⟩,PW⟩:=C s.br c.br p (by omega) g5 f.le (by have:=e.n;have:=e.i;have:=f.n;have:=f.i;omega) (by have:=e.q;have:=f.q;omega) (by have:=e.q;have:=f.q;omega);obtain⟨bv,bq,R⟩:=b.shape;have S:=eE (by rfl) PW 7 (cj a);rw[R]at S;have TP:=tq s p (by have:=c.ready;omega) (by omega);obtain⟨r6,K6,⟨w,T,rfl,rfl,j,d7⟩,XJ⟩:=vU ht an main (s.more p) ⟨by have:=c.ready;simp only[Sc.more,asq];omega,by have:=c.all;simp only[Sc.more];omega,by have:=c.da;simp only[Sc.more];omega⟩ N m g3 l.le;have Qw:=eE (by rfl) XJ 7 (cj a);have U:cj (a++[.mk (nm 83 a.length) b u w])=cj a++[[.str (⟨#[83]⟩++dg i),.sl bv,.sl bq,.sl (eT u),.sl (eT w),.int .i64 0,.int .i64 0]]:=by rw[lX,a_.cells,R,o];rfl
   refine dO [2,2,32] W<|Oq (gG W W W (r:=.bool true) (by show some (D.bool (decide _))=_;rw[O,asP (by omega)]))<|dR [1,2,35] W<|Oq (au (eE (by rfl) Sj 7 (cj a)) W W)<|dR [2,37] W<|Oq (aL P W W)<|dR [38] W<|Oq (qv W W W (by have:(⟨#[83]⟩:ByteArray).size=1:=rfl;omega))<|dR [2,43] W<|Oq (au d6 W W)<|dR [2,53] W<|Oq (cI W W W (by omega)) ?_;rw[I];refine dR [54] W<|Oq (au S W W)<|dR [2,59] W<|Oq (aL TP W W)<|dR [61] W<|Oq (au Qw W W)<|dR [2,64] W<|Oq (jf W W n W)<|dR [67] W<|Oq (rq (H0:=GH v an main T) W W W W (by rfl) W (by rw[gK];omega) (by rw[gK];omega))<|dR [999] W<|Oq (fh W W n (mK _ _) W W)<|dR [2,29] W<|Oq (ay W W W (by omega))<|dL [] W<|bG (k':=N-(i+1)) (by omega) ⟨i+1,a++[.mk (nm 83 a.length) b u w],T,_,rfl,by rw[U];rfl,y,by omega,by simp[o],by
    have h6:=j.n;rw[h6];refine .snoc z p Q (λh=>by grind) u co b ?_ w d7;have e1:=e.n;have e2:=f.n;rw[<-e1,<-e2];exact RH,⟨by have:=l.i;have:=e.i;have:=f.i;have:=j.i;omega,j.le,by have:=l.n;have:=e.n;have:=f.n;have:=j.n;omega,by have:=l.qg;have:=j.n;have:=j.i;omega,by have:=l.q0;have:=e.q;have:=f.q;have:=j.q;simp only[ws];omega,by have:=l.q1;have:=e.q;have:=f.q;have:=j.q;omega⟩,rfl⟩ (by rw[U];rfl) W
 .refine DC.exit ?_;have e:i=N:=by have:=asG L;omega
  subst e;obtain⟨l,f,j⟩:=nt v an main k 7 (cj a);refine DC.gP (OS:=MW (.d (.sl (cj a)))) 9 n (by repeat' first|exact rL _|refine dT ?_|refine f_ (ji (GH v an main k) 7 (cj a) (tr a)) ?_) ?_;refine dO [2,999] W<|Oq (fh W W y W W W)<|dL [] W ?_;have p:=wO H.1 i (by omega);exact DC.ret ⟨_,W,l,.d _,f,.aN a,k,by rw[aB.cells];rfl,j,.aN i m z o,⟨ah,A,Z,b4,by omega,b6⟩⟩
end
end Go.Proofs
namespace Go.Mt
variable{aK n:Nat}{cs:List M}
section
variable{P:Program}{n B:Nat}{post:Exit->St->Prop}{sl:List (Nat×V)}{bx:List (Nat×List M)}{H:Hp}
def DC.lD{c:Code}(j:Nat){ec:Nat}(a:H[j]?=some (.row false ec aK cs))(k:DC P n B c ⟨sl,bx,H.set j (.row true ec aK cs)⟩ post):DC P n B c ⟨sl,bx,H⟩ post:=
 Qg _ (λ_ _ _ b w b=>b.lD a) k
end
def lj{H:Hp}{i k:Nat}{rs:List (List D)}(a:H[i]?=some (.row true n aK (aY rs)))(b:k=rs.length)(c:rs≠[])(d:∀r∈rs,r.length=n):jg H (.bC i aK k)=some (.sl rs):=
 Acc.view (n:=n) (i:=i) (.inr ⟨c,aK,by rw[b],a⟩) d
section
variable{X:bW}{ops:Array Oper}{rest:List Oper}{sl:List (Nat×V)}{bx:List (Nat×List M)}{H:Hp}{OZ:List Ef->St->Prop}{d ty:Nat}{pos:String}{af:Array Edge}
def xl{T e len:Nat}{parts:List (Nat×Operand)}{z:D}{ms:List (Nat×M)}[ht:aU X.P T e][b:bY X.P e n][g:gN X.P e z](a:Nat.blt d X.n=true)(c:Nat.blt 0 n=true)(f:(bg z).length=n)
  (h:Nat.ble (len*n) 16777216=true) (g:ij sl parts=some ms) (hf:gu (λi=>some (i*n,n)) (ey n len (bg z)) ms=some cs)
  (k:TF X ops rest ⟨(d,.m (.bC H.length 0 len))::sl,bx,H++[Ob.row false n 0 cs]⟩ λa b=>OZ (⟨some d,.m (.bC H.length 0 len),[],[],none,true,some (H++[Ob.row false n 0 cs])⟩::a) b):TF X ops (⟨some d,.buildSlice T len parts.toArray,ty,pos,af,none⟩::rest) ⟨sl,bx,H⟩ OZ:=by
 refine TF.cons (e:=⟨some d,.m (.bC H.length 0 len),[],[],none,true,some (H++[Ob.row false n 0 cs])⟩) (Qf W W (bN a) λa b=>?_) W k;have a:=b.H W;simp only at a;exact nU c f h (by rw[b.ej (λp a=>by simp[Op.operands];exact⟨_,a⟩),iL];exact g) hf (.inl ⟨by rw[a],by rw[a]⟩)
end
end Go.Mt
namespace Go.Proofs
open Go.Mt Go.Mk
open Tryz
instance:bw prog 50:=cR (by kernel_rfl)
instance:bw prog 53:=cR (by kernel_rfl)
instance:bw prog 83:=cR (by kernel_rfl)
instance:bw prog 84:=cR (by kernel_rfl)
def eg(l:List aB):(bH l).length=l.length:=by rw[mO];simp
def fe(l:List aB):∀r∈bH l,r.length=16:=by rw[mO];intro r a;obtain⟨_,_,rfl⟩:=asK.1 a;exact aB.len _
def iT(a b:List aB):bH (a++b)=bH a++bH b:=by rw[mO,mO,mO];simp
def pT{l:List D}(h:l.length=16):∃a b c d e f g i j k m n o p q r,l=[a,b,c,d,e,f,g,i,j,k,m,n,o,p,q,r]:=by
 match l,h with
 |[a,b,c,d,e,f,g,i,j,k,m,n,o,p,q,r],_=>exact⟨_,_,_,_,_,_,_,_,_,_,_,_,_,_,_,_,W⟩
def DO(a:Nat):Nat->Sc->List Va->Nat->Nat->bF->Prop
 |0=> λ_ _ _ _ _=>False
 |d+1=>GB a d
def qP:Nat->Int
 |0=>0
 |d+1=>qB d
def jn{P:Program}{f:Nat}{ms:List M}{v:D}{a:Nat}{c:Bool}{g g':GS}{r:M}(h:(ms.all (BU 2))=true)(i:CT P f ms (GH v a c g) λr' d=>r'=r/\d=GH v a c g')(F:Hp):
  CT P f ms (GH v a c g++F) λr' d=>r'=r/\d=GH v a c g'++F:=by
 refine(CT.suffix F (H:=GH v a c g) (pz v a c g) (λm a=>jx (atC.1 h m a)) (i.mono λr' d ⟨e,b⟩=>(⟨by rw[b];rfl,e,b⟩:d.length=(GH v a c g).length/\(r'=r/\d=GH v a c g')))).mono ?_;rintro r' k ⟨j,rfl,_,rfl,rfl⟩;exact⟨W,W⟩
section
variable(zs:List Int)(v:D)(an:Nat)(main:Bool)
def wP(a c:Nat):Prop:=∀(s:Sc),s.ready.length+2*c<=900-200*a->s.all.length<=1000->s.da.length<=900-200*a->∀(e:List Va),e.length<=3->∀(g:GS),g.i<=zs.length->g.n<=3*g.i->g.q<=c-> -300000<=g.q->g.q<=14->
 DT prog 53 [.ref 1 0,.d (.agg s.cells),.d (.sl (aE e)),dN a] (GH v an main g) λr K=>∃(q:List aB) (b:List Va) (d:GS),r=.di [.d (.sl (bH q)),.d (.sl (aE b))]/\K=GH v an main d/\GQ (DO an a) an s e g.n d.n q b/\q.length<=3*c+3/\b.length<=3*c/\Bm zs (1+3*qP a) g d
end
section
variable{zs:List Int}{v:D}(ht:Tape zs v)(an:Nat)(main:Bool)
include ht
theorem tf(h c:Nat)(hD:h<=3)(f4:c<=14)(V:wP zs v an main h c)(s:Sc)(i:s.ready.length+2*c+2<=900-200*h)(X:s.all.length<=1000)(Y:s.da.length<=900-200*h)(outs:List Va)(Z:outs.length<=3)(T8:0<an)(UT:an<=10)
  (g:GS) (C:g.i<=zs.length) (hn:g.n+3<=3*g.i) (QJ:0<g.q) (Xt:g.q<=c):
  DT prog 83 [.ref 1 0,.d (.agg s.cells),.d (.sl (aE outs)),dN h] (GH v an main g) λr K=>∃(q:List aB) (d:List Va) (g':GS),r=.di [.d (.sl (bH q)),.d (.sl (aE d))]/\K=GH v an main g'/\GQ (DO an h) an s outs g.n g'.n q d/\q.length<=3*(c+1)+3/\d.length<=3*(c+1)/\Bm zs (1+3*qP h) g g':=by
 have hL:=ht.hl;obtain⟨E,a,F⟩:=g;simp only at C hn QJ Xt;have G:wN s:=⟨by omega,by omega,by omega⟩;obtain⟨r1,K1,⟨rfl,rfl⟩,OT⟩:=qO ht an main 117 ⟨E,a,F⟩ C (by grind);obtain⟨r2,K2,⟨rfl,rfl⟩,OV⟩:=qO ht an main 117 ⟨E,a+1,F⟩ C (by grind);obtain⟨r3,K3,⟨j,g3,rfl,rfl,Uu⟩,PW⟩:=fw ht an main an T8 (by omega) ⟨E,a+2,F⟩ C;have T3:=Uu.mv;have hj:=Uu.lt;have ZG:=mU (j+1) j (by omega) (by omega);have f8:=qN j;obtain⟨r4,K4,⟨f,g4,rfl,rfl,SJ,Qc⟩,H⟩:=dD ht an main 2 (by omega) s G .int true g3 T3.le;obtain⟨k,l,m,n,o,p,I⟩:=f.shape;rw[I]at H;obtain⟨r5,K5,⟨b,g5,rfl,rfl,RH,R0⟩,J⟩:=dD ht an main 2 (by omega) s G .bool true g4 Qc.le;obtain⟨t,u,w,sb,x,y,L⟩:=b.shape;rw[L]at J;obtain⟨r6,K6,⟨j6,A,rfl,rfl,co⟩,XJ⟩:=fw ht an main 3 (by omega) (by omega) g5 R0.le;have M:=co.mv;have U:=T3.trans (Qc.trans (R0.trans M));have d6:=U.n;have d7:=U.q;have d8:=U.i;simp only at d6 d7 d8;have TP:=tq s [cY 117 (a+1) .int,cY 117 (a+2) .ft] (by omega) (by simp);rcases asR j6 with ac|ac
 .skip
  subst ac;obtain⟨r7,K7,⟨e,g7,rfl,rfl,P_,D⟩,ah⟩:=dD ht an main 2 (by omega) s G .bool true A M.le;obtain⟨N,O,P,Q,R,S,h7⟩:=e.shape;rw[h7]at ah;have f9:=D.n;have gc:=D.q;have ge:=D.i;obtain⟨r8,K8,⟨B,d,T,rfl,rfl,Rn,SR,SX,z⟩,d9⟩:=V (s.more [cY 117 (a+1) .int,cY 117 (a+2) .ft]) (by simp only[Sc.more,asq,asO,atg];omega) X Y outs Z g7 D.le (by omega) (by omega) (by omega) (by omega);have i6:=z.q0;refine DT.drop 2 (asj _)<|DT.ob func83 W ntmps83 W<|dO [2,2,22] W<|Oq (au OT W W)<|dR [23] W<|Oq (aL dE W W)<|dR [2,26] W<|Oq (au OV W W)<|dR [27] W<|Oq (aL li W W)<|dL [] W ?_;apply Ow bX
  .intro s0 Oo;refine fR 8 W<|bp PW W W<|aW ZG W W<|tS W W W (by have:(⟨#[102]⟩:ByteArray).size=1:=rfl;omega)<|fR 8 W<|TF.nil ⟨by kernel_rfl,rfl⟩
  refine dC [] W ?_;apply Ow bX
  .intro s0 Oo;refine fR 2 W<|aW dE W W<|bp H W W<|fR 2 W<|aW jO W W<|bp J W W<|fR 3 W<|TF.nil ⟨by kernel_rfl,rfl⟩
  refine dO [2,60] W<|Oq (au XJ W W)<|dL [1,2] W ?_;apply Ow bX
  .intro s0 Oo;refine fR 2 W<|aW jO W W<|bp ah W W<|fR 2 W<|TF.nil ⟨by kernel_rfl,rfl⟩
  refine dO [2,74] W<|Oq (aL TP W W)<|dR [77] W<|Oq (au d9 W W)<|dL [] W ?_;have Rw:(aB.call (nm 117 (a+1)) (nm 117 (a+2)) (nm 102 j) f b true e).cells=[.int .u8 2,.sl [[.str (nm 117 (a+1))],[.str (nm 117 (a+2))]],.str (nm 102 j),.sl [bQ k l m n o p,bQ t u w sb x y],.bool true,.int .u8 N,.int .u8 O,.int .i32 P,.str Q,.sl R,.sl S,.int .i64 0,.int .i64 0,.sl [],.int .i64 0,.int .i64 0]:=by rw[aB.cells,I,L,h7];rfl
  refine dO [2,2,83] W<|Oq (iZ true W W W W (by rfl) (by simp) (by exact mi W) (by grind))<|dR [2,86] W<|Oq (fW (cs:=aY [[.int .u8 2,.sl [[.str (nm 117 (a+1))],[.str (nm 117 (a+2))]],.str (nm 102 j),.sl [bQ k l m n o p,bQ t u w sb x y],.bool true,.int .u8 N,.int .u8 O,.int .i32 P,.str Q,.sl R,.sl S,.int .i64 0,.int .i64 0,.sl [],.int .i64 0,.int .i64 0]]) W W W W W (fe B) (by rw[eg];simp;omega) (by rw[eg];simp;omega))<|dR [2,2,91] W<|Oq (iZ true W W W W (by rfl) (by simp) (by intro r i;simp at i;rcases i with rfl|rfl<;>rfl) (by grind))<|dR [2,95] W<|Oq (fW (cs:=aY (aE [cY 117 (a+1) .int,cY 117 (a+2) .ft])) W W W W W (cu d) (by rw[bA];simp;omega) (by rw[bA];simp;omega))<|dL [] W<|OB [nM 8 (.bC 2 1 (1+(bH B).length)),nM 9 (.bC 3 1 (2+(aE d).length))] (GH v an main T++[.row true 16 1 (aY ([.int .u8 2,.sl [[.str (nm 117 (a+1))],[.str (nm 117 (a+2))]],.str (nm 102 j),.sl [bQ k l m n o p,bQ t u w sb x y],.bool true,.int .u8 N,.int .u8 O,.int .i32 P,.str Q,.sl R,.sl S,.int .i64 0,.int .i64 0,.sl [],.int .i64 0,.int .i64 0]::bH B)),.row true 15 1 (aY (aE (cY 117 (a+1) .int::cY 117 (a+2) .ft::d)))]) W W<|DC.cq 8 W (lj W (by grind) (by simp) (by rw[<-Rw];exact fe (.call (nm 117 (a+1)) (nm 117 (a+2)) (nm 102 j) f b true e::B)))<|DC.cq 9 W (lj W (by simp only[bA,asO];omega) (by simp[aE]) (cu _)) ?_
  refine DC.ret ⟨_,W,pO W,jx W,pz v an main T,.call (nm 117 (a+1)) (nm 117 (a+2)) (nm 102 j) f b true e::B,cY 117 (a+1) .int::cY 117 (a+2) .ft::d,T,by rw[bH,Rw];rfl,rfl,?_,by grind,by grind,⟨by have:=z.i;simp only;omega,z.le,by have:=z.n;simp only;omega,z.qg,by grind,by have:=z.q1;simp only;omega⟩⟩;refine .call j hj f b SJ RH _ _ (.inr ⟨W,P_⟩) ?_;have e2:a+2=g7.n:=by omega
  rw[e2];rw[e2]at Rn;exact Rn
 .skip
  have Q:Mv zs A A:=⟨rfl,rfl,asj _,M.le⟩;obtain⟨S,T,⟨B,d,D,rfl,rfl,N,SR,SX,z⟩,R⟩:=V (s.more [cY 117 (a+1) .int,cY 117 (a+2) .ft]) (by simp only[Sc.more,asq,asO,atg];omega) X Y outs Z A Q.le (by omega) (by omega) (by omega) (by omega);have ah:=z.q0;refine DT.drop 2 (asj _)<|DT.ob func83 W ntmps83 W<|dO [2,2,22] W<|Oq (au OT W W)<|dR [23] W<|Oq (aL dE W W)<|dR [2,26] W<|Oq (au OV W W)<|dR [27] W<|Oq (aL li W W)<|dL [] W ?_;apply Ow bX
  .intro s0 Oo;refine fR 8 W<|bp PW W W<|aW ZG W W<|tS W W W (by have:(⟨#[102]⟩:ByteArray).size=1:=rfl;omega)<|fR 8 W<|TF.nil ⟨by kernel_rfl,rfl⟩
  refine dC [] W ?_;apply Ow bX
  .intro s0 Oo;refine fR 2 W<|aW dE W W<|bp H W W<|fR 2 W<|aW jO W W<|bp J W W<|fR 3 W<|TF.nil ⟨by kernel_rfl,rfl⟩
  refine dO [2,60] W<|Oq (au XJ W W)<|dR [61] W<|Oq (aQ (asY.2 (by omega)) W W W W)<|dR [0,2,74] W<|Oq (aL TP W W)<|dR [77] W<|Oq (au R W W)<|dL [] W ?_;have O:(aB.call (nm 117 (a+1)) (nm 117 (a+2)) (nm 102 j) f b false .nil).cells=[.int .u8 2,.sl [[.str (nm 117 (a+1))],[.str (nm 117 (a+2))]],.str (nm 102 j),.sl [bQ k l m n o p,bQ t u w sb x y],.bool false,.int .u8 0,.int .u8 0,.int .i32 0,.str ⟨#[]⟩,.sl [],.sl [],.int .i64 0,.int .i64 0,.sl [],.int .i64 0,.int .i64 0]:=by rw[aB.cells,I,L];rfl
  refine dO [2,2,83] W<|Oq (iZ true W W W W (by rfl) (by simp) (by exact mi W) (by grind))<|dR [2,86] W<|Oq (fW (cs:=aY [[.int .u8 2,.sl [[.str (nm 117 (a+1))],[.str (nm 117 (a+2))]],.str (nm 102 j),.sl [bQ k l m n o p,bQ t u w sb x y],.bool false,.int .u8 0,.int .u8 0,.int .i32 0,.str ⟨#[]⟩,.sl [],.sl [],.int .i64 0,.int .i64 0,.sl [],.int .i64 0,.int .i64 0]]) W W W W W (fe B) (by rw[eg];simp;omega) (by rw[eg];simp;omega))<|dR [2,2,91] W<|Oq (iZ true W W W W (by rfl) (by simp) (by intro r i;simp at i;rcases i with rfl|rfl<;>rfl) (by grind))<|dR [2,95] W<|Oq (fW (cs:=aY (aE [cY 117 (a+1) .int,cY 117 (a+2) .ft])) W W W W W (cu d) (by rw[bA];simp;omega) (by rw[bA];simp;omega))<|dL [] W<|OB [nM 8 (.bC 2 1 (1+(bH B).length)),nM 9 (.bC 3 1 (2+(aE d).length))] (GH v an main D++[.row true 16 1 (aY ([.int .u8 2,.sl [[.str (nm 117 (a+1))],[.str (nm 117 (a+2))]],.str (nm 102 j),.sl [bQ k l m n o p,bQ t u w sb x y],.bool false,.int .u8 0,.int .u8 0,.int .i32 0,.str ⟨#[]⟩,.sl [],.sl [],.int .i64 0,.int .i64 0,.sl [],.int .i64 0,.int .i64 0]::bH B)),.row true 15 1 (aY (aE (cY 117 (a+1) .int::cY 117 (a+2) .ft::d)))]) W W<|DC.cq 8 W (lj W (by grind) (by simp) (by rw[<-O];exact fe (.call (nm 117 (a+1)) (nm 117 (a+2)) (nm 102 j) f b false .nil::B)))<|DC.cq 9 W (lj W (by simp only[bA,asO];omega) (by simp[aE]) (cu _)) ?_
  refine DC.ret ⟨_,W,pO W,jx W,pz v an main D,.call (nm 117 (a+1)) (nm 117 (a+2)) (nm 102 j) f b false .nil::B,cY 117 (a+1) .int::cY 117 (a+2) .ft::d,D,by rw[bH,O];rfl,rfl,?_,by grind,by grind,⟨by have:=z.i;simp only;omega,z.le,by have:=z.n;simp only;omega,z.qg,by grind,by have:=z.q1;simp only;omega⟩⟩;refine .call j hj f b SJ RH _ _ (.inl ⟨W,W⟩) ?_;have P:a+2=A.n:=by omega
  rw[P];rw[P]at N;exact N
end
section
variable{zs:List Int}{v:D}(ht:Tape zs v)(an:Nat)(main:Bool)
include ht
def DP(N c:Nat)(hD:N<=3)(qr:c<=14)(ih:wP zs v an main N c)(s:Sc)(P:s.ready.length+2*c+2<=900-200*N)(ha:s.all.length<=1000)(Xe:s.da.length<=900-200*N)(outs:List Va)(ho:outs.length<=3)
  (g:GS) (V:g.i<=zs.length) (hn:g.n+3<=3*g.i) (QJ:0<g.q) (Xt:g.q<=c):
  DT prog 84 [.ref 1 0,.d (.agg s.cells),.d (.sl (aE outs)),dN N] (GH v an main g) λr K=>∃(q:List aB) (h:List Va) (g':GS),r=.di [.d (.sl (bH q)),.d (.sl (aE h))]/\K=GH v an main g'/\GQ (DO an N) an s outs g.n g'.n q h/\q.length<=3*(c+1)+3/\h.length<=3*(c+1)/\Bm zs (1+3*qP N) g g':=by
 have hL:=ht.hl;obtain⟨Z,a,gq⟩:=g;simp only at V hn QJ Xt;have Sb:wN s:=⟨by omega,by omega,by omega⟩;obtain⟨r1,K1,⟨rfl,rfl⟩,OT⟩:=qO ht an main 99 ⟨Z,a,gq⟩ V (by simp only;omega);obtain⟨r2,K2,⟨rfl,rfl⟩,OV⟩:=qO ht an main 119 ⟨Z,a+1,gq⟩ V (by simp only;omega);obtain⟨r3,K3,⟨rfl,rfl⟩,PW⟩:=qO ht an main 122 ⟨Z,a+2,gq⟩ V (by simp only;omega);obtain⟨r4,K4,⟨f,g4,rfl,rfl,SJ,Qc⟩,Sj⟩:=dD ht an main 2 (by omega) s Sb .int false ⟨Z,a+3,gq⟩ V;obtain⟨i,j,k,l,m,n,X⟩:=f.shape;rw[X]at Sj;obtain⟨r5,K5,⟨b,g5,rfl,rfl,RH,R0⟩,Vp⟩:=dD ht an main 2 (by omega) s Sb .int false g4 Qc.le;obtain⟨o,p,t,sb,u,w,h5⟩:=b.shape;rw[h5]at Vp;obtain⟨r6,K6,⟨L,g6,rfl,rfl,d9,Sv⟩,XJ⟩:=iS ht an main .int g5 R0.le;obtain⟨x,y,z,A,B,C,h6⟩:=L.shape;rw[h6]at XJ;obtain⟨r7,K7,⟨O,g7,rfl,rfl,f4,YD⟩,ah⟩:=iS ht an main .int g6 Sv.le;obtain⟨Q,R,S,sl,al,T,h7⟩:=O.shape;rw[h7]at ah;have co:=lx 7 3 (.var (nm 119 (a+2))) (.fq (nm 99 (a+1)) cg f);have d6:=lx 9 0 O (.bin 3 (.var (nm 119 (a+2))) (.fq (nm 99 (a+1)) cg f));simp only[E.cells,X]at co;simp only[E.cells,X,h7]at d6;obtain⟨r8,K8,⟨j8,g8,rfl,rfl,i6⟩,f8⟩:=fw ht an main 2 (by omega) (by omega) g7 YD.le;have f9:=i6.mv;obtain⟨r9,K9,⟨e,Y,rfl,rfl,P_,i7⟩,d7⟩:=dD ht an main 3 (by omega) s Sb .ft true g8 f9.le;obtain⟨D,F,G,H,I,J,h9⟩:=e.shape;rw[h9]at d7;have ac:=Qc.trans (R0.trans (Sv.trans (YD.trans (f9.trans i7))));have i8:=ac.n;have i9:=ac.q;have mt:=ac.i;simp only at i8 i9 mt
 have TP:=tq s [cY 99 (a+1) .ft,cY 122 (a+3) .int] (by omega) (by simp);obtain⟨rg,rt,⟨d,h,U,rfl,rfl,Rn,SR,SX,M⟩,gc⟩:=ih (s.more [cY 99 (a+1) .ft,cY 122 (a+3) .int]) (by simp only[Sc.more,asq,asO,atg];omega) ha Xe outs ho Y ac.le (by omega) (by omega) (by omega) (by omega);have rx:=M.q0;rcases asR j8 with ge|ge
 .skip
  subst ge;have Rw:bH (.df (nm 99 (a+1)) e:: .df (nm 119 (a+2)) (.fq (nm 99 (a+1)) cg f):: .df (nm 122 (a+3)) (.merge (nm 99 (a+1)) bz cg cX (.fq (nm 99 (a+1)) bz b) (.var (nm 119 (a+2))) L):: [])=[[.int .u8 1,.sl [[.str (nm 99 (a+1))]],.str ⟨#[]⟩,.sl [],.bool false,.int .u8 D,.int .u8 F,.int .i32 G,.str H,.sl I,.sl J,.int .i64 0,.int .i64 0,.sl [],.int .i64 0,.int .i64 0],[.int .u8 1,.sl [[.str (nm 119 (a+2))]],.str ⟨#[]⟩,.sl [],.bool false,.int .u8 12,.int .u8 0,.int .i32 0,.str (nm 99 (a+1)),.sl [[.str cg]],.sl [bQ i j k l m n],.int .i64 0,.int .i64 0,.sl [],.int .i64 0,.int .i64 0],[.int .u8 1,.sl [[.str (nm 122 (a+3))]],.str ⟨#[]⟩,.sl [],.bool false,.int .u8 13,.int .u8 0,.int .i32 0,.str (nm 99 (a+1)),.sl [[.str bz],[.str cg],[.str cX]],.sl [bQ 12 0 0 (nm 99 (a+1)) [[.str bz]] [bQ o p t sb u w],bQ 4 0 0 (nm 119 (a+2)) [] [],bQ x y z A B C],.int .i64 0,.int .i64 0,.sl [],.int .i64 0,.int .i64 0]]:=by simp only[bH,aB.cells,E.cells,X,h5,h6,h7,h9];rfl
  have pm:=jn (by rfl) gc [.row true 16 0 (aY [[.int .u8 1,.sl [[.str (nm 99 (a+1))]],.str ⟨#[]⟩,.sl [],.bool false,.int .u8 D,.int .u8 F,.int .i32 G,.str H,.sl I,.sl J,.int .i64 0,.int .i64 0,.sl [],.int .i64 0,.int .i64 0],[.int .u8 1,.sl [[.str (nm 119 (a+2))]],.str ⟨#[]⟩,.sl [],.bool false,.int .u8 12,.int .u8 0,.int .i32 0,.str (nm 99 (a+1)),.sl [[.str cg]],.sl [bQ i j k l m n],.int .i64 0,.int .i64 0,.sl [],.int .i64 0,.int .i64 0],[.int .u8 1,.sl [[.str (nm 122 (a+3))]],.str ⟨#[]⟩,.sl [],.bool false,.int .u8 13,.int .u8 0,.int .i32 0,.str (nm 99 (a+1)),.sl [[.str bz],[.str cg],[.str cX]],.sl [bQ 12 0 0 (nm 99 (a+1)) [[.str bz]] [bQ o p t sb u w],bQ 4 0 0 (nm 119 (a+2)) [] [],bQ x y z A B C],.int .i64 0,.int .i64 0,.sl [],.int .i64 0,.int .i64 0]])];refine DT.drop 2 (asj _)<|DT.ob func84 W ntmps84 W<|dO [2,2,26] W<|Oq (au OT W W)<|dR [27] W<|Oq (aL li W W)<|dL [] W ?_;apply Ow bX
  .intro s0 Oo;refine fR 1 W<|bp OV W W<|aW dE W W<|fR 7 W<|TF.nil ⟨by kernel_rfl,rfl⟩
  refine dO [2,38] W<|Oq (au PW W W)<|dR [39] W<|Oq (aL dE W W)<|dL [] W ?_;apply Ow bX
  .intro s0 Oo;refine fR 5 W<|aW dE W W<|bp Sj W W<|fR 4 W<|TF.nil ⟨by kernel_rfl,rfl⟩
  refine dC [] W ?_;apply Ow bX
  .intro s0 Oo;refine fR 5 W<|aW dE W W<|bp Vp W W<|fR 4 W<|TF.nil ⟨by kernel_rfl,rfl⟩
  refine dC [] W ?_;apply Ow bX
  .intro s0 Oo;refine fR 8 W<|aW dE W W<|bp XJ W W<|fR 4 W<|TF.nil ⟨by kernel_rfl,rfl⟩
  refine dC [] W ?_;apply Ow bX
  .intro s0 Oo;refine fR 1 W<|aW dE W W<|bp ah W W<|fR 4 W<|aW co W W<|aW d6 W W<|fR 2 W<|TF.nil ⟨by kernel_rfl,rfl⟩
  refine dO [2,84] W<|Oq (au f8 W W)<|dL [1,2] W ?_;apply Ow bX
  .intro s0 Oo;refine fR 5 W<|aW li W W<|bp d7 W W<|fR 11 W<|xl W W W W W W<|fR 1 W<|TF.nil ⟨by kernel_rfl,rfl⟩
  refine DC.lD 2 W<|OB [nM 17 (.bC 2 0 3),(12,.loc 12 0),(11,.loc 11 0),(10,.loc 10 0),nD 5 (.aZ s.cells 0),nN 3 N,nD 2 (.sl (aE outs)),nR 0 1] (GH v an main Y++[.row true 16 0 (aY [[.int .u8 1,.sl [[.str (nm 99 (a+1))]],.str ⟨#[]⟩,.sl [],.bool false,.int .u8 D,.int .u8 F,.int .i32 G,.str H,.sl I,.sl J,.int .i64 0,.int .i64 0,.sl [],.int .i64 0,.int .i64 0],[.int .u8 1,.sl [[.str (nm 119 (a+2))]],.str ⟨#[]⟩,.sl [],.bool false,.int .u8 12,.int .u8 0,.int .i32 0,.str (nm 99 (a+1)),.sl [[.str cg]],.sl [bQ i j k l m n],.int .i64 0,.int .i64 0,.sl [],.int .i64 0,.int .i64 0],[.int .u8 1,.sl [[.str (nm 122 (a+3))]],.str ⟨#[]⟩,.sl [],.bool false,.int .u8 13,.int .u8 0,.int .i32 0,.str (nm 99 (a+1)),.sl [[.str bz],[.str cg],[.str cX]],.sl [bQ 12 0 0 (nm 99 (a+1)) [[.str bz]] [bQ o p t sb u w],bQ 4 0 0 (nm 119 (a+2)) [] [],bQ x y z A B C],.int .i64 0,.int .i64 0,.sl [],.int .i64 0,.int .i64 0]])]) W W<|dO [2,112] W<|Oq (aL TP W W)<|dR [115] W<|Oq (au pm W W)<|dR [2,2,123] W<|Oq (iZ true W W W W (by rfl) (by simp) (by intro r P;simp at P;rcases P with rfl|rfl|rfl<;>rfl) (by exact pO W))<|dR [2,126] W ?_
  refine Oq (fW (cs:=aY [[.int .u8 1,.sl [[.str (nm 99 (a+1))]],.str ⟨#[]⟩,.sl [],.bool false,.int .u8 D,.int .u8 F,.int .i32 G,.str H,.sl I,.sl J,.int .i64 0,.int .i64 0,.sl [],.int .i64 0,.int .i64 0],[.int .u8 1,.sl [[.str (nm 119 (a+2))]],.str ⟨#[]⟩,.sl [],.bool false,.int .u8 12,.int .u8 0,.int .i32 0,.str (nm 99 (a+1)),.sl [[.str cg]],.sl [bQ i j k l m n],.int .i64 0,.int .i64 0,.sl [],.int .i64 0,.int .i64 0],[.int .u8 1,.sl [[.str (nm 122 (a+3))]],.str ⟨#[]⟩,.sl [],.bool false,.int .u8 13,.int .u8 0,.int .i32 0,.str (nm 99 (a+1)),.sl [[.str bz],[.str cg],[.str cX]],.sl [bQ 12 0 0 (nm 99 (a+1)) [[.str bz]] [bQ o p t sb u w],bQ 4 0 0 (nm 119 (a+2)) [] [],bQ x y z A B C],.int .i64 0,.int .i64 0,.sl [],.int .i64 0,.int .i64 0]]) W W W W W (fe d) (by rw[eg];omega) (by rw[eg];omega))<|dR [129] W<|Oq (fW (cs:=aY (aE (cY 99 (a+1) .ft::⟨nm 119 (a+2),.int,some (cg,nm 99 (a+1)),false,.nil⟩::cY 122 (a+3) .int:: []))) W W W W W (cu h) (by rw[bA];simp;omega) (by rw[bA];simp;omega))<|dL [] W<|OB [nM 8 (.bC 2 1 (3+(bH d).length)),nM 9 (.bC 3 1 (3+(aE h).length))] (GH v an main U++[.row true 16 1 (aY ([.int .u8 1,.sl [[.str (nm 99 (a+1))]],.str ⟨#[]⟩,.sl [],.bool false,.int .u8 D,.int .u8 F,.int .i32 G,.str H,.sl I,.sl J,.int .i64 0,.int .i64 0,.sl [],.int .i64 0,.int .i64 0]:: [.int .u8 1,.sl [[.str (nm 119 (a+2))]],.str ⟨#[]⟩,.sl [],.bool false,.int .u8 12,.int .u8 0,.int .i32 0,.str (nm 99 (a+1)),.sl [[.str cg]],.sl [bQ i j k l m n],.int .i64 0,.int .i64 0,.sl [],.int .i64 0,.int .i64 0]:: [.int .u8 1,.sl [[.str (nm 122 (a+3))]],.str ⟨#[]⟩,.sl [],.bool false,.int .u8 13,.int .u8 0,.int .i32 0,.str (nm 99 (a+1)),.sl [[.str bz],[.str cg],[.str cX]],.sl [bQ 12 0 0 (nm 99 (a+1)) [[.str bz]] [bQ o p t sb u w],bQ 4 0 0 (nm 119 (a+2)) [] [],bQ x y z A B C],.int .i64 0,.int .i64 0,.sl [],.int .i64 0,.int .i64 0]::bH d)),.row true 15 1 (aY (aE (cY 99 (a+1) .ft::⟨nm 119 (a+2),.int,some (cg,nm 99 (a+1)),false,.nil⟩::cY 122 (a+3) .int::h)))]) W W ?_
  have Xf:bH (.df (nm 99 (a+1)) e:: .df (nm 119 (a+2)) (.fq (nm 99 (a+1)) cg f):: .df (nm 122 (a+3)) (.merge (nm 99 (a+1)) bz cg cX (.fq (nm 99 (a+1)) bz b) (.var (nm 119 (a+2))) L)::d)=[.int .u8 1,.sl [[.str (nm 99 (a+1))]],.str ⟨#[]⟩,.sl [],.bool false,.int .u8 D,.int .u8 F,.int .i32 G,.str H,.sl I,.sl J,.int .i64 0,.int .i64 0,.sl [],.int .i64 0,.int .i64 0]:: [.int .u8 1,.sl [[.str (nm 119 (a+2))]],.str ⟨#[]⟩,.sl [],.bool false,.int .u8 12,.int .u8 0,.int .i32 0,.str (nm 99 (a+1)),.sl [[.str cg]],.sl [bQ i j k l m n],.int .i64 0,.int .i64 0,.sl [],.int .i64 0,.int .i64 0]:: [.int .u8 1,.sl [[.str (nm 122 (a+3))]],.str ⟨#[]⟩,.sl [],.bool false,.int .u8 13,.int .u8 0,.int .i32 0,.str (nm 99 (a+1)),.sl [[.str bz],[.str cg],[.str cX]],.sl [bQ 12 0 0 (nm 99 (a+1)) [[.str bz]] [bQ o p t sb u w],bQ 4 0 0 (nm 119 (a+2)) [] [],bQ x y z A B C],.int .i64 0,.int .i64 0,.sl [],.int .i64 0,.int .i64 0]::bH d:=by
   have d8:=iT (.df (nm 99 (a+1)) e:: .df (nm 119 (a+2)) (.fq (nm 99 (a+1)) cg f):: .df (nm 122 (a+3)) (.merge (nm 99 (a+1)) bz cg cX (.fq (nm 99 (a+1)) bz b) (.var (nm 119 (a+2))) L):: []) d;rw[Rw]at d8;exact d8
  refine DC.cq 8 W (lj W (by simp;omega) (by simp) (by rw[<-Xf];exact fe _))<|DC.cq 9 W (lj W (by simp only[bA,asO];omega) (by simp[aE]) (cu _))<|DC.ret ⟨_,rfl,pO W,jx W,pz v an main U,.df (nm 99 (a+1)) e:: .df (nm 119 (a+2)) (.fq (nm 99 (a+1)) cg f):: .df (nm 122 (a+3)) (.merge (nm 99 (a+1)) bz cg cX (.fq (nm 99 (a+1)) bz b) (.var (nm 119 (a+2))) L)::d,cY 99 (a+1) .ft::⟨nm 119 (a+2),.int,some (cg,nm 99 (a+1)),false,.nil⟩::cY 122 (a+3) .int::h,U,by rw[Xf];rfl,rfl,?_,by simp;omega,by simp;omega,⟨by have:=M.i;simp only;omega,M.le,by have:=M.n;simp only;omega,M.qg,by simp only;omega,by have:=M.q1;simp only;omega⟩⟩;refine .mx f b L O e _ SJ RH d9 f4 P_ (.inl W) ?_;have e2:a+3=Y.n:=by omega
  rw[e2];rw[e2]at Rn;exact Rn
 .skip
  have Rw:bH (.df (nm 99 (a+1)) e:: .df (nm 119 (a+2)) (.fO O (.bin 3 (.var (nm 119 (a+2))) (.fq (nm 99 (a+1)) cg f))):: .df (nm 122 (a+3)) (.merge (nm 99 (a+1)) bz cg cX (.fq (nm 99 (a+1)) bz b) (.var (nm 119 (a+2))) L):: [])=[[.int .u8 1,.sl [[.str (nm 99 (a+1))]],.str ⟨#[]⟩,.sl [],.bool false,.int .u8 D,.int .u8 F,.int .i32 G,.str H,.sl I,.sl J,.int .i64 0,.int .i64 0,.sl [],.int .i64 0,.int .i64 0],[.int .u8 1,.sl [[.str (nm 119 (a+2))]],.str ⟨#[]⟩,.sl [],.bool false,.int .u8 9,.int .u8 0,.int .i32 0,.str ⟨#[]⟩,.sl [],.sl [bQ Q R S sl al T,bQ 7 3 0 ⟨#[]⟩ [] [bQ 4 0 0 (nm 119 (a+2)) [] [],bQ 12 0 0 (nm 99 (a+1)) [[.str cg]] [bQ i j k l m n]]],.int .i64 0,.int .i64 0,.sl [],.int .i64 0,.int .i64 0],[.int .u8 1,.sl [[.str (nm 122 (a+3))]],.str ⟨#[]⟩,.sl [],.bool false,.int .u8 13,.int .u8 0,.int .i32 0,.str (nm 99 (a+1)),.sl [[.str bz],[.str cg],[.str cX]],.sl [bQ 12 0 0 (nm 99 (a+1)) [[.str bz]] [bQ o p t sb u w],bQ 4 0 0 (nm 119 (a+2)) [] [],bQ x y z A B C],.int .i64 0,.int .i64 0,.sl [],.int .i64 0,.int .i64 0]]:=by simp only[bH,aB.cells,E.cells,X,h5,h6,h7,h9];rfl
  have pm:=jn (by rfl) gc [.row true 16 0 (aY [[.int .u8 1,.sl [[.str (nm 99 (a+1))]],.str ⟨#[]⟩,.sl [],.bool false,.int .u8 D,.int .u8 F,.int .i32 G,.str H,.sl I,.sl J,.int .i64 0,.int .i64 0,.sl [],.int .i64 0,.int .i64 0],[.int .u8 1,.sl [[.str (nm 119 (a+2))]],.str ⟨#[]⟩,.sl [],.bool false,.int .u8 9,.int .u8 0,.int .i32 0,.str ⟨#[]⟩,.sl [],.sl [bQ Q R S sl al T,bQ 7 3 0 ⟨#[]⟩ [] [bQ 4 0 0 (nm 119 (a+2)) [] [],bQ 12 0 0 (nm 99 (a+1)) [[.str cg]] [bQ i j k l m n]]],.int .i64 0,.int .i64 0,.sl [],.int .i64 0,.int .i64 0],[.int .u8 1,.sl [[.str (nm 122 (a+3))]],.str ⟨#[]⟩,.sl [],.bool false,.int .u8 13,.int .u8 0,.int .i32 0,.str (nm 99 (a+1)),.sl [[.str bz],[.str cg],[.str cX]],.sl [bQ 12 0 0 (nm 99 (a+1)) [[.str bz]] [bQ o p t sb u w],bQ 4 0 0 (nm 119 (a+2)) [] [],bQ x y z A B C],.int .i64 0,.int .i64 0,.sl [],.int .i64 0,.int .i64 0]])];refine DT.drop 2 (asj _)<|DT.ob func84 W ntmps84 W<|dO [2,2,26] W<|Oq (au OT W W)<|dR [27] W<|Oq (aL li W W)<|dL [] W ?_;apply Ow bX
  .intro s0 Oo;refine fR 1 W<|bp OV W W<|aW dE W W<|fR 7 W<|TF.nil ⟨by kernel_rfl,rfl⟩
  refine dO [2,38] W<|Oq (au PW W W)<|dR [39] W<|Oq (aL dE W W)<|dL [] W ?_;apply Ow bX
  .intro s0 Oo;refine fR 5 W<|aW dE W W<|bp Sj W W<|fR 4 W<|TF.nil ⟨by kernel_rfl,rfl⟩
  refine dC [] W ?_;apply Ow bX
  .intro s0 Oo;refine fR 5 W<|aW dE W W<|bp Vp W W<|fR 4 W<|TF.nil ⟨by kernel_rfl,rfl⟩
  refine dC [] W ?_;apply Ow bX
  .intro s0 Oo;refine fR 8 W<|aW dE W W<|bp XJ W W<|fR 4 W<|TF.nil ⟨by kernel_rfl,rfl⟩
  refine dC [] W ?_;apply Ow bX
  .intro s0 Oo;refine fR 1 W<|aW dE W W<|bp ah W W<|fR 4 W<|aW co W W<|aW d6 W W<|fR 2 W<|TF.nil ⟨by kernel_rfl,rfl⟩
  refine dO [2,84] W<|Oq (au f8 W W)<|dR [85] W<|Oq (aQ (asY.2 (by omega)) W W W W)<|dL [0] W ?_;apply Ow bX
  .intro s0 Oo;refine fR 5 W<|aW li W W<|bp d7 W W<|fR 11 W<|xl W W W W W W<|fR 1 W<|TF.nil ⟨by kernel_rfl,rfl⟩
  refine DC.lD 2 W<|OB [nM 17 (.bC 2 0 3),(12,.loc 12 0),(11,.loc 11 0),(10,.loc 10 0),nD 5 (.aZ s.cells 0),nN 3 N,nD 2 (.sl (aE outs)),nR 0 1] (GH v an main Y++[.row true 16 0 (aY [[.int .u8 1,.sl [[.str (nm 99 (a+1))]],.str ⟨#[]⟩,.sl [],.bool false,.int .u8 D,.int .u8 F,.int .i32 G,.str H,.sl I,.sl J,.int .i64 0,.int .i64 0,.sl [],.int .i64 0,.int .i64 0],[.int .u8 1,.sl [[.str (nm 119 (a+2))]],.str ⟨#[]⟩,.sl [],.bool false,.int .u8 9,.int .u8 0,.int .i32 0,.str ⟨#[]⟩,.sl [],.sl [bQ Q R S sl al T,bQ 7 3 0 ⟨#[]⟩ [] [bQ 4 0 0 (nm 119 (a+2)) [] [],bQ 12 0 0 (nm 99 (a+1)) [[.str cg]] [bQ i j k l m n]]],.int .i64 0,.int .i64 0,.sl [],.int .i64 0,.int .i64 0],[.int .u8 1,.sl [[.str (nm 122 (a+3))]],.str ⟨#[]⟩,.sl [],.bool false,.int .u8 13,.int .u8 0,.int .i32 0,.str (nm 99 (a+1)),.sl [[.str bz],[.str cg],[.str cX]],.sl [bQ 12 0 0 (nm 99 (a+1)) [[.str bz]] [bQ o p t sb u w],bQ 4 0 0 (nm 119 (a+2)) [] [],bQ x y z A B C],.int .i64 0,.int .i64 0,.sl [],.int .i64 0,.int .i64 0]])]) W W<|dO [2,112] W<|Oq (aL TP W W)<|dR [115] W<|Oq (au pm W W)<|dR [2,2,123] W<|Oq (iZ true W W W W (by rfl) (by simp) (by intro r P;simp at P;rcases P with rfl|rfl|rfl<;>rfl) (by exact pO W))<|dR [2,126] W ?_
  refine Oq (fW (cs:=aY [[.int .u8 1,.sl [[.str (nm 99 (a+1))]],.str ⟨#[]⟩,.sl [],.bool false,.int .u8 D,.int .u8 F,.int .i32 G,.str H,.sl I,.sl J,.int .i64 0,.int .i64 0,.sl [],.int .i64 0,.int .i64 0],[.int .u8 1,.sl [[.str (nm 119 (a+2))]],.str ⟨#[]⟩,.sl [],.bool false,.int .u8 9,.int .u8 0,.int .i32 0,.str ⟨#[]⟩,.sl [],.sl [bQ Q R S sl al T,bQ 7 3 0 ⟨#[]⟩ [] [bQ 4 0 0 (nm 119 (a+2)) [] [],bQ 12 0 0 (nm 99 (a+1)) [[.str cg]] [bQ i j k l m n]]],.int .i64 0,.int .i64 0,.sl [],.int .i64 0,.int .i64 0],[.int .u8 1,.sl [[.str (nm 122 (a+3))]],.str ⟨#[]⟩,.sl [],.bool false,.int .u8 13,.int .u8 0,.int .i32 0,.str (nm 99 (a+1)),.sl [[.str bz],[.str cg],[.str cX]],.sl [bQ 12 0 0 (nm 99 (a+1)) [[.str bz]] [bQ o p t sb u w],bQ 4 0 0 (nm 119 (a+2)) [] [],bQ x y z A B C],.int .i64 0,.int .i64 0,.sl [],.int .i64 0,.int .i64 0]]) W W W W W (fe d) (by rw[eg];omega) (by rw[eg];omega)) ?_;refine dR [129] W ?_;refine Oq (fW (cs:=aY (aE (cY 99 (a+1) .ft::⟨nm 119 (a+2),.int,some (cg,nm 99 (a+1)),false,.nil⟩::cY 122 (a+3) .int:: []))) W W W W W (cu h) (by rw[bA];simp;omega) (by rw[bA];simp only[asO,atg];omega)) ?_;refine dL [] W ?_
  refine OB [nM 8 (.bC 2 1 (3+(bH d).length)),nM 9 (.bC 3 1 (3+(aE h).length))] (GH v an main U++[.row true 16 1 (aY ([.int .u8 1,.sl [[.str (nm 99 (a+1))]],.str ⟨#[]⟩,.sl [],.bool false,.int .u8 D,.int .u8 F,.int .i32 G,.str H,.sl I,.sl J,.int .i64 0,.int .i64 0,.sl [],.int .i64 0,.int .i64 0]:: [.int .u8 1,.sl [[.str (nm 119 (a+2))]],.str ⟨#[]⟩,.sl [],.bool false,.int .u8 9,.int .u8 0,.int .i32 0,.str ⟨#[]⟩,.sl [],.sl [bQ Q R S sl al T,bQ 7 3 0 ⟨#[]⟩ [] [bQ 4 0 0 (nm 119 (a+2)) [] [],bQ 12 0 0 (nm 99 (a+1)) [[.str cg]] [bQ i j k l m n]]],.int .i64 0,.int .i64 0,.sl [],.int .i64 0,.int .i64 0]:: [.int .u8 1,.sl [[.str (nm 122 (a+3))]],.str ⟨#[]⟩,.sl [],.bool false,.int .u8 13,.int .u8 0,.int .i32 0,.str (nm 99 (a+1)),.sl [[.str bz],[.str cg],[.str cX]],.sl [bQ 12 0 0 (nm 99 (a+1)) [[.str bz]] [bQ o p t sb u w],bQ 4 0 0 (nm 119 (a+2)) [] [],bQ x y z A B C],.int .i64 0,.int .i64 0,.sl [],.int .i64 0,.int .i64 0]::bH d)),.row true 15 1 (aY (aE (cY 99 (a+1) .ft::⟨nm 119 (a+2),.int,some (cg,nm 99 (a+1)),false,.nil⟩::cY 122 (a+3) .int::h)))]) W W ?_
  have Xf:bH (.df (nm 99 (a+1)) e:: .df (nm 119 (a+2)) (.fO O (.bin 3 (.var (nm 119 (a+2))) (.fq (nm 99 (a+1)) cg f))):: .df (nm 122 (a+3)) (.merge (nm 99 (a+1)) bz cg cX (.fq (nm 99 (a+1)) bz b) (.var (nm 119 (a+2))) L)::d)=[.int .u8 1,.sl [[.str (nm 99 (a+1))]],.str ⟨#[]⟩,.sl [],.bool false,.int .u8 D,.int .u8 F,.int .i32 G,.str H,.sl I,.sl J,.int .i64 0,.int .i64 0,.sl [],.int .i64 0,.int .i64 0]:: [.int .u8 1,.sl [[.str (nm 119 (a+2))]],.str ⟨#[]⟩,.sl [],.bool false,.int .u8 9,.int .u8 0,.int .i32 0,.str ⟨#[]⟩,.sl [],.sl [bQ Q R S sl al T,bQ 7 3 0 ⟨#[]⟩ [] [bQ 4 0 0 (nm 119 (a+2)) [] [],bQ 12 0 0 (nm 99 (a+1)) [[.str cg]] [bQ i j k l m n]]],.int .i64 0,.int .i64 0,.sl [],.int .i64 0,.int .i64 0]:: [.int .u8 1,.sl [[.str (nm 122 (a+3))]],.str ⟨#[]⟩,.sl [],.bool false,.int .u8 13,.int .u8 0,.int .i32 0,.str (nm 99 (a+1)),.sl [[.str bz],[.str cg],[.str cX]],.sl [bQ 12 0 0 (nm 99 (a+1)) [[.str bz]] [bQ o p t sb u w],bQ 4 0 0 (nm 119 (a+2)) [] [],bQ x y z A B C],.int .i64 0,.int .i64 0,.sl [],.int .i64 0,.int .i64 0]::bH d:=by
   have d8:=iT (.df (nm 99 (a+1)) e:: .df (nm 119 (a+2)) (.fO O (.bin 3 (.var (nm 119 (a+2))) (.fq (nm 99 (a+1)) cg f))):: .df (nm 122 (a+3)) (.merge (nm 99 (a+1)) bz cg cX (.fq (nm 99 (a+1)) bz b) (.var (nm 119 (a+2))) L):: []) d;rw[Rw]at d8;exact d8
  refine DC.cq 8 W (lj W (by simp only[asO];omega) (by simp) (by rw[<-Xf];exact fe _)) ?_;refine DC.cq 9 W (lj W (by simp only[bA,asO];omega) (by simp[aE]) (cu _)) ?_;refine DC.ret ⟨_,W,pO W,jx W,pz v an main U,.df (nm 99 (a+1)) e:: .df (nm 119 (a+2)) (.fO O (.bin 3 (.var (nm 119 (a+2))) (.fq (nm 99 (a+1)) cg f))):: .df (nm 122 (a+3)) (.merge (nm 99 (a+1)) bz cg cX (.fq (nm 99 (a+1)) bz b) (.var (nm 119 (a+2))) L)::d,cY 99 (a+1) .ft::⟨nm 119 (a+2),.int,some (cg,nm 99 (a+1)),false,.nil⟩::cY 122 (a+3) .int::h,U,by rw[Xf];rfl,rfl,?_,by simp only[asO];omega,by simp only[asO];omega,⟨by have:=M.i;simp only;omega,M.le,by have:=M.n;simp only;omega,M.qg,by simp only;omega,by have:=M.q1;simp only;omega⟩⟩;refine .mx f b L O e _ SJ RH d9 f4 P_ (.inr W) ?_;have e2:a+3=Y.n:=by omega
  rw[e2];rw[e2]at Rn;exact Rn
end
variable{zs:List Int}{w gq:Int}{gi gn:Nat}{g:GS}
def JQ:∀d,d<=3->0<=qP d/\qP d<=4000
 |0,_=>by decide
 |d+1,h=>xK d (by omega)
theorem zp(a:0<=w)(b:gn<=3*gi)(h:Mv zs ⟨gi,gn,gq-1⟩ g):Bm zs (1+w) ⟨gi,gn,gq⟩ g:=by
 have b:=h.n;have c:=h.q;have a:=h.i;simp only at b c a;exact⟨a,h.le,by grind,by omega,by grind,by grind⟩
theorem Cx{b:GS}(c:0<gq-1)(d:0<=w)(a:Mv zs ⟨gi,gn,gq-1⟩ b)(h:Bm zs w b g):Bm zs (1+w) ⟨gi,gn,gq⟩ g:=by
 have b:=a.n;have c:=a.q;have d:=a.i;simp only at b c d;have a:=h.i;have a:=h.n;have a:=h.q0;have a:=h.q1;exact⟨by grind,h.le,by grind,h.qg,by grind,by grind⟩
section
variable{zs:List Int}{v:D}(ht:Tape zs v)(an:Nat)(main:Bool)
include ht
theorem Be(t c:Nat)(D:t<=3)(d7:c<=14)(O:an<=10)(u:∀d,t=d+1->qQ zs v an main d)(B:∀a,c=a+1->wP zs v an main t a):wP zs v an main t c:=by
 intro s hr E K a r Z F x ac QJ ah;obtain⟨g,h,f⟩:=Z;simp only at F x ac QJ ah;have y:wN s:=⟨by omega,by omega,by omega⟩;have hW:=JQ t D;have C:0<=3*qP t:=by omega
 cases t with
 |zero=>
  refine DT.drop 2 (asj _)<|DT.ob func53 W ntmps53 W ?_;show DC _ _ _ _ ⟨_,_,[.box (fA v g),.box (kq h f an main)]⟩ _;refine dO [2,2,21] W<|Oq (cI W W W (by omega))<|dR [999] W<|Oq (cc W W W W W W)<|dL [2,0] W<|OB [nD 5 (.aZ s.cells 0),nD 2 (.sl (aE a)),nR 0 1] (GH v an main ⟨g,h,f-1⟩) W W<|dC [2,2] W<|OB [nN 12 0,nM 11 (gw 2 (bH [])),nD 5 (.aZ s.cells 0),nD 2 (.sl (aE a)),nR 0 1] (dK (GH v an main ⟨g,h,f-1⟩) 16 (bH [])) W W<|dC [3] W<|DC.lp (λn o=>∃(i:Nat) (q:List aB) (j:GS),o=⟨[nI 12 (i:Int),nM 11 (gw 2 (bH q)),nD 5 (.aZ s.cells 0),nD 2 (.sl (aE a)),nR 0 1],[],dK (GH v an main j) 16 (bH q)⟩/\i<=a.length/\q.length=i/\py s (a.take i) q/\Mv zs ⟨g,h,f-1⟩ j/\n=a.length-i) a.length _
   ⟨0,[],⟨g,h,f-1⟩,rfl,by omega,rfl,.nil,⟨rfl,rfl,asj _,F⟩,rfl⟩ W ?_
  rintro n o ⟨i,q,j,rfl,Y,J,m,k,rfl⟩;refine dO [2,100] W<|Oq (bK W W W) ?_;rw[bA];refine dL [] W<|DC.cond W (λL=>?_) (λL=>?_)
  .have p:i<a.length:=by grind
   have l:=eb p;have z:=asA p;generalize a[i]=w at l z;obtain⟨x0,x1,x2,x3,x4,x5,x6,x7,M,_⟩:=kM w;rw[M]at l;obtain⟨r1,K1,⟨e,A,rfl,rfl,N,P⟩,G⟩:=dD ht an main 3 (by omega) s y w.ty true j k.le;obtain⟨Q,R,S,T,U,V,H⟩:=e.shape;rw[H]at G;have X:=eE (by rfl) G 16 (bH q);have I:bH (q++[.df w.name e])=bH q++[[.int .u8 1,.sl [[.str w.name]],.str ⟨#[]⟩,.sl [],.bool false,.int .u8 Q,.int .u8 R,.int .i32 S,.str T,.sl U,.sl V,.int .i64 0,.int .i64 0,.sl [],.int .i64 0,.int .i64 0]]:=by rw[iT,bH,bH,aB.cells,H];rfl
   refine dC [3] W ?_;apply Ow bX
   .intro s0 Oo;refine fR 3 W<|bJ W W W (asm i) l W<|fR 7 W<|bJ W W W (asm i) l W<|fR 2 W<|bp X W W<|fR 2 W<|nr (H0:=GH v an main A) W W W W (by rfl) W (by rw[eg];omega) (by rw[eg];omega)<|fR 1 W<|TF.nil ⟨by kernel_rfl,rfl⟩
   refine dO [2,103] W<|Oq (ay W W W (by omega))<|dL [] W<|bG (k':=a.length-(i+1)) (by omega) ⟨i+1,q++[.df w.name e],A,rfl,by omega,by simp[J],by rw[z];exact .snoc m w e N,k.trans P,W⟩ (by rw[I];rfl) (kc W (kc (by rw[I];rfl) W))
  .refine DC.exit ?_;have p:i=a.length:=by grind
   subst p;rw[asU]at m;obtain⟨w,z,A⟩:=nt v an main j 16 (bH q);refine dC [2] W<|DC.cq 8 W (ji (GH v an main j) 16 (bH q) (fe q)) ?_;have l:=k.n;simp only at l;exact DC.ret ⟨_,W,w,jx W,z,q,[],j,W,A,by simp only;rw[l];exact .sc m,by omega,by simp,zp C x k⟩
 |succ d=>
  have l:decide (((d+1:Nat):Int)>0)=true:=asP (by omega);rcases Int.lt_or_le 0 (f-1)with z|z
  rotate_left
  .skip
   refine DT.drop 2 (asj _)<|DT.ob func53 W ntmps53 W ?_;show DC _ _ _ _ ⟨_,_,[.box (fA v g),.box (kq h f an main)]⟩ _;refine dO [2,2,21] W<|Oq (cI W W W (by omega))<|dR [999] W<|Oq (cc W W W W W W)<|dR [2,25] W<|Oq (aQ l W W W W)<|dR [31] W ?_
   first|refine Oq (aH W W) ?_|(refine Oq (aC W) ?_;refine Oq (aQ (asX (by omega)) W W W W) ?_)
   refine dL [0] W<|OB [nD 5 (.aZ s.cells 0),nD 2 (.sl (aE a)),nR 0 1] (GH v an main ⟨g,h,f-1⟩) W W<|dC [2,2] W<|OB [nN 12 0,nM 11 (gw 2 (bH [])),nD 5 (.aZ s.cells 0),nD 2 (.sl (aE a)),nR 0 1] (dK (GH v an main ⟨g,h,f-1⟩) 16 (bH [])) W W<|dC [3] W<|DC.lp (λN P=>∃(k:Nat) (q:List aB) (i:GS),P=⟨[nI 12 (k:Int),nM 11 (gw 2 (bH q)),nD 5 (.aZ s.cells 0),nD 2 (.sl (aE a)),nR 0 1],[],dK (GH v an main i) 16 (bH q)⟩/\k<=a.length/\q.length=k/\py s (a.take k) q/\Mv zs ⟨g,h,f-1⟩ i/\N=a.length-k) a.length _
    ⟨0,[],⟨g,h,f-1⟩,rfl,by omega,rfl,.nil,⟨rfl,rfl,asj _,F⟩,rfl⟩ W ?_
   rintro N P ⟨k,q,G,rfl,hi,X,L,H,rfl⟩;refine dO [2,100] W<|Oq (bK W W W) ?_;rw[bA];refine dL [] W<|DC.cond W (λY=>?_) (λY=>?_)
   .have Q:k<a.length:=by grind
    have I:=eb Q;have R:=asA Q;generalize a[k]=w at I R;obtain⟨x0,x1,x2,x3,x4,x5,x6,x7,hw,_⟩:=kM w;rw[hw]at I;obtain⟨r1,K1,⟨e,S,rfl,rfl,P_,PH⟩,T⟩:=dD ht an main 3 (by omega) s y w.ty true G H.le;obtain⟨ke,Q2,ne,se,ae,be,U⟩:=e.shape;rw[U]at T;have Wu:=eE (by rfl) T 16 (bH q);have V:bH (q++[.df w.name e])=bH q++[[.int .u8 1,.sl [[.str w.name]],.str ⟨#[]⟩,.sl [],.bool false,.int .u8 ke,.int .u8 Q2,.int .i32 ne,.str se,.sl ae,.sl be,.int .i64 0,.int .i64 0,.sl [],.int .i64 0,.int .i64 0]]:=by rw[iT,bH,bH,aB.cells,U];rfl
    refine dC [3] W ?_;apply Ow bX
    .intro s0 Oo;refine fR 3 W<|bJ W W W (asm k) I W<|fR 7 W<|bJ W W W (asm k) I W<|fR 2 W<|bp Wu W W<|fR 2 W<|nr (H0:=GH v an main S) W W W W (by rfl) W (by rw[eg];omega) (by rw[eg];omega)<|fR 1 W<|TF.nil ⟨by kernel_rfl,rfl⟩
    refine dO [2,103] W<|Oq (ay W W W (by omega))<|dL [] W<|bG (k':=a.length-(k+1)) (by omega) ⟨k+1,q++[.df w.name e],S,rfl,by omega,by simp[X],by rw[R];exact .snoc L w e P_,H.trans PH,W⟩ (by rw[V];rfl) (kc W (kc (by rw[V];rfl) W))
   .refine DC.exit ?_;have I:k=a.length:=by grind
    subst I;rw[asU]at L;obtain⟨Q,R,S⟩:=nt v an main G 16 (bH q);refine dC [2] W<|DC.cq 8 W (ji (GH v an main G) 16 (bH q) (fe q)) ?_;have w:=H.n;simp only at w;exact DC.ret ⟨_,W,Q,jx W,R,q,[],G,W,S,by simp only;rw[w];exact .sc L,by omega,by simp,zp C x H⟩
  have m:=asP (by omega);obtain⟨c,rfl⟩:∃a,c=a+1:=⟨c-1,by omega⟩;have B:=B c W;have u:=u d W;have A:Cw (800-200*d) s:=⟨by omega,E,by omega⟩;have Re:((d+1:Nat):Int)-1=(d:Int):=by omega
  obtain⟨r0,K0,⟨o,j,rfl,rfl,M⟩,n⟩:=fw ht an main 9 (by omega) (by omega) ⟨g,h,f-1⟩ F;have hj:=M.lt;have i:=M.mv;have p:=i.n;have co:=i.q;have d6:=i.i;have J:=M.qg;simp only at p co d6 J;have Ss:o=0\/o=1\/o=2\/o=3\/o=4\/o=5\/o=6\/o=7\/o=8:=by omega
  rcases Ss with rfl|rfl|rfl|rfl|rfl|rfl|rfl|rfl|rfl
  .skip
   obtain⟨L,N,⟨q,G,rfl,rfl,H,I⟩,k⟩:=zo ht an main d (by omega) u s A a r j i.le (by omega) (by omega) (by omega);obtain⟨P,Q,R,S,T,U,V,X,Y,a9,b0,b1,b2,b3,b4,b5,w⟩:=pT q.len;rw[w]at k;refine DT.ob func53 W ntmps53 W ?_;show DC _ _ _ _ ⟨_,_,[.box (fA v g),.box (kq h f an main)]⟩ _;refine dO [2,2,21] W<|Oq (cI W W W (by omega))<|dR [999] W<|Oq (cc W W W W W W)<|dR [2,25] W<|Oq (aQ l W W W W)<|dR [31] W ?_
   first|refine Oq (aH W W) ?_|(refine Oq (aC W) ?_;refine Oq (aQ m W W W W) ?_)
   refine dR [1,2,37] W<|Oq (au n W W)<|dR [3,2,1,1,2,45] W<|Oq (au k W W)<|dL [] W<|DC.ret ⟨_,W,[q],[],G,by rw[bH,bH,w];rfl,rfl,by rw[<-p];exact H,by simp,by simp,Cx z (by grind) i I⟩
  .skip
   obtain⟨L,N,⟨q,G,rfl,rfl,H,I⟩,k⟩:=zo ht an main d (by omega) u s A a r j i.le (by omega) (by omega) (by omega);obtain⟨P,Q,R,S,T,U,V,X,Y,a9,b0,b1,b2,b3,b4,b5,w⟩:=pT q.len;rw[w]at k;refine DT.ob func53 W ntmps53 W ?_;show DC _ _ _ _ ⟨_,_,[.box (fA v g),.box (kq h f an main)]⟩ _;refine dO [2,2,21] W<|Oq (cI W W W (by omega))<|dR [999] W<|Oq (cc W W W W W W)<|dR [2,25] W<|Oq (aQ l W W W W)<|dR [31] W ?_
   first|refine Oq (aH W W) ?_|(refine Oq (aC W) ?_;refine Oq (aQ m W W W W) ?_)
   refine dR [1,2,37] W<|Oq (au n W W)<|dR [3,2,0,2,1,2,45] W<|Oq (au k W W)<|dL [] W<|DC.ret ⟨_,W,[q],[],G,by rw[bH,bH,w];rfl,rfl,by rw[<-p];exact H,by simp,by simp,Cx z (by grind) i I⟩
  .skip
   obtain⟨L,N,⟨q,G,rfl,rfl,H,I⟩,k⟩:=DN ht an main d (by omega) u s A a r j i.le (by omega) (by omega) (by omega);obtain⟨P,Q,R,S,T,U,V,X,Y,a9,b0,b1,b2,b3,b4,b5,w⟩:=pT q.len;rw[w]at k;refine DT.ob func53 W ntmps53 W ?_;show DC _ _ _ _ ⟨_,_,[.box (fA v g),.box (kq h f an main)]⟩ _;refine dO [2,2,21] W<|Oq (cI W W W (by omega))<|dR [999] W<|Oq (cc W W W W W W)<|dR [2,25] W<|Oq (aQ l W W W W)<|dR [31] W ?_
   first|refine Oq (aH W W) ?_|(refine Oq (aC W) ?_;refine Oq (aQ m W W W W) ?_)
   refine dR [1,2,37] W<|Oq (au n W W)<|dR [3,2,0,2,0,2,1,1,2,54] W<|Oq (au k W W)<|dL [] W<|DC.ret ⟨_,W,[q],[],G,by rw[bH,bH,w];rfl,rfl,by rw[<-p];exact H,by simp,by simp,Cx z (by grind) i I⟩
  .skip
   obtain⟨L,N,⟨q,G,rfl,rfl,H,I⟩,k⟩:=DN ht an main d (by omega) u s A a r j i.le (by omega) (by omega) (by omega);obtain⟨P,Q,R,S,T,U,V,X,Y,a9,b0,b1,b2,b3,b4,b5,w⟩:=pT q.len;rw[w]at k;refine DT.ob func53 W ntmps53 W ?_;show DC _ _ _ _ ⟨_,_,[.box (fA v g),.box (kq h f an main)]⟩ _;refine dO [2,2,21] W<|Oq (cI W W W (by omega))<|dR [999] W<|Oq (cc W W W W W W)<|dR [2,25] W<|Oq (aQ l W W W W)<|dR [31] W ?_
   first|refine Oq (aH W W) ?_|(refine Oq (aC W) ?_;refine Oq (aQ m W W W W) ?_)
   refine dR [1,2,37] W<|Oq (au n W W)<|dR [3,2,0,2,0,2,0,2,1,2,54] W<|Oq (au k W W)<|dL [] W<|DC.ret ⟨_,W,[q],[],G,by rw[bH,bH,w];rfl,rfl,by rw[<-p];exact H,by simp,by simp,Cx z (by grind) i I⟩
  .skip
   obtain⟨S,T,⟨e,L,rfl,rfl,P,q⟩,w⟩:=dD ht an main 2 (by omega) s y .bool true j i.le;obtain⟨U,V,X,Y,ae,be,G⟩:=e.shape;rw[G]at w;have R:=q.n;have d8:=q.q;have d9:=q.i;obtain⟨r2,K2,⟨b,N,rfl,rfl,Q,k⟩,H⟩:=u s A a r L q.le (by omega) (by omega) (by omega);obtain⟨bv,bq,I⟩:=b.shape;rw[I]at H;refine DT.ob func53 W ntmps53 W ?_;show DC _ _ _ _ ⟨_,_,[.box (fA v g),.box (kq h f an main)]⟩ _;refine dO [2,2,21] W<|Oq (cI W W W (by omega))<|dR [999] W<|Oq (cc W W W W W W)<|dR [2,25] W<|Oq (aQ l W W W W)<|dR [31] W ?_
   first|refine Oq (aH W W) ?_|(refine Oq (aC W) ?_;refine Oq (aQ m W W W W) ?_)
   refine dR [1,2,37] W<|Oq (au n W W)<|dL [3,2,0,2,0,2,0,2,0,2,1] W ?_;apply Ow bX
   .intro s0 Oo;refine fR 2 W<|aW jO W W<|bp w W W<|fR 3 W<|TF.nil ⟨by kernel_rfl,rfl⟩
   refine dO [2,67] W<|Oq (cI W W W (by omega)) ?_;rw[Re];refine dR [68] W<|Oq (au H W W)<|dL [2] W ?_;have Wh:=k.q0;have f4:=k.q1;have Tg:=k.i;have f8:=k.n;have Yo:=xK d (by omega);exact DC.ret ⟨_,W,[.reset e b],[],N,by rw[bH,bH,aB.cells,G,I];rfl,rfl,.reset P (by simp only;rw[<-p,<-R];exact Q),by simp,by simp,⟨by grind,k.le,by grind,k.qg,by simp only[qP];omega,by grind⟩⟩
  .skip
   rcases asR an with Y|Y
   .skip
    refine DT.drop 2 (asj _)<|DT.ob func53 W ntmps53 W ?_;show DC _ _ _ _ ⟨_,_,[.box (fA v g),.box (kq h f an main)]⟩ _;refine dO [2,2,21] W<|Oq (cI W W W (by omega))<|dR [999] W<|Oq (cc W W W W W W)<|dR [2,25] W<|Oq (aQ l W W W W)<|dR [31] W ?_
    first|refine Oq (aH W W) ?_|(refine Oq (aC W) ?_;refine Oq (aQ m W W W W) ?_)
    refine dR [1,2,37] W<|Oq (au n W W)<|dR [3,2,0,2,0,2,0,2,0,2,0,2,1,1,2,81] W<|Oq (aQ (asX (by omega)) W W W W)<|dL [0] W<|OB [nD 5 (.aZ s.cells 0),nD 2 (.sl (aE a)),nR 0 1] (GH v an main j) W W<|dC [2,2] W<|OB [nN 12 0,nM 11 (gw 2 (bH [])),nD 5 (.aZ s.cells 0),nD 2 (.sl (aE a)),nR 0 1] (dK (GH v an main j) 16 (bH [])) W W<|dC [3] W<|DC.lp (λN P=>∃(k:Nat) (q:List aB) (i:GS),P=⟨[nI 12 (k:Int),nM 11 (gw 2 (bH q)),nD 5 (.aZ s.cells 0),nD 2 (.sl (aE a)),nR 0 1],[],dK (GH v an main i) 16 (bH q)⟩/\k<=a.length/\q.length=k/\py s (a.take k) q/\Mv zs ⟨g,h,f-1⟩ i/\N=a.length-k) a.length _
     ⟨0,[],j,rfl,by omega,rfl,.nil,i,rfl⟩ W ?_
    rintro N P ⟨k,q,G,rfl,hi,QQ,L,H,rfl⟩;refine dO [2,100] W<|Oq (bK W W W) ?_;rw[bA];refine dL [] W<|DC.cond W (λQ=>?_) (λQ=>?_)
    .have R:k<a.length:=by grind
     clear Q;have I:=eb R;have S:=asA R;generalize a[k]=w at I S;obtain⟨x0,x1,x2,x3,x4,x5,x6,x7,hw,_⟩:=kM w;rw[hw]at I;obtain⟨r1,K1,⟨e,T,rfl,rfl,P_,PH⟩,U⟩:=dD ht an main 3 (by omega) s y w.ty true G H.le;obtain⟨ke,Q2,ne,se,ae,be,V⟩:=e.shape;rw[V]at U;have Wu:=eE (by rfl) U 16 (bH q);have X:bH (q++[.df w.name e])=bH q++[[.int .u8 1,.sl [[.str w.name]],.str ⟨#[]⟩,.sl [],.bool false,.int .u8 ke,.int .u8 Q2,.int .i32 ne,.str se,.sl ae,.sl be,.int .i64 0,.int .i64 0,.sl [],.int .i64 0,.int .i64 0]]:=by rw[iT,bH,bH,aB.cells,V];rfl
     refine dC [3] W ?_;apply Ow bX
     .intro s0 Oo;refine fR 3 W<|bJ W W W (asm k) I W<|fR 7 W<|bJ W W W (asm k) I W<|fR 2 W<|bp Wu W W<|fR 2 W<|nr (H0:=GH v an main T) W W W W (by rfl) W (by rw[eg];omega) (by rw[eg];omega)<|fR 1 W<|TF.nil ⟨by kernel_rfl,rfl⟩
     refine dO [2,103] W<|Oq (ay W W W (by omega))<|dL [] W<|bG (k':=a.length-(k+1)) (by omega) ⟨k+1,q++[.df w.name e],T,rfl,by omega,by simp[QQ],by rw[S];exact .snoc L w e P_,H.trans PH,W⟩ (by rw[X];rfl) (kc W (kc (by rw[X];rfl) W))
    .refine DC.exit ?_;have I:k=a.length:=by grind
     subst I;rw[asU]at L;obtain⟨R,S,T⟩:=nt v an main G 16 (bH q);refine dC [2] W<|DC.cq 8 W (ji (GH v an main G) 16 (bH q) (fe q)) ?_;have w:=H.n;simp only at w;exact DC.ret ⟨_,W,R,jx W,S,q,[],G,W,T,by simp only;rw[w];exact .sc L,by omega,by simp,zp C x H⟩
   .skip
    have R:=J (by omega);obtain⟨L,N,⟨H,I,q,rfl,rfl,G,V,S,k⟩,w⟩:=tf ht an main (d+1) c D (by omega) B s (by omega) E K a r Y O j i.le (by omega) (by omega) (by omega);refine DT.ob func53 W ntmps53 W ?_;show DC _ _ _ _ ⟨_,_,[.box (fA v g),.box (kq h f an main)]⟩ _;refine dO [2,2,21] W<|Oq (cI W W W (by omega))<|dR [999] W<|Oq (cc W W W W W W)<|dR [2,25] W<|Oq (aQ l W W W W)<|dR [31] W ?_
    first|refine Oq (aH W W) ?_|(refine Oq (aC W) ?_;refine Oq (aQ m W W W W) ?_)
    refine dR [1,2,37] W<|Oq (au n W W)<|dR [3,2,0,2,0,2,0,2,0,2,0,2,1,1,2,81] W<|Oq (aQ (asP (by omega)) W W W W)<|dR [1,2,86] W<|Oq (au w W W)<|dL [] W ?_;have P:=k.q0;have T:=k.q1;have Q:=k.i;have U:=k.n;exact DC.ret ⟨_,W,H,I,q,W,W,by rw[<-p];exact G,by omega,by omega,⟨by grind,k.le,by grind,k.qg,by grind,by grind⟩⟩
  .skip
   rcases asR an with Y|Y
   .skip
    refine DT.drop 2 (asj _)<|DT.ob func53 W ntmps53 W ?_;show DC _ _ _ _ ⟨_,_,[.box (fA v g),.box (kq h f an main)]⟩ _;refine dO [2,2,21] W<|Oq (cI W W W (by omega))<|dR [999] W<|Oq (cc W W W W W W)<|dR [2,25] W<|Oq (aQ l W W W W)<|dR [31] W ?_
    first|refine Oq (aH W W) ?_|(refine Oq (aC W) ?_;refine Oq (aQ m W W W W) ?_)
    refine dR [1,2,37] W<|Oq (au n W W)<|dR [3,2,0,2,0,2,0,2,0,2,0,2,0,2,1,2,81] W<|Oq (aQ (asX (by omega)) W W W W)<|dL [0] W<|OB [nD 5 (.aZ s.cells 0),nD 2 (.sl (aE a)),nR 0 1] (GH v an main j) W W<|dC [2,2] W<|OB [nN 12 0,nM 11 (gw 2 (bH [])),nD 5 (.aZ s.cells 0),nD 2 (.sl (aE a)),nR 0 1] (dK (GH v an main j) 16 (bH [])) W W<|dC [3] W<|DC.lp (λN P=>∃(k:Nat) (q:List aB) (i:GS),P=⟨[nI 12 (k:Int),nM 11 (gw 2 (bH q)),nD 5 (.aZ s.cells 0),nD 2 (.sl (aE a)),nR 0 1],[],dK (GH v an main i) 16 (bH q)⟩/\k<=a.length/\q.length=k/\py s (a.take k) q/\Mv zs ⟨g,h,f-1⟩ i/\N=a.length-k) a.length _
     ⟨0,[],j,rfl,by omega,rfl,.nil,i,rfl⟩ W ?_
    rintro N P ⟨k,q,G,rfl,hi,QQ,L,H,rfl⟩;refine dO [2,100] W<|Oq (bK W W W) ?_;rw[bA];refine dL [] W<|DC.cond W (λQ=>?_) (λQ=>?_)
    .have R:k<a.length:=by grind
     clear Q;have I:=eb R;have S:=asA R;generalize a[k]=w at I S;obtain⟨x0,x1,x2,x3,x4,x5,x6,x7,hw,_⟩:=kM w;rw[hw]at I;obtain⟨r1,K1,⟨e,T,rfl,rfl,P_,PH⟩,U⟩:=dD ht an main 3 (by omega) s y w.ty true G H.le;obtain⟨ke,Q2,ne,se,ae,be,V⟩:=e.shape;rw[V]at U;have Wu:=eE (by rfl) U 16 (bH q);have X:bH (q++[.df w.name e])=bH q++[[.int .u8 1,.sl [[.str w.name]],.str ⟨#[]⟩,.sl [],.bool false,.int .u8 ke,.int .u8 Q2,.int .i32 ne,.str se,.sl ae,.sl be,.int .i64 0,.int .i64 0,.sl [],.int .i64 0,.int .i64 0]]:=by rw[iT,bH,bH,aB.cells,V];rfl
     refine dC [3] W ?_;apply Ow bX
     .intro s0 Oo;refine fR 3 W<|bJ W W W (asm k) I W<|fR 7 W<|bJ W W W (asm k) I W<|fR 2 W<|bp Wu W W<|fR 2 W<|nr (H0:=GH v an main T) W W W W (by rfl) W (by rw[eg];omega) (by rw[eg];omega)<|fR 1 W<|TF.nil ⟨by kernel_rfl,rfl⟩
     refine dO [2,103] W<|Oq (ay W W W (by omega))<|dL [] W<|bG (k':=a.length-(k+1)) (by omega) ⟨k+1,q++[.df w.name e],T,rfl,by omega,by simp[QQ],by rw[S];exact .snoc L w e P_,H.trans PH,W⟩ (by rw[X];rfl) (kc W (kc (by rw[X];rfl) W))
    .refine DC.exit ?_;have I:k=a.length:=by grind
     subst I;rw[asU]at L;obtain⟨R,S,T⟩:=nt v an main G 16 (bH q);refine dC [2] W<|DC.cq 8 W (ji (GH v an main G) 16 (bH q) (fe q)) ?_;have w:=H.n;simp only at w;exact DC.ret ⟨_,W,R,jx W,S,q,[],G,W,T,by simp only;rw[w];exact .sc L,by omega,by simp,zp C x H⟩
   .skip
    have R:=J (by omega);obtain⟨L,N,⟨H,I,q,rfl,rfl,G,V,S,k⟩,w⟩:=tf ht an main (d+1) c D (by omega) B s (by omega) E K a r Y O j i.le (by omega) (by omega) (by omega);refine DT.ob func53 W ntmps53 W ?_;show DC _ _ _ _ ⟨_,_,[.box (fA v g),.box (kq h f an main)]⟩ _;refine dO [2,2,21] W<|Oq (cI W W W (by omega))<|dR [999] W<|Oq (cc W W W W W W)<|dR [2,25] W<|Oq (aQ l W W W W)<|dR [31] W ?_
    first|refine Oq (aH W W) ?_|(refine Oq (aC W) ?_;refine Oq (aQ m W W W W) ?_)
    refine dR [1,2,37] W<|Oq (au n W W)<|dR [3,2,0,2,0,2,0,2,0,2,0,2,0,2,1,2,81] W<|Oq (aQ (asP (by omega)) W W W W)<|dR [1,2,86] W<|Oq (au w W W)<|dL [] W ?_;have P:=k.q0;have T:=k.q1;have Q:=k.i;have U:=k.n;exact DC.ret ⟨_,W,H,I,q,W,W,by rw[<-p];exact G,by omega,by omega,⟨by grind,k.le,by grind,k.qg,by grind,by grind⟩⟩
  .skip
   have R:=J (by omega);obtain⟨L,N,⟨H,I,q,rfl,rfl,G,V,S,k⟩,w⟩:=DP ht an main (d+1) c D (by omega) B s (by omega) E K a r j i.le (by omega) (by omega) (by omega);refine DT.ob func53 W ntmps53 W ?_;show DC _ _ _ _ ⟨_,_,[.box (fA v g),.box (kq h f an main)]⟩ _;refine dO [2,2,21] W<|Oq (cI W W W (by omega))<|dR [999] W<|Oq (cc W W W W W W)<|dR [2,25] W<|Oq (aQ l W W W W)<|dR [31] W ?_
   first|refine Oq (aH W W) ?_|(refine Oq (aC W) ?_;refine Oq (aQ m W W W W) ?_)
   refine dR [1,2,37] W<|Oq (au n W W)<|dR [3,2,0,2,0,2,0,2,0,2,0,2,0,2,0,2,1,2,95] W<|Oq (au w W W)<|dL [] W ?_;have P:=k.q0;have T:=k.q1;have Q:=k.i;have U:=k.n;exact DC.ret ⟨_,W,H,I,q,W,W,by rw[<-p];exact G,by omega,by omega,⟨by grind,k.le,by grind,k.qg,by grind,by grind⟩⟩
  .skip
   refine DT.drop 2 (asj _)<|DT.ob func53 W ntmps53 W ?_;show DC _ _ _ _ ⟨_,_,[.box (fA v g),.box (kq h f an main)]⟩ _;refine dO [2,2,21] W<|Oq (cI W W W (by omega))<|dR [999] W<|Oq (cc W W W W W W)<|dR [2,25] W<|Oq (aQ l W W W W)<|dR [31] W ?_
   first|refine Oq (aH W W) ?_|(refine Oq (aC W) ?_;refine Oq (aQ m W W W W) ?_)
   refine dR [1,2,37] W<|Oq (au n W W)<|dL [3,2,0,2,0,2,0,2,0,2,0,2,0,2,0,2,0] W<|OB [nD 5 (.aZ s.cells 0),nD 2 (.sl (aE a)),nR 0 1] (GH v an main j) W W<|dC [2,2] W<|OB [nN 12 0,nM 11 (gw 2 (bH [])),nD 5 (.aZ s.cells 0),nD 2 (.sl (aE a)),nR 0 1] (dK (GH v an main j) 16 (bH [])) W W<|dC [3] W<|DC.lp (λN P=>∃(k:Nat) (q:List aB) (i:GS),P=⟨[nI 12 (k:Int),nM 11 (gw 2 (bH q)),nD 5 (.aZ s.cells 0),nD 2 (.sl (aE a)),nR 0 1],[],dK (GH v an main i) 16 (bH q)⟩/\k<=a.length/\q.length=k/\py s (a.take k) q/\Mv zs ⟨g,h,f-1⟩ i/\N=a.length-k) a.length _
    ⟨0,[],j,rfl,by omega,rfl,.nil,i,rfl⟩ W ?_
   rintro N P ⟨k,q,G,rfl,hi,Y,L,H,rfl⟩;refine dO [2,100] W<|Oq (bK W W W) ?_;rw[bA];refine dL [] W<|DC.cond W (λQ=>?_) (λQ=>?_)
   .have R:k<a.length:=by grind
    clear Q;have I:=eb R;have S:=asA R;generalize a[k]=w at I S;obtain⟨x0,x1,x2,x3,x4,x5,x6,x7,hw,_⟩:=kM w;rw[hw]at I;obtain⟨r1,K1,⟨e,T,rfl,rfl,P_,PH⟩,U⟩:=dD ht an main 3 (by omega) s y w.ty true G H.le;obtain⟨ke,Q2,ne,se,ae,be,V⟩:=e.shape;rw[V]at U;have Wu:=eE (by rfl) U 16 (bH q);have X:bH (q++[.df w.name e])=bH q++[[.int .u8 1,.sl [[.str w.name]],.str ⟨#[]⟩,.sl [],.bool false,.int .u8 ke,.int .u8 Q2,.int .i32 ne,.str se,.sl ae,.sl be,.int .i64 0,.int .i64 0,.sl [],.int .i64 0,.int .i64 0]]:=by rw[iT,bH,bH,aB.cells,V];rfl
    refine dC [3] W ?_;apply Ow bX
    .intro s0 Oo;refine fR 3 W<|bJ W W W (asm k) I W<|fR 7 W<|bJ W W W (asm k) I W<|fR 2 W<|bp Wu W W<|fR 2 W<|nr (H0:=GH v an main T) W W W W (by rfl) W (by rw[eg];omega) (by rw[eg];omega)<|fR 1 W<|TF.nil ⟨by kernel_rfl,rfl⟩
    refine dO [2,103] W<|Oq (ay W W W (by omega))<|dL [] W<|bG (k':=a.length-(k+1)) (by omega) ⟨k+1,q++[.df w.name e],T,rfl,by omega,by simp[Y],by rw[S];exact .snoc L w e P_,H.trans PH,W⟩ (by rw[X];rfl) (kc W (kc (by rw[X];rfl) W))
   .refine DC.exit ?_;have I:k=a.length:=by grind
    subst I;rw[asU]at L;obtain⟨R,S,T⟩:=nt v an main G 16 (bH q);refine dC [2] W<|DC.cq 8 W (ji (GH v an main G) 16 (bH q) (fe q)) ?_;have w:=H.n;simp only at w;exact DC.ret ⟨_,W,R,jx W,S,q,[],G,W,T,by simp only;rw[w];exact .sc L,by omega,by simp,zp C x H⟩
def Cy(a:Nat)(b:a<=3)(f:an<=10)(g:∀d,a=d+1->qQ zs v an main d):∀c,c<=14->wP zs v an main a c
 |0,h=>Be ht an main a 0 b h f g (λa e=>by omega)
 |c+1,i=>Be ht an main a (c+1) b i f g (λh e=>by
   have j:h=c:=by omega
   subst j;exact Cy a b f g h (by omega))
end
end Go.Proofs
namespace Go.Proofs
open Go.Mt Go.Mk
variable{H:Hp}{Tx UU:List (List D)}{m1 m2:M}{n2:Nat}
def L2(H:Hp)(c:List (List D))(d:M)(e:Nat)(f:List (List D))(g:M):Prop:=∃a b,Acc 15 a c d H/\Acc e b f g H/\2<=a/\2<=b/\a≠b
def L2.Gz(h:L2 H Tx m1 n2 UU m2)(n:Nat):L2 H Tx m1 n [] (.d (.sl [])):=by
 obtain⟨a,b,c,g,d,e,f⟩:=h;exact⟨a,b,c,.inl ⟨W,W⟩,d,e,f⟩
def L2.Ft(h:L2 H Tx m1 n2 UU m2)(a:∀r∈Tx,r.length=15):jg H m1=some (.sl Tx):=by
 obtain⟨c,d,b,_⟩:=h;exact b.view a
def L2.zq(h:L2 H Tx m1 n2 UU m2)(a:∀r∈UU,r.length=n2):jg H m2=some (.sl UU):=by
 obtain⟨c,d,_,b,_⟩:=h;exact b.view a
def uU(a b:List (List D)):aY (a++b)=aY a++aY b:=by simp[aY]
theorem DQ{n i:Nat}{rs rows:List (List D)}{m:M}(h:Acc n i rs m H)(hi:2<=i)(f:2<=H.length):
  ∃a,Acc n a (rs++rows) (h_ m H rows) (eQ n m H rows)/\2<=a/\(a=i\/a=H.length)/\(∀j ob,(rs≠[]->j≠i)->H[j]?=some ob->(eQ n m H rows)[j]?=some ob)/\H.length<=(eQ n m H rows).length/\∀v a b g F,H=GH v a b g++F->∃c,eQ n m H rows=GH v a b g++c:=by
 rcases h with⟨rfl,rfl⟩|⟨l,c,rfl,d⟩
 .cases rows with
  |nil=>exact⟨i,.inl ⟨W,W⟩,hi,.inl W,λj ob _ h=>h,asj _,λv a b g F h=>⟨F,h⟩⟩
  |cons q r=>
   refine⟨H.length,.inr ⟨by simp,0,by simp[h_,uF],by simp[eQ,jS]⟩,f,.inr W,λj ob _ h=>?_,by simp[eQ,jS],λv a b g F h=>⟨F++[.row true n 0 (aY (q::r))],by rw[h];simp[eQ,jS]⟩⟩;simp only[eQ,jS];rw[asl (rV h)];exact h
 .have o:=rV d;have e:eQ n (.bC i c rs.length) H rows=H.set i (.row true n (c+1) (aY rs++aY rows)):=by simp only[eQ,d]
  rw[e];refine⟨i,.inr ⟨by simp[l],c+1,by simp[h_],by rw[uU];simp[o]⟩,hi,.inl W,λj ob p h=>by grind,by simp,λv a b g F h=>?_⟩;obtain⟨k,rfl⟩:∃k,i=2+k:=⟨i-2,by omega⟩;refine⟨F.set k (.row true n (c+1) (aY rs++aY rows)),?_⟩;rw[h,att _ _ (by grind)];show _++F.set (2+k-2) _=_;rw[show 2+k-2=k by omega]
section
variable{v:D}{an:Nat}{main:Bool}{g:GS}{F:Hp}{Tx UU rows:List (List D)}{m1 m2:M}{n2:Nat}
def L2.xo(h:L2 (GH v an main g++F) Tx m1 n2 UU m2)(rows:List (List D)):∃a,eQ n2 m2 (GH v an main g++F) rows=GH v an main g++a/\L2 (GH v an main g++a) Tx m1 n2 (UU++rows) (h_ m2 (GH v an main g++F) rows):=by
 obtain⟨f,s,b,m,n,o,i⟩:=h;obtain⟨c,d,j,p,k,q,r⟩:=DQ (rows:=rows) m o (by simp);obtain⟨a,l⟩:=r _ _ _ _ _ W;rw[l]at d k q;refine⟨a,l,?_⟩;by_cases e:Tx=[]
 .subst e;exact⟨c+1,c,b.any,d,by omega,j,by omega⟩
 .have t:=b.lt e;refine⟨f,c,b.other (λa b=>k f a (λ_=>i) b),d,n,j,?_⟩;rcases p with rfl|rfl
  .exact i
  .omega
def L2.JR(h:L2 (GH v an main g++F) Tx m1 n2 UU m2)(rows:List (List D)):∃a,eQ 15 m1 (GH v an main g++F) rows=GH v an main g++a/\L2 (GH v an main g++a) (Tx++rows) (h_ m1 (GH v an main g++F) rows) n2 UU m2:=by
 obtain⟨s,f,m,b,n,o,i⟩:=h;obtain⟨c,d,j,p,k,q,r⟩:=DQ (rows:=rows) m n (by simp);obtain⟨a,l⟩:=r _ _ _ _ _ W;rw[l]at d k q;refine⟨a,l,?_⟩;by_cases e:UU=[]
 .subst e;exact⟨c,c+1,d,b.any,j,by omega,by omega⟩
 .have t:=b.lt e;refine⟨c,f,d,b.other (λa b=>k f a (λ_=>atf i) b),j,o,?_⟩;rcases p with rfl|rfl
  .exact i
  .omega
theorem L2.call{g':GS}(h:L2 (GH v an main g++F) Tx m1 n2 UU m2):L2 (GH v an main g'++F) Tx m1 n2 UU m2:=by
 obtain⟨a,b,f,i,c,d,j⟩:=h;have e:∀i,2<=i->∀a,(GH v an main g++F)[i]?=some a->(GH v an main g'++F)[i]?=some a:=by
  grind
 exact⟨a,b,f.other (e a c),i.other (e b d),c,d,j⟩
end
def ur(l r:List Va):(fu l r).length<=l.length+r.length:=by
 induction r generalizing l with
 |nil=>simp[fu]
 |cons w r a=>
  simp only[fu];split
  .grind
  .grind
def wR(W:Int):Nat->Int
 |0=>0
 |i+1=>wR W i+W
def GA{W:Int}(h:0<=W):∀i,i<=6->0<=wR W i/\wR W i<=6*W
 |0,_=>by simp only[wR];omega
 |1,_=>by simp only[wR];omega
 |2,_=>by simp only[wR];omega
 |3,_=>by simp only[wR];omega
 |4,_=>by simp only[wR];omega
 |5,_=>by simp only[wR];omega
 |6,_=>by simp only[wR];omega
 |i+7,h=>by omega
def MX:∀d,qB d=6*(1+3*qP d)
 |0=>rfl
 |d+1=>rfl
def MY(a:Nat):∀d,GB a d=DJ (GQ (DO a d) a)
 |0=>rfl
 |d+1=>rfl
end Go.Proofs
namespace Go.Proofs
open Go.Mt Go.Mk
open Tryz
instance:bw prog 52:=cR (by kernel_rfl)
def Lk(l:List Va)(k:Nat):B1 ((aE l).drop k)=.sl (aE (l.drop k))\/B1 ((aE l).drop k)=.pD/\l.drop k=[]:=by
 have e:(aE l).drop k=aE (l.drop k):=by simp[aE,List.map_drop]
 rw[e];cases l.drop k with
 |nil=>exact .inr ⟨W,W⟩
 |cons a r=>exact .inl W
section
variable{zs:List Int}{v:D}(ht:Tape zs v)(an:Nat)(main:Bool)
include ht
set_option maxHeartbeats 4000000 in
def Bf(d:Nat)(hd:d<=3)(hE:wP zs v an main d 14):qQ zs v an main d:=by
 intro s hs p ho C hg hn wd QJ;have hL:=ht.hl;have qr:=hs.ready;have wn:=hs.da;have Xa:=JQ d hd;obtain⟨r0,K0,⟨m,g0,rfl,rfl,Z⟩,P7⟩:=fw ht an main 4 (by omega) (by omega) C hg;have Qc:=Z.lt;have P:=Z.mv;have Xg:=Z.qg;have Ww:=P.n;have f9:=P.q;have rg:=P.i;refine DT.drop 2 (asj _)<|DT.ob func37 W ntmps37 W<|dO [2,2,2,27] W<|Oq (au P7 W W)<|dL [] W<|dC [2] W<|OB [nN 11 0,nN 10 m,(9,.loc 9 0),(8,.loc 8 0),nD 5 (.aZ s.cells 0),nN 3 d,nD 2 (.sl (aE p)),nR 0 1] (GH v an main g0++[]) W W<|dC [3] W<|DC.lp (λE G=>∃(k:Nat) (c:List Va) (u:M) (g':GS) (F:Hp) (n:List (Nat×List M)),G=⟨[nI 11 (k:Int),nN 10 m,(9,.loc 9 0),(8,.loc 8 0),nD 5 (.aZ s.cells 0),nN 3 d,nD 2 (.sl (aE p)),nR 0 1],n,GH v an main g'++F⟩/\Go.Mt.get n 9=some [u,.d (.sl [])]/\Go.Mt.get n 8=some [.d (.sl []),.d (.sl [])]/\L2 (GH v an main g'++F) (aE c) u 16 [] (.d (.sl []))/\k<=m/\c.length=k/\NV C.n c g'.n/\g'.n=C.n+k/\g'.q=C.q/\g0.i<=g'.i/\g'.i<=zs.length/\E=m-k) m _
  ⟨0,[],.d (.sl []),g0,[],_,rfl,rfl,rfl,⟨2,3,.inl ⟨rfl,rfl⟩,.inl ⟨rfl,rfl⟩,by omega,by omega,by omega⟩,by omega,rfl,by rw[Ww];exact .nil,by omega,f9,asj _,P.le,rfl⟩ W ?_
 rintro E G ⟨k,c,u,a,F,n,rfl,l,o,g,hi,SX,d8,rt,Do,rx,d9,rfl⟩;refine dC [2] W<|DC.cond W (λh=>?_) (λh=>?_)
 .have x:k<m:=by have:=asC h;omega
  obtain⟨r1,K1,⟨rfl,rfl⟩,X⟩:=qO ht an main 118 a d9 (by omega);obtain⟨r2,K2,⟨t,Q,rfl,rfl,PH⟩,Y⟩:=Gx ht an main ⟨a.i,a.n+1,a.q⟩ d9;obtain⟨r3,K3,⟨j,g3,rfl,rfl,Uu⟩,w⟩:=fw ht an main 3 (by omega) (by omega) Q PH.le;have i:=PH.trans Uu.mv;have d7:=i.n;have t3:=i.q;have t4:=i.i;simp only at d7 t3 t4;have X:=jn (by rfl) X F;have Y:=jn (by rfl) Y F;have w:=jn (by rfl) w F;have T:(aE c).length=k:=by rw[bA,SX]
  refine dO [3,2,34] W<|Oq (au X W W)<|dR [36] W<|Oq (au Y W W)<|dL [] W ?_;rcases asR j with gc|gc
  .subst gc;obtain⟨r4,K4,⟨e,g4,rfl,rfl,t5,R⟩,J⟩:=iS ht an main t g3 i.le;obtain⟨ke,Q2,ne,se,ae,be,he⟩:=e.shape;rw[he]at J;have J:=jn (by rfl) J F;have t6:=R.n;have Eq:=R.q;have Fd:=R.i;have ZI:=g.call (g':=g4);have hw:(⟨nm 118 (a.n+1),t,none,true,e⟩:Va).cells=[.str (nm 118 (a.n+1)),.int .u8 t.kind,.str t.nm,.sl [],.bool true,.int .u8 ke,.int .u8 Q2,.int .i32 ne,.str se,.sl ae,.sl be,.int .i64 0,.int .i64 0,.int .i64 0,.int .i64 0]:=by simp only[Va.cells,he];rfl
   obtain⟨F',hF,Y_⟩:=ZI.JR [[.str (nm 118 (a.n+1)),.int .u8 t.kind,.str t.nm,.sl [],.bool true,.int .u8 ke,.int .u8 Q2,.int .i32 ne,.str se,.sl ae,.sl be,.int .i64 0,.int .i64 0,.int .i64 0,.int .i64 0]];have Pv:aE (c++[⟨nm 118 (a.n+1),t,none,true,e⟩])=aE c++[[.str (nm 118 (a.n+1)),.int .u8 t.kind,.str t.nm,.sl [],.bool true,.int .u8 ke,.int .u8 Q2,.int .i32 ne,.str se,.sl ae,.sl be,.int .i64 0,.int .i64 0,.int .i64 0,.int .i64 0]]:=by rw[gY,<-hw];rfl
   obtain⟨i1,i2,Qh,_⟩:=id ZI;refine dO [2,42] W<|Oq (au w W W)<|dR [1,2,2,48] W<|Oq (au J W W)<|dR [2,51] W<|Oq (jf W W l W)<|dR [54] W<|Oq (mj Qh W W W W W (mi W) (by rw[T];simp only[asS];omega) (by rw[T];simp only[asS];omega))<|dR [999] W<|Oq (fh W W l (fX _ _ _) W W)<|dR [2,32] W<|Oq (ay W W W (by omega))<|dL [] W ?_;rw[<-Pv]at Y_;exact bG (k':=m-(k+1)) (by omega) ⟨k+1,_,_,g4,F',_,rfl,rfl,o,Y_,by omega,by simp[SX],by rw[t6,d7];exact .snoc d8 _ W W (.inr ⟨W,t5⟩),by omega,by omega,by omega,R.le,rfl⟩ hF W
  .have t5:(((j:Nat):Int)==0)=false:=asY.2 (by omega);have J:=g.call (g':=g3);obtain⟨F',hF,R⟩:=J.JR [[.str (nm 118 (a.n+1)),.int .u8 t.kind,.str t.nm,.sl [],.bool false,.int .u8 0,.int .u8 0,.int .i32 0,.str ⟨#[]⟩,.sl [],.sl [],.int .i64 0,.int .i64 0,.int .i64 0,.int .i64 0]];have Pv:aE (c++[⟨nm 118 (a.n+1),t,none,false,.nil⟩])=aE c++[[.str (nm 118 (a.n+1)),.int .u8 t.kind,.str t.nm,.sl [],.bool false,.int .u8 0,.int .u8 0,.int .i32 0,.str ⟨#[]⟩,.sl [],.sl [],.int .i64 0,.int .i64 0,.int .i64 0,.int .i64 0]]:=by rw[gY];rfl
   obtain⟨i1,i2,Qh,_⟩:=id J;refine dO [2,42] W<|Oq (au w W W)<|dR [43] W<|Oq (aQ t5 W W W W)<|dR [0,2,51] W<|Oq (jf W W l W)<|dR [54] W<|Oq (mj Qh W W W W W (mi W) (by rw[T];simp only[asS];omega) (by rw[T];simp only[asS];omega))<|dR [999] W<|Oq (fh W W l (fX _ _ _) W W)<|dR [2,32] W<|Oq (ay W W W (by omega))<|dL [] W ?_;rw[<-Pv]at R;exact bG (k':=m-(k+1)) (by omega) ⟨k+1,_,_,g3,F',_,rfl,rfl,o,R,by omega,by simp[SX],by rw[d7];exact .snoc d8 _ W W (.inl ⟨W,W⟩),by omega,by omega,by omega,i.le,rfl⟩ hF W
 refine DC.exit ?_;have x:k=m:=by have:=asG h;omega
 have T:(aE c).length<=3:=by rw[bA,SX];omega
 have Fn:(aE p).length<=3:=by rw[bA];omega
 have t7:a.n<=3*a.i:=by
  rcases asR m with i|i
  .omega
  .have:=Xg (by omega);omega
 have Fr:C.n<=a.n:=by omega
 have FS:C.i<=a.i:=by omega
 clear Xg rt rg Ww f9 rx P Z;refine dC [2] W ?_;have l0:=g.Gz 15;obtain⟨F1,Yy,l1⟩:=l0.xo (aE c);obtain⟨F2,K,L⟩:=l1.xo (aE p);obtain⟨_,i2,_,V6,_⟩:=id l0;obtain⟨_,i3,_,UX,_⟩:=id l1;have ac:=l0.Ft (cu c);refine dO [2,58] W<|Oq (jf W W l W)<|Oq (TL.cq 54 W ac)<|dR [59] W<|Oq (mj V6 W W W W W (cu _) (by simp only[atg];omega) (by simp only[atg];omega))<|dL [] W ?_;rw[Yy];generalize h_ (.d (.sl [])) (GH v an main a++F) (aE c)=ma at l1 K L UX⊢;refine dO [2,62] W<|Oq (mj UX W W W W W (cu _) (by simp only[asW];omega) (by simp only[asW];omega))<|dL [] W ?_;rw[K];generalize h_ ma (GH v an main a++F1) (aE p)=mb at L⊢;rw[asW,<-gY]at L;refine DC.cq 13 W (L.zq (cu _))<|dC [2] W ?_;have l3:=L.Gz 15;obtain⟨F3,ge,U⟩:=l3.xo (aE s.ready);obtain⟨F4,f4,A⟩:=U.xo (aE c);obtain⟨F5,ah,q⟩:=A.xo (aE p);obtain⟨_,_,_,i6,_⟩:=id l3;obtain⟨_,_,_,V,_⟩:=id U;obtain⟨_,_,_,I,_⟩:=id A;have UZ:(aE s.ready).length<=1000:=by rw[bA];omega
 have i7:=U.Ft (cu c);refine dO [2,70] W<|Oq (mj i6 W W W W W (cu _) (by simp only[atg];omega) (by simp only[atg];omega))<|dR [999] W<|Oq (fh W W W (fX _ _ _) W W)<|dL [] W ?_;rw[ge];generalize h_ (.d (.sl [])) (GH v an main a++F2) (aE s.ready)=mc at U f4 A ah q V I⊢;refine dO [2,75] W<|Oq (jf W W l W)<|Oq (TL.cq 71 W i7)<|dR [76] W<|Oq (mj V W W W W W (cu _) (by simp only[asW];omega) (by simp only[asW];omega))<|dR [999] W<|Oq (fh W W W (fX _ _ _) W W)<|dL [] W ?_;rw[f4];generalize h_ mc (GH v an main a++F3) (aE c)=md at A ah q I⊢;refine dO [2,81] W<|Oq (mj I W W W W W (cu _) (by simp only[asW,asq];omega) (by simp only[asW,asq];omega))<|dR [999] W<|Oq (fh W W W (fX _ _ _) W W)<|dL [] W ?_;rw[ah];generalize h_ md (GH v an main a++F4) (aE p)=me at q⊢;rw[asW,<-gY,<-gY]at q;refine DC.gP (OS:=[.d (.sl (aE s.ready)),.d (.sl (aE (s.ready++c++p))),.d (.sl [])]) 14 W (dT (f_ (q.zq (cu _)) (dT W))) ?_;have l7:=q.Gz 15;obtain⟨F6,i8,l8⟩:=l7.xo (aE s.da);obtain⟨_,_,_,i9,_⟩:=id l7;have P':(aE s.da).length<=1000:=by rw[bA];omega
 refine dO [2,87] W<|Oq (mj i9 W W W W W (cu _) (by simp only[atg];omega) (by simp only[atg];omega))<|dR [999] W<|Oq (fh W W W (fX _ _ _) W W)<|dL [] W ?_;rw[i8];generalize h_ (.d (.sl [])) (GH v an main a++F5) (aE s.da)=mf at l8⊢;rw[asW]at l8;clear l0 l1 L l3 U A q l7 Yy K ge f4 ah i8 V6 UX i6 V I i9 ac i7 g;refine dC [2] W ?_;obtain⟨f,co⟩:∃f,f=c++p:=⟨_,rfl⟩;have GT:f.length<=6:=by rw[co,asq];omega
 rw[<-co];refine OB [nN 15 0,(14,.loc 14 0),nD 13 (.sl (aE f)),(9,.loc 9 0),(8,.loc 8 0),nN 3 d,nR 0 1] (GH v an main a++F6) W W<|dC [3] W<|DC.lp (λE G=>∃(k:Nat) (N:M) (F:Hp) (n:List (Nat×List M)),G=⟨[nI 15 (k:Int),(14,.loc 14 0),nD 13 (.sl (aE f)),(9,.loc 9 0),(8,.loc 8 0),nN 3 d,nR 0 1],n,GH v an main a++F⟩/\Go.Mt.get n 9=some [u,.d (.sl [])]/\Go.Mt.get n 8=some [.d (.sl []),.d (.sl [])]/\Go.Mt.get n 14=some [.d (.sl (aE s.ready)),.d (.sl (aE (s.ready++c++p))),N]/\L2 (GH v an main a++F) (aE c) u 15 (aE (fu s.da (f.take k))) N/\k<=f.length/\E=f.length-k) f.length _
  ⟨0,mf,F6,_,rfl,l,o,rfl,l8,by omega,rfl⟩ W ?_
 clear l o l8;rintro E G ⟨j,N,F,n,rfl,l,o,r,g,hj,rfl⟩;refine dO [2,91] W<|Oq (bK W W W) ?_;rw[bA];refine dL [] W<|DC.cond W (λh=>?_) (λh=>?_)
 .have x:j<f.length:=by have:=asC h;omega
  clear h;have t:=eb x;have Pp:=asA x;generalize f[j]=w at t Pp;have i:=zl s.da (f.take j) w;rw[<-Pp]at i;have d7:=ur s.da (f.take j);rw[atP]at d7;generalize fu s.da (f.take j)=J at g i d7;have ac:=g.zq (cu J);have R:CT prog 52 [N,.d (.str w.name)] (GH v an main a++F) λb y=>b=.d (.bool (J.any λu=>decide (u.name=w.name)))/\y=GH v an main a++F:=
   CT.I5 ac ((CT.yw (Li J w.name (by omega))).mono (by rintro _ _ ⟨⟨_,rfl,rfl⟩,rfl⟩;exact⟨W,W⟩))
  obtain⟨_,_,_,gc,_⟩:=id g;obtain⟨F',X,H⟩:=g.xo [w.cells];obtain⟨x0,x1,x2,x3,x4,x5,x6,x7,hw,_⟩:=kM w;have Pv:aE (J++[w])=aE J++[w.cells]:=by rw[gY];rfl
  rw[<-Pv]at H;rw[hw]at t X H;have t3:(aE J).length<=1000:=by rw[bA];omega
  refine dC [3] W ?_;cases Y:w.last with
  |false=>
   rw[Y]at t i;simp only[Bool.false_and,at7,aup]at i;refine dC [] W ?_;apply Ow bX
   .intro s0 Oo;refine fR 2 W<|bJ W W W (asm j) t W<|fR 13 W<|TF.nil ⟨by kernel_rfl,rfl⟩
   refine dO [0,2,94] W<|Oq (ay W W W (by omega))<|dL [] W<|bG (k':=f.length-(j+1)) (by omega) ⟨j+1,N,F,_,rfl,l,o,r,by rw[i];exact g,by omega,rfl⟩ W W
  |true=>
   rw[Y]at t i;cases XP:J.any λu=>decide (u.name=w.name)with
   |true=>
    rw[XP]at i R;simp only[Bool.not_true,Bool.and_false,at7,aup]at i;refine dC [] W ?_;apply Ow bX
    .intro s0 Oo;refine fR 2 W<|bJ W W W (asm j) t W<|fR 4 W ?_
     first|refine bj W W W W ?_|refine bm W W W ?_|(refine aX W W ?_;(refine oK W W r W ?_))
     refine fR 2 W ?_
     first|refine bj W W W W ?_|refine bm W W W ?_|(refine aX W W ?_;(refine bJ W W W (asm j) t W ?_))
     refine fR 2 W ?_
     first|refine bj W W W W ?_|refine bm W W W ?_|(refine aX W W ?_;(refine kG R W W ?_))
     refine fR 2 W<|TF.nil ⟨by kernel_rfl,rfl⟩
    refine dO [0,2,94] W<|Oq (ay W W W (by omega))<|dL [] W<|bG (k':=f.length-(j+1)) (by omega) ⟨j+1,N,F,_,rfl,l,o,r,by rw[i];exact g,by omega,rfl⟩ W W
   |false=>
    rw[XP]at i R;simp only[Bool.not_false,Bool.and_true,auz]at i;rw[Y]at X H;refine dC [] W ?_;apply Ow bX
    .intro s0 Oo;refine fR 2 W<|bJ W W W (asm j) t W<|fR 4 W ?_
     first|refine bj W W W W ?_|refine bm W W W ?_|(refine aX W W ?_;(refine oK W W r W ?_))
     refine fR 2 W ?_
     first|refine bj W W W W ?_|refine bm W W W ?_|(refine aX W W ?_;(refine bJ W W W (asm j) t W ?_))
     refine fR 2 W ?_
     first|refine bj W W W W ?_|refine bm W W W ?_|(refine aX W W ?_;(refine kG R W W ?_))
     refine fR 2 W<|TF.nil ⟨by kernel_rfl,rfl⟩
    refine dC [1] W ?_;apply Ow bX
    .intro s0 Oo;refine fR 1 W<|oK W W r W<|fR 2 W<|bJ W W W (asm j) t W<|fR 2 W<|xH gc W W W W W W (by omega) (by omega)<|fR 1 W<|iI W W r (fX _ _ _) W W<|TF.nil ⟨by kernel_rfl,rfl⟩
    refine dO [2,94] W<|Oq (ay W W W (by omega))<|dL [] W<|bG (k':=f.length-(j+1)) (by omega) ⟨j+1,_,F',_,rfl,l,o,rfl,by rw[i];exact H,by omega,rfl⟩ X W
 refine DC.exit ?_;have x:j=f.length:=by have:=asG h;omega
 clear h;subst x;rw[asU]at g;have H:=g.Gz 16;have mt:(fu s.da f).length<=800-200*d+6:=by have:=ur s.da f;omega
 refine DC.gP (OS:=[.d (.sl (aE s.ready)),.d (.sl (aE (s.ready++c++p))),.d (.sl (aE (fu s.da f)))]) 14 r (dT (dT (f_ (g.zq (cu _)) W))) ?_;obtain⟨y,d6⟩:∃y:Sc,y=JL s c p:=⟨_,rfl⟩;have Yr:y.ready=s.ready:=by rw[d6];rfl
 have Xz:y.all=s.ready++c++p:=by rw[d6];rfl
 have f8:y.da=fu s.da f:=by rw[d6,co];rfl
 rw[<-Xz,<-f8,<-Yr];have t8:y.da.length<=800-200*d+6:=by rw[f8];exact mt
 have t9:y.all.length<=1000:=by rw[Xz];simp only[asq];omega
 have Id:y.ready.length<=800-200*d:=by rw[Yr];exact qr
 clear r g mt Yr Xz f8;have hW:0<=1+3*qP d:=by omega
 refine dC [3] W<|DC.lp (λE G=>∃(j:Nat) (b:List Va) (O:D) (S:Sc) (z:List aB) (B:List Va) (u me:M) (g':GS) (F:Hp) (n:List (Nat×List M)),G=⟨[(14,.loc 14 0),nM 13 (.d O),(9,.loc 9 0),(8,.loc 8 0),nN 3 d,nR 0 1],n,GH v an main g'++F⟩/\
   (O=.sl (aE b)\/O=.pD/\b=[])/\Go.Mt.get n 9=some [u,me]/\Go.Mt.get n 8=some [.d (.sl []),.d (.sl [])]/\Go.Mt.get n 14=some [.d (.sl (aE S.ready)),.d (.sl (aE S.all)),.d (.sl (aE S.da))]/\L2 (GH v an main g'++F) (aE (c++B)) u 16 (bH z) me/\
   GL (GQ (DO an d) an) y f a.n S b g'.n z B/\(S.ready.length+b.length<=800-200*d+6/\S.all.length<=1000/\S.da.length<=800-200*d+6/\B.length<=42*j/\z.length<=45*j/\j+b.length<=6)/\(a.i<=g'.i/\g'.i<=zs.length/\a.n<=g'.n/\g'.n<=3*g'.i/\min C.q 0-wR (1+3*qP d) j<=g'.q/\g'.q<=C.q)/\E=b.length) f.length _
  ⟨0,f,_,y,[],[],u,.d (.sl []),a,F,_,rfl,.inl W,l,o,rfl,by rw[asL];exact H,.start,⟨by omega,t9,t8,by simp,by simp,by omega⟩,⟨asj _,d9,asj _,t7,by simp only[wR];omega,by omega⟩,rfl⟩ W ?_
 clear l o H;rintro E G ⟨j,b,O,S,z,B,u,me,Q,F,n,rfl,pm,l,o,r,g,Yf,⟨z1,z2,z3,z4,z5,z6⟩,⟨y1,y2,y3,y4,y5,y6⟩,rfl⟩;have ut:oV O=some b.length:=by
  rcases pm with rfl|⟨rfl,rfl⟩
  .simp only[oV,bA]
  .rfl
 refine dO [2,121] W<|Oq (bK W W ut)<|dL [] W<|DC.cond W (λh=>?_) (λh=>?_)
 .have x:0<b.length:=by have:=asC h;omega
  clear h;obtain rfl:O=.sl (aE b):=by
   rcases pm with d7|⟨_,rfl⟩
   .exact d7
   .simp at x
  have v6:=GA hW j (by omega);have Fd:=MV d hd;obtain⟨r3,K3,⟨w,g3,rfl,rfl,R⟩,PW⟩:=fw ht an main 3 (by omega) (by omega) Q y2;have VJ:=R.lt;have gc:=R.mv.n;have t6:=R.mv.q;have Eq:=R.mv.i;have PW:=jn (by rfl) PW F;have H:=g.call (g':=g3);obtain⟨i,In⟩:∃i,i=min (w+1) b.length:=⟨_,rfl⟩;have t:1<=i/\i<=3/\i<=b.length:=by omega
  have t3:1+((w:Nat):Int)=((w+1:Nat):Int):=by omega
  obtain⟨r4,K4,⟨X,Y,g4,rfl,rfl,Rn,SR,IO,J⟩,Sj⟩:=hE S (by omega) z2 (by omega) (b.take i) (by rw[atP];omega) g3 R.mv.le (by omega) (by omega) (by omega) (by omega);have Sj:=jn (by rfl) Sj F;have LE:=J.q0;have UY:=J.q1;have Tg:=J.i;have LT:=J.n;have ZI:=g.call (g':=g4);have Pp:(aE b).take i=aE (b.take i):=by simp[aE,auA]
  have OP:aE b≠[]:=by intro d7;have h2:=bA b;rw[d7]at h2;have h3:(0:Nat)=b.length:=h2;omega
  obtain⟨F1,Yy,A⟩:=ZI.xo (bH X);obtain⟨F2,K,q⟩:=A.JR (aE Y);obtain⟨_,_,_,V,_⟩:=id ZI;obtain⟨_,_,I,_,_⟩:=id A;have Om:(aE (c++B)).length<=300:=by rw[bA,asq];omega
  have On:(aE Y).length<=50:=by rw[bA];omega
  have Ot:(bH z).length<=300:=by rw[eg];omega
  have Ou:(bH X).length<=50:=by rw[eg];omega
  refine dO [3,2,127] W<|Oq (au PW W W)<|dR [128] W<|Oq (ay W W W (by omega)) ?_;rw[t3];refine dR [2,131] W<|Oq (bK W W W) ?_;rw[bA];refine dL [] W<|DC.md ⟨[nN 16 i,(14,.loc 14 0),nD 13 (.sl (aE b)),(9,.loc 9 0),(8,.loc 8 0),nN 3 d,nR 0 1],n,GH v an main g3++F⟩ ?_ ?_
  .refine DC.cond W (λh=>?_) (λh=>?_)
   .have Oy:b.length<w+1:=by have:=asC h;omega
    refine dO [2,134] W<|Oq (bK W W W) ?_;rw[bA,show b.length=i by omega];refine dL [] W<|cN W W
   .have Oy:¬b.length<w+1:=by have:=asG h;omega
    refine dC [] W<|cN W (kc (by rw[show i=w+1 by omega];rfl) W)
  refine dC [] W ?_;apply Ow bX
  .intro s0 Oo;refine fR 1 W<|qw W W r W W<|fR 2 W<|yJ W W W OP t.1 (by rw[bA];exact t.2.2) (cu _) ?_;rw[Pp];refine fR 1 W<|bp Sj W W<|fR 5 W<|TF.nil ⟨by kernel_rfl,rfl⟩
  refine dO [2,146] W<|Oq (jf W W l W)<|dR [148] W<|Oq (mj V W W W W W (fe X) (by omega) (by omega))<|dR [999] W<|Oq (fh W W l (fX _ _ _) W W)<|dL [] W ?_;rw[Yy];generalize h_ me (GH v an main g4++F) (bH X)=t4 at A K q I⊢;refine dO [2,153] W<|Oq (mj I W W W W W (cu Y) (by omega) (by omega))<|dR [999] W<|Oq (fh W W W (fX _ _ _) W W)<|dL [] W ?_;rw[K];generalize h_ u (GH v an main g4++F1) (aE Y)=t5 at q⊢;apply Ow bX
  .intro s0 Oo;refine qw W W r W W<|fR 2 W<|yJ W W W OP t.1 (by rw[bA];exact t.2.2) (cu _) ?_;rw[Pp];refine aW (tq S (b.take i) (by omega) (by rw[atP];omega)) W W<|iI W W r W W W<|TF.nil ⟨by kernel_rfl,rfl⟩
  refine dO [2,162] W<|Oq (EX W W W OP (by rw[bA];exact t.2.2) (cu _))<|dL [] W ?_;rw[<-gY,<-iT]at q;have P6:(b.drop i).length=b.length-i:=by simp
  exact bG (k':=(b.drop i).length) (by omega) ⟨j+1,b.drop i,_,S.more (b.take i),z++X,B++Y,t5,t4,g4,F2,_,rfl,Lk b i,rfl,o,rfl,by rw[<-asM];exact q,.step Yf i t.1 t.2.1 t.2.2 (by rw[<-gc];exact Rn),⟨by simp only[Sc.more,asq,atP];omega,z2,z3,by simp only[asq];omega,by simp only[asq];omega,by omega⟩,⟨by omega,J.le,by omega,J.qg,by simp only[wR];omega,by omega⟩,rfl⟩ W W
 refine DC.exit ?_;have x:b=[]:=by
  have:=asG h;exact List.length_eq_zero_iff.1 (by omega)
 clear h;subst x;refine DC.gP (OS:=[.d (.sl (aE (c++B))),.d (.sl (bH z))]) 9 l (f_ (g.Ft (cu _)) (f_ (g.zq (fe _)) W))<|dO [2,999] W<|Oq (fh W W o W W W)<|dL [] W ?_;have v6:=GA hW j (by omega);have Yp:=MX d;refine DC.ret ⟨_,W,by simp,.d _,pz v an main Q,.mk (c++B) z,Q,by rw[bF.cells];rfl,rfl,?_,⟨by omega,y2,by omega,y4,by omega,y6⟩⟩;rw[MY];exact⟨c,a.n,S,z,B,d8,by omega,by rw[<-d6,<-co];exact Yf,W⟩
end
section
variable{zs:List Int}{v:D}(ht:Tape zs v)(an:Nat)(main:Bool)
include ht
def blocks(a:an<=10):∀d,d<=3->qQ zs v an main d
 |0,h=>Bf ht an main 0 h (Cy ht an main 0 h a (λd e=>by omega) 14 (by omega))
 |d+1,h=>Bf ht an main (d+1) h (Cy ht an main (d+1) h a (λb e=>by
   have c:b=d:=by omega
   subst c;exact blocks a b (by omega)) 14 (by omega))
def JS(q:an<=10)(i0:Nat)(C:i0<=zs.length):DT prog 24 [.ref 1 0,dN an] (GH v an main ⟨i0,0,14⟩) λr K=>∃(a:Nd) (g':GS),r=.d (.agg a.cells)/\K=GH v an main g'/\GN an a/\i0<=g'.i/\g'.i<=zs.length:=by
 have M:=ht.hl;have s:=mU (an+1) an (by omega) (by omega);have Z:=qN an;obtain⟨N,O,⟨B,a,rfl,rfl,F⟩,t⟩:=fw ht an main 3 (by omega) (by omega) ⟨i0,0,14⟩ C;have c:=F.mv;have G:=c.n;have H:=c.q;have I:=c.i;simp only at G H I;rcases asR B with u|u
 .skip
  subst u;obtain⟨P,Q,⟨e,o,rfl,rfl,J,k⟩,w⟩:=iS ht an main .int a c.le;obtain⟨d,f,g,h,i,j,x⟩:=e.shape;rw[x]at w;have ac:=k.n;have ah:=k.q;have co:=k.i;have y:aE [⟨⟨#[120]⟩,.int,none,true,e⟩,yV]=[[D.str ⟨#[120]⟩,.int .u8 2,.str ⟨#[]⟩,.sl [],.bool true,.int .u8 d,.int .u8 f,.int .i32 g,.str h,.sl i,.sl j,.int .i64 0,.int .i64 0,.int .i64 0,.int .i64 0],[D.str ⟨#[121]⟩,.int .u8 3,.str nK,.sl [],.bool false,.int .u8 0,.int .u8 0,.int .i32 0,.str ⟨#[]⟩,.sl [],.sl [],.int .i64 0,.int .i64 0,.int .i64 0,.int .i64 0]]:=by simp only[aE,asT,atu,Va.cells,x];rfl
  obtain⟨R,S,⟨b,p,rfl,rfl,z,l⟩,m⟩:=blocks ht an main q 3 (by omega) ⟨[aV,bV],[],[]⟩ ⟨by simp,by simp,by simp⟩ [⟨⟨#[120]⟩,.int,none,true,e⟩,yV] (by simp) o k.le (by omega) (by omega) (by omega);obtain⟨T,U,A⟩:=b.shape;rw[A,y]at m;have m:=jn (by rfl) m [.row true 15 0 (aY [[D.str ⟨#[120]⟩,.int .u8 2,.str ⟨#[]⟩,.sl [],.bool true,.int .u8 d,.int .u8 f,.int .i32 g,.str h,.sl i,.sl j,.int .i64 0,.int .i64 0,.int .i64 0,.int .i64 0],[D.str ⟨#[121]⟩,.int .u8 3,.str nK,.sl [],.bool false,.int .u8 0,.int .u8 0,.int .i32 0,.str ⟨#[]⟩,.sl [],.sl [],.int .i64 0,.int .i64 0,.int .i64 0,.int .i64 0]])];have V:=l.i;refine DT.drop 2 (asj _)<|DT.ob func24 W ntmps24 W<|dO [2,2,12] W<|Oq (aL s W W)<|dR [13] W<|Oq (qv W W W (by have:(⟨#[102]⟩:ByteArray).size=1:=rfl;omega))<|dR [2,15] W<|Oq (aL dE W W)<|dR [17] W<|Oq (aL jO W W)<|dR [2,21] W<|Oq (aL dE W W)<|dR [23] W<|Oq (aL li W W)<|dR [25] W<|Oq (iM W W W W W W)<|dL [] W ?_;have L:=jn (by rfl) t [.row false 15 0 (aY [[D.str ⟨#[120]⟩,.int .u8 2,.str ⟨#[]⟩,.sl [],.bool false,.int .u8 0,.int .u8 0,.int .i32 0,.str ⟨#[]⟩,.sl [],.sl [],.int .i64 0,.int .i64 0,.int .i64 0,.int .i64 0],[D.str ⟨#[121]⟩,.int .u8 3,.str nK,.sl [],.bool false,.int .u8 0,.int .u8 0,.int .i32 0,.str ⟨#[]⟩,.sl [],.sl [],.int .i64 0,.int .i64 0,.int .i64 0,.int .i64 0]])]
  refine dO [2,31] W<|Oq (au L W W)<|dR [1,2,35] W<|Oq (AJ W W W W (by omega) (by decide))<|dR [999] W<|Oq (Hh W W W W W W)<|dL [] W ?_;apply Ow bX
  .intro X Y;refine fR 3 W<|aW dE W W<|bp (jn (by rfl) w [.row false 15 0 (aY [[D.str ⟨#[120]⟩,.int .u8 2,.str ⟨#[]⟩,.sl [],.bool true,.int .u8 0,.int .u8 0,.int .i32 0,.str ⟨#[]⟩,.sl [],.sl [],.int .i64 0,.int .i64 0,.int .i64 0,.int .i64 0],[D.str ⟨#[121]⟩,.int .u8 3,.str nK,.sl [],.bool false,.int .u8 0,.int .u8 0,.int .i32 0,.str ⟨#[]⟩,.sl [],.sl [],.int .i64 0,.int .i64 0,.int .i64 0,.int .i64 0]])]) W W<|cZ W W W W (by omega) (by decide)<|fR 1 W<|fL W W W W W W<|TF.nil ⟨by kernel_rfl,rfl⟩
  refine DC.lD 2 W<|OB [(5,.loc 5 0),(4,.loc 4 0),nR 0 1] (GH v an main o++[.row true 15 0 (aY [[D.str ⟨#[120]⟩,.int .u8 2,.str ⟨#[]⟩,.sl [],.bool true,.int .u8 d,.int .u8 f,.int .i32 g,.str h,.sl i,.sl j,.int .i64 0,.int .i64 0,.int .i64 0,.int .i64 0],[D.str ⟨#[121]⟩,.int .u8 3,.str nK,.sl [],.bool false,.int .u8 0,.int .u8 0,.int .i32 0,.str ⟨#[]⟩,.sl [],.sl [],.int .i64 0,.int .i64 0,.int .i64 0,.int .i64 0]])]) W W<|DC.gP (OS:=[.d (.str (⟨#[102]⟩++dg an)),.d (.sl (aE [aV,bV])),.d (.sl [[D.str ⟨#[120]⟩,.int .u8 2,.str ⟨#[]⟩,.sl [],.bool true,.int .u8 d,.int .u8 f,.int .i32 g,.str h,.sl i,.sl j,.int .i64 0,.int .i64 0,.int .i64 0,.int .i64 0],[D.str ⟨#[121]⟩,.int .u8 3,.str nK,.sl [],.bool false,.int .u8 0,.int .u8 0,.int .i32 0,.str ⟨#[]⟩,.sl [],.sl [],.int .i64 0,.int .i64 0,.int .i64 0,.int .i64 0]]),.d (.sl []),.d (.sl []),.d (.int .i64 0),.d (.int .i64 0)]) 5 W (dT (dT (f_ (lj (n:=15) (rs:=[[D.str ⟨#[120]⟩,.int .u8 2,.str ⟨#[]⟩,.sl [],.bool true,.int .u8 d,.int .u8 f,.int .i32 g,.str h,.sl i,.sl j,.int .i64 0,.int .i64 0,.int .i64 0,.int .i64 0],[D.str ⟨#[121]⟩,.int .u8 3,.str nK,.sl [],.bool false,.int .u8 0,.int .u8 0,.int .i32 0,.str ⟨#[]⟩,.sl [],.sl [],.int .i64 0,.int .i64 0,.int .i64 0,.int .i64 0]]) W W (by simp) (by simp_all)) W)))<|dO [2,2,51] W<|Oq (au m W W)<|dL [2] W ?_
  refine DC.ret ⟨_,W,pO W,.d _,pz v an main p,⟨nm 102 an,[aV,bV],[⟨⟨#[120]⟩,.int,none,true,e⟩,yV],b⟩,p,by rw[Nd.cells,y,A];rfl,rfl,⟨rfl,rfl,⟨true,e,.inr ⟨rfl,J⟩,rfl⟩,p.n,(by have:=l.qg;have:=l.le;omega),?_⟩,by omega,l.le⟩;have E:o.n=0:=by omega
  rw[E]at z;exact z
 .skip
  have k:Mv zs a a:=⟨rfl,rfl,asj _,c.le⟩;have h:aE [⟨⟨#[120]⟩,.int,none,false,.nil⟩,yV]=[[D.str ⟨#[120]⟩,.int .u8 2,.str ⟨#[]⟩,.sl [],.bool false,.int .u8 0,.int .u8 0,.int .i32 0,.str ⟨#[]⟩,.sl [],.sl [],.int .i64 0,.int .i64 0,.int .i64 0,.int .i64 0],[D.str ⟨#[121]⟩,.int .u8 3,.str nK,.sl [],.bool false,.int .u8 0,.int .u8 0,.int .i32 0,.str ⟨#[]⟩,.sl [],.sl [],.int .i64 0,.int .i64 0,.int .i64 0,.int .i64 0]]:=by rfl
  obtain⟨o,p,⟨b,g,rfl,rfl,i,d⟩,f⟩:=blocks ht an main q 3 (by omega) ⟨[aV,bV],[],[]⟩ ⟨by simp,by simp,by simp⟩ [⟨⟨#[120]⟩,.int,none,false,.nil⟩,yV] (by simp) a k.le (by omega) (by omega) (by omega);obtain⟨w,x,j⟩:=b.shape;rw[j,h]at f;have f:=jn (by rfl) f [.row true 15 0 (aY [[D.str ⟨#[120]⟩,.int .u8 2,.str ⟨#[]⟩,.sl [],.bool false,.int .u8 0,.int .u8 0,.int .i32 0,.str ⟨#[]⟩,.sl [],.sl [],.int .i64 0,.int .i64 0,.int .i64 0,.int .i64 0],[D.str ⟨#[121]⟩,.int .u8 3,.str nK,.sl [],.bool false,.int .u8 0,.int .u8 0,.int .i32 0,.str ⟨#[]⟩,.sl [],.sl [],.int .i64 0,.int .i64 0,.int .i64 0,.int .i64 0]])];have y:=d.i;refine DT.drop 2 (asj _)<|DT.ob func24 W ntmps24 W<|dO [2,2,12] W<|Oq (aL s W W)<|dR [13] W<|Oq (qv W W W (by have:(⟨#[102]⟩:ByteArray).size=1:=rfl;omega))<|dR [2,15] W<|Oq (aL dE W W)<|dR [17] W<|Oq (aL jO W W)<|dR [2,21] W<|Oq (aL dE W W)<|dR [23] W<|Oq (aL li W W)<|dR [25] W<|Oq (iM W W W W W W)<|dL [] W ?_;have m:=jn (by rfl) t [.row false 15 0 (aY [[D.str ⟨#[120]⟩,.int .u8 2,.str ⟨#[]⟩,.sl [],.bool false,.int .u8 0,.int .u8 0,.int .i32 0,.str ⟨#[]⟩,.sl [],.sl [],.int .i64 0,.int .i64 0,.int .i64 0,.int .i64 0],[D.str ⟨#[121]⟩,.int .u8 3,.str nK,.sl [],.bool false,.int .u8 0,.int .u8 0,.int .i32 0,.str ⟨#[]⟩,.sl [],.sl [],.int .i64 0,.int .i64 0,.int .i64 0,.int .i64 0]])]
  refine dO [2,31] W<|Oq (au m W W)<|dR [32] W<|Oq (aQ (asY.2 (by omega)) W W W W)<|dL [0] W<|DC.lD 2 W<|OB [(5,.loc 5 0),(4,.loc 4 0),nR 0 1] (GH v an main a++[.row true 15 0 (aY [[D.str ⟨#[120]⟩,.int .u8 2,.str ⟨#[]⟩,.sl [],.bool false,.int .u8 0,.int .u8 0,.int .i32 0,.str ⟨#[]⟩,.sl [],.sl [],.int .i64 0,.int .i64 0,.int .i64 0,.int .i64 0],[D.str ⟨#[121]⟩,.int .u8 3,.str nK,.sl [],.bool false,.int .u8 0,.int .u8 0,.int .i32 0,.str ⟨#[]⟩,.sl [],.sl [],.int .i64 0,.int .i64 0,.int .i64 0,.int .i64 0]])]) W W<|DC.gP (OS:=[.d (.str (⟨#[102]⟩++dg an)),.d (.sl (aE [aV,bV])),.d (.sl [[D.str ⟨#[120]⟩,.int .u8 2,.str ⟨#[]⟩,.sl [],.bool false,.int .u8 0,.int .u8 0,.int .i32 0,.str ⟨#[]⟩,.sl [],.sl [],.int .i64 0,.int .i64 0,.int .i64 0,.int .i64 0],[D.str ⟨#[121]⟩,.int .u8 3,.str nK,.sl [],.bool false,.int .u8 0,.int .u8 0,.int .i32 0,.str ⟨#[]⟩,.sl [],.sl [],.int .i64 0,.int .i64 0,.int .i64 0,.int .i64 0]]),.d (.sl []),.d (.sl []),.d (.int .i64 0),.d (.int .i64 0)]) 5 W (dT (dT (f_ (lj (n:=15) (rs:=[[D.str ⟨#[120]⟩,.int .u8 2,.str ⟨#[]⟩,.sl [],.bool false,.int .u8 0,.int .u8 0,.int .i32 0,.str ⟨#[]⟩,.sl [],.sl [],.int .i64 0,.int .i64 0,.int .i64 0,.int .i64 0],[D.str ⟨#[121]⟩,.int .u8 3,.str nK,.sl [],.bool false,.int .u8 0,.int .u8 0,.int .i32 0,.str ⟨#[]⟩,.sl [],.sl [],.int .i64 0,.int .i64 0,.int .i64 0,.int .i64 0]]) W W (by simp) (by simp_all)) W)))<|dO [2,2,51] W<|Oq (au f W W)<|dL [2] W ?_
  refine DC.ret ⟨_,W,pO W,.d _,pz v an main g,⟨nm 102 an,[aV,bV],[⟨⟨#[120]⟩,.int,none,false,.nil⟩,yV],b⟩,g,by rw[Nd.cells,h,j];rfl,rfl,⟨rfl,rfl,⟨false,.nil,.inl ⟨rfl,rfl⟩,rfl⟩,g.n,(by have:=d.qg;have:=d.le;omega),?_⟩,by omega,d.le⟩;have l:a.n=0:=by omega
  rw[l]at i;exact i
end
instance:bw prog 24:=cR (by kernel_rfl)
def Cz(n:Nd):n.cells.length=7:=by
 obtain⟨v,q,h⟩:=n.b.shape;rw[Nd.cells,h];rfl
def Bg(l:List Nd):(jt l).length=l.length:=by simp[jt]
def zt(l:List Nd):∀r∈jt l,r.length=7:=by intro r a;obtain⟨_,_,rfl⟩:=asK.1 a;exact Cz _
def JT{l:List D}(h:l.length=7):∃a b c d e f g,l=[a,b,c,d,e,f,g]:=by
 match l,h with
 |[a,b,c,d,e,f,g],_=>exact⟨_,_,_,_,_,_,_,W⟩
section
variable{zs:List Int}{v:D}(ht:Tape zs v)
include ht
def JU(a:Nat)(f:Bool)(x:a<=10)(i0:Nat)(y:i0<=zs.length)(H:Hp)(l:H[0]?=some (.box (fA v i0))):
  ∃(g:Nd) (c:Nat) (d:Nat) (h:Int),GN a g/\c<=zs.length/\CT prog 24 [.ref H.length 0,dN a] (H++[.box (kq 0 14 a f)]) λr K=>r=.d (.agg g.cells)/\K=H.set 0 (.box (fA v c))++[.box (kq d h a f)]:=by
 obtain⟨r,K,⟨g,h,rfl,rfl,z,I,A⟩,B⟩:=JS ht a f x i0 y;refine⟨g,h.i,h.n,h.q,z,A,?_⟩;have n:0<H.length:=by
  rcases asp 0 H.length with k|k
  .exact k
  .simp[asr k]at l
 have o:=CT.frame (H:=GH v a f ⟨i0,0,14⟩) (K:=H++[.box (kq 0 14 a f)]) (λi=>if i=0 then 0 else H.length) (λi j c d p=>by
   have k:i=0\/i=1:=by have:i<2:=c;omega
   have C:j=0\/j=1:=by have:j<2:=d;omega
   rcases k with rfl|rfl<;>rcases C with rfl|rfl
   .rfl
   .exact absurd (show 0=H.length from p) (by omega)
   .exact absurd (show H.length=0 from p) (by omega)
   .rfl) (λi a c=>by
   have k:i=0\/i=1:=by have J:i<2:=rV c;omega
   rcases k with rfl|rfl
   .simp at c;subst c;rw[asl (by simpa using n)];simpa [cJ,iX,dy] using l
   .simp at c;subst c;simp[cJ,iX,dy]) (pz _ _ _ _) (λm p=>by
   simp at p;rcases p with rfl|rfl
   .exact jx W
   .exact .d _) (B.mono λD q ⟨w,b⟩=>(⟨by rw[b];rfl,w,b⟩:q.length=(GH v a f ⟨i0,0,14⟩).length/\(D=.d (.agg g.cells)/\q=GH v a f h)))
 have e:iX (λi=>if i=0 then 0 else H.length) [.ref 1 0,dN a]=[.ref H.length 0,dN a]:=by simp[iX,dy]
 rw[e]at o;refine o.mono ?_;rintro r G ⟨L,M,⟨rfl,rfl⟩,_,rfl,E,s,F⟩;refine⟨W,?_⟩;apply atX;intro j;have t:=s 0 _ W;have u:=s 1 _ W;simp[cJ,iX,dy]at t u;rcases atz j H.length with d|d|d
 .rw[asl (by simpa using d)];by_cases p:j=0
  .subst p;rw[t];simp[n]
  .rw[F j (λi c=>by
    have k:i=0\/i=1:=by have:i<2:=c;omega
    rcases k with rfl|rfl
    .simp;omega
    .simp;omega),asl d,asv (by omega)]
 .subst d;rw[u,ass (by simp)];simp
 .rw[asr (by simp at E;omega),asr (by simp;omega)]
end
theorem Ib(a:List Int)(v:D)(ht:Tape a v)(k:Nat)(c:0<k)(p:k<=1000)(i:Nat)(g:i<=a.length):DT prog 23 [.ref 0 0,dN k] [.box (fA v i)] λr K=>∃(j b:Nat),r=dN j/\K=[.box (fA v b)]/\j<k/\b<=a.length:=by
 obtain⟨⟨f,h,l⟩,q⟩:=ht;refine DT.ob func23 W ntmps23 W<|dC [2] W ?_;rcases asp i a.length with b|b
 rotate_left
 .have d:decide (((i:Nat):Int)>=(a.length:Int))=true:=asP (by omega);refine dC [] W ?_;apply Ow bX
  .intro e m;refine fR 8 W<|xD W W f<|mG W W W (r:=.bool true) (by show some (D.bool (decide _))=_;rw[d])<|TF.nil ⟨by kernel_rfl,rfl⟩
  refine dC [1,2] W<|DC.ret ⟨_,W,0,i,W,W,c,g⟩
 .have m:decide (((i:Nat):Int)>=(a.length:Int))=false:=asX (by omega);obtain rfl:v=.sl (kj .u8 a):=h.resolve_left (by grind);have d:(kj .u8 a)[((i:Nat):Int).toNat]?=some [.int .u8 a[i]]:=yG (aso b);have e:=JM (l a[i] (asE b));generalize a[i]=z at d e;obtain⟨z,rfl⟩:=auS e.1;have n:((i:Nat):Int)+1-1=(i:Int):=by omega
  have o:Int.tmod (z:Int) (k:Int)=((z%k:Nat):Int):=rfl;refine dC [] W ?_;apply Ow bX
  .intro s t;refine fR 8 W<|xD W W f<|mG W W W (r:=.bool false) (by show some (D.bool (decide _))=_;rw[m])<|TF.nil ⟨by kernel_rfl,rfl⟩
  refine dO [0,2,23] W<|Oq (ay W W W (by omega))<|dR [999] W<|Oq (cc W W W W W W)<|dL [] W ?_;apply Ow bX
  .intro s t;refine fR 8 W<|gv W W W (by omega) ?_;rw[n];refine bJ W W W (asm i) d W<|fR 1 W<|qx W W ?_;rw[IntWalk.i64_in _ ⟨by omega,by omega⟩];refine fR 1 W<|BR W W W (by simp;omega) ?_;rw[o];refine fR 1 W<|TF.nil ⟨by kernel_rfl,rfl⟩
  exact DC.ret ⟨_,W,z%k,i+1,W,W,atY _ c,b⟩
theorem JV{a:Type}{l:List a}{i:Nat}{x:a}(h:l[i]?=some x):i<l.length:=by grind
theorem Bh{n i:Nat}{rs:List (List D)}{m:M}{H:Hp}(h:Acc n i rs m H)(hi:1<=i)(c:1<=H.length)(rows:List (List D)):
  ∃a,Acc n a (rs++rows) (h_ m H rows) (eQ n m H rows)/\1<=a/\(∀j ob,(rs≠[]->j≠i)->H[j]?=some ob->(eQ n m H rows)[j]?=some ob)/\H.length<=(eQ n m H rows).length:=by
 rcases h with⟨rfl,rfl⟩|⟨d,a,rfl,b⟩
 .cases rows with
  |nil=>exact⟨i,.inl ⟨W,W⟩,hi,λj ob _ h=>h,asj _⟩
  |cons q r=>
   refine⟨H.length,.inr ⟨by simp,0,by simp[h_,uF],by simp[eQ,jS]⟩,c,λj ob _ h=>?_,by simp[eQ,jS]⟩;simp only[eQ,jS];rw[asl (rV h)];exact h
 .have f:=rV b;have e:eQ n (.bC i a rs.length) H rows=H.set i (.row true n (a+1) (aY rs++aY rows)):=by simp only[eQ,b]
  rw[e];exact⟨i,.inr ⟨by simp[d],a+1,by simp[h_],by rw[uU];simp[f]⟩,hi,λj ob a h=>by grind,by simp⟩
def JW(e:List Int)(v:D)(ht:Tape e v):PT prog 10 [v] (λr=>∃l,r=[.agg (JJ l)]/\GP l):=by
 obtain⟨r1,K1,⟨j,h,rfl,rfl,hj,u⟩,w⟩:=Ib e v ht 3 (by omega) (by omega) 0 (by omega);have x:1+((j:Nat):Int)=((j+1:Nat):Int):=by omega
 have U:j+1<=3:=by omega
 have y:1<=j+1:=by omega
 have hv:(∃b,v=.sl b)\/v=.pD:=by
  have:=ht.dj.1;cases v<;>simp[oV]at this
  .exact .inl ⟨_,W⟩
  .exact .inr W
 have V:= λ(b:Nat) (g:Bool) (c:b<=10) (a:Nat) (f:a<=e.length)=>JU ht b g c a f
 rcases hv with⟨b,rfl⟩|rfl
 .refine OL (DT.ct ?_);refine DT.ob func10 W ntmps10 W<|dO [2,2,14] W<|Oq (cF W W W)<|dR [2,2,20] W<|Oq (au w W W)<|dR [21] W<|Oq (ay W W W (by omega)) ?_;rw[x];refine dL [] W ?_;generalize j+1=N at U y⊢;refine dC [2] W<|OB [nN 6 0,nN 5 N,(4,.loc 4 0),nR 3 0,(2,.loc 2 0)] [.box (fA (.sl b) h)] W W<|dC [3] W<|DC.lp (λk z=>∃(i:Nat) (l:List Nd) (m:M) (a g:Nat) (H:Hp) (n:List (Nat×List M)),z=⟨[nI 6 (i:Int),nN 5 N,(4,.loc 4 0),nR 3 0,(2,.loc 2 0)],n,H⟩/\Go.Mt.get n 4=some [.d (.sl [tj]),m]/\Go.Mt.get n 2=some [.d (.sl []),.d (.sl [])]/\Acc 7 g (jt l) m H/\1<=g/\H[0]?=some (.box (fA (.sl b) a))/\a<=e.length/\i<=N/\l.length=i/\(∀(k:Nat) (d:Nd),l[k]?=some d->GN k d)/\k=N-i) N _
   ⟨0,[],.d (.sl []),h,1,_,_,rfl,rfl,rfl,.inl ⟨rfl,rfl⟩,by omega,rfl,u,by omega,rfl,by simp,rfl⟩ W ?_
  rintro k z ⟨i,l,m,a,g,H,n,rfl,q,A,B,ha,X,f,hi,C,E,rfl⟩;refine dC [2] W<|DC.cond W (λs=>?_) (λs=>?_)
  .have OJ:i<N:=by have:=asC s;omega
   obtain⟨t,o,F,G,XY,RT,Y⟩:=V i (((i:Nat):Int)==((N:Nat):Int)-1) (by omega) a f H X;obtain⟨I,J,K,L,O,P,Q,R⟩:=JT (Cz t);rw[R]at Y;have Z:=rV X;have S:Acc 7 g (jt l) m (H.set 0 (.box (fA (.sl b) o))++[.box (kq F G i (((i:Nat):Int)==((N:Nat):Int)-1))]):=B.other (λa a=>by
    rw[asl (by simpa using rV a),asv (by omega)];exact a)
   have ah:(jt l).length<=3:=by rw[Bg];omega
   have Pv:jt (l++[t])=jt l++[[I,J,K,L,O,P,Q]]:=by rw[<-R];simp[jt]
   obtain⟨a',T,b2,b3,b4⟩:=Bh S ha (by simp) [[I,J,K,L,O,P,Q]];have ac:=b3 0 _ (by omega) (show(H.set 0 (.box (fA (.sl b) o))++[.box (kq F G i (((i:Nat):Int)==((N:Nat):Int)-1))])[0]?=some (.box (fA (.sl b) o)) by rw[asl (by simpa using Z)];simp[Z]);rw[<-Pv]at T;refine dO [3,2,31] W<|Oq (cI W W W (by omega))<|dR [33] W<|Oq (kD W W W W W)<|dR [34] W<|Oq (cF W W W)<|dL [] W ?_;apply Ow bX
   .intro c p;refine fR 1 W<|oK W W q W<|fR 2 W<|bp Y W W<|fR 1 W<|xH S W W W W W W (by omega) (by omega)<|fR 1 W<|iI W W q (fX _ _ _) W W<|TF.nil ⟨by kernel_rfl,rfl⟩
   refine dO [2,26] W<|Oq (ay W W W (by omega))<|dL [] W<|bG (k':=N-(i+1)) (by omega) ⟨i+1,l++[t],_,o,a',_,_,rfl,rfl,A,T,b2,ac,RT,by omega,by simp[C],by
    intro k d c;rcases asp k l.length with p|p
    .rw[asl p]at c;exact E k d c
    .rw[ass p]at c;obtain rfl:k=l.length:=by have:=JV c;simp at this;omega
     simp at c;subst c;rw[C];exact XY,W⟩ W W
  .refine DC.exit ?_;have c:i=N:=by have:=asG s;omega
   refine DC.gP (OS:=[.d (.sl [tj]),.d (.sl (jt l))]) 4 q (dT (f_ (B.view (zt l)) W))<|dO [2,999] W<|Oq (fh W W A W W W)<|dL [] W<|DC.ret ⟨_,W,[_],W,l,W,by omega,by omega,E⟩
 .refine OL (DT.ct ?_);refine DT.ob func10 W ntmps10 W<|dO [2,2,14] W<|Oq (cF W W W)<|dR [2,2,20] W<|Oq (au w W W)<|dR [21] W<|Oq (ay W W W (by omega)) ?_;rw[x];refine dL [] W ?_;generalize j+1=N at U y⊢;refine dC [2] W<|OB [nN 6 0,nN 5 N,(4,.loc 4 0),nR 3 0,(2,.loc 2 0)] [.box (fA .pD h)] W W<|dC [3] W<|DC.lp (λk z=>∃(i:Nat) (l:List Nd) (m:M) (a g:Nat) (H:Hp) (n:List (Nat×List M)),z=⟨[nI 6 (i:Int),nN 5 N,(4,.loc 4 0),nR 3 0,(2,.loc 2 0)],n,H⟩/\Go.Mt.get n 4=some [.d (.sl [tj]),m]/\Go.Mt.get n 2=some [.d (.sl []),.d (.sl [])]/\Acc 7 g (jt l) m H/\1<=g/\H[0]?=some (.box (fA .pD a))/\a<=e.length/\i<=N/\l.length=i/\(∀(k:Nat) (d:Nd),l[k]?=some d->GN k d)/\k=N-i) N _
   ⟨0,[],.d (.sl []),h,1,_,_,rfl,rfl,rfl,.inl ⟨rfl,rfl⟩,by omega,rfl,u,by omega,rfl,by simp,rfl⟩ W ?_
  rintro k z ⟨i,l,m,a,g,H,n,rfl,q,A,B,ha,X,f,hi,C,E,rfl⟩;refine dC [2] W<|DC.cond W (λs=>?_) (λs=>?_)
  .have OJ:i<N:=by have:=asC s;omega
   obtain⟨t,o,F,G,XY,RT,Y⟩:=V i (((i:Nat):Int)==((N:Nat):Int)-1) (by omega) a f H X;obtain⟨I,J,K,L,O,P,Q,R⟩:=JT (Cz t);rw[R]at Y;have Z:=rV X;have S:Acc 7 g (jt l) m (H.set 0 (.box (fA .pD o))++[.box (kq F G i (((i:Nat):Int)==((N:Nat):Int)-1))]):=B.other (λa a=>by
    rw[asl (by simpa using rV a),asv (by omega)];exact a)
   have ah:(jt l).length<=3:=by rw[Bg];omega
   have Pv:jt (l++[t])=jt l++[[I,J,K,L,O,P,Q]]:=by rw[<-R];simp[jt]
   obtain⟨a',T,b2,b3,b4⟩:=Bh S ha (by simp) [[I,J,K,L,O,P,Q]];have ac:=b3 0 _ (by omega) (show(H.set 0 (.box (fA .pD o))++[.box (kq F G i (((i:Nat):Int)==((N:Nat):Int)-1))])[0]?=some (.box (fA .pD o)) by rw[asl (by simpa using Z)];simp[Z]);rw[<-Pv]at T;refine dO [3,2,31] W<|Oq (cI W W W (by omega))<|dR [33] W<|Oq (kD W W W W W)<|dR [34] W<|Oq (cF W W W)<|dL [] W ?_;apply Ow bX
   .intro c p;refine fR 1 W<|oK W W q W<|fR 2 W<|bp Y W W<|fR 1 W<|xH S W W W W W W (by omega) (by omega)<|fR 1 W<|iI W W q (fX _ _ _) W W<|TF.nil ⟨by kernel_rfl,rfl⟩
   refine dO [2,26] W<|Oq (ay W W W (by omega))<|dL [] W<|bG (k':=N-(i+1)) (by omega) ⟨i+1,l++[t],_,o,a',_,_,rfl,rfl,A,T,b2,ac,RT,by omega,by simp[C],by
    intro k d c;rcases asp k l.length with p|p
    .rw[asl p]at c;exact E k d c
    .rw[ass p]at c;obtain rfl:k=l.length:=by have:=JV c;simp at this;omega
     simp at c;subst c;rw[C];exact XY,W⟩ W W
  .refine DC.exit ?_;have c:i=N:=by have:=asG s;omega
   refine DC.gP (OS:=[.d (.sl [tj]),.d (.sl (jt l))]) 4 q (dT (f_ (B.view (zt l)) W))<|dO [2,999] W<|Oq (fh W W A W W W)<|dL [] W<|DC.ret ⟨_,W,[_],W,l,W,by omega,by omega,E⟩
end Go.Proofs
namespace Go.Ex
open Go.Mt Go.Mk
variable{x:Nm}{r:Nat}
abbrev e0:Nm:=⟨#[]⟩
abbrev z2:Int×Int:=(0,0)
def cx:E->Sm.Xp
 |.nil=>.mk 0 0 0 e0 [] [] z2
 |.int n=>.mk 1 0 n e0 [] [] z2
 |.bool n=>.mk 2 0 n e0 [] [] z2
 |.ctor s=>.mk 3 0 0 s [] [] z2
 |.var s=>.mk 4 0 0 s [] [] z2
 |.last s=>.mk 5 0 0 s [] [] z2
 |.un d a=>.mk 6 d 0 e0 [] [cx a] z2
 |.bin d a b=>.mk 7 d 0 e0 [] [cx a,cx b] z2
 |.ite c a b=>.mk 8 0 0 e0 [] [cx c,cx a,cx b] z2
 |.fO a b=>.mk 9 0 0 e0 [] [cx a,cx b] z2
 |.pre a=>.mk 10 0 0 e0 [] [cx a] z2
 |.arrow a b=>.mk 11 0 0 e0 [] [cx a,cx b] z2
 |.fq x c a=>.mk 12 0 0 x [c] [cx a] z2
 |.merge x d e f a b c=>.mk 13 0 0 x [d,e,f] [cx a,cx b,cx c] z2
def Fu:Option (Nm×Nm)->List (Nm×Nm)
 |none=>[]
 |some c=>[c]
def d_(v:Va):Sm.Va:=⟨v.name,v.ty.kind,v.ty.nm,Fu v.clock,v.last,cx v.first,z2⟩
def uV(t:Tr):Sm.Tr:=⟨cx t.e,t.to,t.fF,z2⟩
mutual
def dx:aB->Sm.aB
 |.df x e=>.mk 1 [x] e0 [] false (cx e) [] z2
 |.call x y f a b c e=>.mk 2 [x,y] f [cx a,cx b] c (cx e) [] z2
 |.sw e a=>.mk 3 [] e0 [] false (cx e) (eG a) z2
 |.aN a=>.mk 4 [] e0 [] false (cx .nil) (eG a) z2
 |.reset e b=>.mk 5 [] e0 [] false (cx e) [.mk e0 (eD b) [] [] z2] z2
def oF:a_->Sm.a_
 |.mk d b a c=>.mk d (eD b) (a.map uV) (c.map uV) z2
def eG:List a_->List Sm.a_
 |[]=>[]
 |a::l=>oF a::eG l
def eD:bF->Sm.bF
 |.mk b a=>.mk (b.map d_) (fy a)
def fy:List aB->List Sm.aB
 |[]=>[]
 |q::l=>dx q::fy l
end
def oS(l:List a_):eG l=l.map oF:=by induction l with
 |nil=>rfl
 |cons b l a=>simp[eG,a]
def io(l:List aB):fy l=l.map dx:=by induction l with
 |nil=>rfl
 |cons b l a=>simp[fy,a]
def cM(d:Nd):Sm.Nd:=⟨d.name,d.ins.map d_,d.outs.map d_,eD d.b,z2⟩
abbrev CA:Sm.En:=⟨nK,[cg,bz,cX],z2⟩
def gZ(l:List Nd):Sm.Pg:=⟨[CA],l.map cM⟩
def db:∀e:E,(cx e).cells=e.cells
 |.nil=>rfl
 |.int n=>rfl
 |.bool n=>rfl
 |.ctor s=>rfl
 |.var s=>rfl
 |.last s=>rfl
 |.un d a=>by simp only[cx,Sm.Xp.cells,Sm.rW,db a];rfl
 |.bin d a b=>by simp only[cx,Sm.Xp.cells,Sm.rW,db a,db b];rfl
 |.ite c a b=>by simp only[cx,Sm.Xp.cells,Sm.rW,db a,db b,db c];rfl
 |.fO a b=>by simp only[cx,Sm.Xp.cells,Sm.rW,db a,db b];rfl
 |.pre a=>by simp only[cx,Sm.Xp.cells,Sm.rW,db a];rfl
 |.arrow a b=>by simp only[cx,Sm.Xp.cells,Sm.rW,db a,db b];rfl
 |.fq x c a=>by simp only[cx,Sm.Xp.cells,Sm.rW,db a];rfl
 |.merge x d f g a b c=>by simp only[cx,Sm.Xp.cells,Sm.rW,db a,db b,db c];rfl
def Fv(v:Va):(d_ v).cells=v.cells:=by
 obtain⟨n,t,a,l,f⟩:=v;have:Sm.sU (Fu a)=sU a:=by cases a<;>rfl
 simp only[d_,Sm.Va.cells,Va.cells,db,this]
def zu(l:List Va):Sm.aE (l.map d_)=aE l:=by simp[Sm.aE,aE,Function.comp_def,Fv]
def Fw(l:List Tr):Sm.eT (l.map uV)=eT l:=by
 simp only[Sm.eT,eT,avf];exact as6 λt _=>by simp[uV,Sm.Tr.cells,Tr.cells,db]
mutual
def Fx:∀q:aB,(dx q).cells=q.cells
 |.df x e=>by simp only[dx,Sm.aB.cells,aB.cells,db];try rfl
 |.call x y f a b c e=>by simp only[dx,Sm.aB.cells,aB.cells,db,asT,atu];try rfl
 |.sw e a=>by simp only[dx,Sm.aB.cells,aB.cells,db,ts a];try rfl
 |.aN a=>by simp only[dx,Sm.aB.cells,aB.cells,db,ts a];try rfl
 |.reset e b=>by simp only[dx,Sm.aB.cells,aB.cells,db,Sm.cj,Sm.a_.cells,uW b];try rfl
def Fy:∀a:a_,(oF a).cells=a.cells
 |.mk e b c d=>by simp only[oF,Sm.a_.cells,a_.cells,uW b,Fw]
def ts:∀l:List a_,Sm.cj (eG l)=cj l
 |[]=>rfl
 |a::l=>by simp only[eG,Sm.cj,cj,Fy a,ts l]
def uW:∀b:bF,(eD b).cells=b.cells
 |.mk c a=>by simp only[eD,Sm.bF.cells,bF.cells,zu,xq a]
def xq:∀l:List aB,Sm.bH (fy l)=bH l
 |[]=>rfl
 |q::l=>by simp only[fy,Sm.bH,bH,Fx q,xq l]
end
def Fz(d:Nd):(cM d).cells=d.cells:=by
 have h:=uW d.b;rw[Sm.bF.aA]at h;have a:d.cells=[.str d.name,.sl (aE d.ins),.sl (aE d.outs)]++d.b.cells++[.int .i64 0,.int .i64 0]:=rfl;rw[a,<-h];simp only[cM,Sm.Nd.cells,zu];rfl
def zw(l:List Nd):(gZ l).cells=JJ l:=by
 have:(l.map cM).map Sm.Nd.cells=jt l:=by
  simp;exact as6 λd _=>Fz d
 show [D.sl [Sm.En.cells CA],D.sl ((l.map cM).map Sm.Nd.cells)]=_;rw[this];rfl
abbrev Env:=List (Nm×Option Int×Nat)
variable{A:Env}
def rM:Env->Nat->Nm->Option (Option Int×Nat×Nat)
 |[],_,_=>none
 |(y,v,s)::r,i,x=>if y=x then some (v,s,i)else rM r (i+1) x
def get(A:Env)(x:Nm):Option (Option Int×Nat×Nat):=rM A 0 x
def uX:∀(A B:Env) (i:Nat) (x:Nm),rM (A++B) i x=match rM A i x with|some e=>some e|none=>rM B (i+A.length) x
 |[],B,i,x=>rfl
 |(y,v,s)::r,B,i,x=>by
  simp only[atp,rM];by_cases h:y=x
  .grind
  .rw[asu h,asu h,uX r B (i+1) x,asO,show i+(r.length+1)=i+1+r.length by omega]
def pj{B:Env}{e:Option Int×Nat×Nat}(h:get A x=some e):get (A++B) x=some e:=by unfold get;rw[uX];unfold get at h;rw[h]
def Bi:∀{A:Env} {i:Nat} {x:Nm} {v:Option Int} {s k:Nat},rM A i x=some (v,s,k)->i<=k/\k<i+A.length
 |[],i,x,v,s,k,h=>by cases h
 |(y,w,t)::r,i,x,v,s,k,h=>by
  unfold rM at h;split at h
  .grind
  .have:=Bi h;simp;omega
def ub{v:Option Int}{s k:Nat}(h:get A x=some (v,s,k)):k<A.length:=by have:=Bi h;omega
def val(A:Env)(x:Nm):Int:=match get A x with
 |some (some v,_,_)=>v
 |_=>0
def Kn(A:Env)(x:Nm)(r:Nat):Prop:=∃v s i,get A x=some (some v,s,i)/\i<r
def Kn.app{r':Nat}(h:Kn A x r)(B:Env)(b:r<=r'):Kn (A++B) x r':=by obtain⟨v,s,i,a,c⟩:=h;exact⟨v,s,i,pj a,by omega⟩
def Kn.val(h:Kn A x r)(B:Env):val (A++B) x=val A x:=by obtain⟨v,s,i,a,b⟩:=h;unfold Ex.val;rw[pj a,a]
def VT:Ty->Int->Prop
 |.bool,n=>n=0\/n=1
 |.int,n=>Sm.oD n
 |.ft,n=>n=0\/n=1\/n=2
abbrev xE(e:E):Nat:=Sm.xP (cx e)
def iz(x:Nm):Int:=Sm.k_ [cg,bz,cX] x
inductive PK where
 |val (t:Ty)|any|aN (N:Nat)|call (j:Nat)
structure fB where
 ty:Nm->Ty
 ls:Nm->Bool
 lp:Nm->Nat
 pt:Nat->PK
def qh(T:fB):E->Ty
 |.nil=>.int
 |.int _=>.int
 |.bool _=>.bool
 |.ctor _=>.ft
 |.var x=>T.ty x
 |.last x=>T.ty x
 |.un a _=>if a=1 then .bool else .int
 |.bin a _ _=>if a∈[(3:Int),4,5,6,7]then .int else .bool
 |.ite _ a _=>qh T a
 |.fO c _=>qh T c
 |.pre a=>qh T a
 |.arrow a _=>qh T a
 |.fq _ _ a=>qh T a
 |.merge _ _ _ _ _ _ c=>qh T c
section
variable(T:fB)(A:Env)(rd:Nat->Int)
def cE:E->Nat->Int
 |.nil,_=>0
 |.int n,_=>n
 |.bool n,_=>n
 |.ctor s,_=>iz s
 |.var x,_=>val A x
 |.last x,_=>rd (T.lp x)
 |.un d a,p=>Sm.Cb d (cE a p)
 |.bin d a b,p=>Sm.jl d (cE a p) (cE b (p+xE a))
 |.ite c a b,p=>if cE c p=0 then cE b (p+xE c+xE a)else cE a (p+xE c)
 |.fO _ _,p=>rd p
 |.pre _,p=>rd p
 |.arrow a b,p=>if rd p=0 then cE b (p+1+xE a)else cE a (p+1)
 |.fq _ _ a,p=>cE a p
 |.merge x d e _ a b c,p=>if iz d=val A x then cE a p else if iz e=val A x then cE b (p+xE a)else cE c (p+xE a+xE b)
def dU:E->Nat->List (Nat×Int)
 |.un _ a,p=>dU a p
 |.bin _ a b,p=>dU a p++dU b (p+xE a)
 |.ite c a b,p=>dU c p++dU a (p+xE c)++dU b (p+xE c+xE a)
 |.fO c y,p=>(p,cE T A rd y (p+1+xE c))::dU y (p+1+xE c)
 |.pre y,p=>(p,cE T A rd y (p+1))::dU y (p+1)
 |.arrow a b,p=>(p,0)::(dU a (p+1)++dU b (p+1+xE a))
 |.fq _ _ a,p=>dU a p
 |.merge x d e _ a b c,p=>if iz d=val A x then dU a p else if iz e=val A x then dU b (p+xE a)else dU c (p+xE a+xE b)
 |_,_=>[]
def eI(V:Nm->Prop)(R:Nat):Nat->E->Prop
 |_,.nil=>False
 |_,.int _=>True
 |_,.bool _=>True
 |_,.ctor s=>s∈[cg,bz,cX]
 |r,.var x=>V x/\Kn A x r
 |_,.last x=>V x/\T.ls x=true
 |r,.un _ a=>eI V R r a
 |r,.bin _ a b=>eI V R r a/\eI V R r b
 |r,.ite c a b=>eI V R r c/\eI V R r a/\eI V R r b
 |_,.fO c y=>eI V R R y
 |_,.pre y=>eI V R R y
 |r,.arrow a b=>eI V R r a/\eI V R r b
 |r,.fq _ _ a=>eI V R r a
 |r,.merge x d e f a b c=>V x/\Kn A x r/\T.ty x=.ft/\(if iz d=val A x then eI V R r a else if iz e=val A x then eI V R r b else iz f=val A x/\eI V R r c)
end
section
variable{T:fB}{A:Env}{rd:Nat->Int}{V:Nm->Prop}
def jo(B:Env):∀{e:E} {R r p:Nat},eI T A V R r e->cE T (A++B) rd e p=cE T A rd e p
 |.nil,_,_,_,h=>h.elim
 |.int _,_,_,_,_=>rfl
 |.bool _,_,_,_,_=>rfl
 |.ctor _,_,_,_,_=>rfl
 |.var x,_,_,_,h=>h.2.val B
 |.last _,_,_,_,_=>rfl
 |.un d a,R,r,p,h=>by simp only[cE];rw[jo B (e:=a) h]
 |.bin d a b,R,r,p,h=>by simp only[cE];rw[jo B (e:=a) h.1,jo B (e:=b) h.2]
 |.ite c a b,R,r,p,h=>by simp only[cE];rw[jo B (e:=c) h.1,jo B (e:=a) h.2.1,jo B (e:=b) h.2.2]
 |.fO _ _,_,_,_,_=>rfl
 |.pre _,_,_,_,_=>rfl
 |.arrow a b,R,r,p,h=>by simp only[cE];rw[jo B (e:=a) h.1,jo B (e:=b) h.2]
 |.fq _ _ a,R,r,p,h=>by simp only[cE];exact jo B (e:=a) h
 |.merge x i j k g b c,R,r,p,h=>by
  obtain⟨l,d,m,a⟩:=h;simp only[cE,d.val B];split
  .rename_i e;rw[asB e]at a;exact jo B a
  .rename_i e;rw[asu e]at a;split
   .rename_i f;rw[asB f]at a;exact jo B a
   .rename_i f;rw[asu f]at a;exact jo B a.2
def eI.app(B:Env){g:Nat} :∀{e:E} {R r r':Nat},eI T A V R r e->R<=g->r<=r'->eI T (A++B) V g r' e
 |.nil,_,_,_,h,_,_=>h.elim
 |.int _,_,_,_,_,_,_=>trivial
 |.bool _,_,_,_,_,_,_=>trivial
 |.ctor _,_,_,_,h,_,_=>h
 |.var x,_,_,_,h,_,a=>⟨h.1,h.2.app B a⟩
 |.last _,_,_,_,h,_,_=>h
 |.un i a,R,r,r',h,f,d=>eI.app B (e:=a) h f d
 |.bin i f b,R,r,r',h,d,a=>⟨eI.app B h.1 d a,eI.app B h.2 d a⟩
 |.ite c f b,R,r,r',h,d,a=>⟨eI.app B h.1 d a,eI.app B h.2.1 d a,eI.app B h.2.2 d a⟩
 |.fO c y,R,r,r',h,a,d=>eI.app B (e:=y) h a a
 |.pre y,R,r,r',h,a,d=>eI.app B (e:=y) h a a
 |.arrow f b,R,r,r',h,d,a=>⟨eI.app B h.1 d a,eI.app B h.2 d a⟩
 |.fq _ _ a,R,r,r',h,f,d=>eI.app B (e:=a) h f d
 |.merge x n o p m b c,R,r,r',i,f,d=>by
  obtain⟨j,h,k,a⟩:=i;refine⟨j,h.app B d,k,?_⟩;rw[h.val B];split
  .rename_i e;rw[asB e]at a;exact eI.app B a f d
  .rename_i e;rw[asu e]at a;split
   .rename_i l;rw[asB l]at a;exact eI.app B a f d
   .rename_i l;rw[asu l]at a;exact⟨a.1,eI.app B a.2 f d⟩
def eI.sn{V':Nm->Prop}(a:∀x,V x->V' x):∀{e:E} {R r:Nat},eI T A V R r e->eI T A V' R r e
 |.nil,_,_,h=>h.elim
 |.int _,_,_,_=>trivial
 |.bool _,_,_,_=>trivial
 |.ctor _,_,_,h=>h
 |.var x,_,_,h=>⟨a x h.1,h.2⟩
 |.last x,_,_,h=>⟨a x h.1,h.2⟩
 |.un f d,R,r,h=>eI.sn a (e:=d) h
 |.bin f d b,R,r,h=>⟨eI.sn a h.1,eI.sn a h.2⟩
 |.ite c d b,R,r,h=>⟨eI.sn a h.1,eI.sn a h.2.1,eI.sn a h.2.2⟩
 |.fO c y,R,r,h=>eI.sn a (e:=y) h
 |.pre y,R,r,h=>eI.sn a (e:=y) h
 |.arrow d b,R,r,h=>⟨eI.sn a h.1,eI.sn a h.2⟩
 |.fq _ _ d,R,r,h=>eI.sn a (e:=d) h
 |.merge x l m n k b c,R,r,h=>by
  obtain⟨f,g,i,d⟩:=h;refine⟨a x f,g,i,?_⟩;split
  .rename_i e;rw[asB e]at d;exact eI.sn a d
  .rename_i e;rw[asu e]at d;split
   .rename_i j;rw[asB j]at d;exact eI.sn a d
   .rename_i j;rw[asu j]at d;exact⟨d.1,eI.sn a d.2⟩
end
end Go.Ex
namespace Go.Ex
open Go.Mt Go.Mk
variable{t:Ty}{e:E}{s:Sc}{st:Bool}{d:Nat}{op a b:Int}
def ot(T:fB)(rd:Nat->Int):E->Nat->Prop
 |.un _ a,p=>ot T rd a p
 |.bin _ a b,p=>ot T rd a p/\ot T rd b (p+xE a)
 |.ite c a b,p=>ot T rd c p/\ot T rd a (p+xE c)/\ot T rd b (p+xE c+xE a)
 |.fO c y,p=>VT (qh T c) (rd p)/\ot T rd y (p+1+xE c)
 |.pre y,p=>VT (qh T y) (rd p)/\ot T rd y (p+1)
 |.arrow a b,p=>ot T rd a (p+1)/\ot T rd b (p+1+xE a)
 |.fq _ _ a,p=>ot T rd a p
 |.merge _ _ _ _ a b c,p=>ot T rd a p/\ot T rd b (p+xE a)/\ot T rd c (p+xE a+xE b)
 |_,_=>True
def MZ(T:fB)(s:Sc):Prop:=(∀v∈s.ready,T.ty v.name=v.ty)/\(∀v∈s.all,T.ty v.name=v.ty)/\∀v∈s.da,T.ty v.name=v.ty
structure Ic(T:fB)(A:Env)(rd:Nat->Int)(V:Nm->Prop)(s:Sc)(r:Nat):Prop where
 t:MZ T s
 xx:∀v∈s.ready,v.clock=none->V v.name/\Kn A v.name r/\VT v.ty (val A v.name)
 vV:∀v∈s.da,V v.name/\T.ls v.name=true/\VT v.ty (rd (T.lp v.name))
def qR(A:Env)(V:Nm->Prop)(s:Sc)(R:Nat):Prop:=∀v∈s.all,v.clock=none->V v.name/\Kn A v.name R/\VT v.ty (val A v.name)
section
variable{T:fB}{A:Env}{rd:Nat->Int}{V:Nm->Prop}
def tt(h:GC t e):qh T e=t:=by cases h<;>rfl
theorem JX(h:GE s t st d e):MZ T s->qh T e=t:=by
 induction h with
 |v h=>intro a;cases h with
  |uO h=>exact tt h
  |var h=>obtain⟨v,b,f,_,rfl⟩:=h;exact(a.1 v b).trans f
 |c h=>intro _;exact tt h
 |ite f g i j b k=>intro a;exact b a
 |fO a b f=>intro _;simp only[qh];exact tt a
 |arrow f g b i=>intro a;exact b a
 |last h=>intro a;obtain⟨v,b,f,_,rfl⟩:=h;exact(a.2.2 v b).trans f
 |neg a b=>intro _;rfl
 |arith j a b f g i=>intro _;simp only[qh];rw[asB a]
 |not a b=>intro _;rfl
 |k8 a u j b f g i=>
  intro _;have:a∉ [(3:Int),4,5,6,7]:=by
   grind
  simp only[qh];rw[asu this]
def i32_in(n:Int):Sm.oD (Sm.i32 n):=by
 have a:Sm.i32 n=if n%4294967296>=2147483648 then n%4294967296-4294967296 else n%4294967296:=by
  show IntKind.i32.wrap n=_;unfold IntKind.wrap;have b:(2:Int)^32=4294967296:=by decide
  have c:(2:Int)^(32-1)=2147483648:=by decide
  simp only[IntKind.signed,IntKind.bits,Bool.true_and,b,c,decide_eq_true_eq]
 rw[a];unfold Sm.oD;constructor<;>split<;>omega
def Bj(b:Bool):VT .bool (Sm.kY b):=by cases b<;>simp[Sm.kY,VT]
def Ll(a:Int):VT .int (Sm.Cb 2 a):=by
 have:Sm.Cb 2 a=Sm.i32 (-a):=rfl;rw[this];exact i32_in _
def Lm(a:Int):VT .bool (Sm.Cb 1 a):=Bj _
def DR(d:op∈[(3:Int),4,5,6,7])(e:Sm.oD a)(h:Sm.oD b):VT .int (Sm.jl op a b):=by
 have c:Sm.oD 0:=by unfold Sm.oD;omega
 simp at d;rcases d with rfl|rfl|rfl|rfl|rfl
 .exact i32_in _
 .exact i32_in _
 .exact i32_in _
 .show Sm.oD (if b=0 then 0 else if a= -2147483648/\b= -1 then a else Sm.i32 (Int.tdiv a b));split
  .exact c
  .split
   .exact e
   .exact i32_in _
 .show Sm.oD (if b=0 then 0 else if a= -2147483648/\b= -1 then 0 else Int.tmod a b);split
  .exact c
  .split
   .exact c
   .unfold Sm.oD at e⊢;have i:Int.natAbs (Int.tmod a b)<=Int.natAbs a:=by
     rw[Int.natAbs_tmod];exact Nat.mod_le _ _
    rcases Int.le_total 0 a with f|f
    .have:=Int.tmod_nonneg b f;omega
    .have:Int.tmod a b<=0:=by
      have g:=Int.tmod_nonneg b (show 0<= -a by omega);rw[Int.neg_tmod]at g;omega
     omega
def Ie(c:op=8\/op=9\/op=10\/op=11\/op=13\/op=16):VT .bool (Sm.jl op a b):=by
 rcases c with rfl|rfl|rfl|rfl|rfl|rfl<;>exact Bj _
def CB(h:GC t e)(p:Nat):VT t (cE T A rd e p):=by
 cases h with
 |bool h=>exact h
 |int h=>
  simp only[cE];show Sm.oD _;simp at h;unfold Sm.oD;omega
 |ft h=>
  simp only[cE];simp at h;rcases h with rfl|rfl|rfl
  .exact .inl W
  .exact .inr (.inl W)
  .exact .inr (.inr W)
def FB(h:GC t e)(R r:Nat):eI T A V R r e:=by
 cases h with
 |bool h=>trivial
 |int h=>trivial
 |ft h=>exact h
def nu(h:GE s t st d e):∀{r p:Nat},Ic T A rd V s r->ot T rd e p->VT t (cE T A rd e p):=by
 induction h with
 | @v s t st d e h=>
  intro r p a i;cases h with
  |uO h=>exact CB h p
  |var h=>obtain⟨v,b,f,g,rfl⟩:=h;simp only[cE];rw[<-f];exact(a.xx v b g).2.2
 |c h=>intro r p a b;exact CB h p
 |ite i j k l f g=>
  intro r p a b;simp only[cE];split
  .exact g a b.2.2
  .exact f a b.2.1
 |fO b g i=>intro r p f a;simp only[cE];have:=a.1;rw[tt b]at this;exact this
 |arrow i f g j=>
  intro r p a b;simp only[cE];split
  .have:=b.2.1;rw[JX f ⟨a.t.2.1,a.t.2.1,a.t.2.2⟩]at this;exact this
  .exact g a b.1
 |last h=>intro r p a g;obtain⟨v,b,f,i,rfl⟩:=h;simp only[cE];rw[<-f];exact(a.vV v b).2.2
 |neg f g=>intro r p a b;exact Ll _
 |arith l i j k f g=>intro r p a b;exact DR i (f a b.1) (g a b.2)
 |not f g=>intro r p a b;exact Lm _
 |k8 l u a g i j k=>
  intro r p b f;refine Ie ?_;rcases a with⟨h,_⟩|⟨h,_⟩|rfl
  .grind
  .grind
  .omega
def nZ(h:GE s t st d e):∀{r R:Nat},r<=R->Ic T A rd V s r->qR A V s R->eI T A V R r e:=by
 induction h with
 | @v s t st d e h=>
  intro r R g a i;cases h with
  |uO h=>exact FB h R r
  |var h=>obtain⟨v,b,j,f,rfl⟩:=h;exact⟨(a.xx v b f).1,(a.xx v b f).2.1⟩
 |c h=>intro r R a b f;exact FB h R r
 |ite k l m g i j=>intro r R a b f;exact⟨g a b f,i a b f,j a b f⟩
 |fO i j f=>intro r R g a b;exact f (asj R) ⟨⟨a.t.2.1,a.t.2.1,a.t.2.2⟩,b,a.vV⟩ b
 |arrow j k g i=>intro r R f a b;exact⟨g f a b,i (asj R) ⟨⟨a.t.2.1,a.t.2.1,a.t.2.2⟩,b,a.vV⟩ b⟩
 |last h=>intro r R f a g;obtain⟨v,b,i,j,rfl⟩:=h;exact⟨(a.vV v b).1,(a.vV v b).2.1⟩
 |neg i g=>intro r R a b f;exact g a b f
 |arith l m j k g i=>intro r R a b f;exact⟨g a b f,i a b f⟩
 |not i g=>intro r R a b f;exact g a b f
 |k8 l u m j k g i=>intro r R a b f;exact⟨g a b f,i a b f⟩
end
end Go.Ex
