/- A part of the proof of the last text of this claim, without conditions. -/
import Derived.Test.YtbafhpblecdbbaaGreatDoorH
set_option maxRecDepth 4000
set_option maxHeartbeats 4000000
set_option linter.all false
namespace Go.Proofs
open Go.Mt Go.Mk
open Tryz
variable{s:Sc}{c:Nat}{H:Hp}{d:D}{r ms:List M}
instance:aW prog 261:=dM (by kernel_rfl)
instance:aW prog 262:=dM (by kernel_rfl)
instance:aW prog 117:=dM (by kernel_rfl)
instance:aW prog 170:=dM (by kernel_rfl)
def vT.kq(h:vT s):vT s.kq:=⟨h.ready,aja _,h.aO⟩
def Tr.len(t:Tr):t.cells.length=12:=by simp[Tr.cells,E.len]
def EU(l:List Tr):∀r∈eL l,r.length=12:=by intro r a;obtain⟨_,_,rfl⟩:=aij.1 a;exact Tr.len _
def AX(l:List Tr):(eL l).length=l.length:=by simp[eL]
structure Bm(a:List Int)(w:Int)(g g':GS):Prop where
 i:g.i<=g'.i
 le:g'.i<=a.length
 n:g.n<=g'.n
 oO:g'.n<=3*g'.i
 q0:min g.q 0-w<=g'.q
 q1:g'.q<=g.q
def qB:Nat->Int
 |0=>6
 |d+1=>6*(1+3*qB d)
def Lq:∀d,d<=3->0<=qB d/\qB d<=40000
 |0,_=>by decide
 |1,_=>by decide
 |2,_=>by decide
 |3,_=>by decide
 |d+4,h=>by omega
def xB:∀d,d<=2->0<=qB d/\qB d<=4000
 |0,_=>by decide
 |1,_=>by decide
 |2,_=>by decide
 |d+3,h=>by omega
def ws(a:Int):Nat->Int
 |0=>0
 |i+1=>ws a i+a
def vU{a:Int}(h:0<=a):∀i,i<=3->0<=ws a i/\ws a i<=3*a
 |0,_=>by simp only[ws];omega
 |1,_=>by simp only[ws];omega
 |2,_=>by simp only[ws];omega
 |3,_=>by simp only[ws];omega
 |i+4,h=>by omega
def Iv(H:Hp):Prop:=∃a,H[1]?=some (.box a)/\a[0]?=some (.ref 0 0)
def FQ(v:D)(av:Nat)(a:Bool)(g:GS)(n:Nat)(rs:List (List D)):Iv (d_ (GH v av a g) n rs):=⟨_,(vo _ _ _ 1 (ah9 _)).trans W,rfl⟩
structure B5(c:Nat)(s:Sc):Prop where
 ready:s.ready.length<=c
 all:s.all.length<=1000
 aO:s.aO.length<=c
def B5.b(h:B5 c s)(a:c<=1000):vT s:=⟨by have:=h.ready;omega,by have:=h.all;omega,by have:=h.aO;omega⟩
def B5.kq(h:B5 c s):B5 c s.kq:=⟨h.ready,aja _,h.aO⟩
section
variable(zs:List Int)(v:D)(av:Nat)(main:Bool)
def pg(d:Nat):Prop:=∀(s:Sc),B5 (800-200*d) s->∀(c:List Va),c.length<=3->∀(g:GS),g.i<=zs.length->g.n<=3*g.i->g.q<=14-> -200000<=g.q->
 DT prog 117 [.ref 1 0,.d (.agg s.cells),.d (.sl (ax c)),.d (.int .i64 ((d:Nat):Int))] (GH v av main g) λr K=>∃(b:bF) (a:GS),r=.d (.agg b.cells)/\K=GH v av main a/\GB av d s c g.n a.n b/\Bm zs (qB d) g a
end
section
variable{zs:List Int}{v:D}(ht:Tape zs v)(av:Nat)(main:Bool)
include ht
def uH(s:Sc)(z:vT s)(N:Nat)(T:1<=N/\N<=3)(g:GS)(A:g.i<=zs.length):DT prog 262 [.ref 1 0,.d (.agg s.cells),.d (.int .i64 ((N:Nat):Int))] (GH v av main g) λr K=>∃(l:List Tr) (g':GS),r=.d (.sl (eL l))/\K=GH v av main g'/\Mv zs g g'/\B4 s N l:=by
 obtain⟨U,V,⟨m,f,rfl,rfl,k⟩,B⟩:=fh ht av main 3 (by omega) (by omega) g A;have X:=k.lt;refine DT.drop 2 (ah9 _)<|DT.ob func262 W ntmps262 W<|dO [2,2,2,18] W<|Mq (aA B W W)<|dL [2] W<|M5 [(9,.m (.d (.int .i64 ((0:Nat):Int)))),(8,.m (.d (.int .i64 ((m:Nat):Int)))),(7,.m (gB 2 (eL []))),(4,.m (.d (.bM s.cells 0))),(2,.m (.d (.int .i64 ((N:Nat):Int)))),(0,.m (.ref 1 0))] (d_ (GH v av main f) 12 (eL [])) W W<|dC [3] W<|OY (λk a=>∃(i:Nat) (l:List Tr) (g':GS),a=⟨[(9,.m (.d (.int .i64 (i:Int)))),(8,.m (.d (.int .i64 ((m:Nat):Int)))),(7,.m (gB 2 (eL l))),(4,.m (.d (.bM s.cells 0))),(2,.m (.d (.int .i64 ((N:Nat):Int)))),(0,.m (.ref 1 0))],[],d_ (GH v av main g') 12 (eL l)⟩/\i<=m/\l.length=i/\(∀t∈l,GE s.kq .bool false 2 t.e/\∃k,k<N/\t.to=nm 83 k)/\Mv zs g g'/\k=m-i) m _
  ⟨0,[],f,rfl,by omega,rfl,by simp,k.mv,rfl⟩ W ?_
 rintro S n ⟨i,l,a,rfl,Y,C,x,b,rfl⟩;refine dC [2] W<|DC.cond W (λo=>?_) (λo=>?_)
 .have Z:i<m:=by have:=aic o;omega
  obtain⟨r1,K1,⟨c,D,rfl,rfl,E,p⟩,q⟩:=fy ht av main 2 (by omega) s.kq z.kq .bool false a b.le;obtain⟨F,G,H,n,I,J,t⟩:=c.shape;rw[t]at q;obtain⟨r2,K2,⟨j,L,rfl,rfl,d⟩,M⟩:=fh ht av main N (by omega) (by omega) D p.le;obtain⟨r3,K3,⟨e,u,rfl,rfl,O⟩,P⟩:=fh ht av main 2 (by omega) (by omega) L d.le;have Q:=d.lt;have P6:=hU j;have w:eL (l++[⟨c,nm 83 j,((e:Nat):Int)==0⟩])=eL l++[bh F G H n I J++[.str (⟨#[83]⟩++dg j),.bool (((e:Nat):Int)==0),.int .i64 0,.int .i64 0]]:=by
   simp only[eL,aio,aiq,aiL,Tr.cells,t];rfl
  refine dC [3] W ?_;apply DC.D9 Iv (FQ _ _ _ _ _ _) fK
  .intro h y;refine iR 7 W ?_;apply Pe
   .skip
    refine bm jr W W<|TF.nil ⟨W,W⟩
   apply Pe
   .skip
    refine bB (eO W q 12 (eL l)) W W<|TF.nil ⟨W,W⟩
   refine iR 3 W<|mC.HZ W W (λH h=>h)<|iR 1 W ?_;apply Pe
   .skip
    refine bB (eO W M 12 (eL l)) W W<|TF.nil ⟨W,W⟩
   apply Pe
   .skip
    refine bm (lR (j+1) j (by omega) (by omega)) W W<|TF.nil ⟨rfl,rfl⟩
   apply Pe
   .skip
    refine oX W W W (by have:(⟨#[83]⟩:ByteArray).size=1:=rfl;omega)<|TF.nil ⟨rfl,rfl⟩
   refine iR 3 W<|mC.HZ W W (λH h=>h) ?_;apply Pe
   .skip
    refine bB (eO W P 12 (eL l)) W W<|TF.nil ⟨W,W⟩
   refine iR 3 W ?_;apply Pe
   .skip
    refine l9 (H0:=GH v av main u) W W W W (by rfl) W (by rw[AX];omega) (by rw[AX];omega)<|TF.nil ⟨rfl,rfl⟩
   refine iR 1 W<|mC.nil ⟨by kernel_rfl,by repeat' first|exact trivial|exact FQ _ _ _ _ _ _|refine⟨?_,?_⟩,rfl⟩
  refine dO [2,23] W<|Mq (bc W W W (by omega))<|dL [] W<|bf (k':=m-(i+1)) (by omega) ⟨i+1,l++[⟨c,nm 83 j,((e:Nat):Int)==0⟩],u,rfl,by omega,by simp[C],by
   intro y R;rcases ain.1 R with h|h
   .exact x y h
   .simp at h;subst h;exact⟨E,j,Q,W⟩,b.trans (p.trans (d.mv.trans O.mv)),W⟩ (by rw[w];rfl) (kc W (kc W (kc (by rw[w];rfl) W)))
 .refine DC.exit ?_;obtain⟨c,d,e⟩:=l_ v av main a 12 (eL l);refine dC [2] W<|DC.aR 6 W (jo (GH v av main a) 12 (eL l) (EU l))<|DC.ret ⟨_,W,c,.d _,d,l,a,W,e,b,by omega,x⟩
end
instance:aW prog 221:=dM (by kernel_rfl)
instance:aW prog 222:=dM (by kernel_rfl)
def fV(a:dw H r=some ms):dw H (.d d::r)=some (.d d::ms):=by simp only[dw,ep,a]
def ib{m:M}(h:ep H m=some d)(a:dw H r=some ms):dw H (m::r)=some (.d d::ms):=by simp only[dw,h,a]
def gK(l:List aH):(b_ l).length=l.length:=by rw[jF];simp
def rq(l:List aH):∀r∈b_ l,r.length=7:=by rw[jF];intro r a;obtain⟨_,_,rfl⟩:=aij.1 a;exact aH.len _
def kK(l:List aH)(a:aH):b_ (l++[a])=b_ l++[a.cells]:=by rw[jF,jF];simp
def p6(H:Hp):dw H []=some []:=rfl
abbrev Hq(k op n:Int)(s:Nm)(a b:List (List D))(m:M):List M:=[.d (.int .u8 3),.d (.sl []),.d (.str ⟨#[]⟩),.d (.sl []),.d (.bool false),.d (.int .u8 k),.d (.int .u8 op),.d (.int .i32 n),.d (.str s),.d (.sl a),.d (.sl b),.d (.int .i64 0),.d (.int .i64 0),m,.d (.int .i64 0),.d (.int .i64 0)]
abbrev Hr:List M:=[.d (.int .u8 0),.d (.sl []),.d (.str ⟨#[]⟩),.d (.sl []),.d (.bool false),.d (.int .u8 0),.d (.int .u8 0),.d (.int .i32 0),.d (.str ⟨#[]⟩),.d (.sl []),.d (.sl []),.d (.int .i64 0),.d (.int .i64 0),.d (.sl []),.d (.int .i64 0),.d (.int .i64 0)]
section
variable{zs:List Int}{v:D}(ht:Tape zs v)(av:Nat)(main:Bool)
include ht
theorem pW(d:Nat)(Z:d<=2)(m:pg zs v av main d)(s:Sc)(k:B5 (800-200*d) s)(a:List Va)(G:a.length<=3)(g:GS)(hg:g.i<=zs.length)(hn:g.n<=3*g.i)(SY:0<g.q)(SZ:g.q<=14):
  DT prog 221 [.ref 1 0,.d (.agg s.cells),.d (.sl (ax a)),.d (.int .i64 ((d+1:Nat):Int))] (GH v av main g) λr K=>∃(q:aD) (g':GS),r=.d (.agg q.cells)/\K=GH v av main g'/\GQ (GB av d) av s a g.n g'.n [q] []/\Bm zs (3*qB d) g g':=by
 obtain⟨r0,K0,⟨C,H,rfl,rfl,I⟩,J⟩:=fh ht av main 2 (by omega) (by omega) g hg;have hj:=I.lt;have n:=I.mv;have L:=k.b (by omega);have o:=xB d Z;have p:((d+1:Nat):Int)-1=(d:Int):=by omega
 have QD:C=0\/C=1:=by omega
 rcases QD with rfl|rfl
 .obtain⟨r1,K1,⟨M,N,rfl,rfl,Ol,Ni⟩,O⟩:=fy ht av main 2 (by omega) s L .jh true H n.le;obtain⟨q,t,u,w,x,y,P⟩:=M.shape;rw[P]at O;have h:=n.trans Ni;refine DT.drop 2 (ah9 _)<|DT.ob func221 W ntmps221 W<|dO [2,2,2,2,23] W<|Mq (aA J W W)<|dL [1,2] W ?_;apply Mz fK
  .intro f j;refine fR 2 W<|bm j5 W W<|bB O W W<|fR 2 W<|TF.nil ⟨by kernel_rfl,rfl⟩
  refine dC [2] W<|Nq [(11,.m (.d (.int .i64 ((0:Nat):Int)))),(10,.m (.d (.sl [[D.str eK],[.str cR],[.str bT]]))),(9,.loc 9 0),(8,.loc 8 0),(5,.m (.d (.bM s.cells 0))),(3,.m (.d (.int .i64 ((d+1:Nat):Int)))),(2,.m (.d (.sl (ax a)))),(0,.m (.ref 1 0))]
   [(9,Hq q t u w x y (gB 2 (b_ []))),(8,Hr)] (d_ (GH v av main N) 7 (b_ [])) W (by intro f;simp only[Go.Mt.get];cases Nat.beq 9 f<;>cases Nat.beq 8 f<;>rfl) W ?_
  refine dC [3] W<|OY (λk f=>∃(i:Nat) (e:List aH) (g':GS),f=⟨[(11,.m (.d (.int .i64 (i:Int)))),(10,.m (.d (.sl [[D.str eK],[.str cR],[.str bT]]))),(9,.loc 9 0),(8,.loc 8 0),(5,.m (.d (.bM s.cells 0))),(3,.m (.d (.int .i64 ((d+1:Nat):Int)))),(2,.m (.d (.sl (ax a)))),(0,.m (.ref 1 0))],[(9,Hq q t u w x y (gB 2 (b_ e))),(8,Hr)],d_ (GH v av main g') 7 (b_ e)⟩/\i<=3/\e.length=i/\rm (GB av d) s a [eK,cR,bT] g.n e g'.n/\(g.i<=g'.i/\g'.i<=zs.length/\g.n<=g'.n/\g'.n<=3*g'.i/\ -(ws (qB d) i)<=g'.q/\g'.q<=g.q)/\k=3-i) 3 _
   ⟨0,[],N,rfl,by omega,rfl,by have f:=h.n;rw[f];exact .nil,⟨h.i,h.le,by rw[h.n];exact ah9 _,by have:=h.n;have:=h.i;omega,by have:=h.q;simp only[ws];omega,by rw[h.q];exact Int.le_refl _⟩,W⟩ W ?_
  rintro ac s2 ⟨i,e,l,rfl,hi,z,A,⟨WQ,B,b3,Q,b5,b6⟩,rfl⟩;refine dC [2] W<|DC.cond W (λhc=>?_) (λhc=>?_)
  .have MC:i<3:=by grind
   have N6:∃c:Nm,([eK,cR,bT]:List Nm)[i]?=some c/\([[D.str eK],[.str cR],[.str bT]]:List (List D))[((i:Nat):Int).toNat]?=some [.str c]:=by
    grind
   obtain⟨c,QP,R⟩:=N6;have Up:=vU o.1 i (by omega);have S:decide ((i:Int)>0)=decide (0<i):=by grind
   refine dC [3] W ?_;rcases aiO i with h0|h0
   .obtain⟨r3,K3,⟨b,E,rfl,rfl,V,f⟩,X⟩:=m s.kq k.kq a G l B Q (by omega) (by omega);obtain⟨Y,bq,F⟩:=b.shape;have T:=eO (by rfl) X 7 (b_ e);rw[F]at T;have U:b_ (e++[.mk c b [] []])=b_ e++[[.str c,.sl Y,.sl bq,.sl [],.sl [],.int .i64 0,.int .i64 0]]:=by rw[kK,aH.cells,F];rfl
    refine dO [2,2,44] W<|Mq (ay W W W (r:=.bool false) (by show some (D.bool (decide _))=_;rw[S,ai1 (by omega)]))<|dL [0] W ?_;apply Mz fK
    .intro s0 Oo;refine fR 4 W<|bE W W W (ah7 i) R W<|fR 9 W<|fO W W W (by omega) ?_;rw[p];refine bB T W W<|fR 2 W<|l9 (H0:=GH v av main E) W W W W (by rfl) W (by rw[gK];omega) (by rw[gK];omega)<|fR 1 W<|cv W W W (lF _ _) W W<|TF.nil ⟨by kernel_rfl,rfl⟩
    refine dO [2,41] W<|Mq (bc W W W (by omega))<|dL [] W<|xz (k':=3-(i+1)) (by omega) ⟨i+1,e++[.mk c b [] []],E,rfl,by omega,by simp[z],.snoc A c (by grind) a (LS.refl _) (λ_=>rfl) b V,⟨by have:=f.i;omega,f.le,by have:=f.n;omega,f.oO,by have:=f.q0;simp only[ws];omega,by have:=f.q1;omega⟩,rfl⟩ (by intro j;simp only[Go.Mt.get];rw[U];cases Nat.beq 9 j<;>cases Nat.beq 8 j<;>rfl) (by rw[U];rfl) W
   .obtain⟨r4,K4,⟨F,g4,rfl,rfl,f,Y⟩,Qb⟩:=zf ht av main a (by omega) l B;have N7:=Y.len;have MR:=eO (by rfl) Qb 7 (b_ e);obtain⟨r3,K3,⟨b,T,rfl,rfl,PF,j⟩,Nz⟩:=m s.kq k.kq F (by omega) g4 f.le (by have:=f.n;have:=f.i;omega) (by have:=f.q;omega) (by have:=f.q;omega);obtain⟨bv,bq,U⟩:=b.shape;have V:=eO (by rfl) Nz 7 (b_ e);rw[U]at V;have X:b_ (e++[.mk c b [] []])=b_ e++[[.str c,.sl bv,.sl bq,.sl [],.sl [],.int .i64 0,.int .i64 0]]:=by rw[kK,aH.cells,U];rfl
    refine dO [2,2,44] W<|Mq (ay W W W (r:=.bool true) (by show some (D.bool (decide _))=_;rw[S,aiS (by omega)]))<|dR [1,2,47] W<|Mq (aA MR W W)<|dL [] W ?_;apply Mz fK
    .intro s0 Oo;refine fR 4 W<|bE W W W (ah7 i) R W<|fR 9 W<|fO W W W (by omega) ?_;rw[p];refine bB V W W<|fR 2 W<|l9 (H0:=GH v av main T) W W W W (by rfl) W (by rw[gK];omega) (by rw[gK];omega)<|fR 1 W<|cv W W W (lF _ _) W W<|TF.nil ⟨by kernel_rfl,rfl⟩
    refine dO [2,41] W<|Mq (bc W W W (by omega))<|dL [] W<|xz (k':=3-(i+1)) (by omega) ⟨i+1,e++[.mk c b [] []],T,rfl,by omega,by simp[z],.snoc A c (by grind) F Y (λh=>by grind) b (by rw[<-f.n];exact PF),⟨by have:=j.i;have:=f.i;omega,j.le,by have:=j.n;have:=f.n;omega,j.oO,by have:=j.q0;have:=f.q;simp only[ws];omega,by have:=j.q1;have:=f.q;omega⟩,rfl⟩ (by intro E;simp only[Go.Mt.get];rw[X];cases Nat.beq 9 E<;>cases Nat.beq 8 E<;>rfl) (by rw[X];rfl) W
  .refine DC.exit ?_;have f:i=3:=by grind
   subst f;obtain⟨j,E,F⟩:=l_ v av main l 7 (b_ e);refine DC.cA (MP:=Hq q t u w x y (.d (.sl (b_ e)))) 9 W (by repeat' first|exact p6 _|refine fV ?_|refine ib (jo (GH v av main l) 7 (b_ e) (rq e)) ?_) ?_;refine dC [2] W ?_;have R:=vU o.1 3 (by omega);exact DC.ret ⟨_,W,j,.d _,E,.sw M e,l,by rw[aD.cells,P];rfl,F,.I2 Ol A z,⟨WQ,B,b3,Q,by omega,b6⟩⟩
 .obtain⟨r1,K1,⟨M,N,rfl,rfl,Ol,Ni⟩,O⟩:=fy ht av main 2 (by omega) s L .bool true H n.le;obtain⟨q,t,u,w,x,y,P⟩:=M.shape;rw[P]at O;have h:=n.trans Ni;refine DT.drop 2 (ah9 _)<|DT.ob func221 W ntmps221 W<|dO [2,2,2,2,23] W<|Mq (aA J W W)<|dL [0] W ?_;apply Mz fK
  .intro f j;refine fR 2 W<|bm jr W W<|bB O W W<|fR 2 W<|TF.nil ⟨by kernel_rfl,rfl⟩
  refine dC [2] W<|Nq [(11,.m (.d (.int .i64 ((0:Nat):Int)))),(10,.m (.d (.sl [[D.str qL],[.str ov]]))),(9,.loc 9 0),(8,.loc 8 0),(5,.m (.d (.bM s.cells 0))),(3,.m (.d (.int .i64 ((d+1:Nat):Int)))),(2,.m (.d (.sl (ax a)))),(0,.m (.ref 1 0))]
   [(9,Hq q t u w x y (gB 2 (b_ []))),(8,Hr)] (d_ (GH v av main N) 7 (b_ [])) W (by intro f;simp only[Go.Mt.get];cases Nat.beq 9 f<;>cases Nat.beq 8 f<;>rfl) W ?_
  refine dC [3] W<|OY (λk f=>∃(i:Nat) (e:List aH) (g':GS),f=⟨[(11,.m (.d (.int .i64 (i:Int)))),(10,.m (.d (.sl [[D.str qL],[.str ov]]))),(9,.loc 9 0),(8,.loc 8 0),(5,.m (.d (.bM s.cells 0))),(3,.m (.d (.int .i64 ((d+1:Nat):Int)))),(2,.m (.d (.sl (ax a)))),(0,.m (.ref 1 0))],[(9,Hq q t u w x y (gB 2 (b_ e))),(8,Hr)],d_ (GH v av main g') 7 (b_ e)⟩/\i<=2/\e.length=i/\rm (GB av d) s a [qL,ov] g.n e g'.n/\(g.i<=g'.i/\g'.i<=zs.length/\g.n<=g'.n/\g'.n<=3*g'.i/\ -(ws (qB d) i)<=g'.q/\g'.q<=g.q)/\k=2-i) 2 _
   ⟨0,[],N,rfl,by omega,rfl,by have f:=h.n;rw[f];exact .nil,⟨h.i,h.le,by rw[h.n];exact ah9 _,by have:=h.n;have:=h.i;omega,by have:=h.q;simp only[ws];omega,by rw[h.q];exact Int.le_refl _⟩,W⟩ W ?_
  rintro ac s2 ⟨i,e,l,rfl,hi,z,A,⟨WQ,B,b3,Q,b5,b6⟩,rfl⟩;refine dC [2] W<|DC.cond W (λhc=>?_) (λhc=>?_)
  .have MC:i<2:=by grind
   have N6:∃c:Nm,([qL,ov]:List Nm)[i]?=some c/\([[D.str qL],[.str ov]]:List (List D))[((i:Nat):Int).toNat]?=some [.str c]:=by
    grind
   obtain⟨c,QP,R⟩:=N6;have Up:=vU o.1 i (by omega);have S:decide ((i:Int)>0)=decide (0<i):=by grind
   refine dC [3] W ?_;rcases aiO i with h0|h0
   .obtain⟨r3,K3,⟨b,E,rfl,rfl,V,f⟩,X⟩:=m s.kq k.kq a G l B Q (by omega) (by omega);obtain⟨Y,bq,F⟩:=b.shape;have T:=eO (by rfl) X 7 (b_ e);rw[F]at T;have U:b_ (e++[.mk c b [] []])=b_ e++[[.str c,.sl Y,.sl bq,.sl [],.sl [],.int .i64 0,.int .i64 0]]:=by rw[kK,aH.cells,F];rfl
    refine dO [2,2,44] W<|Mq (ay W W W (r:=.bool false) (by show some (D.bool (decide _))=_;rw[S,ai1 (by omega)]))<|dL [0] W ?_;apply Mz fK
    .intro s0 Oo;refine fR 4 W<|bE W W W (ah7 i) R W<|fR 9 W<|fO W W W (by omega) ?_;rw[p];refine bB T W W<|fR 2 W<|l9 (H0:=GH v av main E) W W W W (by rfl) W (by rw[gK];omega) (by rw[gK];omega)<|fR 1 W<|cv W W W (lF _ _) W W<|TF.nil ⟨by kernel_rfl,rfl⟩
    refine dO [2,41] W<|Mq (bc W W W (by omega))<|dL [] W<|xz (k':=2-(i+1)) (by omega) ⟨i+1,e++[.mk c b [] []],E,rfl,by omega,by simp[z],.snoc A c (by grind) a (LS.refl _) (λ_=>rfl) b V,⟨by have:=f.i;omega,f.le,by have:=f.n;omega,f.oO,by have:=f.q0;simp only[ws];omega,by have:=f.q1;omega⟩,rfl⟩ (by intro j;simp only[Go.Mt.get];rw[U];cases Nat.beq 9 j<;>cases Nat.beq 8 j<;>rfl) (by rw[U];rfl) W
   .obtain⟨r4,K4,⟨F,g4,rfl,rfl,f,Y⟩,Qb⟩:=zf ht av main a (by omega) l B;have N7:=Y.len;have MR:=eO (by rfl) Qb 7 (b_ e);obtain⟨r3,K3,⟨b,T,rfl,rfl,PF,j⟩,Nz⟩:=m s.kq k.kq F (by omega) g4 f.le (by have:=f.n;have:=f.i;omega) (by have:=f.q;omega) (by have:=f.q;omega);obtain⟨bv,bq,U⟩:=b.shape;have V:=eO (by rfl) Nz 7 (b_ e);rw[U]at V;have X:b_ (e++[.mk c b [] []])=b_ e++[[.str c,.sl bv,.sl bq,.sl [],.sl [],.int .i64 0,.int .i64 0]]:=by rw[kK,aH.cells,U];rfl
    refine dO [2,2,44] W<|Mq (ay W W W (r:=.bool true) (by show some (D.bool (decide _))=_;rw[S,aiS (by omega)]))<|dR [1,2,47] W<|Mq (aA MR W W)<|dL [] W ?_;apply Mz fK
    .intro s0 Oo;refine fR 4 W<|bE W W W (ah7 i) R W<|fR 9 W<|fO W W W (by omega) ?_;rw[p];refine bB V W W<|fR 2 W<|l9 (H0:=GH v av main T) W W W W (by rfl) W (by rw[gK];omega) (by rw[gK];omega)<|fR 1 W<|cv W W W (lF _ _) W W<|TF.nil ⟨by kernel_rfl,rfl⟩
    refine dO [2,41] W<|Mq (bc W W W (by omega))<|dL [] W<|xz (k':=2-(i+1)) (by omega) ⟨i+1,e++[.mk c b [] []],T,rfl,by omega,by simp[z],.snoc A c (by grind) F Y (λh=>by grind) b (by rw[<-f.n];exact PF),⟨by have:=j.i;have:=f.i;omega,j.le,by have:=j.n;have:=f.n;omega,j.oO,by have:=j.q0;have:=f.q;simp only[ws];omega,by have:=j.q1;have:=f.q;omega⟩,rfl⟩ (by intro E;simp only[Go.Mt.get];rw[X];cases Nat.beq 9 E<;>cases Nat.beq 8 E<;>rfl) (by rw[X];rfl) W
  .refine DC.exit ?_;have f:i=2:=by grind
   subst f;obtain⟨j,E,F⟩:=l_ v av main l 7 (b_ e);refine DC.cA (MP:=Hq q t u w x y (.d (.sl (b_ e)))) 9 W (by repeat' first|exact p6 _|refine fV ?_|refine ib (jo (GH v av main l) 7 (b_ e) (rq e)) ?_) ?_;refine dC [2] W ?_;have R:=vU o.1 2 (by omega);exact DC.ret ⟨_,W,j,.d _,E,.sw M e,l,by rw[aD.cells,P];rfl,F,.FP Ol A z,⟨WQ,B,b3,Q,by omega,b6⟩⟩
end
end Go.Proofs
namespace Go.Proofs
open Go.Mt Go.Mk
open Tryz
abbrev Lr(m:M):List M:=[.d (.int .u8 4),.d (.sl []),.d (.str ⟨#[]⟩),.d (.sl []),.d (.bool false),.d (.int .u8 0),.d (.int .u8 0),.d (.int .i32 0),.d (.str ⟨#[]⟩),.d (.sl []),.d (.sl []),.d (.int .i64 0),.d (.int .i64 0),m,.d (.int .i64 0),.d (.int .i64 0)]
section
variable{zs:List Int}{v:D}(ht:Tape zs v)(av:Nat)(main:Bool)
include ht
theorem Dd(d:Nat)(S:d<=2)(A:pg zs v av main d)(s:Sc)(e:B5 (800-200*d) s)(c:List Va)(ho:c.length<=3)(g:GS)(T:g.i<=zs.length)(hn:g.n<=3*g.i)(SY:0<g.q)(SZ:g.q<=14):
  DT prog 222 [.ref 1 0,.d (.agg s.cells),.d (.sl (ax c)),.d (.int .i64 ((d+1:Nat):Int))] (GH v av main g) λr K=>∃(q:aD) (g':GS),r=.d (.agg q.cells)/\K=GH v av main g'/\GQ (GB av d) av s c g.n g'.n [q] []/\Bm zs (3*qB d) g g':=by
 obtain⟨r0,K0,⟨w,B,rfl,rfl,C⟩,U⟩:=fh ht av main 3 (by omega) (by omega) g T;have hj:=C.lt;have j:=C.mv;have E:=e.b (by omega);have F:=xB d S;have G:((d+1:Nat):Int)-1=(d:Int):=by omega
 have ac:1+((w:Nat):Int)=((w+1:Nat):Int):=by omega
 refine DT.drop 2 (ah9 _)<|DT.ob func222 W ntmps222 W<|dO [2,2,2,23] W<|Mq (aA U W W)<|dR [24] W<|Mq (bc W W W (by omega)) ?_;rw[ac];refine dL [] W ?_;generalize ce:w+1=N;have n:1<=N/\N<=3:=by omega
 refine dC [2] W<|Nq [(11,.m (.d (.int .i64 ((0:Nat):Int)))),(10,.m (.d (.int .i64 ((N:Nat):Int)))),(9,.loc 9 0),(8,.loc 8 0),(5,.m (.d (.bM s.cells 0))),(3,.m (.d (.int .i64 ((d+1:Nat):Int)))),(2,.m (.d (.sl (ax c)))),(0,.m (.ref 1 0))]
  [(9,Lr (gB 2 (b_ []))),(8,Hr)] (d_ (GH v av main B) 7 (b_ [])) W (by intro t;simp only[Go.Mt.get];cases Nat.beq 9 t<;>cases Nat.beq 8 t<;>rfl) W ?_
 refine dC [3] W<|OY (λk f=>∃(i:Nat) (a:List aH) (g':GS) (e:List (Nat×List M)),f=⟨[(11,.m (.d (.int .i64 (i:Int)))),(10,.m (.d (.int .i64 ((N:Nat):Int)))),(9,.loc 9 0),(8,.loc 8 0),(5,.m (.d (.bM s.cells 0))),(3,.m (.d (.int .i64 ((d+1:Nat):Int)))),(2,.m (.d (.sl (ax c)))),(0,.m (.ref 1 0))],e,d_ (GH v av main g') 7 (b_ a)⟩/\Go.Mt.get e 9=some (Lr (gB 2 (b_ a)))/\Go.Mt.get e 8=some Hr/\i<=N/\a.length=i/\AW (GB av d) s c N g.n a g'.n/\(g.i<=g'.i/\g'.i<=zs.length/\g.n<=g'.n/\g'.n<=3*g'.i/\ -(ws (qB d) i)<=g'.q/\g'.q<=g.q)/\k=N-i) N _
  ⟨0,[],B,_,rfl,rfl,rfl,by omega,rfl,by have h:=j.n;rw[h];exact .nil,⟨j.i,j.le,by rw[j.n];exact ah9 _,by have:=j.n;have:=j.i;omega,by have:=j.q;simp only[ws];omega,by rw[j.q];exact Int.le_refl _⟩,W⟩ W ?_
 rintro am s2 ⟨i,a,l,bx,rfl,o,x,hi,p,y,⟨V,z,X,Y,b5,Z⟩,rfl⟩;refine dC [2] W<|DC.cond W (λH=>?_) (λH=>?_)
 .have MC:i<N:=by grind
  have Up:=vU F.1 i (by omega);have I:decide ((i:Int)>0)=decide (0<i):=by grind
  have J:=lR (i+1) i (by omega) (by omega);have P6:=hU i;refine dC [3] W ?_;rcases aiO i with h0|h0
  .skip
   have u:LS c c:=LS.refl _;have f:Mv zs l l:=⟨rfl,rfl,ah9 _,z⟩;have N7:=u.len;obtain⟨r5,K5,⟨q,R,rfl,rfl,h,WS⟩,OK⟩:=uH ht av main s E N n l f.le;have ZI:=eO (by rfl) OK 7 (b_ a);obtain⟨r3,K3,⟨b,g3,rfl,rfl,PF,m⟩,Nz⟩:=A s.kq e.kq c (by omega) R h.le (by have:=f.n;have:=f.i;have:=h.n;have:=h.i;omega) (by have:=f.q;have:=h.q;omega) (by have:=f.q;have:=h.q;omega);obtain⟨bv,bq,L⟩:=b.shape;have O:=eO (by rfl) Nz 7 (b_ a);rw[L]at O;have QF:=rl s c (by have:=e.ready;omega) (by omega);obtain⟨r6,K6,⟨t,P,rfl,rfl,k,S5⟩,S7⟩:=uH ht av main (s.more c) ⟨by have:=e.ready;simp only[Sc.more,ah6];omega,by have:=e.all;simp only[Sc.more];omega,by have:=e.aO;simp only[Sc.more];omega⟩ N n g3 m.le;have Qt:=eO (by rfl) S7 7 (b_ a);have Q:b_ (a++[.mk (nm 83 a.length) b q t])=b_ a++[[.str (⟨#[83]⟩++dg i),.sl bv,.sl bq,.sl (eL q),.sl (eL t),.int .i64 0,.int .i64 0]]:=by rw[kK,aH.cells,L,p];rfl
   refine dO [2,2,32] W<|Mq (ay W W W (r:=.bool false) (by show some (D.bool (decide _))=_;rw[I,ai1 (by omega)]))<|dR [0,2,37] W<|Mq (aX J W W)<|dR [38] W<|Mq (ky W W W (by have:(⟨#[83]⟩:ByteArray).size=1:=rfl;omega))<|dR [2,43] W<|Mq (aA ZI W W)<|dR [2,53] W<|Mq (cj W W W (by omega)) ?_;rw[G];refine dR [54] W<|Mq (aA O W W)<|dR [2,59] W<|Mq (aX QF W W)<|dR [61] W<|Mq (aA Qt W W)<|dR [2,64] W<|Mq (aJ W W o W)<|dR [67] W<|Mq (xq (H0:=GH v av main P) W W W W (by rfl) W (by rw[gK];omega) (by rw[gK];omega))<|dR [999] W<|Mq (aK W W o (lF _ _) W W)<|dR [2,29] W<|Mq (bc W W W (by omega))<|dL [] W<|bf (k':=N-(i+1)) (by omega) ⟨i+1,a++[.mk (nm 83 a.length) b q t],P,_,rfl,by rw[Q];rfl,x,by omega,by simp[p],by
    have h6:=k.n;rw[h6];refine .snoc y c u (λ_=>rfl) q WS b ?_ t S5;have e1:=f.n;have e2:=h.n;rw[<-e1,<-e2];exact PF,⟨by have:=m.i;have:=f.i;have:=h.i;have:=k.i;omega,k.le,by have:=m.n;have:=f.n;have:=h.n;have:=k.n;omega,by have:=m.oO;have:=k.n;have:=k.i;omega,by have:=m.q0;have:=f.q;have:=h.q;have:=k.q;simp only[ws];omega,by have:=m.q1;have:=f.q;have:=h.q;have:=k.q;omega⟩,rfl⟩ (by rw[Q];rfl) W
  .skip
   obtain⟨r4,K4,⟨q,g4,rfl,rfl,f,L⟩,Qb⟩:=zf ht av main c (by omega) l z;have N7:=L.len;obtain⟨r5,K5,⟨t,g5,rfl,rfl,h,WS⟩,OK⟩:=uH ht av main s E N n g4 f.le;have ZI:=eO (by rfl) OK 7 (b_ a);obtain⟨r3,K3,⟨b,g3,rfl,rfl,PF,m⟩,Nz⟩:=A s.kq e.kq q (by omega) g5 h.le (by have:=f.n;have:=f.i;have:=h.n;have:=h.i;omega) (by have:=f.q;have:=h.q;omega) (by have:=f.q;have:=h.q;omega);obtain⟨bv,bq,O⟩:=b.shape;have P:=eO (by rfl) Nz 7 (b_ a);rw[O]at P;have QF:=rl s q (by have:=e.ready;omega) (by omega);obtain⟨r6,K6,⟨u,Q,rfl,rfl,k,S5⟩,S7⟩:=uH ht av main (s.more q) ⟨by have:=e.ready;simp only[Sc.more,ah6];omega,by have:=e.all;simp only[Sc.more];omega,by have:=e.aO;simp only[Sc.more];omega⟩ N n g3 m.le;have Qt:=eO (by rfl) S7 7 (b_ a);have R:b_ (a++[.mk (nm 83 a.length) b t u])=b_ a++[[.str (⟨#[83]⟩++dg i),.sl bv,.sl bq,.sl (eL t),.sl (eL u),.int .i64 0,.int .i64 0]]:=by rw[kK,aH.cells,O,p];rfl
   refine dO [2,2,32] W<|Mq (ay W W W (r:=.bool true) (by show some (D.bool (decide _))=_;rw[I,aiS (by omega)]))<|dR [1,2,35] W<|Mq (aA (eO (by rfl) Qb 7 (b_ a)) W W)<|dR [2,37] W<|Mq (aX J W W)<|dR [38] W<|Mq (ky W W W (by have:(⟨#[83]⟩:ByteArray).size=1:=rfl;omega))<|dR [2,43] W<|Mq (aA ZI W W)<|dR [2,53] W<|Mq (cj W W W (by omega)) ?_;rw[G];refine dR [54] W<|Mq (aA P W W)<|dR [2,59] W<|Mq (aX QF W W)<|dR [61] W<|Mq (aA Qt W W)<|dR [2,64] W<|Mq (aJ W W o W)<|dR [67] W<|Mq (xq (H0:=GH v av main Q) W W W W (by rfl) W (by rw[gK];omega) (by rw[gK];omega))<|dR [999] W<|Mq (aK W W o (lF _ _) W W)<|dR [2,29] W<|Mq (bc W W W (by omega))<|dL [] W<|bf (k':=N-(i+1)) (by omega) ⟨i+1,a++[.mk (nm 83 a.length) b t u],Q,_,rfl,by rw[R];rfl,x,by omega,by simp[p],by
    have h6:=k.n;rw[h6];refine .snoc y q L (λh=>by grind) t WS b ?_ u S5;have e1:=f.n;have e2:=h.n;rw[<-e1,<-e2];exact PF,⟨by have:=m.i;have:=f.i;have:=h.i;have:=k.i;omega,k.le,by have:=m.n;have:=f.n;have:=h.n;have:=k.n;omega,by have:=m.oO;have:=k.n;have:=k.i;omega,by have:=m.q0;have:=f.q;have:=h.q;have:=k.q;simp only[ws];omega,by have:=m.q1;have:=f.q;have:=h.q;have:=k.q;omega⟩,rfl⟩ (by rw[R];rfl) W
 .refine DC.exit ?_;have f:i=N:=by have:=aie H;omega
  subst f;obtain⟨k,h,m⟩:=l_ v av main l 7 (b_ a);refine DC.cA (MP:=Lr (.d (.sl (b_ a)))) 9 o (by repeat' first|exact p6 _|refine fV ?_|refine ib (jo (GH v av main l) 7 (b_ a) (rq a)) ?_) ?_;refine dO [2,999] W<|Mq (aK W W x W W W)<|dL [] W ?_;have q:=vU F.1 i (by omega);exact DC.ret ⟨_,W,k,.d _,h,.wW a,l,by rw[aD.cells];rfl,m,.wW i n y p,⟨V,z,X,Y,by omega,Z⟩⟩
end
end Go.Proofs
namespace Go.Mt
variable{MF n:Nat}{cs:List M}
section
variable{P:Program}{n B:Nat}{post:Exit->St->Prop}{sl:List (Nat×V)}{bx:List (Nat×List M)}{H:Hp}
def DC.ki{c:Code}(j:Nat){ec:Nat}(a:H[j]?=some (.row false ec MF cs))(k:DC P n B c ⟨sl,bx,H.set j (.row true ec MF cs)⟩ post):DC P n B c ⟨sl,bx,H⟩ post:=
 NC _ (λ_ _ _ b w b=>b.ki a) k
end
def j7{H:Hp}{i k:Nat}{rs:List (List D)}(a:H[i]?=some (.row true n MF (aM rs)))(b:k=rs.length)(c:rs≠[])(d:∀r∈rs,r.length=n):ep H (.bZ i MF k)=some (.sl rs):=
 Acc.view (n:=n) (i:=i) (.inr ⟨c,MF,by rw[b],a⟩) d
section
variable{X:cQ}{ops:Array Oper}{rest:List Oper}{sl:List (Nat×V)}{bx:List (Nat×List M)}{H:Hp}{MU:List Ef->St->Prop}{d ty:Nat}{pos:String}{af:Array Edge}
def wX{T e len:Nat}{parts:List (Nat×Operand)}{z:D}{ms:List (Nat×M)}[ht:aU X.P T e][b:bQ X.P e n][g:fk X.P e z](a:Nat.blt d X.n=true)(c:Nat.blt 0 n=true)(f:(bz z).length=n)
  (i:Nat.ble (len*n) 16777216=true) (g:eG sl parts=some ms) (h:gQ (λi=>some (i*n,n)) (fQ n len (bz z)) ms=some cs)
  (k:TF X ops rest ⟨(d,.m (.bZ H.length 0 len))::sl,bx,H++[Ob.row false n 0 cs]⟩ λa b=>MU (⟨some d,.m (.bZ H.length 0 len),[],[],none,true,some (H++[Ob.row false n 0 cs])⟩::a) b):TF X ops (⟨some d,.buildSlice T len parts.toArray,ty,pos,af,none⟩::rest) ⟨sl,bx,H⟩ MU:=by
 refine TF.cons (e:=⟨some d,.m (.bZ H.length 0 len),[],[],none,true,some (H++[Ob.row false n 0 cs])⟩) (js.ye W W (bj a) λa b=>?_) W k;have a:=b.H W;simp only at a;exact qa c f i (by rw[b.dI (λp a=>by simp[Op.operands];exact⟨_,a⟩),eH];exact g) h (.inl ⟨by rw[a],by rw[a]⟩)
end
end Go.Mt
namespace Go.Proofs
open Go.Mt Go.Mk
open Tryz
instance:aW prog 166:=dM (by kernel_rfl)
instance:aW prog 169:=dM (by kernel_rfl)
instance:aW prog 224:=dM (by kernel_rfl)
instance:aW prog 225:=dM (by kernel_rfl)
def ei(l:List aD):(bI l).length=l.length:=by rw[kC];simp
def e8(l:List aD):∀r∈bI l,r.length=16:=by rw[kC];intro r a;obtain⟨_,_,rfl⟩:=aij.1 a;exact aD.len _
def iB(a b:List aD):bI (a++b)=bI a++bI b:=by rw[kC,kC,kC];simp
def rK{l:List D}(h:l.length=16):∃a b c d e f g i j k m n o p q r,l=[a,b,c,d,e,f,g,i,j,k,m,n,o,p,q,r]:=by
 match l,h with
 |[a,b,c,d,e,f,g,i,j,k,m,n,o,p,q,r],_=>exact⟨_,_,_,_,_,_,_,_,_,_,_,_,_,_,_,_,W⟩
def De(av:Nat):Nat->Sc->List Va->Nat->Nat->bF->Prop
 |0=> λ_ _ _ _ _=>False
 |d+1=>GB av d
def qP:Nat->Int
 |0=>0
 |d+1=>qB d
def iU{P:Program}{f:Nat}{ms:List M}{v:D}{av:Nat}{a:Bool}{g g':GS}{r:M}(h:(ms.all (Bv 2))=true)(i:CT P f ms (GH v av a g) λc d=>c=r/\d=GH v av a g')(F:Hp):
  CT P f ms (GH v av a g++F) λc d=>c=r/\d=GH v av a g'++F:=by
 refine(CT.suffix F (H:=GH v av a g) (nU v av a g) (λm a=>jd (ajm.1 h m a)) (i.mono λc d ⟨e,b⟩=>(⟨by rw[b];rfl,e,b⟩:d.length=(GH v av a g).length/\(c=r/\d=GH v av a g')))).mono ?_;rintro c k ⟨j,rfl,_,rfl,rfl⟩;exact⟨W,W⟩
section
variable(zs:List Int)(v:D)(av:Nat)(main:Bool)
def vV(a c:Nat):Prop:=∀(s:Sc),s.ready.length+2*c<=900-200*a->s.all.length<=1000->s.aO.length<=900-200*a->∀(e:List Va),e.length<=3->∀(g:GS),g.i<=zs.length->g.n<=3*g.i->g.q<=c-> -300000<=g.q->g.q<=14->
 DT prog 169 [.ref 1 0,.d (.agg s.cells),.d (.sl (ax e)),.d (.int .i64 ((a:Nat):Int))] (GH v av main g) λr K=>∃(q:List aD) (b:List Va) (d:GS),r=.c_ [.d (.sl (bI q)),.d (.sl (ax b))]/\K=GH v av main d/\GQ (De av a) av s e g.n d.n q b/\q.length<=3*c+3/\b.length<=3*c/\Bm zs (1+3*qP a) g d
end
section
variable{zs:List Int}{v:D}(ht:Tape zs v)(av:Nat)(main:Bool)
include ht
theorem Df(f c:Nat)(hD:f<=3)(Yv:c<=14)(X:vV zs v av main f c)(s:Sc)(h:s.ready.length+2*c+2<=900-200*f)(Y:s.all.length<=1000)(Z:s.aO.length<=900-200*f)(B:List Va)(ho:B.length<=3)(QU:0<av)(Rq:av<=10)
  (g:GS) (C:g.i<=zs.length) (hn:g.n+3<=3*g.i) (SY:0<g.q) (SZ:g.q<=c):
  DT prog 224 [.ref 1 0,.d (.agg s.cells),.d (.sl (ax B)),.d (.int .i64 ((f:Nat):Int))] (GH v av main g) λr K=>∃(q:List aD) (a:List Va) (g':GS),r=.c_ [.d (.sl (bI q)),.d (.sl (ax a))]/\K=GH v av main g'/\GQ (De av f) av s B g.n g'.n q a/\q.length<=3*(c+1)+3/\a.length<=3*(c+1)/\Bm zs (1+3*qP f) g g':=by
 have hL:=ht.hl;obtain⟨F,a,G⟩:=g;simp only at C hn SY SZ;have H:vT s:=⟨by omega,by omega,by omega⟩;obtain⟨r1,K1,⟨rfl,rfl⟩,MT⟩:=pf ht av main 117 ⟨F,a,G⟩ C (by grind);obtain⟨r2,K2,⟨rfl,rfl⟩,M0⟩:=pf ht av main 117 ⟨F,a+1,G⟩ C (by grind);obtain⟨r3,K3,⟨j,g3,rfl,rfl,Oz⟩,Nz⟩:=fh ht av main av QU (by omega) ⟨F,a+2,G⟩ C;have Q4:=Oz.mv;have hj:=Oz.lt;have Sz:=lR (j+1) j (by omega) (by omega);have P6:=hU j;obtain⟨r4,K4,⟨d,g4,rfl,rfl,QB,NZ⟩,I⟩:=fy ht av main 2 (by omega) s H .int true g3 Q4.le;obtain⟨i,k,l,m,n,o,J⟩:=d.shape;rw[J]at I;obtain⟨r5,K5,⟨b,g5,rfl,rfl,PF,PH⟩,L⟩:=fy ht av main 2 (by omega) s H .bool true g4 NZ.le;obtain⟨p,q,t,u,w,x,M⟩:=b.shape;rw[M]at L;obtain⟨r6,K6,⟨j6,z,rfl,rfl,Zh⟩,S7⟩:=fh ht av main 3 (by omega) (by omega) g5 PH.le;have N:=Zh.mv;have O:=Q4.trans (NZ.trans (PH.trans N));have am:=O.n;have ce:=O.q;have co:=O.i;simp only at am ce co;have QF:=rl s [eD 117 (a+1) .int,eD 117 (a+2) .jh] (by omega) (by simp);rcases aiO j6 with ac|ac
 .skip
  subst ac;obtain⟨r7,K7,⟨e,g7,rfl,rfl,Ol,E⟩,Vl⟩:=fy ht av main 2 (by omega) s H .bool true z N.le;obtain⟨P,Q,R,S,T,U,h7⟩:=e.shape;rw[h7]at Vl;have d5:=E.n;have d6:=E.q;have d7:=E.i;obtain⟨r8,K8,⟨A,D,V,rfl,rfl,PO,Po,PS,y⟩,Vm⟩:=X (s.more [eD 117 (a+1) .int,eD 117 (a+2) .jh]) (by simp only[Sc.more,ah6,aia,List.length_nil];omega) Y Z B ho g7 E.le (by omega) (by omega) (by omega) (by omega);have XD:=y.q0;refine DT.drop 2 (ah9 _)<|DT.ob func224 W ntmps224 W<|dO [2,2,22] W<|Mq (aA MT W W)<|dR [23] W<|Mq (aX dQ W W)<|dR [2,26] W<|Mq (aA M0 W W)<|dR [27] W<|Mq (aX j5 W W)<|dL [] W ?_;apply Mz fK
  .intro s0 Oo;refine fR 8 W<|bB Nz W W<|bm Sz W W<|oX W W W (by have:(⟨#[102]⟩:ByteArray).size=1:=rfl;omega)<|fR 8 W<|TF.nil ⟨by kernel_rfl,rfl⟩
  refine dC [] W ?_;apply Mz fK
  .intro s0 Oo;refine fR 2 W<|bm dQ W W<|bB I W W<|fR 2 W<|bm jr W W<|bB L W W<|fR 3 W<|TF.nil ⟨by kernel_rfl,rfl⟩
  refine dO [2,60] W<|Mq (aA S7 W W)<|dL [1,2] W ?_;apply Mz fK
  .intro s0 Oo;refine fR 2 W<|bm jr W W<|bB Vl W W<|fR 2 W<|TF.nil ⟨by kernel_rfl,rfl⟩
  refine dO [2,74] W<|Mq (aX QF W W)<|dR [77] W<|Mq (aA Vm W W)<|dL [] W ?_;have O6:(aD.call (nm 117 (a+1)) (nm 117 (a+2)) (nm 102 j) d b true e).cells=[.int .u8 2,.sl [[.str (nm 117 (a+1))],[.str (nm 117 (a+2))]],.str (nm 102 j),.sl [bh i k l m n o,bh p q t u w x],.bool true,.int .u8 P,.int .u8 Q,.int .i32 R,.str S,.sl T,.sl U,.int .i64 0,.int .i64 0,.sl [],.int .i64 0,.int .i64 0]:=by rw[aD.cells,J,M,h7];rfl
  refine dO [2,2,83] W<|Mq (dB true W W W W (by rfl) (by simp) (by exact bS W) (by grind))<|dR [2,86] W<|Mq (dr (cs:=aM [[.int .u8 2,.sl [[.str (nm 117 (a+1))],[.str (nm 117 (a+2))]],.str (nm 102 j),.sl [bh i k l m n o,bh p q t u w x],.bool true,.int .u8 P,.int .u8 Q,.int .i32 R,.str S,.sl T,.sl U,.int .i64 0,.int .i64 0,.sl [],.int .i64 0,.int .i64 0]]) W W W W W (e8 A) (by rw[ei];simp;omega) (by rw[ei];simp;omega))<|dR [2,2,91] W<|Mq (dB true W W W W (by rfl) (by simp) (by intro r h;simp at h;rcases h with rfl|rfl<;>rfl) (by grind))<|dR [2,95] W<|Mq (dr (cs:=aM (ax [eD 117 (a+1) .int,eD 117 (a+2) .jh])) W W W W W (bD D) (by rw[br];simp;omega) (by rw[br];simp;omega))<|dL [] W<|M5 [(8,.m (.bZ 2 1 (1+(bI A).length))),(9,.m (.bZ 3 1 (2+(ax D).length)))] (GH v av main V++[.row true 16 1 (aM ([.int .u8 2,.sl [[.str (nm 117 (a+1))],[.str (nm 117 (a+2))]],.str (nm 102 j),.sl [bh i k l m n o,bh p q t u w x],.bool true,.int .u8 P,.int .u8 Q,.int .i32 R,.str S,.sl T,.sl U,.int .i64 0,.int .i64 0,.sl [],.int .i64 0,.int .i64 0]::bI A)),.row true 15 1 (aM (ax (eD 117 (a+1) .int::eD 117 (a+2) .jh::D)))]) W W<|DC.aR 8 W (j7 W (by grind) (by simp) (by rw[<-O6];exact e8 (.call (nm 117 (a+1)) (nm 117 (a+2)) (nm 102 j) d b true e::A)))<|DC.aR 9 W (j7 W (by simp only[br,aia];omega) (by simp[ax]) (bD _)) ?_
  refine DC.ret ⟨_,W,jN W,jd W,nU v av main V,.call (nm 117 (a+1)) (nm 117 (a+2)) (nm 102 j) d b true e::A,eD 117 (a+1) .int::eD 117 (a+2) .jh::D,V,by rw[bI,O6];rfl,rfl,?_,by grind,by grind,⟨by have:=y.i;simp only;omega,y.le,by have:=y.n;simp only;omega,y.oO,by grind,by have:=y.q1;simp only;omega⟩⟩;refine .call j hj d b QB PF _ _ (.inr ⟨W,Ol⟩) ?_;have e2:a+2=g7.n:=by omega
  rw[e2];rw[e2]at PO;exact PO
 .skip
  have S:Mv zs z z:=⟨rfl,rfl,ah9 _,N.le⟩;obtain⟨U,V,⟨A,D,E,rfl,rfl,P,Po,PS,y⟩,T⟩:=X (s.more [eD 117 (a+1) .int,eD 117 (a+2) .jh]) (by simp only[Sc.more,ah6,aia,List.length_nil];omega) Y Z B ho z S.le (by omega) (by omega) (by omega) (by omega);have XD:=y.q0;refine DT.drop 2 (ah9 _)<|DT.ob func224 W ntmps224 W<|dO [2,2,22] W<|Mq (aA MT W W)<|dR [23] W<|Mq (aX dQ W W)<|dR [2,26] W<|Mq (aA M0 W W)<|dR [27] W<|Mq (aX j5 W W)<|dL [] W ?_;apply Mz fK
  .intro s0 Oo;refine fR 8 W<|bB Nz W W<|bm Sz W W<|oX W W W (by have:(⟨#[102]⟩:ByteArray).size=1:=rfl;omega)<|fR 8 W<|TF.nil ⟨by kernel_rfl,rfl⟩
  refine dC [] W ?_;apply Mz fK
  .intro s0 Oo;refine fR 2 W<|bm dQ W W<|bB I W W<|fR 2 W<|bm jr W W<|bB L W W<|fR 3 W<|TF.nil ⟨by kernel_rfl,rfl⟩
  refine dO [2,60] W<|Mq (aA S7 W W)<|dR [61] W<|Mq (dW (ajo.2 (by omega)) W W W W)<|dR [0,2,74] W<|Mq (aX QF W W)<|dR [77] W<|Mq (aA T W W)<|dL [] W ?_;have Q:(aD.call (nm 117 (a+1)) (nm 117 (a+2)) (nm 102 j) d b false .nil).cells=[.int .u8 2,.sl [[.str (nm 117 (a+1))],[.str (nm 117 (a+2))]],.str (nm 102 j),.sl [bh i k l m n o,bh p q t u w x],.bool false,.int .u8 0,.int .u8 0,.int .i32 0,.str ⟨#[]⟩,.sl [],.sl [],.int .i64 0,.int .i64 0,.sl [],.int .i64 0,.int .i64 0]:=by rw[aD.cells,J,M];rfl
  refine dO [2,2,83] W<|Mq (dB true W W W W (by rfl) (by simp) (by exact bS W) (by grind))<|dR [2,86] W<|Mq (dr (cs:=aM [[.int .u8 2,.sl [[.str (nm 117 (a+1))],[.str (nm 117 (a+2))]],.str (nm 102 j),.sl [bh i k l m n o,bh p q t u w x],.bool false,.int .u8 0,.int .u8 0,.int .i32 0,.str ⟨#[]⟩,.sl [],.sl [],.int .i64 0,.int .i64 0,.sl [],.int .i64 0,.int .i64 0]]) W W W W W (e8 A) (by rw[ei];simp;omega) (by rw[ei];simp;omega))<|dR [2,2,91] W<|Mq (dB true W W W W (by rfl) (by simp) (by intro r h;simp at h;rcases h with rfl|rfl<;>rfl) (by grind))<|dR [2,95] W<|Mq (dr (cs:=aM (ax [eD 117 (a+1) .int,eD 117 (a+2) .jh])) W W W W W (bD D) (by rw[br];simp;omega) (by rw[br];simp;omega))<|dL [] W<|M5 [(8,.m (.bZ 2 1 (1+(bI A).length))),(9,.m (.bZ 3 1 (2+(ax D).length)))] (GH v av main E++[.row true 16 1 (aM ([.int .u8 2,.sl [[.str (nm 117 (a+1))],[.str (nm 117 (a+2))]],.str (nm 102 j),.sl [bh i k l m n o,bh p q t u w x],.bool false,.int .u8 0,.int .u8 0,.int .i32 0,.str ⟨#[]⟩,.sl [],.sl [],.int .i64 0,.int .i64 0,.sl [],.int .i64 0,.int .i64 0]::bI A)),.row true 15 1 (aM (ax (eD 117 (a+1) .int::eD 117 (a+2) .jh::D)))]) W W<|DC.aR 8 W (j7 W (by grind) (by simp) (by rw[<-Q];exact e8 (.call (nm 117 (a+1)) (nm 117 (a+2)) (nm 102 j) d b false .nil::A)))<|DC.aR 9 W (j7 W (by simp only[br,aia];omega) (by simp[ax]) (bD _)) ?_
  refine DC.ret ⟨_,W,jN W,jd W,nU v av main E,.call (nm 117 (a+1)) (nm 117 (a+2)) (nm 102 j) d b false .nil::A,eD 117 (a+1) .int::eD 117 (a+2) .jh::D,E,by rw[bI,Q];rfl,rfl,?_,by grind,by grind,⟨by have:=y.i;simp only;omega,y.le,by have:=y.n;simp only;omega,y.oO,by grind,by have:=y.q1;simp only;omega⟩⟩;refine .call j hj d b QB PF _ _ (.inl ⟨W,W⟩) ?_;have R:a+2=z.n:=by omega
  rw[R];rw[R]at P;exact P
end
section
variable{zs:List Int}{v:D}(ht:Tape zs v)(av:Nat)(main:Bool)
include ht
def Dg(M c:Nat)(hD:M<=3)(Yv:c<=14)(ih:vV zs v av main M c)(s:Sc)(P:s.ready.length+2*c+2<=900-200*M)(ha:s.all.length<=1000)(RG:s.aO.length<=900-200*M)(X:List Va)(ho:X.length<=3)
  (g:GS) (Y:g.i<=zs.length) (hn:g.n+3<=3*g.i) (SY:0<g.q) (SZ:g.q<=c):
  DT prog 225 [.ref 1 0,.d (.agg s.cells),.d (.sl (ax X)),.d (.int .i64 ((M:Nat):Int))] (GH v av main g) λr K=>∃(q:List aD) (a:List Va) (g':GS),r=.c_ [.d (.sl (bI q)),.d (.sl (ax a))]/\K=GH v av main g'/\GQ (De av M) av s X g.n g'.n q a/\q.length<=3*(c+1)+3/\a.length<=3*(c+1)/\Bm zs (1+3*qP M) g g':=by
 have hL:=ht.hl;obtain⟨gi,a,gq⟩:=g;simp only at Y hn SY SZ;have Qu:vT s:=⟨by omega,by omega,by omega⟩;obtain⟨r1,K1,⟨rfl,rfl⟩,MT⟩:=pf ht av main 99 ⟨gi,a,gq⟩ Y (by simp only;omega);obtain⟨r2,K2,⟨rfl,rfl⟩,M0⟩:=pf ht av main 119 ⟨gi,a+1,gq⟩ Y (by simp only;omega);obtain⟨r3,K3,⟨rfl,rfl⟩,Nz⟩:=pf ht av main 122 ⟨gi,a+2,gq⟩ Y (by simp only;omega);obtain⟨r4,K4,⟨f,g4,rfl,rfl,QB,NZ⟩,Qb⟩:=fy ht av main 2 (by omega) s Qu .int false ⟨gi,a+3,gq⟩ Y;obtain⟨h,i,j,k,l,m,Z⟩:=f.shape;rw[Z]at Qb;obtain⟨r5,K5,⟨b,g5,rfl,rfl,PF,PH⟩,OK⟩:=fy ht av main 2 (by omega) s Qu .int false g4 NZ.le;obtain⟨n,o,p,q,t,u,h5⟩:=b.shape;rw[h5]at OK;obtain⟨r6,K6,⟨J,g6,rfl,rfl,am,P5⟩,S7⟩:=iA ht av main .int g5 PH.le;obtain⟨w,x,y,z,A,B,h6⟩:=J.shape;rw[h6]at S7;obtain⟨r7,K7,⟨O,g7,rfl,rfl,Yw,TA⟩,Vl⟩:=iA ht av main .int g6 P5.le;obtain⟨Q,R,S,sl,T,U,h7⟩:=O.shape;rw[h7]at Vl;have WU:=kf 7 3 (.var (nm 119 (a+2))) (.mm (nm 99 (a+1)) cR f);have WV:=kf 9 0 O (.bin 3 (.var (nm 119 (a+2))) (.mm (nm 99 (a+1)) cR f));simp only[E.cells,Z]at WU;simp only[E.cells,Z,h7]at WV;obtain⟨r8,K8,⟨j8,g8,rfl,rfl,d5⟩,Vm⟩:=fh ht av main 2 (by omega) (by omega) g7 TA.le;have ce:=d5.mv;obtain⟨r9,K9,⟨e,g9,rfl,rfl,Ol,d6⟩,ZJ⟩:=fy ht av main 3 (by omega) s Qu .jh true g8 ce.le;obtain⟨C,D,F,G,H,I,h9⟩:=e.shape;rw[h9]at ZJ;have U7:=NZ.trans (PH.trans (P5.trans (TA.trans (ce.trans d6))));have d7:=U7.n;have d8:=U7.q;have d9:=U7.i;simp only at d7 d8 d9
 have QF:=rl s [eD 99 (a+1) .jh,eD 122 (a+3) .int] (by omega) (by simp);obtain⟨f5,f6,⟨d,N,V,rfl,rfl,PO,Po,PS,L⟩,Yx⟩:=ih (s.more [eD 99 (a+1) .jh,eD 122 (a+3) .int]) (by simp only[Sc.more,ah6,aia,List.length_nil];omega) ha RG X ho g9 U7.le (by omega) (by omega) (by omega) (by omega);have XD:=L.q0;rcases aiO j8 with co|co
 .skip
  subst co;have O6:bI (.df (nm 99 (a+1)) e:: .df (nm 119 (a+2)) (.mm (nm 99 (a+1)) cR f):: .df (nm 122 (a+3)) (.merge (nm 99 (a+1)) bT cR eK (.mm (nm 99 (a+1)) bT b) (.var (nm 119 (a+2))) J):: [])=[[.int .u8 1,.sl [[.str (nm 99 (a+1))]],.str ⟨#[]⟩,.sl [],.bool false,.int .u8 C,.int .u8 D,.int .i32 F,.str G,.sl H,.sl I,.int .i64 0,.int .i64 0,.sl [],.int .i64 0,.int .i64 0],[.int .u8 1,.sl [[.str (nm 119 (a+2))]],.str ⟨#[]⟩,.sl [],.bool false,.int .u8 12,.int .u8 0,.int .i32 0,.str (nm 99 (a+1)),.sl [[.str cR]],.sl [bh h i j k l m],.int .i64 0,.int .i64 0,.sl [],.int .i64 0,.int .i64 0],[.int .u8 1,.sl [[.str (nm 122 (a+3))]],.str ⟨#[]⟩,.sl [],.bool false,.int .u8 13,.int .u8 0,.int .i32 0,.str (nm 99 (a+1)),.sl [[.str bT],[.str cR],[.str eK]],.sl [bh 12 0 0 (nm 99 (a+1)) [[.str bT]] [bh n o p q t u],bh 4 0 0 (nm 119 (a+2)) [] [],bh w x y z A B],.int .i64 0,.int .i64 0,.sl [],.int .i64 0,.int .i64 0]]:=by simp only[bI,aD.cells,E.cells,Z,h5,h6,h7,h9];rfl
  have WW:=iU (by rfl) Yx [.row true 16 0 (aM [[.int .u8 1,.sl [[.str (nm 99 (a+1))]],.str ⟨#[]⟩,.sl [],.bool false,.int .u8 C,.int .u8 D,.int .i32 F,.str G,.sl H,.sl I,.int .i64 0,.int .i64 0,.sl [],.int .i64 0,.int .i64 0],[.int .u8 1,.sl [[.str (nm 119 (a+2))]],.str ⟨#[]⟩,.sl [],.bool false,.int .u8 12,.int .u8 0,.int .i32 0,.str (nm 99 (a+1)),.sl [[.str cR]],.sl [bh h i j k l m],.int .i64 0,.int .i64 0,.sl [],.int .i64 0,.int .i64 0],[.int .u8 1,.sl [[.str (nm 122 (a+3))]],.str ⟨#[]⟩,.sl [],.bool false,.int .u8 13,.int .u8 0,.int .i32 0,.str (nm 99 (a+1)),.sl [[.str bT],[.str cR],[.str eK]],.sl [bh 12 0 0 (nm 99 (a+1)) [[.str bT]] [bh n o p q t u],bh 4 0 0 (nm 119 (a+2)) [] [],bh w x y z A B],.int .i64 0,.int .i64 0,.sl [],.int .i64 0,.int .i64 0]])];refine DT.drop 2 (ah9 _)<|DT.ob func225 W ntmps225 W<|dO [2,2,26] W<|Mq (aA MT W W)<|dR [27] W<|Mq (aX j5 W W)<|dL [] W ?_;apply Mz fK
  .intro s0 Oo;refine fR 1 W<|bB M0 W W<|bm dQ W W<|fR 7 W<|TF.nil ⟨by kernel_rfl,rfl⟩
  refine dO [2,38] W<|Mq (aA Nz W W)<|dR [39] W<|Mq (aX dQ W W)<|dL [] W ?_;apply Mz fK
  .intro s0 Oo;refine fR 5 W<|bm dQ W W<|bB Qb W W<|fR 4 W<|TF.nil ⟨by kernel_rfl,rfl⟩
  refine dC [] W ?_;apply Mz fK
  .intro s0 Oo;refine fR 5 W<|bm dQ W W<|bB OK W W<|fR 4 W<|TF.nil ⟨by kernel_rfl,rfl⟩
  refine dC [] W ?_;apply Mz fK
  .intro s0 Oo;refine fR 8 W<|bm dQ W W<|bB S7 W W<|fR 4 W<|TF.nil ⟨by kernel_rfl,rfl⟩
  refine dC [] W ?_;apply Mz fK
  .intro s0 Oo;refine fR 1 W<|bm dQ W W<|bB Vl W W<|fR 4 W<|bm WU W W<|bm WV W W<|fR 2 W<|TF.nil ⟨by kernel_rfl,rfl⟩
  refine dO [2,84] W<|Mq (aA Vm W W)<|dL [1,2] W ?_;apply Mz fK
  .intro s0 Oo;refine fR 5 W<|bm j5 W W<|bB ZJ W W<|fR 11 W<|wX W W W W W W<|fR 1 W<|TF.nil ⟨by kernel_rfl,rfl⟩
  refine DC.ki 2 W<|M5 [(17,.m (.bZ 2 0 3)),(12,.loc 12 0),(11,.loc 11 0),(10,.loc 10 0),(5,.m (.d (.bM s.cells 0))),(3,.m (.d (.int .i64 ((M:Nat):Int)))),(2,.m (.d (.sl (ax X)))),(0,.m (.ref 1 0))] (GH v av main g9++[.row true 16 0 (aM [[.int .u8 1,.sl [[.str (nm 99 (a+1))]],.str ⟨#[]⟩,.sl [],.bool false,.int .u8 C,.int .u8 D,.int .i32 F,.str G,.sl H,.sl I,.int .i64 0,.int .i64 0,.sl [],.int .i64 0,.int .i64 0],[.int .u8 1,.sl [[.str (nm 119 (a+2))]],.str ⟨#[]⟩,.sl [],.bool false,.int .u8 12,.int .u8 0,.int .i32 0,.str (nm 99 (a+1)),.sl [[.str cR]],.sl [bh h i j k l m],.int .i64 0,.int .i64 0,.sl [],.int .i64 0,.int .i64 0],[.int .u8 1,.sl [[.str (nm 122 (a+3))]],.str ⟨#[]⟩,.sl [],.bool false,.int .u8 13,.int .u8 0,.int .i32 0,.str (nm 99 (a+1)),.sl [[.str bT],[.str cR],[.str eK]],.sl [bh 12 0 0 (nm 99 (a+1)) [[.str bT]] [bh n o p q t u],bh 4 0 0 (nm 119 (a+2)) [] [],bh w x y z A B],.int .i64 0,.int .i64 0,.sl [],.int .i64 0,.int .i64 0]])]) W W<|dO [2,112] W<|Mq (aX QF W W)<|dR [115] W<|Mq (aA WW W W)<|dR [2,2,123] W<|Mq (dB true W W W W (by rfl) (by simp) (by intro r P;simp at P;rcases P with rfl|rfl|rfl<;>rfl) (by exact jN W))<|dR [2,126] W ?_
  refine Mq (dr (cs:=aM [[.int .u8 1,.sl [[.str (nm 99 (a+1))]],.str ⟨#[]⟩,.sl [],.bool false,.int .u8 C,.int .u8 D,.int .i32 F,.str G,.sl H,.sl I,.int .i64 0,.int .i64 0,.sl [],.int .i64 0,.int .i64 0],[.int .u8 1,.sl [[.str (nm 119 (a+2))]],.str ⟨#[]⟩,.sl [],.bool false,.int .u8 12,.int .u8 0,.int .i32 0,.str (nm 99 (a+1)),.sl [[.str cR]],.sl [bh h i j k l m],.int .i64 0,.int .i64 0,.sl [],.int .i64 0,.int .i64 0],[.int .u8 1,.sl [[.str (nm 122 (a+3))]],.str ⟨#[]⟩,.sl [],.bool false,.int .u8 13,.int .u8 0,.int .i32 0,.str (nm 99 (a+1)),.sl [[.str bT],[.str cR],[.str eK]],.sl [bh 12 0 0 (nm 99 (a+1)) [[.str bT]] [bh n o p q t u],bh 4 0 0 (nm 119 (a+2)) [] [],bh w x y z A B],.int .i64 0,.int .i64 0,.sl [],.int .i64 0,.int .i64 0]]) W W W W W (e8 d) (by rw[ei];omega) (by rw[ei];omega))<|dR [129] W<|Mq (dr (cs:=aM (ax (eD 99 (a+1) .jh::⟨nm 119 (a+2),.int,some (cR,nm 99 (a+1)),false,.nil⟩::eD 122 (a+3) .int:: []))) W W W W W (bD N) (by rw[br];simp;omega) (by rw[br];simp;omega))<|dL [] W<|M5 [(8,.m (.bZ 2 1 (3+(bI d).length))),(9,.m (.bZ 3 1 (3+(ax N).length)))] (GH v av main V++[.row true 16 1 (aM ([.int .u8 1,.sl [[.str (nm 99 (a+1))]],.str ⟨#[]⟩,.sl [],.bool false,.int .u8 C,.int .u8 D,.int .i32 F,.str G,.sl H,.sl I,.int .i64 0,.int .i64 0,.sl [],.int .i64 0,.int .i64 0]:: [.int .u8 1,.sl [[.str (nm 119 (a+2))]],.str ⟨#[]⟩,.sl [],.bool false,.int .u8 12,.int .u8 0,.int .i32 0,.str (nm 99 (a+1)),.sl [[.str cR]],.sl [bh h i j k l m],.int .i64 0,.int .i64 0,.sl [],.int .i64 0,.int .i64 0]:: [.int .u8 1,.sl [[.str (nm 122 (a+3))]],.str ⟨#[]⟩,.sl [],.bool false,.int .u8 13,.int .u8 0,.int .i32 0,.str (nm 99 (a+1)),.sl [[.str bT],[.str cR],[.str eK]],.sl [bh 12 0 0 (nm 99 (a+1)) [[.str bT]] [bh n o p q t u],bh 4 0 0 (nm 119 (a+2)) [] [],bh w x y z A B],.int .i64 0,.int .i64 0,.sl [],.int .i64 0,.int .i64 0]::bI d)),.row true 15 1 (aM (ax (eD 99 (a+1) .jh::⟨nm 119 (a+2),.int,some (cR,nm 99 (a+1)),false,.nil⟩::eD 122 (a+3) .int::N)))]) W W ?_
  have SM:bI (.df (nm 99 (a+1)) e:: .df (nm 119 (a+2)) (.mm (nm 99 (a+1)) cR f):: .df (nm 122 (a+3)) (.merge (nm 99 (a+1)) bT cR eK (.mm (nm 99 (a+1)) bT b) (.var (nm 119 (a+2))) J)::d)=[.int .u8 1,.sl [[.str (nm 99 (a+1))]],.str ⟨#[]⟩,.sl [],.bool false,.int .u8 C,.int .u8 D,.int .i32 F,.str G,.sl H,.sl I,.int .i64 0,.int .i64 0,.sl [],.int .i64 0,.int .i64 0]:: [.int .u8 1,.sl [[.str (nm 119 (a+2))]],.str ⟨#[]⟩,.sl [],.bool false,.int .u8 12,.int .u8 0,.int .i32 0,.str (nm 99 (a+1)),.sl [[.str cR]],.sl [bh h i j k l m],.int .i64 0,.int .i64 0,.sl [],.int .i64 0,.int .i64 0]:: [.int .u8 1,.sl [[.str (nm 122 (a+3))]],.str ⟨#[]⟩,.sl [],.bool false,.int .u8 13,.int .u8 0,.int .i32 0,.str (nm 99 (a+1)),.sl [[.str bT],[.str cR],[.str eK]],.sl [bh 12 0 0 (nm 99 (a+1)) [[.str bT]] [bh n o p q t u],bh 4 0 0 (nm 119 (a+2)) [] [],bh w x y z A B],.int .i64 0,.int .i64 0,.sl [],.int .i64 0,.int .i64 0]::bI d:=by
   have ac:=iB (.df (nm 99 (a+1)) e:: .df (nm 119 (a+2)) (.mm (nm 99 (a+1)) cR f):: .df (nm 122 (a+3)) (.merge (nm 99 (a+1)) bT cR eK (.mm (nm 99 (a+1)) bT b) (.var (nm 119 (a+2))) J):: []) d;rw[O6]at ac;exact ac
  refine DC.aR 8 W (j7 W (by simp;omega) (by simp) (by rw[<-SM];exact e8 _))<|DC.aR 9 W (j7 W (by simp only[br,aia];omega) (by simp[ax]) (bD _))<|DC.ret ⟨_,rfl,jN W,jd W,nU v av main V,.df (nm 99 (a+1)) e:: .df (nm 119 (a+2)) (.mm (nm 99 (a+1)) cR f):: .df (nm 122 (a+3)) (.merge (nm 99 (a+1)) bT cR eK (.mm (nm 99 (a+1)) bT b) (.var (nm 119 (a+2))) J)::d,eD 99 (a+1) .jh::⟨nm 119 (a+2),.int,some (cR,nm 99 (a+1)),false,.nil⟩::eD 122 (a+3) .int::N,V,by rw[SM];rfl,rfl,?_,by simp;omega,by simp;omega,⟨by have:=L.i;simp only;omega,L.le,by have:=L.n;simp only;omega,L.oO,by simp only;omega,by have:=L.q1;simp only;omega⟩⟩;refine .ze f b J O e _ QB PF am Yw Ol (.inl W) ?_;have e2:a+3=g9.n:=by omega
  rw[e2];rw[e2]at PO;exact PO
 .skip
  have O6:bI (.df (nm 99 (a+1)) e:: .df (nm 119 (a+2)) (.sg O (.bin 3 (.var (nm 119 (a+2))) (.mm (nm 99 (a+1)) cR f))):: .df (nm 122 (a+3)) (.merge (nm 99 (a+1)) bT cR eK (.mm (nm 99 (a+1)) bT b) (.var (nm 119 (a+2))) J):: [])=[[.int .u8 1,.sl [[.str (nm 99 (a+1))]],.str ⟨#[]⟩,.sl [],.bool false,.int .u8 C,.int .u8 D,.int .i32 F,.str G,.sl H,.sl I,.int .i64 0,.int .i64 0,.sl [],.int .i64 0,.int .i64 0],[.int .u8 1,.sl [[.str (nm 119 (a+2))]],.str ⟨#[]⟩,.sl [],.bool false,.int .u8 9,.int .u8 0,.int .i32 0,.str ⟨#[]⟩,.sl [],.sl [bh Q R S sl T U,bh 7 3 0 ⟨#[]⟩ [] [bh 4 0 0 (nm 119 (a+2)) [] [],bh 12 0 0 (nm 99 (a+1)) [[.str cR]] [bh h i j k l m]]],.int .i64 0,.int .i64 0,.sl [],.int .i64 0,.int .i64 0],[.int .u8 1,.sl [[.str (nm 122 (a+3))]],.str ⟨#[]⟩,.sl [],.bool false,.int .u8 13,.int .u8 0,.int .i32 0,.str (nm 99 (a+1)),.sl [[.str bT],[.str cR],[.str eK]],.sl [bh 12 0 0 (nm 99 (a+1)) [[.str bT]] [bh n o p q t u],bh 4 0 0 (nm 119 (a+2)) [] [],bh w x y z A B],.int .i64 0,.int .i64 0,.sl [],.int .i64 0,.int .i64 0]]:=by simp only[bI,aD.cells,E.cells,Z,h5,h6,h7,h9];rfl
  have WW:=iU (by rfl) Yx [.row true 16 0 (aM [[.int .u8 1,.sl [[.str (nm 99 (a+1))]],.str ⟨#[]⟩,.sl [],.bool false,.int .u8 C,.int .u8 D,.int .i32 F,.str G,.sl H,.sl I,.int .i64 0,.int .i64 0,.sl [],.int .i64 0,.int .i64 0],[.int .u8 1,.sl [[.str (nm 119 (a+2))]],.str ⟨#[]⟩,.sl [],.bool false,.int .u8 9,.int .u8 0,.int .i32 0,.str ⟨#[]⟩,.sl [],.sl [bh Q R S sl T U,bh 7 3 0 ⟨#[]⟩ [] [bh 4 0 0 (nm 119 (a+2)) [] [],bh 12 0 0 (nm 99 (a+1)) [[.str cR]] [bh h i j k l m]]],.int .i64 0,.int .i64 0,.sl [],.int .i64 0,.int .i64 0],[.int .u8 1,.sl [[.str (nm 122 (a+3))]],.str ⟨#[]⟩,.sl [],.bool false,.int .u8 13,.int .u8 0,.int .i32 0,.str (nm 99 (a+1)),.sl [[.str bT],[.str cR],[.str eK]],.sl [bh 12 0 0 (nm 99 (a+1)) [[.str bT]] [bh n o p q t u],bh 4 0 0 (nm 119 (a+2)) [] [],bh w x y z A B],.int .i64 0,.int .i64 0,.sl [],.int .i64 0,.int .i64 0]])];refine DT.drop 2 (ah9 _)<|DT.ob func225 W ntmps225 W<|dO [2,2,26] W<|Mq (aA MT W W)<|dR [27] W<|Mq (aX j5 W W)<|dL [] W ?_;apply Mz fK
  .intro s0 Oo;refine fR 1 W<|bB M0 W W<|bm dQ W W<|fR 7 W<|TF.nil ⟨by kernel_rfl,rfl⟩
  refine dO [2,38] W<|Mq (aA Nz W W)<|dR [39] W<|Mq (aX dQ W W)<|dL [] W ?_;apply Mz fK
  .intro s0 Oo;refine fR 5 W<|bm dQ W W<|bB Qb W W<|fR 4 W<|TF.nil ⟨by kernel_rfl,rfl⟩
  refine dC [] W ?_;apply Mz fK
  .intro s0 Oo;refine fR 5 W<|bm dQ W W<|bB OK W W<|fR 4 W<|TF.nil ⟨by kernel_rfl,rfl⟩
  refine dC [] W ?_;apply Mz fK
  .intro s0 Oo;refine fR 8 W<|bm dQ W W<|bB S7 W W<|fR 4 W<|TF.nil ⟨by kernel_rfl,rfl⟩
  refine dC [] W ?_;apply Mz fK
  .intro s0 Oo;refine fR 1 W<|bm dQ W W<|bB Vl W W<|fR 4 W<|bm WU W W<|bm WV W W<|fR 2 W<|TF.nil ⟨by kernel_rfl,rfl⟩
  refine dO [2,84] W<|Mq (aA Vm W W)<|dR [85] W<|Mq (dW (ajo.2 (by omega)) W W W W)<|dL [0] W ?_;apply Mz fK
  .intro s0 Oo;refine fR 5 W<|bm j5 W W<|bB ZJ W W<|fR 11 W<|wX W W W W W W<|fR 1 W<|TF.nil ⟨by kernel_rfl,rfl⟩
  refine DC.ki 2 W<|M5 [(17,.m (.bZ 2 0 3)),(12,.loc 12 0),(11,.loc 11 0),(10,.loc 10 0),(5,.m (.d (.bM s.cells 0))),(3,.m (.d (.int .i64 ((M:Nat):Int)))),(2,.m (.d (.sl (ax X)))),(0,.m (.ref 1 0))] (GH v av main g9++[.row true 16 0 (aM [[.int .u8 1,.sl [[.str (nm 99 (a+1))]],.str ⟨#[]⟩,.sl [],.bool false,.int .u8 C,.int .u8 D,.int .i32 F,.str G,.sl H,.sl I,.int .i64 0,.int .i64 0,.sl [],.int .i64 0,.int .i64 0],[.int .u8 1,.sl [[.str (nm 119 (a+2))]],.str ⟨#[]⟩,.sl [],.bool false,.int .u8 9,.int .u8 0,.int .i32 0,.str ⟨#[]⟩,.sl [],.sl [bh Q R S sl T U,bh 7 3 0 ⟨#[]⟩ [] [bh 4 0 0 (nm 119 (a+2)) [] [],bh 12 0 0 (nm 99 (a+1)) [[.str cR]] [bh h i j k l m]]],.int .i64 0,.int .i64 0,.sl [],.int .i64 0,.int .i64 0],[.int .u8 1,.sl [[.str (nm 122 (a+3))]],.str ⟨#[]⟩,.sl [],.bool false,.int .u8 13,.int .u8 0,.int .i32 0,.str (nm 99 (a+1)),.sl [[.str bT],[.str cR],[.str eK]],.sl [bh 12 0 0 (nm 99 (a+1)) [[.str bT]] [bh n o p q t u],bh 4 0 0 (nm 119 (a+2)) [] [],bh w x y z A B],.int .i64 0,.int .i64 0,.sl [],.int .i64 0,.int .i64 0]])]) W W<|dO [2,112] W<|Mq (aX QF W W)<|dR [115] W<|Mq (aA WW W W)<|dR [2,2,123] W<|Mq (dB true W W W W (by rfl) (by simp) (by intro r P;simp at P;rcases P with rfl|rfl|rfl<;>rfl) (by exact jN W))<|dR [2,126] W ?_
  refine Mq (dr (cs:=aM [[.int .u8 1,.sl [[.str (nm 99 (a+1))]],.str ⟨#[]⟩,.sl [],.bool false,.int .u8 C,.int .u8 D,.int .i32 F,.str G,.sl H,.sl I,.int .i64 0,.int .i64 0,.sl [],.int .i64 0,.int .i64 0],[.int .u8 1,.sl [[.str (nm 119 (a+2))]],.str ⟨#[]⟩,.sl [],.bool false,.int .u8 9,.int .u8 0,.int .i32 0,.str ⟨#[]⟩,.sl [],.sl [bh Q R S sl T U,bh 7 3 0 ⟨#[]⟩ [] [bh 4 0 0 (nm 119 (a+2)) [] [],bh 12 0 0 (nm 99 (a+1)) [[.str cR]] [bh h i j k l m]]],.int .i64 0,.int .i64 0,.sl [],.int .i64 0,.int .i64 0],[.int .u8 1,.sl [[.str (nm 122 (a+3))]],.str ⟨#[]⟩,.sl [],.bool false,.int .u8 13,.int .u8 0,.int .i32 0,.str (nm 99 (a+1)),.sl [[.str bT],[.str cR],[.str eK]],.sl [bh 12 0 0 (nm 99 (a+1)) [[.str bT]] [bh n o p q t u],bh 4 0 0 (nm 119 (a+2)) [] [],bh w x y z A B],.int .i64 0,.int .i64 0,.sl [],.int .i64 0,.int .i64 0]]) W W W W W (e8 d) (by rw[ei];omega) (by rw[ei];omega)) ?_;refine dR [129] W ?_;refine Mq (dr (cs:=aM (ax (eD 99 (a+1) .jh::⟨nm 119 (a+2),.int,some (cR,nm 99 (a+1)),false,.nil⟩::eD 122 (a+3) .int:: []))) W W W W W (bD N) (by rw[br];simp;omega) (by rw[br];simp only[aia,List.length_nil];omega)) ?_;refine dL [] W ?_
  refine M5 [(8,.m (.bZ 2 1 (3+(bI d).length))),(9,.m (.bZ 3 1 (3+(ax N).length)))] (GH v av main V++[.row true 16 1 (aM ([.int .u8 1,.sl [[.str (nm 99 (a+1))]],.str ⟨#[]⟩,.sl [],.bool false,.int .u8 C,.int .u8 D,.int .i32 F,.str G,.sl H,.sl I,.int .i64 0,.int .i64 0,.sl [],.int .i64 0,.int .i64 0]:: [.int .u8 1,.sl [[.str (nm 119 (a+2))]],.str ⟨#[]⟩,.sl [],.bool false,.int .u8 9,.int .u8 0,.int .i32 0,.str ⟨#[]⟩,.sl [],.sl [bh Q R S sl T U,bh 7 3 0 ⟨#[]⟩ [] [bh 4 0 0 (nm 119 (a+2)) [] [],bh 12 0 0 (nm 99 (a+1)) [[.str cR]] [bh h i j k l m]]],.int .i64 0,.int .i64 0,.sl [],.int .i64 0,.int .i64 0]:: [.int .u8 1,.sl [[.str (nm 122 (a+3))]],.str ⟨#[]⟩,.sl [],.bool false,.int .u8 13,.int .u8 0,.int .i32 0,.str (nm 99 (a+1)),.sl [[.str bT],[.str cR],[.str eK]],.sl [bh 12 0 0 (nm 99 (a+1)) [[.str bT]] [bh n o p q t u],bh 4 0 0 (nm 119 (a+2)) [] [],bh w x y z A B],.int .i64 0,.int .i64 0,.sl [],.int .i64 0,.int .i64 0]::bI d)),.row true 15 1 (aM (ax (eD 99 (a+1) .jh::⟨nm 119 (a+2),.int,some (cR,nm 99 (a+1)),false,.nil⟩::eD 122 (a+3) .int::N)))]) W W ?_
  have SM:bI (.df (nm 99 (a+1)) e:: .df (nm 119 (a+2)) (.sg O (.bin 3 (.var (nm 119 (a+2))) (.mm (nm 99 (a+1)) cR f))):: .df (nm 122 (a+3)) (.merge (nm 99 (a+1)) bT cR eK (.mm (nm 99 (a+1)) bT b) (.var (nm 119 (a+2))) J)::d)=[.int .u8 1,.sl [[.str (nm 99 (a+1))]],.str ⟨#[]⟩,.sl [],.bool false,.int .u8 C,.int .u8 D,.int .i32 F,.str G,.sl H,.sl I,.int .i64 0,.int .i64 0,.sl [],.int .i64 0,.int .i64 0]:: [.int .u8 1,.sl [[.str (nm 119 (a+2))]],.str ⟨#[]⟩,.sl [],.bool false,.int .u8 9,.int .u8 0,.int .i32 0,.str ⟨#[]⟩,.sl [],.sl [bh Q R S sl T U,bh 7 3 0 ⟨#[]⟩ [] [bh 4 0 0 (nm 119 (a+2)) [] [],bh 12 0 0 (nm 99 (a+1)) [[.str cR]] [bh h i j k l m]]],.int .i64 0,.int .i64 0,.sl [],.int .i64 0,.int .i64 0]:: [.int .u8 1,.sl [[.str (nm 122 (a+3))]],.str ⟨#[]⟩,.sl [],.bool false,.int .u8 13,.int .u8 0,.int .i32 0,.str (nm 99 (a+1)),.sl [[.str bT],[.str cR],[.str eK]],.sl [bh 12 0 0 (nm 99 (a+1)) [[.str bT]] [bh n o p q t u],bh 4 0 0 (nm 119 (a+2)) [] [],bh w x y z A B],.int .i64 0,.int .i64 0,.sl [],.int .i64 0,.int .i64 0]::bI d:=by
   have ac:=iB (.df (nm 99 (a+1)) e:: .df (nm 119 (a+2)) (.sg O (.bin 3 (.var (nm 119 (a+2))) (.mm (nm 99 (a+1)) cR f))):: .df (nm 122 (a+3)) (.merge (nm 99 (a+1)) bT cR eK (.mm (nm 99 (a+1)) bT b) (.var (nm 119 (a+2))) J):: []) d;rw[O6]at ac;exact ac
  refine DC.aR 8 W (j7 W (by simp only[aia];omega) (by simp) (by rw[<-SM];exact e8 _)) ?_;refine DC.aR 9 W (j7 W (by simp only[br,aia];omega) (by simp[ax]) (bD _)) ?_;refine DC.ret ⟨_,W,jN W,jd W,nU v av main V,.df (nm 99 (a+1)) e:: .df (nm 119 (a+2)) (.sg O (.bin 3 (.var (nm 119 (a+2))) (.mm (nm 99 (a+1)) cR f))):: .df (nm 122 (a+3)) (.merge (nm 99 (a+1)) bT cR eK (.mm (nm 99 (a+1)) bT b) (.var (nm 119 (a+2))) J)::d,eD 99 (a+1) .jh::⟨nm 119 (a+2),.int,some (cR,nm 99 (a+1)),false,.nil⟩::eD 122 (a+3) .int::N,V,by rw[SM];rfl,rfl,?_,by simp only[aia];omega,by simp only[aia];omega,⟨by have:=L.i;simp only;omega,L.le,by have:=L.n;simp only;omega,L.oO,by simp only;omega,by have:=L.q1;simp only;omega⟩⟩;refine .ze f b J O e _ QB PF am Yw Ol (.inr W) ?_;have e2:a+3=g9.n:=by omega
  rw[e2];rw[e2]at PO;exact PO
end
variable{zs:List Int}{w gq:Int}{gi gn:Nat}{g:GS}
def I4:∀d,d<=3->0<=qP d/\qP d<=4000
 |0,_=>by decide
 |d+1,h=>xB d (by omega)
theorem zg(a:0<=w)(b:gn<=3*gi)(h:Mv zs ⟨gi,gn,gq-1⟩ g):Bm zs (1+w) ⟨gi,gn,gq⟩ g:=by
 have b:=h.n;have c:=h.q;have a:=h.i;simp only at b c a;exact⟨a,h.le,by grind,by omega,by grind,by grind⟩
theorem B6{b:GS}(c:0<gq-1)(d:0<=w)(a:Mv zs ⟨gi,gn,gq-1⟩ b)(h:Bm zs w b g):Bm zs (1+w) ⟨gi,gn,gq⟩ g:=by
 have b:=a.n;have c:=a.q;have d:=a.i;simp only at b c d;have a:=h.i;have a:=h.n;have a:=h.q0;have a:=h.q1;exact⟨by grind,h.le,by grind,h.oO,by grind,by grind⟩
section
variable{zs:List Int}{v:D}(ht:Tape zs v)(av:Nat)(main:Bool)
include ht
theorem AY(t c:Nat)(D:t<=3)(Yv:c<=14)(N:av<=10)(u:∀d,t=d+1->pg zs v av main d)(z:∀a,c=a+1->vV zs v av main t a):vV zs v av main t c:=by
 intro s hr E K a p X F x Y Z Yy;obtain⟨g,h,f⟩:=X;simp only at F x Y Z Yy;have y:vT s:=⟨by omega,by omega,by omega⟩;have hW:=I4 t D;have A:0<=3*qP t:=by omega
 cases t with
 |zero=>
  refine DT.drop 2 (ah9 _)<|DT.ob func169 W ntmps169 W ?_;show DC _ _ _ _ ⟨_,_,[.box (fo v g),.box (jI h f av main)]⟩ _;refine dO [2,2,21] W<|Mq (cj W W W (by omega))<|dR [999] W<|Mq (cd W W W W W W)<|dL [2,0] W<|M5 [(5,.m (.d (.bM s.cells 0))),(2,.m (.d (.sl (ax a)))),(0,.m (.ref 1 0))] (GH v av main ⟨g,h,f-1⟩) W W<|dC [2,2] W<|M5 [(12,.m (.d (.int .i64 ((0:Nat):Int)))),(11,.m (gB 2 (bI []))),(5,.m (.d (.bM s.cells 0))),(2,.m (.d (.sl (ax a)))),(0,.m (.ref 1 0))] (d_ (GH v av main ⟨g,h,f-1⟩) 16 (bI [])) W W<|dC [3] W<|OY (λk l=>∃(i:Nat) (q:List aD) (j:GS),l=⟨[(12,.m (.d (.int .i64 (i:Int)))),(11,.m (gB 2 (bI q))),(5,.m (.d (.bM s.cells 0))),(2,.m (.d (.sl (ax a)))),(0,.m (.ref 1 0))],[],d_ (GH v av main j) 16 (bI q)⟩/\i<=a.length/\q.length=i/\sC s (a.take i) q/\Mv zs ⟨g,h,f-1⟩ j/\k=a.length-i) a.length _
   ⟨0,[],⟨g,h,f-1⟩,rfl,by omega,rfl,.nil,⟨rfl,rfl,ah9 _,F⟩,rfl⟩ W ?_
  rintro V s1 ⟨i,q,j,rfl,hi,H,m,k,rfl⟩;refine dO [2,100] W<|Mq (aY W W W) ?_;rw[br];refine dL [] W<|DC.cond W (λI=>?_) (λI=>?_)
  .have n:i<a.length:=by grind
   have l:=jP n;have o:=ah5 n;generalize a[i]=w at l o;obtain⟨x0,x1,x2,x3,x4,x5,x6,x7,J,_⟩:=jQ w;rw[J]at l;obtain⟨r1,K1,⟨e,r,rfl,rfl,L,M⟩,B⟩:=fy ht av main 3 (by omega) s y w.ty true j k.le;obtain⟨O,P,Q,R,S,T,C⟩:=e.shape;rw[C]at B;have U:=eO (by rfl) B 16 (bI q);have G:bI (q++[.df w.name e])=bI q++[[.int .u8 1,.sl [[.str w.name]],.str ⟨#[]⟩,.sl [],.bool false,.int .u8 O,.int .u8 P,.int .i32 Q,.str R,.sl S,.sl T,.int .i64 0,.int .i64 0,.sl [],.int .i64 0,.int .i64 0]]:=by rw[iB,bI,bI,aD.cells,C];rfl
   refine dC [3] W ?_;apply Mz fK
   .intro s0 Oo;refine fR 3 W<|bE W W W (ah7 i) l W<|fR 7 W<|bE W W W (ah7 i) l W<|fR 2 W<|bB U W W<|fR 2 W<|l9 (H0:=GH v av main r) W W W W (by rfl) W (by rw[ei];omega) (by rw[ei];omega)<|fR 1 W<|TF.nil ⟨by kernel_rfl,rfl⟩
   refine dO [2,103] W<|Mq (bc W W W (by omega))<|dL [] W<|bf (k':=a.length-(i+1)) (by omega) ⟨i+1,q++[.df w.name e],r,rfl,by omega,by simp[H],by rw[o];exact .snoc m w e L,k.trans M,W⟩ (by rw[G];rfl) (kc W (kc (by rw[G];rfl) W))
  .refine DC.exit ?_;have n:i=a.length:=by grind
   subst n;rw[aih]at m;obtain⟨o,r,w⟩:=l_ v av main j 16 (bI q);refine dC [2] W<|DC.aR 8 W (jo (GH v av main j) 16 (bI q) (e8 q)) ?_;have l:=k.n;simp only at l;exact DC.ret ⟨_,W,o,jd W,r,q,[],j,W,w,by simp only;rw[l];exact .uG m,by omega,by simp,zg A x k⟩
 |succ d=>
  have k:decide (((d+1:Nat):Int)>0)=true:=aiS (by omega);rcases Int.lt_or_le 0 (f-1)with B|B
  rotate_left
  .skip
   refine DT.drop 2 (ah9 _)<|DT.ob func169 W ntmps169 W ?_;show DC _ _ _ _ ⟨_,_,[.box (fo v g),.box (jI h f av main)]⟩ _;refine dO [2,2,21] W<|Mq (cj W W W (by omega))<|dR [999] W<|Mq (cd W W W W W W)<|dR [2,25] W<|Mq (dW k W W W W)<|dR [31] W ?_
   first|refine Mq (bN W W) ?_|(refine Mq (az W) ?_;refine Mq (dW (ai1 (by omega)) W W W W) ?_)
   refine dL [0] W<|M5 [(5,.m (.d (.bM s.cells 0))),(2,.m (.d (.sl (ax a)))),(0,.m (.ref 1 0))] (GH v av main ⟨g,h,f-1⟩) W W<|dC [2,2] W<|M5 [(12,.m (.d (.int .i64 ((0:Nat):Int)))),(11,.m (gB 2 (bI []))),(5,.m (.d (.bM s.cells 0))),(2,.m (.d (.sl (ax a)))),(0,.m (.ref 1 0))] (d_ (GH v av main ⟨g,h,f-1⟩) 16 (bI [])) W W<|dC [3] W<|OY (λk l=>∃(i:Nat) (q:List aD) (j:GS),l=⟨[(12,.m (.d (.int .i64 (i:Int)))),(11,.m (gB 2 (bI q))),(5,.m (.d (.bM s.cells 0))),(2,.m (.d (.sl (ax a)))),(0,.m (.ref 1 0))],[],d_ (GH v av main j) 16 (bI q)⟩/\i<=a.length/\q.length=i/\sC s (a.take i) q/\Mv zs ⟨g,h,f-1⟩ j/\k=a.length-i) a.length _
    ⟨0,[],⟨g,h,f-1⟩,rfl,by omega,rfl,.nil,⟨rfl,rfl,ah9 _,F⟩,rfl⟩ W ?_
   rintro ac s1 ⟨r,q,G,rfl,hi,U,L,H,rfl⟩;refine dO [2,100] W<|Mq (aY W W W) ?_;rw[br];refine dL [] W<|DC.cond W (λV=>?_) (λV=>?_)
   .have O:r<a.length:=by grind
    have I:=jP O;have P:=ah5 O;generalize a[r]=w at I P;obtain⟨x0,x1,x2,x3,x4,x5,x6,x7,hw,_⟩:=jQ w;rw[hw]at I;obtain⟨r1,K1,⟨e,Q,rfl,rfl,Ol,NK⟩,R⟩:=fy ht av main 3 (by omega) s y w.ty true G H.le;obtain⟨ke,OL,ne,se,ae,be,S⟩:=e.shape;rw[S]at R;have Sa:=eO (by rfl) R 16 (bI q);have T:bI (q++[.df w.name e])=bI q++[[.int .u8 1,.sl [[.str w.name]],.str ⟨#[]⟩,.sl [],.bool false,.int .u8 ke,.int .u8 OL,.int .i32 ne,.str se,.sl ae,.sl be,.int .i64 0,.int .i64 0,.sl [],.int .i64 0,.int .i64 0]]:=by rw[iB,bI,bI,aD.cells,S];rfl
    refine dC [3] W ?_;apply Mz fK
    .intro s0 Oo;refine fR 3 W<|bE W W W (ah7 r) I W<|fR 7 W<|bE W W W (ah7 r) I W<|fR 2 W<|bB Sa W W<|fR 2 W<|l9 (H0:=GH v av main Q) W W W W (by rfl) W (by rw[ei];omega) (by rw[ei];omega)<|fR 1 W<|TF.nil ⟨by kernel_rfl,rfl⟩
    refine dO [2,103] W<|Mq (bc W W W (by omega))<|dL [] W<|bf (k':=a.length-(r+1)) (by omega) ⟨r+1,q++[.df w.name e],Q,rfl,by omega,by simp[U],by rw[P];exact .snoc L w e Ol,H.trans NK,W⟩ (by rw[T];rfl) (kc W (kc (by rw[T];rfl) W))
   .refine DC.exit ?_;have I:r=a.length:=by grind
    subst I;rw[aih]at L;obtain⟨O,P,Q⟩:=l_ v av main G 16 (bI q);refine dC [2] W<|DC.aR 8 W (jo (GH v av main G) 16 (bI q) (e8 q)) ?_;have w:=H.n;simp only at w;exact DC.ret ⟨_,W,O,jd W,P,q,[],G,W,Q,by simp only;rw[w];exact .uG L,by omega,by simp,zg A x H⟩
  have l:=aiS (by omega);obtain⟨c,rfl⟩:∃a,c=a+1:=⟨c-1,by omega⟩;have z:=z c W;have u:=u d W;have C:B5 (800-200*d) s:=⟨by omega,E,by omega⟩;have N8:((d+1:Nat):Int)-1=(d:Int):=by omega
  obtain⟨r0,K0,⟨n,j,rfl,rfl,M⟩,m⟩:=fh ht av main 9 (by omega) (by omega) ⟨g,h,f-1⟩ F;have hj:=M.lt;have i:=M.mv;have o:=i.n;have XE:=i.q;have ZL:=i.i;have J:=M.oO;simp only at o XE ZL J;have QD:n=0\/n=1\/n=2\/n=3\/n=4\/n=5\/n=6\/n=7\/n=8:=by omega
  rcases QD with rfl|rfl|rfl|rfl|rfl|rfl|rfl|rfl|rfl
  .skip
   obtain⟨L,O,⟨r,G,rfl,rfl,H,I⟩,q⟩:=pW ht av main d (by omega) u s C a p j i.le (by omega) (by omega) (by omega);obtain⟨P,Q,R,S,T,U,V,a7,a8,a9,b0,b1,b2,b3,b4,b5,w⟩:=rK r.len;rw[w]at q;refine DT.ob func169 W ntmps169 W ?_;show DC _ _ _ _ ⟨_,_,[.box (fo v g),.box (jI h f av main)]⟩ _;refine dO [2,2,21] W<|Mq (cj W W W (by omega))<|dR [999] W<|Mq (cd W W W W W W)<|dR [2,25] W<|Mq (dW k W W W W)<|dR [31] W ?_
   first|refine Mq (bN W W) ?_|(refine Mq (az W) ?_;refine Mq (dW l W W W W) ?_)
   refine dR [1,2,37] W<|Mq (aA m W W)<|dR [3,2,1,1,2,45] W<|Mq (aA q W W)<|dL [] W<|DC.ret ⟨_,W,[r],[],G,by rw[bI,bI,w];rfl,rfl,by rw[<-o];exact H,by simp,by simp,B6 B (by grind) i I⟩
  .skip
   obtain⟨L,O,⟨r,G,rfl,rfl,H,I⟩,q⟩:=pW ht av main d (by omega) u s C a p j i.le (by omega) (by omega) (by omega);obtain⟨P,Q,R,S,T,U,V,a7,a8,a9,b0,b1,b2,b3,b4,b5,w⟩:=rK r.len;rw[w]at q;refine DT.ob func169 W ntmps169 W ?_;show DC _ _ _ _ ⟨_,_,[.box (fo v g),.box (jI h f av main)]⟩ _;refine dO [2,2,21] W<|Mq (cj W W W (by omega))<|dR [999] W<|Mq (cd W W W W W W)<|dR [2,25] W<|Mq (dW k W W W W)<|dR [31] W ?_
   first|refine Mq (bN W W) ?_|(refine Mq (az W) ?_;refine Mq (dW l W W W W) ?_)
   refine dR [1,2,37] W<|Mq (aA m W W)<|dR [3,2,0,2,1,2,45] W<|Mq (aA q W W)<|dL [] W<|DC.ret ⟨_,W,[r],[],G,by rw[bI,bI,w];rfl,rfl,by rw[<-o];exact H,by simp,by simp,B6 B (by grind) i I⟩
  .skip
   obtain⟨L,O,⟨r,G,rfl,rfl,H,I⟩,q⟩:=Dd ht av main d (by omega) u s C a p j i.le (by omega) (by omega) (by omega);obtain⟨P,Q,R,S,T,U,V,a7,a8,a9,b0,b1,b2,b3,b4,b5,w⟩:=rK r.len;rw[w]at q;refine DT.ob func169 W ntmps169 W ?_;show DC _ _ _ _ ⟨_,_,[.box (fo v g),.box (jI h f av main)]⟩ _;refine dO [2,2,21] W<|Mq (cj W W W (by omega))<|dR [999] W<|Mq (cd W W W W W W)<|dR [2,25] W<|Mq (dW k W W W W)<|dR [31] W ?_
   first|refine Mq (bN W W) ?_|(refine Mq (az W) ?_;refine Mq (dW l W W W W) ?_)
   refine dR [1,2,37] W<|Mq (aA m W W)<|dR [3,2,0,2,0,2,1,1,2,54] W<|Mq (aA q W W)<|dL [] W<|DC.ret ⟨_,W,[r],[],G,by rw[bI,bI,w];rfl,rfl,by rw[<-o];exact H,by simp,by simp,B6 B (by grind) i I⟩
  .skip
   obtain⟨L,O,⟨r,G,rfl,rfl,H,I⟩,q⟩:=Dd ht av main d (by omega) u s C a p j i.le (by omega) (by omega) (by omega);obtain⟨P,Q,R,S,T,U,V,a7,a8,a9,b0,b1,b2,b3,b4,b5,w⟩:=rK r.len;rw[w]at q;refine DT.ob func169 W ntmps169 W ?_;show DC _ _ _ _ ⟨_,_,[.box (fo v g),.box (jI h f av main)]⟩ _;refine dO [2,2,21] W<|Mq (cj W W W (by omega))<|dR [999] W<|Mq (cd W W W W W W)<|dR [2,25] W<|Mq (dW k W W W W)<|dR [31] W ?_
   first|refine Mq (bN W W) ?_|(refine Mq (az W) ?_;refine Mq (dW l W W W W) ?_)
   refine dR [1,2,37] W<|Mq (aA m W W)<|dR [3,2,0,2,0,2,0,2,1,2,54] W<|Mq (aA q W W)<|dL [] W<|DC.ret ⟨_,W,[r],[],G,by rw[bI,bI,w];rfl,rfl,by rw[<-o];exact H,by simp,by simp,B6 B (by grind) i I⟩
  .skip
   obtain⟨S,T,⟨e,L,rfl,rfl,P,r⟩,w⟩:=fy ht av main 2 (by omega) s y .bool true j i.le;obtain⟨U,V,ne,se,ae,be,G⟩:=e.shape;rw[G]at w;have Q:=r.n;have ZM:=r.q;have XF:=r.i;obtain⟨r2,K2,⟨b,O,rfl,rfl,R,q⟩,H⟩:=u s C a p L r.le (by omega) (by omega) (by omega);obtain⟨bv,bq,I⟩:=b.shape;rw[I]at H;refine DT.ob func169 W ntmps169 W ?_;show DC _ _ _ _ ⟨_,_,[.box (fo v g),.box (jI h f av main)]⟩ _;refine dO [2,2,21] W<|Mq (cj W W W (by omega))<|dR [999] W<|Mq (cd W W W W W W)<|dR [2,25] W<|Mq (dW k W W W W)<|dR [31] W ?_
   first|refine Mq (bN W W) ?_|(refine Mq (az W) ?_;refine Mq (dW l W W W W) ?_)
   refine dR [1,2,37] W<|Mq (aA m W W)<|dL [3,2,0,2,0,2,0,2,0,2,1] W ?_;apply Mz fK
   .intro s0 Oo;refine fR 2 W<|bm jr W W<|bB w W W<|fR 3 W<|TF.nil ⟨by kernel_rfl,rfl⟩
   refine dO [2,67] W<|Mq (cj W W W (by omega)) ?_;rw[N8];refine dR [68] W<|Mq (aA H W W)<|dL [2] W ?_;have TO:=q.q0;have W0:=q.q1;have P':=q.i;have RR:=q.n;have Xq:=xB d (by omega);exact DC.ret ⟨_,W,[.reset e b],[],O,by rw[bI,bI,aD.cells,G,I];rfl,rfl,.reset P (by simp only;rw[<-o,<-Q];exact R),by simp,by simp,⟨by grind,q.le,by grind,q.oO,by simp only[qP];omega,by grind⟩⟩
  .skip
   rcases aiO av with V|V
   .skip
    refine DT.drop 2 (ah9 _)<|DT.ob func169 W ntmps169 W ?_;show DC _ _ _ _ ⟨_,_,[.box (fo v g),.box (jI h f av main)]⟩ _;refine dO [2,2,21] W<|Mq (cj W W W (by omega))<|dR [999] W<|Mq (cd W W W W W W)<|dR [2,25] W<|Mq (dW k W W W W)<|dR [31] W ?_
    first|refine Mq (bN W W) ?_|(refine Mq (az W) ?_;refine Mq (dW l W W W W) ?_)
    refine dR [1,2,37] W<|Mq (aA m W W)<|dR [3,2,0,2,0,2,0,2,0,2,0,2,1,1,2,81] W<|Mq (dW (ai1 (by omega)) W W W W)<|dL [0] W<|M5 [(5,.m (.d (.bM s.cells 0))),(2,.m (.d (.sl (ax a)))),(0,.m (.ref 1 0))] (GH v av main j) W W<|dC [2,2] W<|M5 [(12,.m (.d (.int .i64 ((0:Nat):Int)))),(11,.m (gB 2 (bI []))),(5,.m (.d (.bM s.cells 0))),(2,.m (.d (.sl (ax a)))),(0,.m (.ref 1 0))] (d_ (GH v av main j) 16 (bI [])) W W<|dC [3] W<|OY (λk l=>∃(i:Nat) (q:List aD) (j:GS),l=⟨[(12,.m (.d (.int .i64 (i:Int)))),(11,.m (gB 2 (bI q))),(5,.m (.d (.bM s.cells 0))),(2,.m (.d (.sl (ax a)))),(0,.m (.ref 1 0))],[],d_ (GH v av main j) 16 (bI q)⟩/\i<=a.length/\q.length=i/\sC s (a.take i) q/\Mv zs ⟨g,h,f-1⟩ j/\k=a.length-i) a.length _
     ⟨0,[],j,rfl,by omega,rfl,.nil,i,rfl⟩ W ?_
    rintro ac s1 ⟨r,q,G,rfl,hi,TB,L,H,rfl⟩;refine dO [2,100] W<|Mq (aY W W W) ?_;rw[br];refine dL [] W<|DC.cond W (λO=>?_) (λO=>?_)
    .have P:r<a.length:=by grind
     clear O;have I:=jP P;have Q:=ah5 P;generalize a[r]=w at I Q;obtain⟨x0,x1,x2,x3,x4,x5,x6,x7,hw,_⟩:=jQ w;rw[hw]at I;obtain⟨r1,K1,⟨e,R,rfl,rfl,Ol,NK⟩,S⟩:=fy ht av main 3 (by omega) s y w.ty true G H.le;obtain⟨ke,OL,ne,se,ae,be,T⟩:=e.shape;rw[T]at S;have Sa:=eO (by rfl) S 16 (bI q);have U:bI (q++[.df w.name e])=bI q++[[.int .u8 1,.sl [[.str w.name]],.str ⟨#[]⟩,.sl [],.bool false,.int .u8 ke,.int .u8 OL,.int .i32 ne,.str se,.sl ae,.sl be,.int .i64 0,.int .i64 0,.sl [],.int .i64 0,.int .i64 0]]:=by rw[iB,bI,bI,aD.cells,T];rfl
     refine dC [3] W ?_;apply Mz fK
     .intro s0 Oo;refine fR 3 W<|bE W W W (ah7 r) I W<|fR 7 W<|bE W W W (ah7 r) I W<|fR 2 W<|bB Sa W W<|fR 2 W<|l9 (H0:=GH v av main R) W W W W (by rfl) W (by rw[ei];omega) (by rw[ei];omega)<|fR 1 W<|TF.nil ⟨by kernel_rfl,rfl⟩
     refine dO [2,103] W<|Mq (bc W W W (by omega))<|dL [] W<|bf (k':=a.length-(r+1)) (by omega) ⟨r+1,q++[.df w.name e],R,rfl,by omega,by simp[TB],by rw[Q];exact .snoc L w e Ol,H.trans NK,W⟩ (by rw[U];rfl) (kc W (kc (by rw[U];rfl) W))
    .refine DC.exit ?_;have I:r=a.length:=by grind
     subst I;rw[aih]at L;obtain⟨P,Q,R⟩:=l_ v av main G 16 (bI q);refine dC [2] W<|DC.aR 8 W (jo (GH v av main G) 16 (bI q) (e8 q)) ?_;have w:=H.n;simp only at w;exact DC.ret ⟨_,W,P,jd W,Q,q,[],G,W,R,by simp only;rw[w];exact .uG L,by omega,by simp,zg A x H⟩
   .skip
    have ac:=J (by omega);obtain⟨L,O,⟨H,I,r,rfl,rfl,G,T,U,q⟩,w⟩:=Df ht av main (d+1) c D (by omega) z s (by omega) E K a p V N j i.le (by omega) (by omega) (by omega);refine DT.ob func169 W ntmps169 W ?_;show DC _ _ _ _ ⟨_,_,[.box (fo v g),.box (jI h f av main)]⟩ _;refine dO [2,2,21] W<|Mq (cj W W W (by omega))<|dR [999] W<|Mq (cd W W W W W W)<|dR [2,25] W<|Mq (dW k W W W W)<|dR [31] W ?_
    first|refine Mq (bN W W) ?_|(refine Mq (az W) ?_;refine Mq (dW l W W W W) ?_)
    refine dR [1,2,37] W<|Mq (aA m W W)<|dR [3,2,0,2,0,2,0,2,0,2,0,2,1,1,2,81] W<|Mq (dW (aiS (by omega)) W W W W)<|dR [1,2,86] W<|Mq (aA w W W)<|dL [] W ?_;have P:=q.q0;have Q:=q.q1;have R:=q.i;have S:=q.n;exact DC.ret ⟨_,W,H,I,r,W,W,by rw[<-o];exact G,by omega,by omega,⟨by grind,q.le,by grind,q.oO,by grind,by grind⟩⟩
  .skip
   rcases aiO av with V|V
   .skip
    refine DT.drop 2 (ah9 _)<|DT.ob func169 W ntmps169 W ?_;show DC _ _ _ _ ⟨_,_,[.box (fo v g),.box (jI h f av main)]⟩ _;refine dO [2,2,21] W<|Mq (cj W W W (by omega))<|dR [999] W<|Mq (cd W W W W W W)<|dR [2,25] W<|Mq (dW k W W W W)<|dR [31] W ?_
    first|refine Mq (bN W W) ?_|(refine Mq (az W) ?_;refine Mq (dW l W W W W) ?_)
    refine dR [1,2,37] W<|Mq (aA m W W)<|dR [3,2,0,2,0,2,0,2,0,2,0,2,0,2,1,2,81] W<|Mq (dW (ai1 (by omega)) W W W W)<|dL [0] W<|M5 [(5,.m (.d (.bM s.cells 0))),(2,.m (.d (.sl (ax a)))),(0,.m (.ref 1 0))] (GH v av main j) W W<|dC [2,2] W<|M5 [(12,.m (.d (.int .i64 ((0:Nat):Int)))),(11,.m (gB 2 (bI []))),(5,.m (.d (.bM s.cells 0))),(2,.m (.d (.sl (ax a)))),(0,.m (.ref 1 0))] (d_ (GH v av main j) 16 (bI [])) W W<|dC [3] W<|OY (λk l=>∃(i:Nat) (q:List aD) (j:GS),l=⟨[(12,.m (.d (.int .i64 (i:Int)))),(11,.m (gB 2 (bI q))),(5,.m (.d (.bM s.cells 0))),(2,.m (.d (.sl (ax a)))),(0,.m (.ref 1 0))],[],d_ (GH v av main j) 16 (bI q)⟩/\i<=a.length/\q.length=i/\sC s (a.take i) q/\Mv zs ⟨g,h,f-1⟩ j/\k=a.length-i) a.length _
     ⟨0,[],j,rfl,by omega,rfl,.nil,i,rfl⟩ W ?_
    rintro ac s1 ⟨r,q,G,rfl,hi,TB,L,H,rfl⟩;refine dO [2,100] W<|Mq (aY W W W) ?_;rw[br];refine dL [] W<|DC.cond W (λO=>?_) (λO=>?_)
    .have P:r<a.length:=by grind
     clear O;have I:=jP P;have Q:=ah5 P;generalize a[r]=w at I Q;obtain⟨x0,x1,x2,x3,x4,x5,x6,x7,hw,_⟩:=jQ w;rw[hw]at I;obtain⟨r1,K1,⟨e,R,rfl,rfl,Ol,NK⟩,S⟩:=fy ht av main 3 (by omega) s y w.ty true G H.le;obtain⟨ke,OL,ne,se,ae,be,T⟩:=e.shape;rw[T]at S;have Sa:=eO (by rfl) S 16 (bI q);have U:bI (q++[.df w.name e])=bI q++[[.int .u8 1,.sl [[.str w.name]],.str ⟨#[]⟩,.sl [],.bool false,.int .u8 ke,.int .u8 OL,.int .i32 ne,.str se,.sl ae,.sl be,.int .i64 0,.int .i64 0,.sl [],.int .i64 0,.int .i64 0]]:=by rw[iB,bI,bI,aD.cells,T];rfl
     refine dC [3] W ?_;apply Mz fK
     .intro s0 Oo;refine fR 3 W<|bE W W W (ah7 r) I W<|fR 7 W<|bE W W W (ah7 r) I W<|fR 2 W<|bB Sa W W<|fR 2 W<|l9 (H0:=GH v av main R) W W W W (by rfl) W (by rw[ei];omega) (by rw[ei];omega)<|fR 1 W<|TF.nil ⟨by kernel_rfl,rfl⟩
     refine dO [2,103] W<|Mq (bc W W W (by omega))<|dL [] W<|bf (k':=a.length-(r+1)) (by omega) ⟨r+1,q++[.df w.name e],R,rfl,by omega,by simp[TB],by rw[Q];exact .snoc L w e Ol,H.trans NK,W⟩ (by rw[U];rfl) (kc W (kc (by rw[U];rfl) W))
    .refine DC.exit ?_;have I:r=a.length:=by grind
     subst I;rw[aih]at L;obtain⟨P,Q,R⟩:=l_ v av main G 16 (bI q);refine dC [2] W<|DC.aR 8 W (jo (GH v av main G) 16 (bI q) (e8 q)) ?_;have w:=H.n;simp only at w;exact DC.ret ⟨_,W,P,jd W,Q,q,[],G,W,R,by simp only;rw[w];exact .uG L,by omega,by simp,zg A x H⟩
   .skip
    have ac:=J (by omega);obtain⟨L,O,⟨H,I,r,rfl,rfl,G,T,U,q⟩,w⟩:=Df ht av main (d+1) c D (by omega) z s (by omega) E K a p V N j i.le (by omega) (by omega) (by omega);refine DT.ob func169 W ntmps169 W ?_;show DC _ _ _ _ ⟨_,_,[.box (fo v g),.box (jI h f av main)]⟩ _;refine dO [2,2,21] W<|Mq (cj W W W (by omega))<|dR [999] W<|Mq (cd W W W W W W)<|dR [2,25] W<|Mq (dW k W W W W)<|dR [31] W ?_
    first|refine Mq (bN W W) ?_|(refine Mq (az W) ?_;refine Mq (dW l W W W W) ?_)
    refine dR [1,2,37] W<|Mq (aA m W W)<|dR [3,2,0,2,0,2,0,2,0,2,0,2,0,2,1,2,81] W<|Mq (dW (aiS (by omega)) W W W W)<|dR [1,2,86] W<|Mq (aA w W W)<|dL [] W ?_;have P:=q.q0;have Q:=q.q1;have R:=q.i;have S:=q.n;exact DC.ret ⟨_,W,H,I,r,W,W,by rw[<-o];exact G,by omega,by omega,⟨by grind,q.le,by grind,q.oO,by grind,by grind⟩⟩
  .skip
   have V:=J (by omega);obtain⟨L,O,⟨H,I,r,rfl,rfl,G,T,U,q⟩,w⟩:=Dg ht av main (d+1) c D (by omega) z s (by omega) E K a p j i.le (by omega) (by omega) (by omega);refine DT.ob func169 W ntmps169 W ?_;show DC _ _ _ _ ⟨_,_,[.box (fo v g),.box (jI h f av main)]⟩ _;refine dO [2,2,21] W<|Mq (cj W W W (by omega))<|dR [999] W<|Mq (cd W W W W W W)<|dR [2,25] W<|Mq (dW k W W W W)<|dR [31] W ?_
   first|refine Mq (bN W W) ?_|(refine Mq (az W) ?_;refine Mq (dW l W W W W) ?_)
   refine dR [1,2,37] W<|Mq (aA m W W)<|dR [3,2,0,2,0,2,0,2,0,2,0,2,0,2,0,2,1,2,95] W<|Mq (aA w W W)<|dL [] W ?_;have P:=q.q0;have Q:=q.q1;have R:=q.i;have S:=q.n;exact DC.ret ⟨_,W,H,I,r,W,W,by rw[<-o];exact G,by omega,by omega,⟨by grind,q.le,by grind,q.oO,by grind,by grind⟩⟩
  .skip
   refine DT.drop 2 (ah9 _)<|DT.ob func169 W ntmps169 W ?_;show DC _ _ _ _ ⟨_,_,[.box (fo v g),.box (jI h f av main)]⟩ _;refine dO [2,2,21] W<|Mq (cj W W W (by omega))<|dR [999] W<|Mq (cd W W W W W W)<|dR [2,25] W<|Mq (dW k W W W W)<|dR [31] W ?_
   first|refine Mq (bN W W) ?_|(refine Mq (az W) ?_;refine Mq (dW l W W W W) ?_)
   refine dR [1,2,37] W<|Mq (aA m W W)<|dL [3,2,0,2,0,2,0,2,0,2,0,2,0,2,0,2,0] W<|M5 [(5,.m (.d (.bM s.cells 0))),(2,.m (.d (.sl (ax a)))),(0,.m (.ref 1 0))] (GH v av main j) W W<|dC [2,2] W<|M5 [(12,.m (.d (.int .i64 ((0:Nat):Int)))),(11,.m (gB 2 (bI []))),(5,.m (.d (.bM s.cells 0))),(2,.m (.d (.sl (ax a)))),(0,.m (.ref 1 0))] (d_ (GH v av main j) 16 (bI [])) W W<|dC [3] W<|OY (λk l=>∃(i:Nat) (q:List aD) (j:GS),l=⟨[(12,.m (.d (.int .i64 (i:Int)))),(11,.m (gB 2 (bI q))),(5,.m (.d (.bM s.cells 0))),(2,.m (.d (.sl (ax a)))),(0,.m (.ref 1 0))],[],d_ (GH v av main j) 16 (bI q)⟩/\i<=a.length/\q.length=i/\sC s (a.take i) q/\Mv zs ⟨g,h,f-1⟩ j/\k=a.length-i) a.length _
    ⟨0,[],j,rfl,by omega,rfl,.nil,i,rfl⟩ W ?_
   rintro ac s1 ⟨r,q,G,rfl,hi,V,L,H,rfl⟩;refine dO [2,100] W<|Mq (aY W W W) ?_;rw[br];refine dL [] W<|DC.cond W (λO=>?_) (λO=>?_)
   .have P:r<a.length:=by grind
    clear O;have I:=jP P;have Q:=ah5 P;generalize a[r]=w at I Q;obtain⟨x0,x1,x2,x3,x4,x5,x6,x7,hw,_⟩:=jQ w;rw[hw]at I;obtain⟨r1,K1,⟨e,R,rfl,rfl,Ol,NK⟩,S⟩:=fy ht av main 3 (by omega) s y w.ty true G H.le;obtain⟨ke,OL,ne,se,ae,be,T⟩:=e.shape;rw[T]at S;have Sa:=eO (by rfl) S 16 (bI q);have U:bI (q++[.df w.name e])=bI q++[[.int .u8 1,.sl [[.str w.name]],.str ⟨#[]⟩,.sl [],.bool false,.int .u8 ke,.int .u8 OL,.int .i32 ne,.str se,.sl ae,.sl be,.int .i64 0,.int .i64 0,.sl [],.int .i64 0,.int .i64 0]]:=by rw[iB,bI,bI,aD.cells,T];rfl
    refine dC [3] W ?_;apply Mz fK
    .intro s0 Oo;refine fR 3 W<|bE W W W (ah7 r) I W<|fR 7 W<|bE W W W (ah7 r) I W<|fR 2 W<|bB Sa W W<|fR 2 W<|l9 (H0:=GH v av main R) W W W W (by rfl) W (by rw[ei];omega) (by rw[ei];omega)<|fR 1 W<|TF.nil ⟨by kernel_rfl,rfl⟩
    refine dO [2,103] W<|Mq (bc W W W (by omega))<|dL [] W<|bf (k':=a.length-(r+1)) (by omega) ⟨r+1,q++[.df w.name e],R,rfl,by omega,by simp[V],by rw[Q];exact .snoc L w e Ol,H.trans NK,W⟩ (by rw[U];rfl) (kc W (kc (by rw[U];rfl) W))
   .refine DC.exit ?_;have I:r=a.length:=by grind
    subst I;rw[aih]at L;obtain⟨P,Q,R⟩:=l_ v av main G 16 (bI q);refine dC [2] W<|DC.aR 8 W (jo (GH v av main G) 16 (bI q) (e8 q)) ?_;have w:=H.n;simp only at w;exact DC.ret ⟨_,W,P,jd W,Q,q,[],G,W,R,by simp only;rw[w];exact .uG L,by omega,by simp,zg A x H⟩
def B7(a:Nat)(b:a<=3)(f:av<=10)(g:∀d,a=d+1->pg zs v av main d):∀c,c<=14->vV zs v av main a c
 |0,h=>AY ht av main a 0 b h f g (λa e=>by omega)
 |c+1,i=>AY ht av main a (c+1) b i f g (λh e=>by
   have j:h=c:=by omega
   subst j;exact B7 a b f g h (by omega))
end
end Go.Proofs
namespace Go.Proofs
open Go.Mt Go.Mk
variable{H:Hp}{Q8 P4:List (List D)}{m1 m2:M}{n2:Nat}
def L2(H:Hp)(c:List (List D))(d:M)(e:Nat)(f:List (List D))(g:M):Prop:=∃a b,Acc 15 a c d H/\Acc e b f g H/\2<=a/\2<=b/\a≠b
def L2.FR(h:L2 H Q8 m1 n2 P4 m2)(n:Nat):L2 H Q8 m1 n [] (.d (.sl [])):=by
 obtain⟨a,b,c,g,d,e,f⟩:=h;exact⟨a,b,c,.inl ⟨W,W⟩,d,e,f⟩
def L2.EV(h:L2 H Q8 m1 n2 P4 m2)(a:∀r∈Q8,r.length=15):ep H m1=some (.sl Q8):=by
 obtain⟨c,d,b,_⟩:=h;exact b.view a
def L2.zh(h:L2 H Q8 m1 n2 P4 m2)(a:∀r∈P4,r.length=n2):ep H m2=some (.sl P4):=by
 obtain⟨c,d,_,b,_⟩:=h;exact b.view a
def zi(a b:List (List D)):aM (a++b)=aM a++aM b:=by simp[aM]
theorem Dh{n i:Nat}{rs rows:List (List D)}{m:M}(h:Acc n i rs m H)(hi:2<=i)(c:2<=H.length):
  ∃a,Acc n a (rs++rows) (cJ m H rows) (ef n m H rows)/\2<=a/\(a=i\/a=H.length)/\(∀j ob,(rs≠[]->j≠i)->H[j]?=some ob->(ef n m H rows)[j]?=some ob)/\H.length<=(ef n m H rows).length/\∀v av a g F,H=GH v av a g++F->∃b,ef n m H rows=GH v av a g++b:=by
 rcases h with⟨rfl,rfl⟩|⟨d,a,rfl,b⟩
 .cases rows with
  |nil=>exact⟨i,.inl ⟨W,W⟩,hi,.inl W,λj ob _ h=>h,ah9 _,λv av a g F h=>⟨F,h⟩⟩
  |cons q r=>
   refine⟨H.length,.inr ⟨by simp,0,by simp[cJ,s5],by simp[ef,jt]⟩,c,.inr W,λj ob _ h=>?_,by simp[ef,jt],λv av a g F h=>⟨F++[.row true n 0 (aM (q::r))],by rw[h];simp[ef,jt]⟩⟩;simp only[ef,jt];rw[aim (nJ h)];exact h
 .have f:=nJ b;have e:ef n (.bZ i a rs.length) H rows=H.set i (.row true n (a+1) (aM rs++aM rows)):=by simp only[ef,b]
  rw[e];refine⟨i,.inr ⟨by simp[d],a+1,by simp[cJ],by rw[zi];simp[f]⟩,hi,.inl W,λj ob a h=>by grind,by simp,λv av l g F h=>?_⟩;obtain⟨k,rfl⟩:∃k,i=2+k:=⟨i-2,by omega⟩;refine⟨F.set k (.row true n (a+1) (aM rs++aM rows)),?_⟩;rw[h,aki _ _ (by grind)];show _++F.set (2+k-2) _=_;rw[show 2+k-2=k by omega]
section
variable{v:D}{av:Nat}{main:Bool}{g:GS}{F:Hp}{Q8 P4 rows:List (List D)}{m1 m2:M}{n2:Nat}
def L2.wY(h:L2 (GH v av main g++F) Q8 m1 n2 P4 m2)(rows:List (List D)):∃a,ef n2 m2 (GH v av main g++F) rows=GH v av main g++a/\L2 (GH v av main g++a) Q8 m1 n2 (P4++rows) (cJ m2 (GH v av main g++F) rows):=by
 obtain⟨d,s,a,m,n,o,f⟩:=h;obtain⟨b,c,i,p,j,q,r⟩:=Dh (rows:=rows) m o (by simp);obtain⟨l,k⟩:=r _ _ _ _ _ W;rw[k]at c j q;refine⟨l,k,?_⟩;by_cases e:Q8=[]
 .subst e;exact⟨b+1,b,a.any,c,by omega,i,by omega⟩
 .have t:=a.lt e;refine⟨d,b,a.other (λa b=>j d a (λ_=>f) b),c,n,i,?_⟩;rcases p with rfl|rfl
  .exact f
  .omega
def L2.I5(h:L2 (GH v av main g++F) Q8 m1 n2 P4 m2)(rows:List (List D)):∃a,ef 15 m1 (GH v av main g++F) rows=GH v av main g++a/\L2 (GH v av main g++a) (Q8++rows) (cJ m1 (GH v av main g++F) rows) n2 P4 m2:=by
 obtain⟨s,d,m,a,n,o,f⟩:=h;obtain⟨b,c,i,p,j,q,r⟩:=Dh (rows:=rows) m n (by simp);obtain⟨l,k⟩:=r _ _ _ _ _ W;rw[k]at c j q;refine⟨l,k,?_⟩;by_cases e:P4=[]
 .subst e;exact⟨b,b+1,c,a.any,i,by omega,by omega⟩
 .have t:=a.lt e;refine⟨b,d,c,a.other (λa b=>j d a (λ_=>ajs f) b),i,o,?_⟩;rcases p with rfl|rfl
  .exact f
  .omega
theorem L2.call{g':GS}(h:L2 (GH v av main g++F) Q8 m1 n2 P4 m2):L2 (GH v av main g'++F) Q8 m1 n2 P4 m2:=by
 obtain⟨a,b,f,i,c,d,j⟩:=h;have e:∀i,2<=i->∀a,(GH v av main g++F)[i]?=some a->(GH v av main g'++F)[i]?=some a:=by
  grind
 exact⟨a,b,f.other (e a c),i.other (e b d),c,d,j⟩
end
def sD(l r:List Va):(fj l r).length<=l.length+r.length:=by
 induction r generalizing l with
 |nil=>simp[fj]
 |cons w r a=>
  simp only[fj];split
  .grind
  .grind
def vW(a:Int):Nat->Int
 |0=>0
 |i+1=>vW a i+a
def FT{a:Int}(h:0<=a):∀i,i<=6->0<=vW a i/\vW a i<=6*a
 |0,_=>by simp only[vW];omega
 |1,_=>by simp only[vW];omega
 |2,_=>by simp only[vW];omega
 |3,_=>by simp only[vW];omega
 |4,_=>by simp only[vW];omega
 |5,_=>by simp only[vW];omega
 |6,_=>by simp only[vW];omega
 |i+7,h=>by omega
def Ls:∀d,qB d=6*(1+3*qP d)
 |0=>rfl
 |d+1=>rfl
def Lt(av:Nat):∀d,GB av d=J_ (GQ (De av d) av)
 |0=>rfl
 |d+1=>rfl
end Go.Proofs
namespace Go.Proofs
open Go.Mt Go.Mk
open Tryz
instance:aW prog 168:=dM (by kernel_rfl)
def J'(l:List Va)(k:Nat):zN ((ax l).drop k)=.sl (ax (l.drop k))\/zN ((ax l).drop k)=.oD/\l.drop k=[]:=by
 have e:(ax l).drop k=ax (l.drop k):=by simp[ax,List.map_drop]
 rw[e];cases l.drop k with
 |nil=>exact .inr ⟨W,W⟩
 |cons a r=>exact .inl W
section
variable{zs:List Int}{v:D}(ht:Tape zs v)(av:Nat)(main:Bool)
include ht
set_option maxHeartbeats 4000000 in
def rO(d:Nat)(hd:d<=3)(hE:vV zs v av main d 14):pg zs v av main d:=by
 intro s hs n ho x hg hn Yy SY;have hL:=ht.hl;have d5:=hs.ready;have f8:=hs.aO;have Vo:=I4 d hd;obtain⟨r0,K0,⟨m,g0,rfl,rfl,T⟩,NN⟩:=fh ht av main 4 (by omega) (by omega) x hg;have NZ:=T.lt;have H:=T.mv;have SN:=T.oO;have Sd:=H.n;have XE:=H.q;have ZL:=H.i;refine DT.drop 2 (ah9 _)<|DT.ob func117 W ntmps117 W<|dO [2,2,2,27] W<|Mq (aA NN W W)<|dL [] W<|dC [2] W<|M5 [(11,.m (.d (.int .i64 ((0:Nat):Int)))),(10,.m (.d (.int .i64 ((m:Nat):Int)))),(9,.loc 9 0),(8,.loc 8 0),(5,.m (.d (.bM s.cells 0))),(3,.m (.d (.int .i64 ((d:Nat):Int)))),(2,.m (.d (.sl (ax n)))),(0,.m (.ref 1 0))] (GH v av main g0++[]) W W<|dC [3] W<|OY (λk f=>∃(i:Nat) (a:List Va) (c:M) (g':GS) (F:Hp) (b:List (Nat×List M)),f=⟨[(11,.m (.d (.int .i64 (i:Int)))),(10,.m (.d (.int .i64 ((m:Nat):Int)))),(9,.loc 9 0),(8,.loc 8 0),(5,.m (.d (.bM s.cells 0))),(3,.m (.d (.int .i64 ((d:Nat):Int)))),(2,.m (.d (.sl (ax n)))),(0,.m (.ref 1 0))],b,GH v av main g'++F⟩/\Go.Mt.get b 9=some [c,.d (.sl [])]/\Go.Mt.get b 8=some [.d (.sl []),.d (.sl [])]/\L2 (GH v av main g'++F) (ax a) c 16 [] (.d (.sl []))/\i<=m/\a.length=i/\NV x.n a g'.n/\g'.n=x.n+i/\g'.q=x.q/\g0.i<=g'.i/\g'.i<=zs.length/\k=m-i) m _
  ⟨0,[],.d (.sl []),g0,[],_,rfl,rfl,rfl,⟨2,3,.inl ⟨rfl,rfl⟩,.inl ⟨rfl,rfl⟩,by omega,by omega,by omega⟩,by omega,rfl,by rw[Sd];exact .nil,by omega,XE,ah9 _,H.le,rfl⟩ W ?_
 rintro am s1 ⟨A,b,I,a,F,bx,rfl,i,l,g,hi,U,Vi,WZ,ZM,XF,ZN,rfl⟩;refine dC [2] W<|DC.cond W (λh=>?_) (λh=>?_)
 .have q:A<m:=by have:=aic h;omega
  obtain⟨r1,K1,⟨rfl,rfl⟩,P⟩:=pf ht av main 118 a ZN (by omega);obtain⟨r2,K2,⟨t,J,rfl,rfl,NK⟩,Q⟩:=xv ht av main ⟨a.i,a.n+1,a.q⟩ ZN;obtain⟨r3,K3,⟨j,V,rfl,rfl,Oz⟩,r⟩:=fh ht av main 3 (by omega) (by omega) J NK.le;have k:=NK.trans Oz.mv;have W1:=k.n;have ac:=k.q;have d6:=k.i;simp only at W1 ac d6;have P:=iU (by rfl) P F;have Q:=iU (by rfl) Q F;have r:=iU (by rfl) r F;have L:(ax b).length=A:=by rw[br,U]
  refine dO [3,2,34] W<|Mq (aA P W W)<|dR [36] W<|Mq (aA Q W W)<|dL [] W ?_;rcases aiO j with Uj|Uj
  .subst Uj;obtain⟨r4,K4,⟨e,g4,rfl,rfl,ZO,w⟩,K⟩:=iA ht av main t V k.le;obtain⟨ke,OL,ne,se,ae,be,he⟩:=e.shape;rw[he]at K;have K:=iU (by rfl) K F;have d7:=w.n;have f9:=w.q;have ip:=w.i;have Ut:=g.call (g':=g4);have hw:(⟨nm 118 (a.n+1),t,none,true,e⟩:Va).cells=[.str (nm 118 (a.n+1)),.int .u8 t.kind,.str t.nm,.sl [],.bool true,.int .u8 ke,.int .u8 OL,.int .i32 ne,.str se,.sl ae,.sl be,.int .i64 0,.int .i64 0,.int .i64 0,.int .i64 0]:=by simp only[Va.cells,he];rfl
   obtain⟨F',hF,W2⟩:=Ut.I5 [[.str (nm 118 (a.n+1)),.int .u8 t.kind,.str t.nm,.sl [],.bool true,.int .u8 ke,.int .u8 OL,.int .i32 ne,.str se,.sl ae,.sl be,.int .i64 0,.int .i64 0,.int .i64 0,.int .i64 0]];have Nr:ax (b++[⟨nm 118 (a.n+1),t,none,true,e⟩])=ax b++[[.str (nm 118 (a.n+1)),.int .u8 t.kind,.str t.nm,.sl [],.bool true,.int .u8 ke,.int .u8 OL,.int .i32 ne,.str se,.sl ae,.sl be,.int .i64 0,.int .i64 0,.int .i64 0,.int .i64 0]]:=by rw[gU,<-hw];rfl
   obtain⟨i1,i2,O3,_⟩:=id Ut;refine dO [2,42] W<|Mq (aA r W W)<|dR [1,2,2,48] W<|Mq (aA K W W)<|dR [2,51] W<|Mq (aJ W W i W)<|dR [54] W<|Mq (mD O3 W W W W W (bS W) (by rw[L];simp only[aik];omega) (by rw[L];simp only[aik];omega))<|dR [999] W<|Mq (aK W W i (aN _ _ _) W W)<|dR [2,32] W<|Mq (bc W W W (by omega))<|dL [] W ?_;rw[<-Nr]at W2;exact bf (k':=m-(A+1)) (by omega) ⟨A+1,_,_,g4,F',_,rfl,rfl,l,W2,by omega,by simp[U],by rw[d7,W1];exact .snoc Vi _ W W (.inr ⟨W,ZO⟩),by omega,by omega,by omega,w.le,rfl⟩ hF W
  .have d7:(((j:Nat):Int)==0)=false:=ajo.2 (by omega);have w:=g.call (g':=V);obtain⟨F',hF,K⟩:=w.I5 [[.str (nm 118 (a.n+1)),.int .u8 t.kind,.str t.nm,.sl [],.bool false,.int .u8 0,.int .u8 0,.int .i32 0,.str ⟨#[]⟩,.sl [],.sl [],.int .i64 0,.int .i64 0,.int .i64 0,.int .i64 0]];have Nr:ax (b++[⟨nm 118 (a.n+1),t,none,false,.nil⟩])=ax b++[[.str (nm 118 (a.n+1)),.int .u8 t.kind,.str t.nm,.sl [],.bool false,.int .u8 0,.int .u8 0,.int .i32 0,.str ⟨#[]⟩,.sl [],.sl [],.int .i64 0,.int .i64 0,.int .i64 0,.int .i64 0]]:=by rw[gU];rfl
   obtain⟨i1,i2,O3,_⟩:=id w;refine dO [2,42] W<|Mq (aA r W W)<|dR [43] W<|Mq (dW d7 W W W W)<|dR [0,2,51] W<|Mq (aJ W W i W)<|dR [54] W<|Mq (mD O3 W W W W W (bS W) (by rw[L];simp only[aik];omega) (by rw[L];simp only[aik];omega))<|dR [999] W<|Mq (aK W W i (aN _ _ _) W W)<|dR [2,32] W<|Mq (bc W W W (by omega))<|dL [] W ?_;rw[<-Nr]at K;exact bf (k':=m-(A+1)) (by omega) ⟨A+1,_,_,V,F',_,rfl,rfl,l,K,by omega,by simp[U],by rw[W1];exact .snoc Vi _ W W (.inl ⟨W,W⟩),by omega,by omega,by omega,k.le,rfl⟩ hF W
 refine DC.exit ?_;have q:A=m:=by have:=aie h;omega
 have L:(ax b).length<=3:=by rw[br,U];omega
 have i6:(ax n).length<=3:=by rw[br];omega
 have ZP:a.n<=3*a.i:=by
  rcases aiO m with k|k
  .omega
  .have:=SN (by omega);omega
 have i7:x.n<=a.n:=by omega
 have i8:x.i<=a.i:=by omega
 clear SN WZ ZL Sd XE XF H T;refine dC [2] W ?_;have X:=g.FR 15;obtain⟨F1,Y,Z⟩:=X.wY (ax b);obtain⟨F2,C,E⟩:=Z.wY (ax n);obtain⟨_,i2,_,RU,_⟩:=id X;obtain⟨_,i3,_,Rr,_⟩:=id Z;have RB:=X.EV (bD b);refine dO [2,58] W<|Mq (aJ W W i W)<|Mq (TL.aR 54 W RB)<|dR [59] W<|Mq (mD RU W W W W W (bD _) (by simp only[List.length_nil];omega) (by simp only[List.length_nil];omega))<|dL [] W ?_;rw[Y];generalize cJ (.d (.sl [])) (GH v av main a++F) (ax b)=ma at Z C E Rr⊢;refine dO [2,62] W<|Mq (mD Rr W W W W W (bD _) (by simp only[aiK];omega) (by simp only[aiK];omega))<|dL [] W ?_;rw[C];generalize cJ ma (GH v av main a++F1) (ax n)=mb at E⊢;rw[aiK,<-gU]at E;refine DC.aR 13 W (E.zh (bD _))<|dC [2] W ?_;have l3:=E.FR 15;obtain⟨F3,ce,N⟩:=l3.wY (ax s.ready);obtain⟨F4,ZQ,u⟩:=N.wY (ax b);obtain⟨F5,XH,o⟩:=u.wY (ax n);obtain⟨_,_,_,YA,_⟩:=id l3;obtain⟨_,_,_,O,_⟩:=id N;obtain⟨_,_,_,B,_⟩:=id u;have Rb:(ax s.ready).length<=1000:=by rw[br];omega
 have YB:=N.EV (bD b);refine dO [2,70] W<|Mq (mD YA W W W W W (bD _) (by simp only[List.length_nil];omega) (by simp only[List.length_nil];omega))<|dR [999] W<|Mq (aK W W W (aN _ _ _) W W)<|dL [] W ?_;rw[ce];generalize cJ (.d (.sl [])) (GH v av main a++F2) (ax s.ready)=mc at N ZQ u XH o O B⊢;refine dO [2,75] W<|Mq (aJ W W i W)<|Mq (TL.aR 71 W YB)<|dR [76] W<|Mq (mD O W W W W W (bD _) (by simp only[aiK];omega) (by simp only[aiK];omega))<|dR [999] W<|Mq (aK W W W (aN _ _ _) W W)<|dL [] W ?_;rw[ZQ];generalize cJ mc (GH v av main a++F3) (ax b)=md at u XH o B⊢;refine dO [2,81] W<|Mq (mD B W W W W W (bD _) (by simp only[aiK,ah6];omega) (by simp only[aiK,ah6];omega))<|dR [999] W<|Mq (aK W W W (aN _ _ _) W W)<|dL [] W ?_;rw[XH];generalize cJ md (GH v av main a++F4) (ax n)=me at o⊢;rw[aiK,<-gU,<-gU]at o;refine DC.cA (MP:=[.d (.sl (ax s.ready)),.d (.sl (ax (s.ready++b++n))),.d (.sl [])]) 14 W (fV (ib (o.zh (bD _)) (fV W))) ?_;have l7:=o.FR 15;obtain⟨F6,co,l8⟩:=l7.wY (ax s.aO);obtain⟨_,_,_,YC,_⟩:=id l7;have N7:(ax s.aO).length<=1000:=by rw[br];omega
 refine dO [2,87] W<|Mq (mD YC W W W W W (bD _) (by simp only[List.length_nil];omega) (by simp only[List.length_nil];omega))<|dR [999] W<|Mq (aK W W W (aN _ _ _) W W)<|dL [] W ?_;rw[co];generalize cJ (.d (.sl [])) (GH v av main a++F5) (ax s.aO)=mf at l8⊢;rw[aiK]at l8;clear X Z E l3 N u o l7 Y C ce ZQ XH co RU Rr YA O B YC RB YB g;refine dC [2] W ?_;obtain⟨c,XI⟩:∃a,a=b++n:=⟨_,rfl⟩;have UP:c.length<=6:=by rw[XI,ah6];omega
 rw[<-XI];refine M5 [(15,.m (.d (.int .i64 ((0:Nat):Int)))),(14,.loc 14 0),(13,.m (.d (.sl (ax c)))),(9,.loc 9 0),(8,.loc 8 0),(3,.m (.d (.int .i64 ((d:Nat):Int)))),(0,.m (.ref 1 0))] (GH v av main a++F6) W W<|dC [3] W<|OY (λk h=>∃(i:Nat) (g:M) (F:Hp) (f:List (Nat×List M)),h=⟨[(15,.m (.d (.int .i64 (i:Int)))),(14,.loc 14 0),(13,.m (.d (.sl (ax c)))),(9,.loc 9 0),(8,.loc 8 0),(3,.m (.d (.int .i64 ((d:Nat):Int)))),(0,.m (.ref 1 0))],f,GH v av main a++F⟩/\Go.Mt.get f 9=some [I,.d (.sl [])]/\Go.Mt.get f 8=some [.d (.sl []),.d (.sl [])]/\Go.Mt.get f 14=some [.d (.sl (ax s.ready)),.d (.sl (ax (s.ready++b++n))),g]/\L2 (GH v av main a++F) (ax b) I 15 (ax (fj s.aO (c.take i))) g/\i<=c.length/\k=c.length-i) c.length _
  ⟨0,mf,F6,_,rfl,i,l,rfl,l8,by omega,rfl⟩ W ?_
 clear i l l8;rintro am s1 ⟨j,ml,F,bx,rfl,i,l,p,g,hj,rfl⟩;refine dO [2,91] W<|Mq (aY W W W) ?_;rw[br];refine dL [] W<|DC.cond W (λh=>?_) (λh=>?_)
 .have q:j<c.length:=by have:=aic h;omega
  clear h;have r:=jP q;have V:=ah5 q;generalize c[j]=w at r V;have k:=zd s.aO (c.take j) w;rw[<-V]at k;have ac:=sD s.aO (c.take j);rw[ait]at ac;generalize fj s.aO (c.take j)=t at g k ac;have RB:=g.zh (bD t);have K:CT prog 168 [ml,.d (.str w.name)] (GH v av main a++F) λf y=>f=.d (.bool (t.any λu=>decide (u.name=w.name)))/\y=GH v av main a++F:=
   CT.H4 RB ((CT.D1 (J7 t w.name (by omega))).mono (by rintro _ _ ⟨⟨_,rfl,rfl⟩,rfl⟩;exact⟨W,W⟩))
  obtain⟨_,_,_,d6,_⟩:=id g;obtain⟨F',P,y⟩:=g.wY [w.cells];obtain⟨x0,x1,x2,x3,x4,x5,x6,x7,hw,_⟩:=jQ w;have Nr:ax (t++[w])=ax t++[w.cells]:=by rw[gU];rfl
  rw[<-Nr]at y;rw[hw]at r P y;have d7:(ax t).length<=1000:=by rw[br];omega
  refine dC [3] W ?_;cases Q:w.last with
  |false=>
   rw[Q]at r k;simp only[Bool.false_and,ai2,aju]at k;refine dC [] W ?_;apply Mz fK
   .intro s0 Oo;refine fR 2 W<|bE W W W (ah7 j) r W<|fR 13 W<|TF.nil ⟨by kernel_rfl,rfl⟩
   refine dO [0,2,94] W<|Mq (bc W W W (by omega))<|dL [] W<|bf (k':=c.length-(j+1)) (by omega) ⟨j+1,ml,F,_,rfl,i,l,p,by rw[k];exact g,by omega,rfl⟩ W W
  |true=>
   rw[Q]at r k;cases S_:t.any λu=>decide (u.name=w.name)with
   |true=>
    rw[S_]at k K;simp only[Bool.not_true,Bool.and_false,ai2,aju]at k;refine dC [] W ?_;apply Mz fK
    .intro s0 Oo;refine fR 2 W<|bE W W W (ah7 j) r W<|fR 4 W ?_
     first|refine e_ W W W W ?_|refine iZ W W W ?_|(refine bO W W ?_;(refine cO W W p W ?_))
     refine fR 2 W ?_
     first|refine e_ W W W W ?_|refine iZ W W W ?_|(refine bO W W ?_;(refine bE W W W (ah7 j) r W ?_))
     refine fR 2 W ?_
     first|refine e_ W W W W ?_|refine iZ W W W ?_|(refine bO W W ?_;(refine fD K W W ?_))
     refine fR 2 W<|TF.nil ⟨by kernel_rfl,rfl⟩
    refine dO [0,2,94] W<|Mq (bc W W W (by omega))<|dL [] W<|bf (k':=c.length-(j+1)) (by omega) ⟨j+1,ml,F,_,rfl,i,l,p,by rw[k];exact g,by omega,rfl⟩ W W
   |false=>
    rw[S_]at k K;simp only[Bool.not_false,Bool.and_true,ajL]at k;rw[Q]at P y;refine dC [] W ?_;apply Mz fK
    .intro s0 Oo;refine fR 2 W<|bE W W W (ah7 j) r W<|fR 4 W ?_
     first|refine e_ W W W W ?_|refine iZ W W W ?_|(refine bO W W ?_;(refine cO W W p W ?_))
     refine fR 2 W ?_
     first|refine e_ W W W W ?_|refine iZ W W W ?_|(refine bO W W ?_;(refine bE W W W (ah7 j) r W ?_))
     refine fR 2 W ?_
     first|refine e_ W W W W ?_|refine iZ W W W ?_|(refine bO W W ?_;(refine fD K W W ?_))
     refine fR 2 W<|TF.nil ⟨by kernel_rfl,rfl⟩
    refine dC [1] W ?_;apply Mz fK
    .intro s0 Oo;refine fR 1 W<|cO W W p W<|fR 2 W<|bE W W W (ah7 j) r W<|fR 2 W<|xr d6 W W W W W W (by omega) (by omega)<|fR 1 W<|cv W W p (aN _ _ _) W W<|TF.nil ⟨by kernel_rfl,rfl⟩
    refine dO [2,94] W<|Mq (bc W W W (by omega))<|dL [] W<|bf (k':=c.length-(j+1)) (by omega) ⟨j+1,_,F',_,rfl,i,l,rfl,by rw[k];exact y,by omega,rfl⟩ P W
 refine DC.exit ?_;have q:j=c.length:=by have:=aie h;omega
 clear h;subst q;rw[aih]at g;have y:=g.FR 16;have ZR:(fj s.aO c).length<=800-200*d+6:=by have:=sD s.aO c;omega
 refine DC.cA (MP:=[.d (.sl (ax s.ready)),.d (.sl (ax (s.ready++b++n))),.d (.sl (ax (fj s.aO c)))]) 14 p (fV (fV (ib (g.zh (bD _)) W))) ?_;obtain⟨z,XJ⟩:∃a:Sc,a=J9 s b n:=⟨_,rfl⟩;have ZS:z.ready=s.ready:=by rw[XJ];rfl
 have UM:z.all=s.ready++b++n:=by rw[XJ];rfl
 have ZT:z.aO=fj s.aO c:=by rw[XJ,XI];rfl
 rw[<-UM,<-ZT,<-ZS];have d8:z.aO.length<=800-200*d+6:=by rw[ZT];exact ZR
 have d9:z.all.length<=1000:=by rw[UM];simp only[ah6];omega
 have lw:z.ready.length<=800-200*d:=by rw[ZS];exact d5
 clear p g ZR ZS UM ZT;have hW:0<=1+3*qP d:=by omega
 refine dC [3] W<|OY (λn o=>∃(j:Nat) (f:List Va) (h:D) (S:Sc) (q:List aD) (i:List Va) (k l:M) (g':GS) (F:Hp) (g:List (Nat×List M)),o=⟨[(14,.loc 14 0),(13,.m (.d h)),(9,.loc 9 0),(8,.loc 8 0),(3,.m (.d (.int .i64 ((d:Nat):Int)))),(0,.m (.ref 1 0))],g,GH v av main g'++F⟩/\
   (h=.sl (ax f)\/h=.oD/\f=[])/\Go.Mt.get g 9=some [k,l]/\Go.Mt.get g 8=some [.d (.sl []),.d (.sl [])]/\Go.Mt.get g 14=some [.d (.sl (ax S.ready)),.d (.sl (ax S.all)),.d (.sl (ax S.aO))]/\L2 (GH v av main g'++F) (ax (b++i)) k 16 (bI q) l/\
   GL (GQ (De av d) av) z c a.n S f g'.n q i/\(S.ready.length+f.length<=800-200*d+6/\S.all.length<=1000/\S.aO.length<=800-200*d+6/\i.length<=42*j/\q.length<=45*j/\j+f.length<=6)/\(a.i<=g'.i/\g'.i<=zs.length/\a.n<=g'.n/\g'.n<=3*g'.i/\min x.q 0-vW (1+3*qP d) j<=g'.q/\g'.q<=x.q)/\n=f.length) c.length _
  ⟨0,c,_,z,[],[],I,.d (.sl []),a,F,_,rfl,.inl W,i,l,rfl,by rw[aiu];exact y,.start,⟨by omega,d9,d8,by simp,by simp,by omega⟩,⟨ah9 _,ZN,ah9 _,ZP,by simp only[vW];omega,by omega⟩,rfl⟩ W ?_
 clear i l y;rintro am s1 ⟨j,f,td,S,G,R,I,me,J,F,bx,rfl,YD,i,l,p,g,Rz,⟨z1,z2,z3,z4,z5,z6⟩,⟨y1,y2,y3,y4,y5,y6⟩,rfl⟩;have f5:mz td=some f.length:=by
  rcases YD with rfl|⟨rfl,rfl⟩
  .simp only[mz,br]
  .rfl
 refine dO [2,121] W<|Mq (aY W W f5)<|dL [] W<|DC.cond W (λh=>?_) (λh=>?_)
 .have q:0<f.length:=by have:=aic h;omega
  clear h;obtain rfl:td=.sl (ax f):=by
   rcases YD with ac|⟨_,rfl⟩
   .exact ac
   .simp at q
  have f6:=FT hW j (by omega);have f9:=Lq d hd;obtain⟨r3,K3,⟨t,g3,rfl,rfl,K⟩,Nz⟩:=fh ht av main 3 (by omega) (by omega) J y2;have Rj:=K.lt;have W1:=K.mv.n;have d6:=K.mv.q;have d7:=K.mv.i;have Nz:=iU (by rfl) Nz F;have y:=g.call (g':=g3);obtain⟨k,Tp⟩:∃a,a=min (t+1) f.length:=⟨_,rfl⟩;have r:1<=k/\k<=3/\k<=f.length:=by omega
  have Xf:1+((t:Nat):Int)=((t+1:Nat):Int):=by omega
  obtain⟨r4,K4,⟨P,Q,V,rfl,rfl,PO,Po,ip,w⟩,Qb⟩:=hE S (by omega) z2 (by omega) (f.take k) (by rw[ait];omega) g3 K.mv.le (by omega) (by omega) (by omega) (by omega);have Qb:=iU (by rfl) Qb F;have mt:=w.q0;have Sh:=w.q1;have P':=w.i;have RR:=w.n;have Ut:=g.call (g':=V);have NH:(ax f).take k=ax (f.take k):=by simp[ax,ala]
  have M7:ax f≠[]:=by intro ac;have h2:=br f;rw[ac]at h2;have h3:(0:Nat)=f.length:=h2;omega
  obtain⟨F1,Y,u⟩:=Ut.wY (bI P);obtain⟨F2,C,o⟩:=u.I5 (ax Q);obtain⟨_,_,_,O,_⟩:=id Ut;obtain⟨_,_,B,_,_⟩:=id u;have m5:(ax (b++R)).length<=300:=by rw[br,ah6];omega
  have m6:(ax Q).length<=50:=by rw[br];omega
  have m7:(bI G).length<=300:=by rw[ei];omega
  have m9:(bI P).length<=50:=by rw[ei];omega
  refine dO [3,2,127] W<|Mq (aA Nz W W)<|dR [128] W<|Mq (bc W W W (by omega)) ?_;rw[Xf];refine dR [2,131] W<|Mq (aY W W W) ?_;rw[br];refine dL [] W<|DC.md ⟨[(16,.m (.d (.int .i64 ((k:Nat):Int)))),(14,.loc 14 0),(13,.m (.d (.sl (ax f)))),(9,.loc 9 0),(8,.loc 8 0),(3,.m (.d (.int .i64 ((d:Nat):Int)))),(0,.m (.ref 1 0))],bx,GH v av main g3++F⟩ ?_ ?_
  .refine DC.cond W (λh=>?_) (λh=>?_)
   .have VA:f.length<t+1:=by have:=aic h;omega
    refine dO [2,134] W<|Mq (aY W W W) ?_;rw[br,show f.length=k by omega];refine dL [] W<|pJ W W
   .have VA:¬f.length<t+1:=by have:=aie h;omega
    refine dC [] W<|pJ W (kc (by rw[show k=t+1 by omega];rfl) W)
  refine dC [] W ?_;apply Mz fK
  .intro s0 Oo;refine fR 1 W<|cY W W p W W<|fR 2 W<|yo W W W M7 r.1 (by rw[br];exact r.2.2) (bD _) ?_;rw[NH];refine fR 1 W<|bB Qb W W<|fR 5 W<|TF.nil ⟨by kernel_rfl,rfl⟩
  refine dO [2,146] W<|Mq (aJ W W i W)<|dR [148] W<|Mq (mD O W W W W W (e8 P) (by omega) (by omega))<|dR [999] W<|Mq (aK W W i (aN _ _ _) W W)<|dL [] W ?_;rw[Y];generalize cJ me (GH v av main V++F) (bI P)=ZA at u C o B⊢;refine dO [2,153] W<|Mq (mD B W W W W W (bD Q) (by omega) (by omega))<|dR [999] W<|Mq (aK W W W (aN _ _ _) W W)<|dL [] W ?_;rw[C];generalize cJ I (GH v av main V++F1) (ax Q)=SJ at o⊢;apply Mz fK
  .intro s0 Oo;refine cY W W p W W<|fR 2 W<|yo W W W M7 r.1 (by rw[br];exact r.2.2) (bD _) ?_;rw[NH];refine bm (rl S (f.take k) (by omega) (by rw[ait];omega)) W W<|cv W W p W W W<|TF.nil ⟨by kernel_rfl,rfl⟩
  refine dO [2,162] W<|Mq (yn W W W M7 (by rw[br];exact r.2.2) (bD _))<|dL [] W ?_;rw[<-gU,<-iB]at o;have NF:(f.drop k).length=f.length-k:=by simp
  exact bf (k':=(f.drop k).length) (by omega) ⟨j+1,f.drop k,_,S.more (f.take k),G++P,R++Q,SJ,ZA,V,F2,_,rfl,J' f k,rfl,l,rfl,by rw[<-ai0];exact o,.step Rz k r.1 r.2.1 r.2.2 (by rw[<-W1];exact PO),⟨by simp only[Sc.more,ah6,ait];omega,z2,z3,by simp only[ah6];omega,by simp only[ah6];omega,by omega⟩,⟨by omega,w.le,by omega,w.oO,by simp only[vW];omega,by omega⟩,rfl⟩ W W
 refine DC.exit ?_;have q:f=[]:=by
  have:=aie h;exact ajC.1 (by omega)
 clear h;subst q;refine DC.cA (MP:=[.d (.sl (ax (b++R))),.d (.sl (bI G))]) 9 i (ib (g.EV (bD _)) (ib (g.zh (e8 _)) W))<|dO [2,999] W<|Mq (aK W W l W W W)<|dL [] W ?_;have f6:=FT hW j (by omega);have ZU:=Ls d;refine DC.ret ⟨_,W,by simp,.d _,nU v av main J,.mk (b++R) G,J,by rw[bF.cells];rfl,rfl,?_,⟨by omega,y2,by omega,y4,by omega,y6⟩⟩;rw[Lt];exact⟨b,a.n,S,G,R,Vi,by omega,by rw[<-XJ,<-XI];exact Rz,W⟩
end
section
variable{zs:List Int}{v:D}(ht:Tape zs v)(av:Nat)(main:Bool)
include ht
def blocks(a:av<=10):∀d,d<=3->pg zs v av main d
 |0,h=>rO ht av main 0 h (B7 ht av main 0 h a (λd e=>by omega) 14 (by omega))
 |d+1,h=>rO ht av main (d+1) h (B7 ht av main (d+1) h a (λb e=>by
   have c:b=d:=by omega
   subst c;exact blocks a b (by omega)) 14 (by omega))
def I6(s:av<=10)(k:Nat)(E:k<=zs.length):DT prog 59 [.ref 1 0,.d (.int .i64 ((av:Nat):Int))] (GH v av main ⟨k,0,14⟩) λr K=>∃(a:Nd) (g':GS),r=.d (.agg a.cells)/\K=GH v av main g'/\GN av a/\k<=g'.i/\g'.i<=zs.length:=by
 have N:=ht.hl;have t:=lR (av+1) av (by omega) (by omega);have O:=hU av;obtain⟨P,Q,⟨C,a,rfl,rfl,F⟩,u⟩:=fh ht av main 3 (by omega) (by omega) ⟨k,0,14⟩ E;have c:=F.mv;have G:=c.n;have H:=c.q;have I:=c.i;simp only at G H I;rcases aiO C with w|w
 .skip
  subst w;obtain⟨R,S,⟨e,p,rfl,rfl,J,l⟩,x⟩:=iA ht av main .int a c.le;obtain⟨d,f,g,h,i,j,y⟩:=e.shape;rw[y]at x;have ac:=l.n;have am:=l.q;have ce:=l.i;have z:ax [⟨⟨#[120]⟩,.int,none,true,e⟩,yV]=[[D.str ⟨#[120]⟩,.int .u8 2,.str ⟨#[]⟩,.sl [],.bool true,.int .u8 d,.int .u8 f,.int .i32 g,.str h,.sl i,.sl j,.int .i64 0,.int .i64 0,.int .i64 0,.int .i64 0],[D.str ⟨#[121]⟩,.int .u8 3,.str mj,.sl [],.bool false,.int .u8 0,.int .u8 0,.int .i32 0,.str ⟨#[]⟩,.sl [],.sl [],.int .i64 0,.int .i64 0,.int .i64 0,.int .i64 0]]:=by simp only[ax,aiq,aiL,Va.cells,y];rfl
  obtain⟨T,U,⟨b,q,rfl,rfl,A,m⟩,o⟩:=blocks ht av main s 3 (by omega) ⟨[aV,bV],[],[]⟩ ⟨by simp,by simp,by simp⟩ [⟨⟨#[120]⟩,.int,none,true,e⟩,yV] (by simp) p l.le (by omega) (by omega) (by omega);obtain⟨V,X,B⟩:=b.shape;rw[B,z]at o;have o:=iU (by rfl) o [.row true 15 0 (aM [[D.str ⟨#[120]⟩,.int .u8 2,.str ⟨#[]⟩,.sl [],.bool true,.int .u8 d,.int .u8 f,.int .i32 g,.str h,.sl i,.sl j,.int .i64 0,.int .i64 0,.int .i64 0,.int .i64 0],[D.str ⟨#[121]⟩,.int .u8 3,.str mj,.sl [],.bool false,.int .u8 0,.int .u8 0,.int .i32 0,.str ⟨#[]⟩,.sl [],.sl [],.int .i64 0,.int .i64 0,.int .i64 0,.int .i64 0]])];have Y:=m.i;refine DT.drop 2 (ah9 _)<|DT.ob func59 W ntmps59 W<|dO [2,2,12] W<|Mq (aX t W W)<|dR [13] W<|Mq (ky W W W (by have:(⟨#[102]⟩:ByteArray).size=1:=rfl;omega))<|dR [2,15] W<|Mq (aX dQ W W)<|dR [17] W<|Mq (aX jr W W)<|dR [2,21] W<|Mq (aX dQ W W)<|dR [23] W<|Mq (aX j5 W W)<|dR [25] W<|Mq (qF W W W W W W)<|dL [] W ?_;have L:=iU (by rfl) u [.row false 15 0 (aM [[D.str ⟨#[120]⟩,.int .u8 2,.str ⟨#[]⟩,.sl [],.bool false,.int .u8 0,.int .u8 0,.int .i32 0,.str ⟨#[]⟩,.sl [],.sl [],.int .i64 0,.int .i64 0,.int .i64 0,.int .i64 0],[D.str ⟨#[121]⟩,.int .u8 3,.str mj,.sl [],.bool false,.int .u8 0,.int .u8 0,.int .i32 0,.str ⟨#[]⟩,.sl [],.sl [],.int .i64 0,.int .i64 0,.int .i64 0,.int .i64 0]])]
  refine dO [2,31] W<|Mq (aA L W W)<|dR [1,2,35] W<|Mq (vj W W W W (by omega) (by decide))<|dR [999] W<|Mq (Ak W W W W W W)<|dL [] W ?_;apply Mz fK
  .intro Z Oo;refine fR 3 W<|bm dQ W W<|bB (iU (by rfl) x [.row false 15 0 (aM [[D.str ⟨#[120]⟩,.int .u8 2,.str ⟨#[]⟩,.sl [],.bool true,.int .u8 0,.int .u8 0,.int .i32 0,.str ⟨#[]⟩,.sl [],.sl [],.int .i64 0,.int .i64 0,.int .i64 0,.int .i64 0],[D.str ⟨#[121]⟩,.int .u8 3,.str mj,.sl [],.bool false,.int .u8 0,.int .u8 0,.int .i32 0,.str ⟨#[]⟩,.sl [],.sl [],.int .i64 0,.int .i64 0,.int .i64 0,.int .i64 0]])]) W W<|mZ W W W W (by omega) (by decide)<|fR 1 W<|Al W W W W W W<|TF.nil ⟨by kernel_rfl,rfl⟩
  refine DC.ki 2 W<|M5 [(5,.loc 5 0),(4,.loc 4 0),(0,.m (.ref 1 0))] (GH v av main p++[.row true 15 0 (aM [[D.str ⟨#[120]⟩,.int .u8 2,.str ⟨#[]⟩,.sl [],.bool true,.int .u8 d,.int .u8 f,.int .i32 g,.str h,.sl i,.sl j,.int .i64 0,.int .i64 0,.int .i64 0,.int .i64 0],[D.str ⟨#[121]⟩,.int .u8 3,.str mj,.sl [],.bool false,.int .u8 0,.int .u8 0,.int .i32 0,.str ⟨#[]⟩,.sl [],.sl [],.int .i64 0,.int .i64 0,.int .i64 0,.int .i64 0]])]) W W<|DC.cA (MP:=[.d (.str (⟨#[102]⟩++dg av)),.d (.sl (ax [aV,bV])),.d (.sl [[D.str ⟨#[120]⟩,.int .u8 2,.str ⟨#[]⟩,.sl [],.bool true,.int .u8 d,.int .u8 f,.int .i32 g,.str h,.sl i,.sl j,.int .i64 0,.int .i64 0,.int .i64 0,.int .i64 0],[D.str ⟨#[121]⟩,.int .u8 3,.str mj,.sl [],.bool false,.int .u8 0,.int .u8 0,.int .i32 0,.str ⟨#[]⟩,.sl [],.sl [],.int .i64 0,.int .i64 0,.int .i64 0,.int .i64 0]]),.d (.sl []),.d (.sl []),.d (.int .i64 0),.d (.int .i64 0)]) 5 W (fV (fV (ib (j7 (n:=15) (rs:=[[D.str ⟨#[120]⟩,.int .u8 2,.str ⟨#[]⟩,.sl [],.bool true,.int .u8 d,.int .u8 f,.int .i32 g,.str h,.sl i,.sl j,.int .i64 0,.int .i64 0,.int .i64 0,.int .i64 0],[D.str ⟨#[121]⟩,.int .u8 3,.str mj,.sl [],.bool false,.int .u8 0,.int .u8 0,.int .i32 0,.str ⟨#[]⟩,.sl [],.sl [],.int .i64 0,.int .i64 0,.int .i64 0,.int .i64 0]]) W W (by simp) (by simp_all)) W)))<|dO [2,2,51] W<|Mq (aA o W W)<|dL [2] W ?_
  refine DC.ret ⟨_,W,jN W,.d _,nU v av main q,⟨nm 102 av,[aV,bV],[⟨⟨#[120]⟩,.int,none,true,e⟩,yV],b⟩,q,by rw[Nd.cells,z,B];rfl,rfl,⟨rfl,rfl,⟨true,e,.inr ⟨rfl,J⟩,rfl⟩,q.n,(by have:=m.oO;have:=m.le;omega),?_⟩,by omega,m.le⟩;have M:p.n=0:=by omega
  rw[M]at A;exact A
 .skip
  have l:Mv zs a a:=⟨rfl,rfl,ah9 _,c.le⟩;have h:ax [⟨⟨#[120]⟩,.int,none,false,.nil⟩,yV]=[[D.str ⟨#[120]⟩,.int .u8 2,.str ⟨#[]⟩,.sl [],.bool false,.int .u8 0,.int .u8 0,.int .i32 0,.str ⟨#[]⟩,.sl [],.sl [],.int .i64 0,.int .i64 0,.int .i64 0,.int .i64 0],[D.str ⟨#[121]⟩,.int .u8 3,.str mj,.sl [],.bool false,.int .u8 0,.int .u8 0,.int .i32 0,.str ⟨#[]⟩,.sl [],.sl [],.int .i64 0,.int .i64 0,.int .i64 0,.int .i64 0]]:=by rfl
  obtain⟨p,q,⟨b,g,rfl,rfl,i,d⟩,f⟩:=blocks ht av main s 3 (by omega) ⟨[aV,bV],[],[]⟩ ⟨by simp,by simp,by simp⟩ [⟨⟨#[120]⟩,.int,none,false,.nil⟩,yV] (by simp) a l.le (by omega) (by omega) (by omega);obtain⟨x,y,j⟩:=b.shape;rw[j,h]at f;have f:=iU (by rfl) f [.row true 15 0 (aM [[D.str ⟨#[120]⟩,.int .u8 2,.str ⟨#[]⟩,.sl [],.bool false,.int .u8 0,.int .u8 0,.int .i32 0,.str ⟨#[]⟩,.sl [],.sl [],.int .i64 0,.int .i64 0,.int .i64 0,.int .i64 0],[D.str ⟨#[121]⟩,.int .u8 3,.str mj,.sl [],.bool false,.int .u8 0,.int .u8 0,.int .i32 0,.str ⟨#[]⟩,.sl [],.sl [],.int .i64 0,.int .i64 0,.int .i64 0,.int .i64 0]])];have z:=d.i;refine DT.drop 2 (ah9 _)<|DT.ob func59 W ntmps59 W<|dO [2,2,12] W<|Mq (aX t W W)<|dR [13] W<|Mq (ky W W W (by have:(⟨#[102]⟩:ByteArray).size=1:=rfl;omega))<|dR [2,15] W<|Mq (aX dQ W W)<|dR [17] W<|Mq (aX jr W W)<|dR [2,21] W<|Mq (aX dQ W W)<|dR [23] W<|Mq (aX j5 W W)<|dR [25] W<|Mq (qF W W W W W W)<|dL [] W ?_;have m:=iU (by rfl) u [.row false 15 0 (aM [[D.str ⟨#[120]⟩,.int .u8 2,.str ⟨#[]⟩,.sl [],.bool false,.int .u8 0,.int .u8 0,.int .i32 0,.str ⟨#[]⟩,.sl [],.sl [],.int .i64 0,.int .i64 0,.int .i64 0,.int .i64 0],[D.str ⟨#[121]⟩,.int .u8 3,.str mj,.sl [],.bool false,.int .u8 0,.int .u8 0,.int .i32 0,.str ⟨#[]⟩,.sl [],.sl [],.int .i64 0,.int .i64 0,.int .i64 0,.int .i64 0]])]
  refine dO [2,31] W<|Mq (aA m W W)<|dR [32] W<|Mq (dW (ajo.2 (by omega)) W W W W)<|dL [0] W<|DC.ki 2 W<|M5 [(5,.loc 5 0),(4,.loc 4 0),(0,.m (.ref 1 0))] (GH v av main a++[.row true 15 0 (aM [[D.str ⟨#[120]⟩,.int .u8 2,.str ⟨#[]⟩,.sl [],.bool false,.int .u8 0,.int .u8 0,.int .i32 0,.str ⟨#[]⟩,.sl [],.sl [],.int .i64 0,.int .i64 0,.int .i64 0,.int .i64 0],[D.str ⟨#[121]⟩,.int .u8 3,.str mj,.sl [],.bool false,.int .u8 0,.int .u8 0,.int .i32 0,.str ⟨#[]⟩,.sl [],.sl [],.int .i64 0,.int .i64 0,.int .i64 0,.int .i64 0]])]) W W<|DC.cA (MP:=[.d (.str (⟨#[102]⟩++dg av)),.d (.sl (ax [aV,bV])),.d (.sl [[D.str ⟨#[120]⟩,.int .u8 2,.str ⟨#[]⟩,.sl [],.bool false,.int .u8 0,.int .u8 0,.int .i32 0,.str ⟨#[]⟩,.sl [],.sl [],.int .i64 0,.int .i64 0,.int .i64 0,.int .i64 0],[D.str ⟨#[121]⟩,.int .u8 3,.str mj,.sl [],.bool false,.int .u8 0,.int .u8 0,.int .i32 0,.str ⟨#[]⟩,.sl [],.sl [],.int .i64 0,.int .i64 0,.int .i64 0,.int .i64 0]]),.d (.sl []),.d (.sl []),.d (.int .i64 0),.d (.int .i64 0)]) 5 W (fV (fV (ib (j7 (n:=15) (rs:=[[D.str ⟨#[120]⟩,.int .u8 2,.str ⟨#[]⟩,.sl [],.bool false,.int .u8 0,.int .u8 0,.int .i32 0,.str ⟨#[]⟩,.sl [],.sl [],.int .i64 0,.int .i64 0,.int .i64 0,.int .i64 0],[D.str ⟨#[121]⟩,.int .u8 3,.str mj,.sl [],.bool false,.int .u8 0,.int .u8 0,.int .i32 0,.str ⟨#[]⟩,.sl [],.sl [],.int .i64 0,.int .i64 0,.int .i64 0,.int .i64 0]]) W W (by simp) (by simp_all)) W)))<|dO [2,2,51] W<|Mq (aA f W W)<|dL [2] W ?_
  refine DC.ret ⟨_,W,jN W,.d _,nU v av main g,⟨nm 102 av,[aV,bV],[⟨⟨#[120]⟩,.int,none,false,.nil⟩,yV],b⟩,g,by rw[Nd.cells,h,j];rfl,rfl,⟨rfl,rfl,⟨false,.nil,.inl ⟨rfl,rfl⟩,rfl⟩,g.n,(by have:=d.oO;have:=d.le;omega),?_⟩,by omega,d.le⟩;have o:a.n=0:=by omega
  rw[o]at i;exact i
end
instance:aW prog 59:=dM (by kernel_rfl)
def B8(n:Nd):n.cells.length=7:=by
 obtain⟨v,q,h⟩:=n.b.shape;rw[Nd.cells,h];rfl
def AZ(l:List Nd):(kJ l).length=l.length:=by simp[kJ]
def pR(l:List Nd):∀r∈kJ l,r.length=7:=by intro r a;obtain⟨_,_,rfl⟩:=aij.1 a;exact B8 _
def I7{l:List D}(h:l.length=7):∃a b c d e f g,l=[a,b,c,d,e,f,g]:=by
 match l,h with
 |[a,b,c,d,e,f,g],_=>exact⟨_,_,_,_,_,_,_,W⟩
section
variable{zs:List Int}{v:D}(ht:Tape zs v)
include ht
def I8(av:Nat)(a:Bool)(t:av<=10)(c:Nat)(u:c<=zs.length)(H:Hp)(k:H[0]?=some (.box (fo v c))):
  ∃(c:Nd) (d:Nat) (f:Nat) (g:Int),GN av c/\d<=zs.length/\CT prog 59 [.ref H.length 0,.d (.int .i64 ((av:Nat):Int))] (H++[.box (jI 0 14 av a)]) λr K=>r=.d (.agg c.cells)/\K=H.set 0 (.box (fo v d))++[.box (jI f g av a)]:=by
 obtain⟨r,K,⟨l,f,rfl,rfl,w,E,x⟩,y⟩:=I6 ht av a t c u;refine⟨l,f.i,f.n,f.q,w,x,?_⟩;have n:0<H.length:=by
  rcases ais 0 H.length with h|h
  .exact h
  .simp[ail h]at k
 have o:=CT.frame (H:=GH v av a ⟨c,0,14⟩) (K:=H++[.box (jI 0 14 av a)]) (λi=>if i=0 then 0 else H.length) (λi j h p d=>by
   have g:i=0\/i=1:=by have:i<2:=h;omega
   have z:j=0\/j=1:=by have:j<2:=p;omega
   rcases g with rfl|rfl<;>rcases z with rfl|rfl
   .rfl
   .exact absurd (show 0=H.length from d) (by omega)
   .exact absurd (show H.length=0 from d) (by omega)
   .rfl) (λi h d=>by
   have g:i=0\/i=1:=by have F:i<2:=nJ d;omega
   rcases g with rfl|rfl
   .simp at d;subst d;rw[aim (by simpa using n)];simpa [cH,iE,dx] using k
   .simp at d;subst d;simp[cH,iE,dx]) (nU _ _ _ _) (λm d=>by
   simp at d;rcases d with rfl|rfl
   .exact jd W
   .exact .d _) (y.mono λA h ⟨i,b⟩=>(⟨by rw[b];rfl,i,b⟩:h.length=(GH v av a ⟨c,0,14⟩).length/\(A=.d (.agg l.cells)/\h=GH v av a f)))
 have e:iE (λi=>if i=0 then 0 else H.length) [.ref 1 0,.d (.int .i64 ((av:Nat):Int))]=[.ref H.length 0,.d (.int .i64 ((av:Nat):Int))]:=by simp[iE,dx]
 rw[e]at o;refine o.mono ?_;rintro r D ⟨G,I,⟨rfl,rfl⟩,_,rfl,B,p,C⟩;refine⟨W,?_⟩;apply ajQ;intro j;have q:=p 0 _ W;have s:=p 1 _ W;simp[cH,iE,dx]at q s;rcases Nat.lt_trichotomy j H.length with d|d|d
 .rw[aim (by simpa using d)];by_cases z:j=0
  .subst z;rw[q];simp[n]
  .rw[C j (λi g=>by
    have h:i=0\/i=1:=by have:i<2:=g;omega
    rcases h with rfl|rfl
    .simp;omega
    .simp;omega),aim d,aiQ (by omega)]
 .subst d;rw[s,aix (by simp)];simp
 .rw[ail (by simp at B;omega),ail (by simp;omega)]
end
theorem Hs(a:List Int)(v:D)(ht:Tape a v)(k:Nat)(c:0<k)(p:k<=1000)(i:Nat)(g:i<=a.length):DT prog 58 [.ref 0 0,.d (.int .i64 ((k:Nat):Int))] [.box (fo v i)] λr K=>∃(j b:Nat),r=.d (.int .i64 ((j:Nat):Int))/\K=[.box (fo v b)]/\j<k/\b<=a.length:=by
 obtain⟨⟨f,h,l⟩,q⟩:=ht;refine DT.ob func58 W ntmps58 W<|dC [2] W ?_;rcases ais i a.length with b|b
 rotate_left
 .have d:decide (((i:Nat):Int)>=(a.length:Int))=true:=aiS (by omega);refine dC [] W ?_;apply Mz fK
  .intro e m;refine fR 8 W<|lY W W f<|kV W W W (r:=.bool true) (by show some (D.bool (decide _))=_;rw[d])<|TF.nil ⟨by kernel_rfl,rfl⟩
  refine dC [1,2] W<|DC.ret ⟨_,W,0,i,W,W,c,g⟩
 .have m:decide (((i:Nat):Int)>=(a.length:Int))=false:=ai1 (by omega);obtain rfl:v=.sl (kW .u8 a):=h.resolve_left (by grind);have d:(kW .u8 a)[((i:Nat):Int).toNat]?=some [.int .u8 a[i]]:=yk (aiM b);have e:=IZ (l a[i] (aif b));generalize a[i]=z at d e;obtain⟨z,rfl⟩:=akT e.1;have n:((i:Nat):Int)+1-1=(i:Int):=by omega
  have o:Int.tmod (z:Int) (k:Int)=((z%k:Nat):Int):=rfl;refine dC [] W ?_;apply Mz fK
  .intro s t;refine fR 8 W<|lY W W f<|kV W W W (r:=.bool false) (by show some (D.bool (decide _))=_;rw[m])<|TF.nil ⟨by kernel_rfl,rfl⟩
  refine dO [0,2,23] W<|Mq (bc W W W (by omega))<|dR [999] W<|Mq (cd W W W W W W)<|dL [] W ?_;apply Mz fK
  .intro s t;refine fR 8 W<|fO W W W (by omega) ?_;rw[n];refine bE W W W (ah7 i) d W<|fR 1 W<|Cl W W ?_;rw[IntWalk.i64_in _ ⟨by omega,by omega⟩];refine fR 1 W<|DU W W W (by simp;omega) ?_;rw[o];refine fR 1 W<|TF.nil ⟨by kernel_rfl,rfl⟩
  exact DC.ret ⟨_,W,z%k,i+1,W,W,aj1 _ c,b⟩
theorem I9{α:Type}{l:List α}{i:Nat}{x:α}(h:l[i]?=some x):i<l.length:=by grind
theorem A0{n i:Nat}{rs:List (List D)}{m:M}{H:Hp}(h:Acc n i rs m H)(hi:1<=i)(c:1<=H.length)(rows:List (List D)):
  ∃a,Acc n a (rs++rows) (cJ m H rows) (ef n m H rows)/\1<=a/\(∀j ob,(rs≠[]->j≠i)->H[j]?=some ob->(ef n m H rows)[j]?=some ob)/\H.length<=(ef n m H rows).length:=by
 rcases h with⟨rfl,rfl⟩|⟨d,a,rfl,b⟩
 .cases rows with
  |nil=>exact⟨i,.inl ⟨W,W⟩,hi,λj ob _ h=>h,ah9 _⟩
  |cons q r=>
   refine⟨H.length,.inr ⟨by simp,0,by simp[cJ,s5],by simp[ef,jt]⟩,c,λj ob _ h=>?_,by simp[ef,jt]⟩;simp only[ef,jt];rw[aim (nJ h)];exact h
 .have f:=nJ b;have e:ef n (.bZ i a rs.length) H rows=H.set i (.row true n (a+1) (aM rs++aM rows)):=by simp only[ef,b]
  rw[e];exact⟨i,.inr ⟨by simp[d],a+1,by simp[cJ],by rw[zi];simp[f]⟩,hi,λj ob a h=>by grind,by simp⟩
def I_(b:List Int)(v:D)(ht:Tape b v):PT prog 17 [v] (λr=>∃l,r=[.agg (IY l)]/\GP l):=by
 obtain⟨r1,K1,⟨j,e,rfl,rfl,hj,p⟩,q⟩:=Hs b v ht 3 (by omega) (by omega) 0 (by omega);have s:1+((j:Nat):Int)=((j+1:Nat):Int):=by omega
 have t:j+1<=3:=by omega
 have u:1<=j+1:=by omega
 have V:(∃a,v=.sl a)\/v=.oD:=by
  have:=ht.jc.1;cases v<;>simp[mz]at this
  .exact .inl ⟨_,W⟩
  .exact .inr W
 have w:= λ(a:Nat) (g:Bool) (e:a<=10) (c:Nat) (f:c<=b.length)=>I8 ht a g e c f
 rcases V with⟨c,rfl⟩|rfl
 .refine ML (DT.ct ?_);refine DT.ob func17 W ntmps17 W<|dO [2,2,14] W<|Mq (oi W W W)<|dR [2,2,20] W<|Mq (aA q W W)<|dR [21] W<|Mq (bc W W W (by omega)) ?_;rw[s];refine dL [] W ?_;generalize j+1=N at t u⊢;refine dC [2] W<|M5 [(6,.m (.d (.int .i64 ((0:Nat):Int)))),(5,.m (.d (.int .i64 ((N:Nat):Int)))),(4,.loc 4 0),(3,.m (.ref 0 0)),(2,.loc 2 0)] [.box (fo (.sl c) e)] W W<|dC [3] W<|OY (λk g=>∃(i:Nat) (l:List Nd) (m:M) (f e:Nat) (H:Hp) (a:List (Nat×List M)),g=⟨[(6,.m (.d (.int .i64 (i:Int)))),(5,.m (.d (.int .i64 ((N:Nat):Int)))),(4,.loc 4 0),(3,.m (.ref 0 0)),(2,.loc 2 0)],a,H⟩/\Go.Mt.get a 4=some [.d (.sl [Da]),m]/\Go.Mt.get a 2=some [.d (.sl []),.d (.sl [])]/\Acc 7 e (kJ l) m H/\1<=e/\H[0]?=some (.box (fo (.sl c) f))/\f<=b.length/\i<=N/\l.length=i/\(∀(k:Nat) (d:Nd),l[k]?=some d->GN k d)/\k=N-i) N _
   ⟨0,[],.d (.sl []),e,1,_,_,rfl,rfl,rfl,.inl ⟨rfl,rfl⟩,by omega,rfl,p,by omega,rfl,by simp,rfl⟩ W ?_
  rintro k s1 ⟨i,l,m,X,U,H,bx,rfl,g,x,y,Z,z,Y,hi,A,B,rfl⟩;refine dC [2] W<|DC.cond W (λn=>?_) (λn=>?_)
  .have MC:i<N:=by have:=aic n;omega
   obtain⟨o,f,C,E,TJ,PQ,F⟩:=w i (((i:Nat):Int)==((N:Nat):Int)-1) (by omega) X Y H z;obtain⟨G,I,J,K,L,O,P,Q⟩:=I7 (B8 o);rw[Q]at F;have R:=nJ z;have S:Acc 7 U (kJ l) m (H.set 0 (.box (fo (.sl c) f))++[.box (jI C E i (((i:Nat):Int)==((N:Nat):Int)-1))]):=y.other (λa a=>by
    rw[aim (by simpa using nJ a),aiQ (by omega)];exact a)
   have ac:(kJ l).length<=3:=by rw[AZ];omega
   have Nr:kJ (l++[o])=kJ l++[[G,I,J,K,L,O,P]]:=by rw[<-Q];simp[kJ]
   obtain⟨a',T,b2,b3,b4⟩:=A0 S Z (by simp) [[G,I,J,K,L,O,P]];have Rn:=b3 0 _ (by omega) (show(H.set 0 (.box (fo (.sl c) f))++[.box (jI C E i (((i:Nat):Int)==((N:Nat):Int)-1))])[0]?=some (.box (fo (.sl c) f)) by rw[aim (by simpa using R)];simp[R]);rw[<-Nr]at T;refine dO [3,2,31] W<|Mq (cj W W W (by omega))<|dR [33] W<|Mq (Ah W W W W W)<|dR [34] W<|Mq (oi W W W)<|dL [] W ?_;apply Mz fK
   .intro a h;refine fR 1 W<|cO W W g W<|fR 2 W<|bB F W W<|fR 1 W<|xr S W W W W W W (by omega) (by omega)<|fR 1 W<|cv W W g (aN _ _ _) W W<|TF.nil ⟨by kernel_rfl,rfl⟩
   refine dO [2,26] W<|Mq (bc W W W (by omega))<|dL [] W<|bf (k':=N-(i+1)) (by omega) ⟨i+1,l++[o],_,f,a',_,_,rfl,rfl,x,T,b2,Rn,PQ,by omega,by simp[A],by
    intro k d a;rcases ais k l.length with h|h
    .rw[aim h]at a;exact B k d a
    .rw[aix h]at a;obtain rfl:k=l.length:=by have:=I9 a;simp at this;omega
     simp at a;subst a;rw[A];exact TJ,W⟩ W W
  .refine DC.exit ?_;have a:i=N:=by have:=aie n;omega
   refine DC.cA (MP:=[.d (.sl [Da]),.d (.sl (kJ l))]) 4 g (fV (ib (y.view (pR l)) W))<|dO [2,999] W<|Mq (aK W W x W W W)<|dL [] W<|DC.ret ⟨_,W,[_],W,l,W,by omega,by omega,B⟩
 .refine ML (DT.ct ?_);refine DT.ob func17 W ntmps17 W<|dO [2,2,14] W<|Mq (oi W W W)<|dR [2,2,20] W<|Mq (aA q W W)<|dR [21] W<|Mq (bc W W W (by omega)) ?_;rw[s];refine dL [] W ?_;generalize j+1=N at t u⊢;refine dC [2] W<|M5 [(6,.m (.d (.int .i64 ((0:Nat):Int)))),(5,.m (.d (.int .i64 ((N:Nat):Int)))),(4,.loc 4 0),(3,.m (.ref 0 0)),(2,.loc 2 0)] [.box (fo .oD e)] W W<|dC [3] W<|OY (λk f=>∃(i:Nat) (l:List Nd) (m:M) (e c:Nat) (H:Hp) (a:List (Nat×List M)),f=⟨[(6,.m (.d (.int .i64 (i:Int)))),(5,.m (.d (.int .i64 ((N:Nat):Int)))),(4,.loc 4 0),(3,.m (.ref 0 0)),(2,.loc 2 0)],a,H⟩/\Go.Mt.get a 4=some [.d (.sl [Da]),m]/\Go.Mt.get a 2=some [.d (.sl []),.d (.sl [])]/\Acc 7 c (kJ l) m H/\1<=c/\H[0]?=some (.box (fo .oD e))/\e<=b.length/\i<=N/\l.length=i/\(∀(k:Nat) (d:Nd),l[k]?=some d->GN k d)/\k=N-i) N _
   ⟨0,[],.d (.sl []),e,1,_,_,rfl,rfl,rfl,.inl ⟨rfl,rfl⟩,by omega,rfl,p,by omega,rfl,by simp,rfl⟩ W ?_
  rintro k s1 ⟨i,l,m,X,U,H,bx,rfl,g,x,y,Z,z,Y,hi,A,B,rfl⟩;refine dC [2] W<|DC.cond W (λn=>?_) (λn=>?_)
  .have MC:i<N:=by have:=aic n;omega
   obtain⟨o,f,C,E,TJ,PQ,F⟩:=w i (((i:Nat):Int)==((N:Nat):Int)-1) (by omega) X Y H z;obtain⟨G,I,J,K,L,O,P,Q⟩:=I7 (B8 o);rw[Q]at F;have R:=nJ z;have S:Acc 7 U (kJ l) m (H.set 0 (.box (fo .oD f))++[.box (jI C E i (((i:Nat):Int)==((N:Nat):Int)-1))]):=y.other (λa a=>by
    rw[aim (by simpa using nJ a),aiQ (by omega)];exact a)
   have ac:(kJ l).length<=3:=by rw[AZ];omega
   have Nr:kJ (l++[o])=kJ l++[[G,I,J,K,L,O,P]]:=by rw[<-Q];simp[kJ]
   obtain⟨a',T,b2,b3,b4⟩:=A0 S Z (by simp) [[G,I,J,K,L,O,P]];have Rn:=b3 0 _ (by omega) (show(H.set 0 (.box (fo .oD f))++[.box (jI C E i (((i:Nat):Int)==((N:Nat):Int)-1))])[0]?=some (.box (fo .oD f)) by rw[aim (by simpa using R)];simp[R]);rw[<-Nr]at T;refine dO [3,2,31] W<|Mq (cj W W W (by omega))<|dR [33] W<|Mq (Ah W W W W W)<|dR [34] W<|Mq (oi W W W)<|dL [] W ?_;apply Mz fK
   .intro a h;refine fR 1 W<|cO W W g W<|fR 2 W<|bB F W W<|fR 1 W<|xr S W W W W W W (by omega) (by omega)<|fR 1 W<|cv W W g (aN _ _ _) W W<|TF.nil ⟨by kernel_rfl,rfl⟩
   refine dO [2,26] W<|Mq (bc W W W (by omega))<|dL [] W<|bf (k':=N-(i+1)) (by omega) ⟨i+1,l++[o],_,f,a',_,_,rfl,rfl,x,T,b2,Rn,PQ,by omega,by simp[A],by
    intro k d a;rcases ais k l.length with h|h
    .rw[aim h]at a;exact B k d a
    .rw[aix h]at a;obtain rfl:k=l.length:=by have:=I9 a;simp at this;omega
     simp at a;subst a;rw[A];exact TJ,W⟩ W W
  .refine DC.exit ?_;have a:i=N:=by have:=aie n;omega
   refine DC.cA (MP:=[.d (.sl [Da]),.d (.sl (kJ l))]) 4 g (fV (ib (y.view (pR l)) W))<|dO [2,999] W<|Mq (aK W W x W W W)<|dL [] W<|DC.ret ⟨_,W,[_],W,l,W,by omega,by omega,B⟩
end Go.Proofs
namespace Go.Ex
open Go.Mt Go.Mk
abbrev e0:Nm:=⟨#[]⟩
abbrev z2:Int×Int:=(0,0)
def cq:E->Sm.Xp
 |.nil=>.mk 0 0 0 e0 [] [] z2
 |.int n=>.mk 1 0 n e0 [] [] z2
 |.bool n=>.mk 2 0 n e0 [] [] z2
 |.ctor s=>.mk 3 0 0 s [] [] z2
 |.var s=>.mk 4 0 0 s [] [] z2
 |.last s=>.mk 5 0 0 s [] [] z2
 |.un d a=>.mk 6 d 0 e0 [] [cq a] z2
 |.bin d a b=>.mk 7 d 0 e0 [] [cq a,cq b] z2
 |.ite c a b=>.mk 8 0 0 e0 [] [cq c,cq a,cq b] z2
 |.sg a b=>.mk 9 0 0 e0 [] [cq a,cq b] z2
 |.pre a=>.mk 10 0 0 e0 [] [cq a] z2
 |.arrow a b=>.mk 11 0 0 e0 [] [cq a,cq b] z2
 |.mm x c a=>.mk 12 0 0 x [c] [cq a] z2
 |.merge x d e f a b c=>.mk 13 0 0 x [d,e,f] [cq a,cq b,cq c] z2
def uI:Option (Nm×Nm)->List (Nm×Nm)
 |none=>[]
 |some c=>[c]
def lg(v:Va):Sm.Va:=⟨v.name,v.ty.kind,v.ty.nm,uI v.clock,v.last,cq v.first,z2⟩
def I'(t:Tr):Sm.Tr:=⟨cq t.e,t.to,t.BN,z2⟩
mutual
def jR:aD->Sm.aD
 |.df x e=>.mk 1 [x] e0 [] false (cq e) [] z2
 |.call x y f a b c e=>.mk 2 [x,y] f [cq a,cq b] c (cq e) [] z2
 |.sw e a=>.mk 3 [] e0 [] false (cq e) (gN a) z2
 |.wW a=>.mk 4 [] e0 [] false (cq .nil) (gN a) z2
 |.reset e b=>.mk 5 [] e0 [] false (cq e) [.mk e0 (nW b) [] [] z2] z2
def Aa:aH->Sm.aH
 |.mk d b a c=>.mk d (nW b) (a.map I') (c.map I') z2
def gN:List aH->List Sm.aH
 |[]=>[]
 |a::l=>Aa a::gN l
def nW:bF->Sm.bF
 |.mk b a=>.mk (b.map lg) (dS a)
def dS:List aD->List Sm.aD
 |[]=>[]
 |q::l=>jR q::dS l
end
def nq(l:List aH):gN l=l.map Aa:=by induction l with
 |nil=>rfl
 |cons b l a=>simp[gN,a]
def vY(l:List aD):dS l=l.map jR:=by induction l with
 |nil=>rfl
 |cons b l a=>simp[dS,a]
def kQ(d:Nd):Sm.Nd:=⟨d.name,d.ins.map lg,d.outs.map lg,nW d.b,z2⟩
abbrev vZ:Sm.En:=⟨mj,[cR,bT,eK],z2⟩
def ph(l:List Nd):Sm.Pg:=⟨[vZ],l.map kQ⟩
def de:∀e:E,(cq e).cells=e.cells
 |.nil=>rfl
 |.int n=>rfl
 |.bool n=>rfl
 |.ctor s=>rfl
 |.var s=>rfl
 |.last s=>rfl
 |.un d a=>by simp only[cq,Sm.Xp.cells,Sm.qc,de a];rfl
 |.bin d a b=>by simp only[cq,Sm.Xp.cells,Sm.qc,de a,de b];rfl
 |.ite c a b=>by simp only[cq,Sm.Xp.cells,Sm.qc,de a,de b,de c];rfl
 |.sg a b=>by simp only[cq,Sm.Xp.cells,Sm.qc,de a,de b];rfl
 |.pre a=>by simp only[cq,Sm.Xp.cells,Sm.qc,de a];rfl
 |.arrow a b=>by simp only[cq,Sm.Xp.cells,Sm.qc,de a,de b];rfl
 |.mm x c a=>by simp only[cq,Sm.Xp.cells,Sm.qc,de a];rfl
 |.merge x d f g a b c=>by simp only[cq,Sm.Xp.cells,Sm.qc,de a,de b,de c];rfl
def EW(v:Va):(lg v).cells=v.cells:=by
 obtain⟨n,t,a,l,f⟩:=v;have:Sm.bA (uI a)=bA a:=by cases a<;>rfl
 simp only[lg,Sm.Va.cells,Va.cells,de,this]
def zj(l:List Va):Sm.ax (l.map lg)=ax l:=by simp[Sm.ax,ax,Function.comp_def,EW]
def EX(l:List Tr):Sm.eL (l.map I')=eL l:=by
 simp only[Sm.eL,eL,akA];exact List.map_congr_left λt _=>by simp[I',Sm.Tr.cells,Tr.cells,de]
mutual
def EY:∀q:aD,(jR q).cells=q.cells
 |.df x e=>by simp only[jR,Sm.aD.cells,aD.cells,de];try rfl
 |.call x y f a b c e=>by simp only[jR,Sm.aD.cells,aD.cells,de,aiq,aiL];try rfl
 |.sw e a=>by simp only[jR,Sm.aD.cells,aD.cells,de,rr a];try rfl
 |.wW a=>by simp only[jR,Sm.aD.cells,aD.cells,de,rr a];try rfl
 |.reset e b=>by simp only[jR,Sm.aD.cells,aD.cells,de,Sm.b_,Sm.aH.cells,tx b];try rfl
def EZ:∀a:aH,(Aa a).cells=a.cells
 |.mk e b c d=>by simp only[Aa,Sm.aH.cells,aH.cells,tx b,EX]
def rr:∀l:List aH,Sm.b_ (gN l)=b_ l
 |[]=>rfl
 |a::l=>by simp only[gN,Sm.b_,b_,EZ a,rr l]
def tx:∀b:bF,(nW b).cells=b.cells
 |.mk c a=>by simp only[nW,Sm.bF.cells,bF.cells,zj,wZ a]
def wZ:∀l:List aD,Sm.bI (dS l)=bI l
 |[]=>rfl
 |q::l=>by simp only[dS,Sm.bI,bI,EY q,wZ l]
end
def E0(d:Nd):(kQ d).cells=d.cells:=by
 have h:=tx d.b;rw[Sm.bF.ah]at h;have a:d.cells=[.str d.name,.sl (ax d.ins),.sl (ax d.outs)]++d.b.cells++[.int .i64 0,.int .i64 0]:=rfl;rw[a,<-h];simp only[kQ,Sm.Nd.cells,zj];rfl
def E1(l:List Nd):(ph l).cells=IY l:=by
 have:(l.map kQ).map Sm.Nd.cells=kJ l:=by
  simp only[kJ,akA];exact List.map_congr_left λd _=>E0 d
 show [D.sl [Sm.En.cells vZ],D.sl ((l.map kQ).map Sm.Nd.cells)]=_;rw[this];rfl
variable{x:Nm}{n n' m:Nat}{vars:List Sm.Va}
def A3(l:List UInt8):Nat:=l.foldl (λa b=>10*a+(b.toNat-48)) 0
def p7(d:Nat)(h:d<10):(strOfNums [IntKind.u8.wrap (48+(d:Int))]).data.toList=[UInt8.ofNat (48+d)]:=by
 match d,h with
 |0,_=>rfl
 |1,_=>rfl
 |2,_=>rfl
 |3,_=>rfl
 |4,_=>rfl
 |5,_=>rfl
 |6,_=>rfl
 |7,_=>rfl
 |8,_=>rfl
 |9,_=>rfl
def uJ(d:Nat)(h:d<10):(UInt8.ofNat (48+d)).toNat-48=d:=by
 match d,h with
 |0,_=>rfl
 |1,_=>rfl
 |2,_=>rfl
 |3,_=>rfl
 |4,_=>rfl
 |5,_=>rfl
 |6,_=>rfl
 |7,_=>rfl
 |8,_=>rfl
 |9,_=>rfl
def FU(n:Nat):A3 (dg n).data.toList=n:=by
 induction n using Nat.strongRecOn with
 |ind n b=>
  rw[dg];split
  .rename_i h;rw[p7 n h];simp only[A3,aii,ajK];rw[uJ n h];omega
  .rename_i h;have a:=b (n/10) (by omega);rw[ajZ,aj8,p7 (n%10) (by omega)];unfold A3 at a⊢;rw[aiC,a];simp only[aii,ajK];rw[uJ (n%10) (by omega)];omega
def uK(c:UInt8)(k:Nat):(nm c k).data.toList=c::(dg k).data.toList:=by
 unfold nm;rw[ajZ,aj8];rfl
def p8{c a:UInt8}{k k':Nat}(h:nm c k=nm a k'):c=a/\k=k':=by
 have b:(nm c k).data.toList=(nm a k').data.toList:=by rw[h]
 rw[uK,uK]at b;injection b with d e
 exact⟨d,by rw[<-FU k,e,FU k']⟩
def Lu(k:Nat):(dg k).data.toList≠[]:=by
 rw[dg];split
 .rename_i h;rw[p7 k h];simp
 .rw[ajZ,aj8,p7 _ (by omega)];simp
def Ka(c a:UInt8)(k:Nat):nm c k≠⟨#[a]⟩:=by
 intro h;have b:(nm c k).data.toList=[a]:=by rw[h]
 rw[uK]at b;injection b with _ d
 exact Lu k d
def Gt(n:Nat)(x:Nm):Prop:=∃a k,n<k/\x=nm a k
def ru(n b:Nat)(x:Nm):Prop:=∃a k,a≠95/\n<k/\k<=b/\x=nm a k
def ru.gt(h:ru n n' x):Gt n x:=by obtain⟨c,k,_,a,_,b⟩:=h;exact⟨c,k,a,b⟩
def ru.not(h:ru n n' x):¬Gt n' x:=by
 rintro⟨d,e,f,a⟩;obtain⟨c,k,_,g,i,b⟩:=h;rw[b]at a;have:=(p8 a).2;omega
def ru.mono{a:Nat}(h:ru n n' x)(e:m<=n)(f:n'<=a):ru m a x:=by obtain⟨c,k,b,g,i,d⟩:=h;exact⟨c,k,b,by omega,by omega,d⟩
def Gt.mono(h:Gt n x)(b:m<=n):Gt m x:=by obtain⟨c,k,d,a⟩:=h;exact⟨c,k,by omega,a⟩
def A4{l:List Nm}{y:Nm} :y∈Sm.bt l x↔y∈l\/y=x:=by
 unfold Sm.bt;split
 .rename_i h;rw[Sm.gX]at h;constructor
  .exact .inl
  .rintro(a|rfl)
   .exact a
   .exact h
 .simp
def tA{r:List Nm} :∀{l:List Nm} {y:Nm},y∈r.foldl Sm.bt l↔y∈l\/y∈r:=by
 induction r with
 |nil=>intro l y;simp
 |cons x r a=>intro l y;rw[aii,a,A4,aib,or_assoc]
def eT{ai:List Sm.aH} :∀{l:List Nm} {x:Nm},x∈Sm.aQ l ai↔x∈l\/∃a∈ai,x∈Sm.cy a.aT:=by
 induction ai with
 |nil=>intro l x;simp[Sm.aQ]
 |cons a r d=>
  intro l x;rw[Sm.aQ,d,tA];have e:Sm.pM a=Sm.cy a.aT:=by cases a;rw[Sm.pM];rfl
  rw[e];constructor
  .rintro((h|h)|⟨b,c,h⟩)
   .exact .inl h
   .exact .inr ⟨a,ajf ..,h⟩
   .exact .inr ⟨b,ajb _ c,h⟩
  .rintro(h|⟨b,c,h⟩)
   .exact .inl (.inl h)
   .rcases aib.1 c with rfl|c
    .exact .inl (.inr h)
    .exact .inr ⟨b,c,h⟩
def Di{a:List Sm.aD} :∀{l:List Nm} {x:Nm},x∈Sm.j' vars l a↔x∈l\/∃q∈a,x∈Sm.bX q/\(Sm.r_ vars x).isNone=true:=by
 induction a with
 |nil=>intro l x;simp[Sm.j']
 |cons q r d=>
  intro l x;rw[Sm.j',d,tA,akv];constructor
  .rintro((h|⟨h,c⟩)|⟨b,e,h⟩)
   .exact .inl h
   .exact .inr ⟨q,ajf ..,h,c⟩
   .exact .inr ⟨b,ajb _ e,h⟩
  .rintro(h|⟨b,c,h⟩)
   .exact .inl (.inl h)
   .rcases aib.1 c with rfl|c
    .exact .inl (.inr h)
    .exact .inr ⟨b,c,h⟩
def ku{b:Sm.bF} :x∈Sm.cy b↔(∃q∈b.eqs,x∈Sm.bX q)/\(Sm.r_ b.vars x).isNone=true:=by
 obtain⟨f,e⟩:=b;rw[Sm.cy,Di];simp only[aip,false_or,Sm.bF.eqs,Sm.bF.vars];exact⟨λ⟨q,a,c,d⟩=>⟨⟨q,a,c⟩,d⟩,λ⟨⟨q,a,c⟩,d⟩=>⟨q,a,c,d⟩⟩
def rS:(Sm.r_ vars x).isNone=true↔ ∀v∈vars,v.name≠x:=by
 unfold Sm.r_;rw[Option.isNone_iff_eq_none,ajn];simp
def uL(x:Nm):Prop:=x.data.toList.head?≠some 95
def ru.Kb(h:ru n n' x):uL x:=by
 obtain⟨c,k,a,_,_,rfl⟩:=h;unfold uL;rw[uK];simpa using a
def rT(c:UInt8)(k:Nat):(Ps.mi c k).data.toList=95::c::Lib.decDigits k:=by
 unfold Ps.mi;rw[ajZ,aj8];rfl
def uL.ne(h:uL x)(c:UInt8)(k:Nat):x≠Ps.mi c k:=by
 rintro rfl;apply h;rw[rT];rfl
end Go.Ex
namespace Go.Pm
open Go.Mt Go.Sm Go.Ps
variable{T:TE}{x:Nm}
mutual
def eP:Xp->Nat->Prop
 |.mk k d n x b a p,c=>(1<=k/\k<=13/\(k=3\/k=5->a=[])/\(k=6\/k=7->1<=d/\d<=16)/\(k=8->2<=a.length)/\(k=9\/k=10->a≠[])/\(k=11->a.length=2)/\
   (k=12->1<=c/\b≠[]/\a.length=1/\bC a=0)/\(k=13->a.length<=b.length)/\a.length<=1000/\b.length<=1000)/\fJ a (if k=12 then c-1 else if k=13 then c+1 else c)
def fJ:List Xp->Nat->Prop
 |[],_=>True
 |e::l,c=>eP e c/\fJ l c
end
mutual
theorem eP.mono:∀(e:Xp) {c a:Nat},eP e c->c<=a->eP e a
 |.mk q u r x w p s,c,t,h,v=>by
  rw[eP]at h⊢;obtain⟨⟨a,b,d,f,g,i,j,k,l,m,n⟩,o⟩:=h;exact⟨⟨a,b,d,f,g,i,j,λa=>⟨by grind,(k a).2⟩,l,m,n⟩,fJ.mono p o (by grind)⟩
theorem fJ.mono:∀(l:List Xp) {c a:Nat},fJ l c->c<=a->fJ l a
 |[],_,_,_,_=>by rw[fJ];trivial
 |e::l,c,b,h,a=>by rw[fJ]at h⊢;exact⟨eP.mono e h.1 a,fJ.mono l h.2 a⟩
end
mutual
def eP.sh:∀(e:Xp) {c:Nat},eP e c->fG e/\n8 e
 |.mk k j n x w a p,c,h=>by
  rw[eP]at h;obtain⟨⟨l,m,o,q,r,f,s,g,t,u,v⟩,b⟩:=h;refine⟨.mk (λi=>?_) (by simp only[Xp.kids];omega) (by simp only[Xp.names];omega) λe d=>(fJ.sh a b e d).1,.mk (λa=>f (.inl a)) (by omega) (by omega) λe d=>(fJ.sh a b e d).2⟩;have:=(g i).2.2.1
  match a,this with
  |[d],_=>exact⟨d,W⟩
def fJ.sh:∀(l:List Xp) {c:Nat},fJ l c->∀e∈l,fG e/\n8 e
 |[],_,_,e,a=>by simp at a
 |b::l,c,h,e,a=>by
  rw[fJ]at h;rcases aib.1 a with a|a
  .rw[a];exact eP.sh b h.1
  .exact fJ.sh l h.2 e a
end
def uM:fG bR/\n8 bR:=⟨.mk (λh=>by simp[Xp.kd]at h) (by simp[Xp.kids]) (by simp[Xp.names]) (λk a=>by simp[Xp.kids]at a),.mk (λh=>by simp at h) (by simp) (by simp) (λe a=>by simp at a)⟩
abbrev KE:=Nm->Nat
def KE.add(K:KE)(v:Va):KE:= λy=>if y=v.name then v.clock.length else K y
def rU:∀{l:List Va},(∀v∈l,v.name≠x)->(l.foldl TE.add T) x=T x:=by
 intro l
 induction l generalizing T with
 |nil=>intro _;rfl
 |cons a l b=>
  intro h;rw[aii,b (λv a=>h v (by simp[a]))];unfold TE.add;rw[aid (λe=>h a (by simp) e.symm)]
theorem v7:∀{l:List Va},(l.map (·.name)).Nodup->∀v∈l,(l.foldl TE.add T) v.name=some (v.tk,v.tn):=by
 intro l
 induction l generalizing T with
 |nil=>intro _ v a;simp at a
 |cons c l d=>
  intro b v a;rw[aiq,ajk]at b;rw[aii];rcases aib.1 a with rfl|a
  .rw[rU (λw a e=>b.1 (by grind))];unfold TE.add;rw[air W]
  .grind
def zk:∀{l:List Va},(T x).isSome=true->((l.foldl TE.add T) x).isSome=true:=by
 intro l
 induction l generalizing T with
 |nil=>exact id
 |cons b l a=>intro h;rw[aii];refine a ?_;unfold TE.add;split;rfl;exact h
def nY{K:KE} :∀{l:List Va},(∀v∈l,v.name≠x)->(l.foldl KE.add K) x=K x:=by
 intro l
 induction l generalizing K with
 |nil=>intro _;rfl
 |cons a l b=>
  intro h;rw[aii,b (λv a=>h v (by simp[a]))];unfold KE.add;rw[aid (λe=>h a (by simp) e.symm)]
theorem zl{K:KE} :∀{l:List Va},(l.map (·.name)).Nodup->∀v∈l,(l.foldl KE.add K) v.name=v.clock.length:=by
 intro l
 induction l generalizing K with
 |nil=>intro _ v a;simp at a
 |cons c l d=>
  intro b v a;rw[aiq,ajk]at b;rw[aii];rcases aib.1 a with rfl|a
  .rw[nY (λw a e=>b.1 (by grind))];unfold KE.add;rw[air W]
  .grind
def B9(e:Xp):Prop:=(1<=e.kd/\e.kd<=3)/\e.kids=[]/\e.names=[]
structure xh where
 us:Nm->Prop
 Mh:Nat
 au:Prop
 a_:Nm->Prop
structure A5(P:xh)(a:List Va):Prop where
 nd:(a.map (·.name)).Nodup
 n:a.length<=P.Mh
 us:∀v∈a,P.us v.name
 ck:∀v∈a,v.clock.length<=1/\∀o∈v.clock,∃w∈a,w.name=o.2
 la:∀v∈a,v.last=true->B9 v.first
def zm(t:Tr):Prop:=eP t.e 0/\bJ t.e<=17/\t.to.size<=1000
structure FV(P:xh)(a:aH):Prop where
 nm:P.au->a.name.size<=1000
 u:a.eQ.length<=2
 w:a.eB.length<=2
 t:∀t∈a.eQ++a.eB,zm t
section
variable(en:List En)(P:xh)
mutual
def mu(T:TE)(K:KE):bF->Prop
 |.mk a b=>A5 P a/\fq (a.foldl TE.add T) (a.foldl KE.add K) b
def fq(T:TE)(K:KE):List aD->Prop
 |[]=>True
 |q::l=>mW T K q/\fq T K l
def mW(T:TE)(K:KE):aD->Prop
 |.mk k a f c d e b p=>((∀x∈a,(T x).isSome=true)/\a.length<=2/\a.Nodup/\c.length<=2/\bJ e<=100/\(∀a∈c,eP a 0/\bJ a<=100)/\b.length<=3/\∀a∈b,FV P a)/\
   ((k=1/\(∃x,a=[x]/\eP e (K x))/\c=[]/\b=[])\/
   (k=2/\a≠[]/\(eP e 0\/d=false/\e=bR)/\b=[]/\P.a_ f/\c.length=2)\/
   (k=3/\a=[]/\c=[]/\eP e 0/\oL en T.ty (λx=>(T x).isSome=true) e)\/
   (k=5/\a=[]/\c=[]/\eP e 0/\b.length=1)\/
   (P.au/\k=4/\a=[]/\c=[]/\b≠[]/\e=bR))/\gF T K b
def gF(T:TE)(K:KE):List aH->Prop
 |[]=>True
 |.mk _ b _ _ _::l=>mu T K b/\gF T K l
end
variable{en P}
def fq.app{K:KE} :∀{a b:List aD},fq en P T K (a++b)↔fq en P T K a/\fq en P T K b
 |[],b=>by simp[fq]
 |q::a,b=>by simp only[aiA,fq,fq.app (a:=a),and_assoc]
def gF.app{K:KE} :∀{a b:List aH},gF en P T K (a++b)↔gF en P T K a/\gF en P T K b
 |[],b=>by simp[gF]
 |.mk _ _ _ _ _::a,b=>by simp only[aiA,gF,gF.app (a:=a),and_assoc]
end
mutual
def uN:bF->Nat
 |.mk b a=>6*b.length+iV a
def iV:List aD->Nat
 |[]=>0
 |q::l=>qm q+iV l
def qm:aD->Nat
 |.mk k b _ c _ e a _=>(if k=4 then 1200+30*(aQ b a).length else 4+2*bJ e+2*aP c+b.length+c.length+(aQ b a).length)+lq (aQ b a).length a
def lq(n:Nat):List aH->Nat
 |[]=>0
 |.mk _ b _ _ _::l=>10+3*n+uN b+lq n l
end
def v8:∀a b:List aD,iV (a++b)=iV a+iV b
 |[],b=>by simp[iV]
 |q::a,b=>by simp only[aiA,iV,v8 a b,ajG]
def A6(n:Nat):∀a b:List aH,lq n (a++b)=lq n a+lq n b
 |[],b=>by simp[lq]
 |.mk _ _ _ _ _::a,b=>by simp only[aiA,lq,A6 n a b,ajG]
end Go.Pm
namespace Go.Ex
open Go.Mt Go.Mk Go.Pm
variable{T:Ps.TE}{n m d:Nat}{s:Sc}{t:Ty}{e:E}{l:List Va}{st:Bool}{r:List Sm.En}
def Kn(T:Ps.TE)(n:Nat)(v:Va):Prop:=T v.name=some (v.ty.kind,v.ty.nm)/\¬Gt n v.name
def p9(T:Ps.TE)(n:Nat)(s:Sc):Prop:=∀v,v∈s.ready\/v∈s.all\/v∈s.aO->Kn T n v
def Kn.mono{v:Va}(h:Kn T n v)(a:n<=m):Kn T m v:=⟨h.1,λg=>h.2 (g.mono a)⟩
def p9.mono(h:p9 T n s)(a:n<=m):p9 T m s:= λv b=>(h v b).mono a
def p9.more(h:p9 T n s)(b:∀v∈l,Kn T n v):p9 T n (s.more l):=by
 rintro v (a|a)
 .rcases ain.1 a with a|a
  .exact h v (.inl a)
  .exact b v a
 .exact h v (.inr a)
def p9.KK(h:p9 T n s):p9 T n ⟨s.all,s.all,s.aO⟩:= λv a=>by rcases a with a|a|a<;>exact h v (by simp[a])
def p9.kq(h:p9 T n s):p9 T n s.kq:= λv a=>by rcases a with a|a|a;exact h v (.inl a);simp at a;exact h v (.inr (.inr a))
def gs:Nat->Nat
 |0=>1
 |d+1=>3*gs d+2
def xD(d:Nat):1<=gs d:=by cases d<;>simp[gs]
abbrev ja(r:List Sm.En):List Sm.En:=vZ::r
def tB(h:GC t e):(eP (cq e) 0/\Ps.bJ (cq e)<=1/\Ps.dZ (cq e)=0)/\B9 (cq e):=by
 cases h<;>simp[cq,eP,fJ,Ps.bJ,Ps.aP,Ps.dZ,Ps.bC,B9,Sm.Xp.kd,Sm.Xp.kids,Sm.Xp.names]
theorem oP(h:GE s t st d e):eP (cq e) 0/\Ps.bJ (cq e)<=gs d/\(st=false->Ps.dZ (cq e)=0):=by
 induction h with
 |v h=>cases h with
  |Lp h=>obtain⟨⟨a,b,c⟩,_⟩:=tB h;exact⟨a,aiz b (xD _),λ_=>c⟩
  |var h=>refine⟨by simp[cq,eP,fJ],?_,by simp[cq,Ps.dZ,Ps.bC]⟩;simp only[cq,Ps.bJ,Ps.aP];exact xD _
 |c h=>obtain⟨⟨a,b,c⟩,_⟩:=tB h;exact⟨a,aiz b (xD _),λ_=>c⟩
 |ite _ _ _ a f g=>
  refine⟨?_,?_,λh=>?_⟩
  .simp[cq,eP,fJ,a.1,f.1,g.1]
  .have:=a.2.1;have:=f.2.1;have:=g.2.1;simp only[cq,Ps.bJ,Ps.aP,gs];omega
  .simp[cq,Ps.dZ,Ps.bC,a.2.2 h,f.2.2 h,g.2.2 h]
 |sg g _ a=>
  obtain⟨⟨f,b,c⟩,_⟩:=tB g;refine⟨?_,?_,λh=>by simp at h⟩
  .simp[cq,eP,fJ,f,a.1]
  .have:=a.2.1;simp only[cq,Ps.bJ,Ps.aP,gs];omega
 |arrow _ _ a f=>
  refine⟨?_,?_,λh=>by simp at h⟩
  .simp[cq,eP,fJ,a.1,f.1]
  .have:=a.2.1;have:=f.2.1;simp only[cq,Ps.bJ,Ps.aP,gs];omega
 |last h=>refine⟨by simp[cq,eP,fJ],?_,by simp[cq,Ps.dZ,Ps.bC]⟩;simp only[cq,Ps.bJ,Ps.aP];exact xD _
 |neg _ a=>
  refine⟨by simp[cq,eP,fJ,a.1],?_,λh=>by simp[cq,Ps.dZ,Ps.bC,a.2.2 h]⟩;have:=a.2.1;simp only[cq,Ps.bJ,Ps.aP,gs];omega
 |arith g i _ _ a f=>
  refine⟨?_,?_,λh=>by simp[cq,Ps.dZ,Ps.bC,a.2.2 h,f.2.2 h]⟩
  .have:1<=g/\g<=16:=by grind
   simp[cq,eP,fJ,a.1,f.1,this]
  .have:=a.2.1;have:=f.2.1;simp only[cq,Ps.bJ,Ps.aP,gs];omega
 |not _ a=>
  refine⟨by simp[cq,eP,fJ,a.1],?_,λh=>by simp[cq,Ps.dZ,Ps.bC,a.2.2 h]⟩;have:=a.2.1;simp only[cq,Ps.bJ,Ps.aP,gs];omega
 |rk g u i _ _ a f=>
  refine⟨?_,?_,λh=>by simp[cq,Ps.dZ,Ps.bC,a.2.2 h,f.2.2 h]⟩
  .have:1<=g/\g<=16:=by grind
   simp[cq,eP,fJ,a.1,f.1,this]
  .have:=a.2.1;have:=f.2.1;simp only[cq,Ps.bJ,Ps.aP,gs];omega
abbrev LV(r:List Sm.En)(T:Ps.TE)(e:E)(t:Ty):Prop:=Ps.oL (ja r) T.ty (λx=>(T x).isSome=true) (cq e)/\Ps.dG (ja r) T.ty (cq e)=(t.kind,t.nm)
def E2(h:GC t e):LV r T e t:=by
 cases h with
 |bool h=>exact⟨.mk (λk a=>by simp[cq,Sm.Xp.kids]at a) (by simp[cq,Sm.Xp.kids]) (.inr (.inl W)),rfl⟩
 |int h=>exact⟨.mk (λk a=>by simp[cq,Sm.Xp.kids]at a) (by simp[cq,Sm.Xp.kids]) (.inl W),rfl⟩
 | @jh s h=>
  have a:Sm.cW vZ.fu s=true:=by rw[Sm.gX];exact h
  refine⟨.mk (λk a=>by simp[cq,Sm.Xp.kids]at a) (by simp[cq,Sm.Xp.kids]) (.inr (.inr (.inl ⟨rfl,vZ,by simp,a⟩))),?_⟩;show((3:Int),Ps.ow (ja r) s)=(3,mj);unfold Ps.ow ja;rw[ak3,a]
theorem Dj{x:Nm}(h:FO l t x)(a:∀v∈l,Kn T n v):(T x).isSome=true/\T.ty x=(t.kind,t.nm):=by
 obtain⟨v,b,rfl,_,rfl⟩:=h;have:=(a v b).1;exact⟨by grind,by unfold Ps.TE.ty;rw[this]⟩
def Lv(h:GE s t st d e)(a:p9 T n s):LV r T e t:=by
 induction h with
 |v h=>cases h with
  |Lp h=>exact E2 h
  |var h=>
   obtain⟨f,g⟩:=Dj h (λv f=>a v (.inl f));exact⟨.mk (λk a=>by simp[cq,Sm.Xp.kids]at a) (by simp[cq,Sm.Xp.kids]) (.inr (.inr (.inr (.inl ⟨rfl,f⟩)))),g⟩
 |c h=>exact E2 h
 |last h=>
  obtain⟨f,g⟩:=Dj h (λv f=>a v (.inr (.inr f)));exact⟨.mk (λk a=>by simp[cq,Sm.Xp.kids]at a) (by simp[cq,Sm.Xp.kids]) (.inr (.inr (.inr (.inr (.inl ⟨rfl,f⟩))))),g⟩
 |ite _ _ _ g i j=>
  obtain⟨o,k⟩:=g a;obtain⟨p,f⟩:=i a;obtain⟨q,l⟩:=j a;refine⟨.mk (λm a=>?_) (by simp[cq,Sm.Xp.kids]) (.inr (.inr (.inr (.inr (.inr (.inr (.inl ⟨rfl,_,_,_,rfl,by rw[k];rfl,by rw[f,l]⟩))))))),?_⟩
  .simp only[cq,Sm.Xp.kids,aib,aip,aiJ]at a;rcases a with rfl|rfl|rfl<;>assumption
  .rw[<-f];rfl
 |sg g _ i=>
  obtain⟨l,f⟩:=E2 (r:=r) (T:=T) g;obtain⟨m,j⟩:=i a.KK;refine⟨.mk (λk a=>?_) (by simp[cq,Sm.Xp.kids]) (.inr (.inr (.inr (.inr (.inr (.inr (.inr (.inl ⟨.inl W,_,_,rfl,by rw[f,j]⟩)))))))),?_⟩
  .simp only[cq,Sm.Xp.kids,aib,aip,aiJ]at a;rcases a with rfl|rfl<;>assumption
  .rw[<-f];rfl
 | @arrow s t d q b _ _ g i=>
  obtain⟨j,f⟩:=g a;obtain⟨k,l⟩:=i a.KK;have m:Ps.oL (ja r) T.ty (λx=>(T x).isSome=true) (cq (.pre b)):=.mk (λa a=>by simp only[cq,Sm.Xp.kids,aib,aip,aiJ]at a;rw[a];exact k) (by simp[cq,Sm.Xp.kids]) (.inr (.inr (.inr (.inr (.inr (.inr (.inr (.inr ⟨rfl,_,rfl⟩))))))));have o:Ps.dG (ja r) T.ty (cq (.pre b))=(t.kind,t.nm):=by rw[<-l];rfl
  refine⟨.mk (λp a=>?_) (by simp[cq,Sm.Xp.kids]) (.inr (.inr (.inr (.inr (.inr (.inr (.inr (.inl ⟨.inr W,_,_,rfl,by rw[f];exact o.symm⟩)))))))),?_⟩
  .simp only[cq,Sm.Xp.kids,aib,aip,aiJ]at a;rcases a with rfl|rfl
   .exact j
   .exact m
  .rw[<-f];rfl
 |neg _ f=>
  obtain⟨g,i⟩:=f a;refine⟨.mk (λk a=>?_) (by simp[cq,Sm.Xp.kids]) (.inr (.inr (.inr (.inr (.inr (.inl ⟨.inl W,⟨by simp[cq,Sm.Xp.op],by simp[cq,Sm.Xp.op]⟩,_,_,rfl,λk a=>?_⟩)))))),rfl⟩
  .simp only[cq,Sm.Xp.kids,aib,aip,aiJ]at a;rw[a];exact g
  .simp only[cq,Sm.Xp.kids,aib,aip,aiJ]at a;rw[a];exact⟨λ_=>by rw[i];rfl,rfl⟩
 |arith f k _ _ m o=>
  obtain⟨p,i⟩:=m a;obtain⟨q,j⟩:=o a;have g:(1<=f/\f<=16)/\Ps.sd f=2/\Ps.qM f=2:=by simp at k;rcases k with rfl|rfl|rfl|rfl|rfl<;>decide
  refine⟨.mk (λl a=>?_) (by simp[cq,Sm.Xp.kids]) (.inr (.inr (.inr (.inr (.inr (.inl ⟨.inr W,g.1,_,_,rfl,λl a=>?_⟩)))))),?_⟩
  .simp only[cq,Sm.Xp.kids,aib,aip,aiJ]at a;rcases a with rfl|rfl<;>assumption
  .simp only[cq,Sm.Xp.kids,aib,aip,aiJ]at a;rcases a with rfl|rfl
   .exact⟨λ_=>by rw[i];exact g.2.1.symm,W⟩
   .exact⟨λ_=>by rw[j];exact g.2.1.symm,by rw[i,j]⟩
  .show(Ps.qM f,_)=_;rw[g.2.2];rfl
 |not _ f=>
  obtain⟨g,i⟩:=f a;refine⟨.mk (λk a=>?_) (by simp[cq,Sm.Xp.kids]) (.inr (.inr (.inr (.inr (.inr (.inl ⟨.inl W,⟨by simp[cq,Sm.Xp.op],by simp[cq,Sm.Xp.op]⟩,_,_,rfl,λk a=>?_⟩)))))),rfl⟩
  .simp only[cq,Sm.Xp.kids,aib,aip,aiJ]at a;rw[a];exact g
  .simp only[cq,Sm.Xp.kids,aib,aip,aiJ]at a;rw[a];exact⟨λ_=>by rw[i];rfl,rfl⟩
 |rk f u k _ _ m o=>
  obtain⟨p,i⟩:=m a;obtain⟨q,j⟩:=o a;have g:(1<=f/\f<=16)/\(Ps.sd f≠0->u.kind=Ps.sd f)/\Ps.qM f=1:=by
   simp at k;rcases k with⟨rfl|rfl|rfl,rfl⟩|⟨rfl|rfl,rfl⟩|rfl
   .decide
   .decide
   .decide
   .decide
   .decide
   .exact⟨by decide,λh=>absurd W h,rfl⟩
  refine⟨.mk (λl a=>?_) (by simp[cq,Sm.Xp.kids]) (.inr (.inr (.inr (.inr (.inr (.inl ⟨.inr W,g.1,_,_,rfl,λl a=>?_⟩)))))),?_⟩
  .simp only[cq,Sm.Xp.kids,aib,aip,aiJ]at a;rcases a with rfl|rfl<;>assumption
  .simp only[cq,Sm.Xp.kids,aib,aip,aiJ]at a;rcases a with rfl|rfl
   .exact⟨λh=>by rw[i];exact g.2.1 h,W⟩
   .exact⟨λh=>by rw[j];exact g.2.1 h,by rw[i,j]⟩
  .show(Ps.qM f,_)=_;rw[g.2.2];rfl
end Go.Ex
namespace Go.Ex
open Go.Mt Go.Mk Go.Pm
variable{s:Sc}{α δ n n' N:Nat}{outs:List Va}{l:List Nm}{ai:List Sm.aH}{Sub:Sc->List Va->Nat->Nat->bF->Prop}
theorem Dk{x:Nm}(h:l.Nodup):(Sm.bt l x).Nodup:=by
 unfold Sm.bt;split
 .exact h
 .rename_i a;rw[Sm.gX]at a;rw[ajP];exact⟨h,by simp,λc c b c e=>a (by grind)⟩
def B_{r:List Nm} :∀{l:List Nm},l.Nodup->(r.foldl Sm.bt l).Nodup:=by
 induction r with
 |nil=>intro l h;exact h
 |cons x r a=>intro l h;rw[aii];exact a (Dk h)
def j9:∀{l:List Nm},l.Nodup->(Sm.aQ l ai).Nodup:=by
 induction ai with
 |nil=>intro l h;rw[Sm.aQ];exact h
 |cons b r a=>intro l h;rw[Sm.aQ];exact a (B_ h)
theorem kv:∀(l L:List Nm),l.Nodup->(∀x∈l,x∈L)->l.length<=L.length
 |[],L,_,_=>by simp
 |a::l,L,h,b=>by
  rw[ajk]at h;obtain⟨s,u,rfl⟩:=List.append_of_mem (b a (by simp));have:=kv l (s++u) h.2 λx a=>by
   grind
  simp only[ah6,aia]at this⊢;omega
abbrev jJ(l:List Va):List Nm:=l.map (·.name)
def v_(h:∀a∈ai,∀x∈Sm.cy a.aT,x∈l):(Sm.aQ [] ai).length<=l.length:=
 kv _ _ (j9 (by simp)) λx a=>by
  rw[eT]at a;rcases a with a|⟨b,c,a⟩
  .simp at a
  .grind
section
variable(r:List Sm.En)(av:Nat)
abbrev w_:xh:=⟨uL,3000,True,λf=>∃j,j<av/\f=nm 102 j⟩
structure LW(α d:Nat)(s:Sc)(a:List Va)(n c:Nat)(b:bF):Prop where
 le:n<=c
 df:∀x∈Sm.cy (nW b),x∈jJ a
 w:uN (nW b)<=α*(a.length+3)+80*(c-n)
 dp:Ps.ju (nW b)<=d
 pr:∀T K,p9 T n s->(∀v∈a,Kn T n v)->mu (ja r) (w_ av) T K (nW b)
def xa(e:Sc->List Va->Nat->Nat->bF->Prop)(α d:Nat):Prop:=∀s c n a b,e s c n a b->a<=3000->LW r av α d s c n a b
structure Dl(α d:Nat)(s:Sc)(b:List Va)(n c:Nat)(ai:List aH):Prop where
 le:n<=c
 df:∀a∈gN ai,∀x∈Sm.cy a.aT,x∈jJ b
 w:∀D,lq D (gN ai)<=ai.length*(10+3*D+α*(b.length+3))+80*(c-n)
 dp:Ps.dP (gN ai)<=1+d
 pr:∀T K,p9 T n s->(∀v∈b,Kn T n v)->gF (ja r) (w_ av) T K (gN ai)
variable{r av}
def nt(a b:List aH):gN (a++b)=gN a++gN b:=by rw[nq,nq,nq,aio]
def kL(a b:List aD):dS (a++b)=dS a++dS b:=by rw[vY,vY,vY,aio]
def A7:∀a b:List Sm.aH,Ps.dP (a++b)=max (Ps.dP a) (Ps.dP b)
 |[],b=>by simp[Ps.dP]
 |.mk _ _ _ _ _::a,b=>by simp only[aiA,Ps.dP,A7 a b];omega
def pi:∀a b:List Sm.aD,Ps.eM (a++b)=max (Ps.eM a) (Ps.eM b)
 |[],b=>by simp[Ps.eM]
 |q::a,b=>by simp only[aiA,Ps.eM,pi a b];omega
def Dl.nil:Dl r av α δ s outs n n []:=
 ⟨ah9 _,λa a=>by simp[gN]at a,λD=>by simp[gN,lq],by simp[gN,Ps.dP],λT K _ _=>by simp[gN,gF]⟩
def Dl.snoc{α g:Nat}{s:Sc}{f l:List Va}{n k m:Nat}{ai:List aH}(h:Dl r av α g s f n k ai)(i:LS f l){b:bF}(d:LW r av α g s.kq l k m b)(c:Nm)(u w:List Tr):
  Dl r av α g s f n m (ai++[.mk c b u w]):=by
 have q:=h.le;have z:=d.le;refine⟨by omega,λt a x j=>?_,λD=>?_,?_,λT K o p=>?_⟩
 .rw[nt,ain]at a;rcases a with a|a
  .exact h.df t a x j
  .simp only[gN,Aa,aib,aip,aiJ]at a;rw[a]at j;have:=d.df x j;rw[aij]at this⊢;obtain⟨v,y,e⟩:=this;exact⟨v,i.mem v y,e⟩
 .rw[nt,A6,ah6];have y:=h.w D;have A:=d.w;have B:α*(l.length+3)<=α*(f.length+3):=ajE _ (by have:=i.len;omega);simp only[gN,Aa,lq,aik,aiY,Nat.one_mul]at y⊢;omega
 .rw[nt,A7];have y:=h.dp;have A:=d.dp;simp only[gN,Aa,Ps.dP];omega
 .rw[nt,gF.app];refine⟨h.pr T K o p,?_⟩;simp only[gN,Aa,gF,ajV];exact d.pr T K (o.kq.mono q) λv a=>(p v (i.mem v a)).mono q
def A8(i:xa r av Sub α δ){g:List Nm}{ai:List aH}(h:rm Sub s outs g n ai n')(j:n'<=3000)(k:∀c∈g,c.size<=1000):
  Dl r av α δ s outs n n' ai/\(ai≠[]->∃s o n n' b,Sub s o n n' b)/\∀a∈gN ai,FV (w_ av) a:=by
 induction h with
 |nil=>exact⟨.nil,λh=>absurd W h,λa d=>by simp[gN]at d⟩
 |snoc h c l u m _ b e p=>
  have f:=i _ _ _ _ _ e j;obtain⟨q,_,t⟩:=p (by have:=f.le;omega);refine⟨q.snoc m f c [] [],λ_=>⟨_,_,_,_,_,e⟩,λa d=>?_⟩;rw[nt,ain]at d;rcases d with d|d
  .exact t a d
  .simp only[gN,Aa,aib,aip,aiJ]at d;subst d;exact⟨λ_=>k c (aiv l),by simp[Sm.aH.eQ],by simp[Sm.aH.eB],λt d=>by simp[Sm.aH.eQ,Sm.aH.eB]at d⟩
def Dm{l:List Tr}(h:B4 s N l)(f:N<=3):l.length<=2/\∀t∈l.map I',zm t:=by
 refine⟨h.1,λt b=>?_⟩;obtain⟨u,c,rfl⟩:=aij.1 b;obtain⟨d,k,g,e⟩:=h.2 u c;have a:=oP d;refine⟨a.1,a.2.1,?_⟩;show u.to.size<=_;rw[e];unfold nm;rw[ajM];have:=hU k;have:ByteArray.size ⟨#[(83:UInt8)]⟩=1:=rfl;omega
def Ja(k:xa r av Sub α δ){ai:List aH}(h:AW Sub s outs N n ai n')(l:n'<=3000)(e:N<=3):
  Dl r av α δ s outs n n' ai/\(ai≠[]->∃s o n n' b,Sub s o n n' b)/\∀a∈gN ai,a.name.size<=ai.length+2/\a.eQ.length<=2/\a.eB.length<=2/\∀t∈a.eQ++a.eB,zm t:=by
 induction h with
 |nil=>exact⟨.nil,λh=>absurd W h,λa c=>by simp[gN]at c⟩
 | @snoc ai x y h w m _ z p b f A q u=>
  have g:=k _ _ _ _ _ f l;obtain⟨v,B,C⟩:=u (by have:=g.le;omega);refine⟨v.snoc m g _ _ _,λ_=>⟨_,_,_,_,_,f⟩,λa c=>?_⟩;rw[nt,ain]at c;rw[ah6];rcases c with c|c
  .grind
  .simp only[gN,Aa,aib,aip,aiJ]at c;subst c;have i:=Dm p e;have j:=Dm q e;refine⟨?_,by simpa [Sm.aH.eQ] using i.1,by simpa [Sm.aH.eB] using j.1,λt d=>?_⟩
   .show(nm 83 ai.length).size<=_;unfold nm;rw[ajM];have:=hU ai.length;have:ByteArray.size ⟨#[(83:UInt8)]⟩=1:=rfl;simp only[aik];omega
   .rcases ain.1 d with d|d
    .exact i.2 t d
    .exact j.2 t d
variable(r av)
structure LX(β d:Nat)(s:Sc)(c:List Va)(n b:Nat)(q:List aD)(a:List Va):Prop where
 le:n<=b
 df:∀u∈dS q,∀x∈Sm.bX u,x∈jJ c\/x∈jJ a
 w:iV (dS q)+6*a.length<=β*c.length+80*(b-n)
 dp:Ps.eM (dS q)<=1+d
 vn:(jJ a).Nodup
 vb:∀v∈a,ru n b v.name
 vl:a.length<=b-n
 ck:∀v∈a,(uI v.clock).length<=1/\∀o∈uI v.clock,∃w∈a,w.name=o.2
 la:∀v∈a,v.last=false
 pr:∀T K,p9 T n s->(∀v∈c,Kn T n v)->(∀v∈a,T v.name=some (v.ty.kind,v.ty.nm)/\K v.name=(uI v.clock).length)->fq (ja r) (w_ av) T K (dS q)
end
end Go.Ex
