/- A part of the proof of the last text of this claim, without conditions. -/
import Derived.Test.YtjbigbaipmiihaaGreatH
set_option maxRecDepth 4000
set_option linter.all false
namespace Go.Proofs
open Go.Mt Go.Mk
open Tryz
theorem KP: ∀d,d<=3->0<=qP d/\qP d<=4000
 |0,_=>by decide
 |d+1,a=>yE d (by omega)
theorem Aj{c:List Int}{w:Int}{a b:Nat}{d:Int}{g:GS}(j:0<=w)(k:b<=3*a)(h:Mv c ⟨a,b,d-1⟩ g):Bm c (1+w) ⟨a,b,d⟩ g:=by
 have f:=h.n;have i:=h.q;have e:=h.i;simp only at f i e;exact⟨e,h.le,by grind,by omega,by grind,by grind⟩
theorem Di{a:List Int}{w:Int}{d e:Nat}{b:Int}{f g:GS}(l:0<b-1)(m:0<=w)(c:Mv a ⟨d,e,b-1⟩ f)(h:Bm a w f g):Bm a (1+w) ⟨d,e,b⟩ g:=by
 have i:=c.n;have j:=c.q;have k:=c.i;simp only at i j k;have n:=h.i;have o:=h.n;have p:=h.q0;have q:=h.q1;exact⟨by grind,h.le,by grind,h.qQ,by grind,by grind⟩
section
variable{zs:List Int}{v:D}(ht:Tape zs v)(an:Nat)(main:Bool)
include ht
theorem B1(dp c:Nat)(hD:dp<=3)(i7:c<=14)(WG:an<=10)(Vo: ∀d,dp=d+1->rE zs v an main d)(ac: ∀c',c=c'+1->xC zs v an main dp c'):xC zs v an main dp c:=by
 intro i hr ha WE g ho d8 hg hn d9 RZ f9;obtain⟨o,p,n⟩:=d8;simp only at hg hn d9 RZ f9;have TK:xA i:=⟨by omega,by omega,by omega⟩;have hW:=KP dp hD;have ah:0<=3*qP dp:=by omega
 cases dp with
 |zero=>
  refine DT.drop 2 (auK _)<|DT.ob func53 W ntmps53 W ?_;show DC _ _ _ _ ⟨_,_,[.box (fP v o),.box (kU p n an main)]⟩ _;refine dO [2,2,21] W<|Po (cL W W W (by omega))<|dR [999] W<|Po (cc W W W W W W)<|dL [2,0] W<|Pz [nD 5 (.bm i.cells 0),nD 2 (.sl (aI g)),nR 0 1] (GH v an main ⟨o,p,n-1⟩) W W<|dC [2,2] W<|Pz [nN 12 0,nM 11 (gN 2 (bL [])),nD 5 (.bm i.cells 0),nD 2 (.sl (aI g)),nR 0 1] (dZ (GH v an main ⟨o,p,n-1⟩) 16 (bL [])) W W<|dC [3] W<|DC.lp (λy z=> ∃(a:Nat) (f:List aB) (A:GS),z=⟨[nI 12 (a:Int),nM 11 (gN 2 (bL f)),nD 5 (.bm i.cells 0),nD 2 (.sl (aI g)),nR 0 1],[],dZ (GH v an main A) 16 (bL f)⟩/\a<=g.length/\f.length=a/\p7 i (g.take a) f/\Mv zs ⟨o,p,n-1⟩ A/\y=g.length-a) g.length _
   ⟨0,[],⟨o,p,n-1⟩,rfl,by omega,rfl,.nil,⟨rfl,rfl,auK _,hg⟩,rfl⟩ W ?_
  rintro y z ⟨a,f,h,rfl,hi,V,s,m,rfl⟩;refine dO [2,100] W<|Po (bp W W W) ?_;rw[bD];refine dL [] W<|DC.cond W (λF=> ?_) (λF=> ?_)
  ·have q:a<g.length:=by grind
   have r:=ez q;have B:=au1 q;generalize g[a]=l at r B;obtain⟨x0,x1,x2,x3,x4,x5,x6,x7,X,_⟩:=ll l;rw[X]at r;obtain⟨G,H,⟨e,x,rfl,rfl,J,Y⟩,j⟩:=dM ht an main 3 (by omega) i TK l.ty true h m.le;obtain⟨O,P,Q,R,S,T,u⟩:=e.shape;rw[u]at j;have Z:=eW (by rfl) j 16 (bL f);have C:bL (f++ [.df l.name e])=bL f++ [[.int .u8 1,.sl [[.str l.name]],.str ⟨#[]⟩,.sl [],.bool false,.int .u8 O,.int .u8 P,.int .i32 Q,.str R,.sl S,.sl T,.int .i64 0,.int .i64 0,.sl [],.int .i64 0,.int .i64 0]]:=by rw[jl,bL,bL,aB.cells,u];rfl
   refine dC [3] W ?_;apply Ps bN
   ·intro s0 Oo;refine fR 3 W<|a_ W W W (auJ a) r W<|fR 7 W<|a_ W W W (auJ a) r W<|fR 2 W<|bg Z W W<|fR 2 W<|oh (H0:=GH v an main x) W W W W (by rfl) W (by rw[eC];omega) (by rw[eC];omega)<|fR 1 W<|TF.nil ⟨by kernel_rfl,rfl⟩
   refine dO [2,103] W<|Po (az W W W (by omega))<|dL [] W<|bK (k':=g.length-(a+1)) (by omega) ⟨a+1,f++ [.df l.name e],x,rfl,by omega,by simp[V],by rw[B];exact .snoc s l e J,m.trans Y,W⟩ (by rw[C];rfl) (kc W (kc (by rw[C];rfl) W))
  ·refine DC.exit ?_;have q:a=g.length:=by grind
   subst q;rw[avo]at s;obtain⟨e1,e2,e3⟩:=ol v an main h 16 (bL f);refine dC [2] W<|DC.cw 8 W (jB (GH v an main h) 16 (bL f) (fB f)) ?_;have D:=m.n;simp only at D;exact DC.ret ⟨_,W,e1,jO W,e2,f,[],h,W,e3,by simp only;rw[D];exact .sZ s,by omega,by simp,Aj ah hn m⟩
 |succ d=>
  have I:decide (((d+1:Nat):Int)>0)=true:=au5 (by omega);rcases Int.lt_or_le 0 (n-1)with Ze|Ze
  rotate_left
  ·skip
   refine DT.drop 2 (auK _)<|DT.ob func53 W ntmps53 W ?_;show DC _ _ _ _ ⟨_,_,[.box (fP v o),.box (kU p n an main)]⟩ _;refine dO [2,2,21] W<|Po (cL W W W (by omega))<|dR [999] W<|Po (cc W W W W W W)<|dR [2,25] W<|Po (aQ I W W W W)<|dR [31] W ?_
   first|refine Po (ax W W) ?_|(refine Po (av W) ?_;refine Po (aQ (avc (by omega)) W W W W) ?_)
   refine dL [0] W<|Pz [nD 5 (.bm i.cells 0),nD 2 (.sl (aI g)),nR 0 1] (GH v an main ⟨o,p,n-1⟩) W W<|dC [2,2] W<|Pz [nN 12 0,nM 11 (gN 2 (bL [])),nD 5 (.bm i.cells 0),nD 2 (.sl (aI g)),nR 0 1] (dZ (GH v an main ⟨o,p,n-1⟩) 16 (bL [])) W W<|dC [3] W<|DC.lp (λy z=> ∃(a:Nat) (f:List aB) (A:GS),z=⟨[nI 12 (a:Int),nM 11 (gN 2 (bL f)),nD 5 (.bm i.cells 0),nD 2 (.sl (aI g)),nR 0 1],[],dZ (GH v an main A) 16 (bL f)⟩/\a<=g.length/\f.length=a/\p7 i (g.take a) f/\Mv zs ⟨o,p,n-1⟩ A/\y=g.length-a) g.length _
    ⟨0,[],⟨o,p,n-1⟩,rfl,by omega,rfl,.nil,⟨rfl,rfl,auK _,hg⟩,rfl⟩ W ?_
   rintro y z ⟨a,f,h,rfl,hi,V,s,m,rfl⟩;refine dO [2,100] W<|Po (bp W W W) ?_;rw[bD];refine dL [] W<|DC.cond W (λF=> ?_) (λF=> ?_)
   ·have q:a<g.length:=by grind
    have r:=ez q;have B:=au1 q;generalize g[a]=l at r B;obtain⟨x0,x1,x2,x3,x4,x5,x6,x7,X,_⟩:=ll l;rw[X]at r;obtain⟨G,H,⟨e,x,rfl,rfl,J,Y⟩,j⟩:=dM ht an main 3 (by omega) i TK l.ty true h m.le;obtain⟨O,P,Q,R,S,T,u⟩:=e.shape;rw[u]at j;have Z:=eW (by rfl) j 16 (bL f);have C:bL (f++ [.df l.name e])=bL f++ [[.int .u8 1,.sl [[.str l.name]],.str ⟨#[]⟩,.sl [],.bool false,.int .u8 O,.int .u8 P,.int .i32 Q,.str R,.sl S,.sl T,.int .i64 0,.int .i64 0,.sl [],.int .i64 0,.int .i64 0]]:=by rw[jl,bL,bL,aB.cells,u];rfl
    refine dC [3] W ?_;apply Ps bN
    ·intro s0 Oo;refine fR 3 W<|a_ W W W (auJ a) r W<|fR 7 W<|a_ W W W (auJ a) r W<|fR 2 W<|bg Z W W<|fR 2 W<|oh (H0:=GH v an main x) W W W W (by rfl) W (by rw[eC];omega) (by rw[eC];omega)<|fR 1 W<|TF.nil ⟨by kernel_rfl,rfl⟩
    refine dO [2,103] W<|Po (az W W W (by omega))<|dL [] W<|bK (k':=g.length-(a+1)) (by omega) ⟨a+1,f++ [.df l.name e],x,rfl,by omega,by simp[V],by rw[B];exact .snoc s l e J,m.trans Y,W⟩ (by rw[C];rfl) (kc W (kc (by rw[C];rfl) W))
   ·refine DC.exit ?_;have q:a=g.length:=by grind
    subst q;rw[avo]at s;obtain⟨e1,e2,e3⟩:=ol v an main h 16 (bL f);refine dC [2] W<|DC.cw 8 W (jB (GH v an main h) 16 (bL f) (fB f)) ?_;have D:=m.n;simp only at D;exact DC.ret ⟨_,W,e1,jO W,e2,f,[],h,W,e3,by simp only;rw[D];exact .sZ s,by omega,by simp,Aj ah hn m⟩
  have K:=au5 (by omega);obtain⟨c,rfl⟩: ∃c',c=c'+1:=⟨c-1,by omega⟩;have ac:=ac c W;have Vo:=Vo d W;have hs:Dh (800-200*d) i:=⟨by omega,ha,by omega⟩;have SC:((d+1:Nat):Int)-1=(d:Int):=by omega
  obtain⟨r0,K0,⟨U,w,rfl,rfl,XI⟩,L⟩:=fL ht an main 9 (by omega) (by omega) ⟨o,p,n-1⟩ hg;have hj:=XI.lt;have t:=XI.mv;have Ys:=t.n;have gc:=t.q;have ge:=t.i;have Zj:=XI.qQ;simp only at Ys gc ge Zj;have T9:U=0\/U=1\/U=2\/U=3\/U=4\/U=5\/U=6\/U=7\/U=8:=by omega
  rcases T9 with rfl|rfl|rfl|rfl|rfl|rfl|rfl|rfl|rfl
  ·skip
   obtain⟨G,H,⟨M,h,rfl,rfl,E,k⟩,j⟩:=Ai ht an main d (by omega) Vo i hs g ho w t.le (by omega) (by omega) (by omega);obtain⟨a0,a1,a2,a3,a4,a5,a6,a7,a8,a9,b0,b1,b2,b3,b4,b5,N⟩:=qv M.len;rw[N]at j;refine DT.ob func53 W ntmps53 W ?_;show DC _ _ _ _ ⟨_,_,[.box (fP v o),.box (kU p n an main)]⟩ _;refine dO [2,2,21] W<|Po (cL W W W (by omega))<|dR [999] W<|Po (cc W W W W W W)<|dR [2,25] W<|Po (aQ I W W W W)<|dR [31] W ?_
   first|refine Po (ax W W) ?_|(refine Po (av W) ?_;refine Po (aQ K W W W W) ?_)
   refine dR [1,2,37] W<|Po (aq L W W)<|dR [3,2,1,1,2,45] W<|Po (aq j W W)<|dL [] W<|DC.ret ⟨_,W,[M],[],h,by rw[bL,bL,N];rfl,rfl,by rw[<-Ys];exact E,by simp,by simp,Di Ze (by grind) t k⟩
  ·skip
   obtain⟨G,H,⟨M,h,rfl,rfl,E,k⟩,j⟩:=Ai ht an main d (by omega) Vo i hs g ho w t.le (by omega) (by omega) (by omega);obtain⟨a0,a1,a2,a3,a4,a5,a6,a7,a8,a9,b0,b1,b2,b3,b4,b5,N⟩:=qv M.len;rw[N]at j;refine DT.ob func53 W ntmps53 W ?_;show DC _ _ _ _ ⟨_,_,[.box (fP v o),.box (kU p n an main)]⟩ _;refine dO [2,2,21] W<|Po (cL W W W (by omega))<|dR [999] W<|Po (cc W W W W W W)<|dR [2,25] W<|Po (aQ I W W W W)<|dR [31] W ?_
   first|refine Po (ax W W) ?_|(refine Po (av W) ?_;refine Po (aQ K W W W W) ?_)
   refine dR [1,2,37] W<|Po (aq L W W)<|dR [3,2,0,2,1,2,45] W<|Po (aq j W W)<|dL [] W<|DC.ret ⟨_,W,[M],[],h,by rw[bL,bL,N];rfl,rfl,by rw[<-Ys];exact E,by simp,by simp,Di Ze (by grind) t k⟩
  ·skip
   obtain⟨G,H,⟨M,h,rfl,rfl,E,k⟩,j⟩:=EG ht an main d (by omega) Vo i hs g ho w t.le (by omega) (by omega) (by omega);obtain⟨a0,a1,a2,a3,a4,a5,a6,a7,a8,a9,b0,b1,b2,b3,b4,b5,N⟩:=qv M.len;rw[N]at j;refine DT.ob func53 W ntmps53 W ?_;show DC _ _ _ _ ⟨_,_,[.box (fP v o),.box (kU p n an main)]⟩ _;refine dO [2,2,21] W<|Po (cL W W W (by omega))<|dR [999] W<|Po (cc W W W W W W)<|dR [2,25] W<|Po (aQ I W W W W)<|dR [31] W ?_
   first|refine Po (ax W W) ?_|(refine Po (av W) ?_;refine Po (aQ K W W W W) ?_)
   refine dR [1,2,37] W<|Po (aq L W W)<|dR [3,2,0,2,0,2,1,1,2,54] W<|Po (aq j W W)<|dL [] W<|DC.ret ⟨_,W,[M],[],h,by rw[bL,bL,N];rfl,rfl,by rw[<-Ys];exact E,by simp,by simp,Di Ze (by grind) t k⟩
  ·skip
   obtain⟨G,H,⟨M,h,rfl,rfl,E,k⟩,j⟩:=EG ht an main d (by omega) Vo i hs g ho w t.le (by omega) (by omega) (by omega);obtain⟨a0,a1,a2,a3,a4,a5,a6,a7,a8,a9,b0,b1,b2,b3,b4,b5,N⟩:=qv M.len;rw[N]at j;refine DT.ob func53 W ntmps53 W ?_;show DC _ _ _ _ ⟨_,_,[.box (fP v o),.box (kU p n an main)]⟩ _;refine dO [2,2,21] W<|Po (cL W W W (by omega))<|dR [999] W<|Po (cc W W W W W W)<|dR [2,25] W<|Po (aQ I W W W W)<|dR [31] W ?_
   first|refine Po (ax W W) ?_|(refine Po (av W) ?_;refine Po (aQ K W W W W) ?_)
   refine dR [1,2,37] W<|Po (aq L W W)<|dR [3,2,0,2,0,2,0,2,1,2,54] W<|Po (aq j W W)<|dL [] W<|DC.ret ⟨_,W,[M],[],h,by rw[bL,bL,N];rfl,rfl,by rw[<-Ys];exact E,by simp,by simp,Di Ze (by grind) t k⟩
  ·skip
   obtain⟨G,H,⟨e,h,rfl,rfl,J,m⟩,j⟩:=dM ht an main 2 (by omega) i TK .bool true w t.le;obtain⟨O,P,Q,R,S,T,u⟩:=e.shape;rw[u]at j;have i6:=m.n;have i8:=m.q;have i9:=m.i;obtain⟨r2,K2,⟨b,x,rfl,rfl,R8,k⟩,PX⟩:=Vo i hs g ho h m.le (by omega) (by omega) (by omega);obtain⟨bv,bq,hb⟩:=b.shape;rw[hb]at PX;refine DT.ob func53 W ntmps53 W ?_;show DC _ _ _ _ ⟨_,_,[.box (fP v o),.box (kU p n an main)]⟩ _;refine dO [2,2,21] W<|Po (cL W W W (by omega))<|dR [999] W<|Po (cc W W W W W W)<|dR [2,25] W<|Po (aQ I W W W W)<|dR [31] W ?_
   first|refine Po (ax W W) ?_|(refine Po (av W) ?_;refine Po (aQ K W W W W) ?_)
   refine dR [1,2,37] W<|Po (aq L W W)<|dL [3,2,0,2,0,2,0,2,0,2,1] W ?_;apply Ps bN
   ·intro s0 Oo;refine fR 2 W<|aW kj W W<|bg j W W<|fR 3 W<|TF.nil ⟨by kernel_rfl,rfl⟩
   refine dO [2,67] W<|Po (cL W W W (by omega)) ?_;rw[SC];refine dR [68] W<|Po (aq PX W W)<|dL [2] W ?_;have Ye:=k.q0;have co:=k.q1;have Ux:=k.i;have d6:=k.n;have mt:=yE d (by omega);exact DC.ret ⟨_,W,[.reset e b],[],x,by rw[bL,bL,aB.cells,u,hb];rfl,rfl,.reset J (by simp only;rw[<-Ys,<-i6];exact R8),by simp,by simp,⟨by grind,k.le,by grind,k.qQ,by simp only[qP];omega,by grind⟩⟩
  ·skip
   rcases avl an with Xh|Xh
   ·skip
    refine DT.drop 2 (auK _)<|DT.ob func53 W ntmps53 W ?_;show DC _ _ _ _ ⟨_,_,[.box (fP v o),.box (kU p n an main)]⟩ _;refine dO [2,2,21] W<|Po (cL W W W (by omega))<|dR [999] W<|Po (cc W W W W W W)<|dR [2,25] W<|Po (aQ I W W W W)<|dR [31] W ?_
    first|refine Po (ax W W) ?_|(refine Po (av W) ?_;refine Po (aQ K W W W W) ?_)
    refine dR [1,2,37] W<|Po (aq L W W)<|dR [3,2,0,2,0,2,0,2,0,2,0,2,1,1,2,81] W<|Po (aQ (avc (by omega)) W W W W)<|dL [0] W<|Pz [nD 5 (.bm i.cells 0),nD 2 (.sl (aI g)),nR 0 1] (GH v an main w) W W<|dC [2,2] W<|Pz [nN 12 0,nM 11 (gN 2 (bL [])),nD 5 (.bm i.cells 0),nD 2 (.sl (aI g)),nR 0 1] (dZ (GH v an main w) 16 (bL [])) W W<|dC [3] W<|DC.lp (λy z=> ∃(a:Nat) (f:List aB) (A:GS),z=⟨[nI 12 (a:Int),nM 11 (gN 2 (bL f)),nD 5 (.bm i.cells 0),nD 2 (.sl (aI g)),nR 0 1],[],dZ (GH v an main A) 16 (bL f)⟩/\a<=g.length/\f.length=a/\p7 i (g.take a) f/\Mv zs ⟨o,p,n-1⟩ A/\y=g.length-a) g.length _
     ⟨0,[],w,rfl,by omega,rfl,.nil,t,rfl⟩ W ?_
    rintro y z ⟨a,f,h,rfl,hi,V,s,m,rfl⟩;refine dO [2,100] W<|Po (bp W W W) ?_;rw[bD];refine dL [] W<|DC.cond W (λF=> ?_) (λF=> ?_)
    ·have q:a<g.length:=by grind
     clear F;have r:=ez q;have B:=au1 q;generalize g[a]=l at r B;obtain⟨x0,x1,x2,x3,x4,x5,x6,x7,X,_⟩:=ll l;rw[X]at r;obtain⟨G,H,⟨e,x,rfl,rfl,J,Y⟩,j⟩:=dM ht an main 3 (by omega) i TK l.ty true h m.le;obtain⟨O,P,Q,R,S,T,u⟩:=e.shape;rw[u]at j;have Z:=eW (by rfl) j 16 (bL f);have C:bL (f++ [.df l.name e])=bL f++ [[.int .u8 1,.sl [[.str l.name]],.str ⟨#[]⟩,.sl [],.bool false,.int .u8 O,.int .u8 P,.int .i32 Q,.str R,.sl S,.sl T,.int .i64 0,.int .i64 0,.sl [],.int .i64 0,.int .i64 0]]:=by rw[jl,bL,bL,aB.cells,u];rfl
     refine dC [3] W ?_;apply Ps bN
     ·intro s0 Oo;refine fR 3 W<|a_ W W W (auJ a) r W<|fR 7 W<|a_ W W W (auJ a) r W<|fR 2 W<|bg Z W W<|fR 2 W<|oh (H0:=GH v an main x) W W W W (by rfl) W (by rw[eC];omega) (by rw[eC];omega)<|fR 1 W<|TF.nil ⟨by kernel_rfl,rfl⟩
     refine dO [2,103] W<|Po (az W W W (by omega))<|dL [] W<|bK (k':=g.length-(a+1)) (by omega) ⟨a+1,f++ [.df l.name e],x,rfl,by omega,by simp[V],by rw[B];exact .snoc s l e J,m.trans Y,W⟩ (by rw[C];rfl) (kc W (kc (by rw[C];rfl) W))
    ·refine DC.exit ?_;have q:a=g.length:=by grind
     subst q;rw[avo]at s;obtain⟨e1,e2,e3⟩:=ol v an main h 16 (bL f);refine dC [2] W<|DC.cw 8 W (jB (GH v an main h) 16 (bL f) (fB f)) ?_;have D:=m.n;simp only at D;exact DC.ret ⟨_,W,e1,jO W,e2,f,[],h,W,e3,by simp only;rw[D];exact .sZ s,by omega,by simp,Aj ah hn m⟩
   ·skip
    have Q0:=Zj (by omega);obtain⟨G,H,⟨ql,vs,h,rfl,rfl,E,d7,UH,k⟩,j⟩:=tX ht an main (d+1) c hD (by omega) ac i (by omega) ha WE g ho Xh WG w t.le (by omega) (by omega) (by omega);refine DT.ob func53 W ntmps53 W ?_;show DC _ _ _ _ ⟨_,_,[.box (fP v o),.box (kU p n an main)]⟩ _;refine dO [2,2,21] W<|Po (cL W W W (by omega))<|dR [999] W<|Po (cc W W W W W W)<|dR [2,25] W<|Po (aQ I W W W W)<|dR [31] W ?_
    first|refine Po (ax W W) ?_|(refine Po (av W) ?_;refine Po (aQ K W W W W) ?_)
    refine dR [1,2,37] W<|Po (aq L W W)<|dR [3,2,0,2,0,2,0,2,0,2,0,2,1,1,2,81] W<|Po (aQ (au5 (by omega)) W W W W)<|dR [1,2,86] W<|Po (aq j W W)<|dL [] W ?_;have Ye:=k.q0;have co:=k.q1;have Ux:=k.i;have d6:=k.n;exact DC.ret ⟨_,W,ql,vs,h,W,W,by rw[<-Ys];exact E,by omega,by omega,⟨by grind,k.le,by grind,k.qQ,by grind,by grind⟩⟩
  ·skip
   rcases avl an with Xh|Xh
   ·skip
    refine DT.drop 2 (auK _)<|DT.ob func53 W ntmps53 W ?_;show DC _ _ _ _ ⟨_,_,[.box (fP v o),.box (kU p n an main)]⟩ _;refine dO [2,2,21] W<|Po (cL W W W (by omega))<|dR [999] W<|Po (cc W W W W W W)<|dR [2,25] W<|Po (aQ I W W W W)<|dR [31] W ?_
    first|refine Po (ax W W) ?_|(refine Po (av W) ?_;refine Po (aQ K W W W W) ?_)
    refine dR [1,2,37] W<|Po (aq L W W)<|dR [3,2,0,2,0,2,0,2,0,2,0,2,0,2,1,2,81] W<|Po (aQ (avc (by omega)) W W W W)<|dL [0] W<|Pz [nD 5 (.bm i.cells 0),nD 2 (.sl (aI g)),nR 0 1] (GH v an main w) W W<|dC [2,2] W<|Pz [nN 12 0,nM 11 (gN 2 (bL [])),nD 5 (.bm i.cells 0),nD 2 (.sl (aI g)),nR 0 1] (dZ (GH v an main w) 16 (bL [])) W W<|dC [3] W<|DC.lp (λy z=> ∃(a:Nat) (f:List aB) (A:GS),z=⟨[nI 12 (a:Int),nM 11 (gN 2 (bL f)),nD 5 (.bm i.cells 0),nD 2 (.sl (aI g)),nR 0 1],[],dZ (GH v an main A) 16 (bL f)⟩/\a<=g.length/\f.length=a/\p7 i (g.take a) f/\Mv zs ⟨o,p,n-1⟩ A/\y=g.length-a) g.length _
     ⟨0,[],w,rfl,by omega,rfl,.nil,t,rfl⟩ W ?_
    rintro y z ⟨a,f,h,rfl,hi,V,s,m,rfl⟩;refine dO [2,100] W<|Po (bp W W W) ?_;rw[bD];refine dL [] W<|DC.cond W (λF=> ?_) (λF=> ?_)
    ·have q:a<g.length:=by grind
     clear F;have r:=ez q;have B:=au1 q;generalize g[a]=l at r B;obtain⟨x0,x1,x2,x3,x4,x5,x6,x7,X,_⟩:=ll l;rw[X]at r;obtain⟨G,H,⟨e,x,rfl,rfl,J,Y⟩,j⟩:=dM ht an main 3 (by omega) i TK l.ty true h m.le;obtain⟨O,P,Q,R,S,T,u⟩:=e.shape;rw[u]at j;have Z:=eW (by rfl) j 16 (bL f);have C:bL (f++ [.df l.name e])=bL f++ [[.int .u8 1,.sl [[.str l.name]],.str ⟨#[]⟩,.sl [],.bool false,.int .u8 O,.int .u8 P,.int .i32 Q,.str R,.sl S,.sl T,.int .i64 0,.int .i64 0,.sl [],.int .i64 0,.int .i64 0]]:=by rw[jl,bL,bL,aB.cells,u];rfl
     refine dC [3] W ?_;apply Ps bN
     ·intro s0 Oo;refine fR 3 W<|a_ W W W (auJ a) r W<|fR 7 W<|a_ W W W (auJ a) r W<|fR 2 W<|bg Z W W<|fR 2 W<|oh (H0:=GH v an main x) W W W W (by rfl) W (by rw[eC];omega) (by rw[eC];omega)<|fR 1 W<|TF.nil ⟨by kernel_rfl,rfl⟩
     refine dO [2,103] W<|Po (az W W W (by omega))<|dL [] W<|bK (k':=g.length-(a+1)) (by omega) ⟨a+1,f++ [.df l.name e],x,rfl,by omega,by simp[V],by rw[B];exact .snoc s l e J,m.trans Y,W⟩ (by rw[C];rfl) (kc W (kc (by rw[C];rfl) W))
    ·refine DC.exit ?_;have q:a=g.length:=by grind
     subst q;rw[avo]at s;obtain⟨e1,e2,e3⟩:=ol v an main h 16 (bL f);refine dC [2] W<|DC.cw 8 W (jB (GH v an main h) 16 (bL f) (fB f)) ?_;have D:=m.n;simp only at D;exact DC.ret ⟨_,W,e1,jO W,e2,f,[],h,W,e3,by simp only;rw[D];exact .sZ s,by omega,by simp,Aj ah hn m⟩
   ·skip
    have Q0:=Zj (by omega);obtain⟨G,H,⟨ql,vs,h,rfl,rfl,E,d7,UH,k⟩,j⟩:=tX ht an main (d+1) c hD (by omega) ac i (by omega) ha WE g ho Xh WG w t.le (by omega) (by omega) (by omega);refine DT.ob func53 W ntmps53 W ?_;show DC _ _ _ _ ⟨_,_,[.box (fP v o),.box (kU p n an main)]⟩ _;refine dO [2,2,21] W<|Po (cL W W W (by omega))<|dR [999] W<|Po (cc W W W W W W)<|dR [2,25] W<|Po (aQ I W W W W)<|dR [31] W ?_
    first|refine Po (ax W W) ?_|(refine Po (av W) ?_;refine Po (aQ K W W W W) ?_)
    refine dR [1,2,37] W<|Po (aq L W W)<|dR [3,2,0,2,0,2,0,2,0,2,0,2,0,2,1,2,81] W<|Po (aQ (au5 (by omega)) W W W W)<|dR [1,2,86] W<|Po (aq j W W)<|dL [] W ?_;have Ye:=k.q0;have co:=k.q1;have Ux:=k.i;have d6:=k.n;exact DC.ret ⟨_,W,ql,vs,h,W,W,by rw[<-Ys];exact E,by omega,by omega,⟨by grind,k.le,by grind,k.qQ,by grind,by grind⟩⟩
  ·skip
   have Q0:=Zj (by omega);obtain⟨G,H,⟨ql,vs,h,rfl,rfl,E,d7,UH,k⟩,j⟩:=EI ht an main (d+1) c hD (by omega) ac i (by omega) ha WE g ho w t.le (by omega) (by omega) (by omega);refine DT.ob func53 W ntmps53 W ?_;show DC _ _ _ _ ⟨_,_,[.box (fP v o),.box (kU p n an main)]⟩ _;refine dO [2,2,21] W<|Po (cL W W W (by omega))<|dR [999] W<|Po (cc W W W W W W)<|dR [2,25] W<|Po (aQ I W W W W)<|dR [31] W ?_
   first|refine Po (ax W W) ?_|(refine Po (av W) ?_;refine Po (aQ K W W W W) ?_)
   refine dR [1,2,37] W<|Po (aq L W W)<|dR [3,2,0,2,0,2,0,2,0,2,0,2,0,2,0,2,1,2,95] W<|Po (aq j W W)<|dL [] W ?_;have Ye:=k.q0;have co:=k.q1;have Ux:=k.i;have d6:=k.n;exact DC.ret ⟨_,W,ql,vs,h,W,W,by rw[<-Ys];exact E,by omega,by omega,⟨by grind,k.le,by grind,k.qQ,by grind,by grind⟩⟩
  ·skip
   refine DT.drop 2 (auK _)<|DT.ob func53 W ntmps53 W ?_;show DC _ _ _ _ ⟨_,_,[.box (fP v o),.box (kU p n an main)]⟩ _;refine dO [2,2,21] W<|Po (cL W W W (by omega))<|dR [999] W<|Po (cc W W W W W W)<|dR [2,25] W<|Po (aQ I W W W W)<|dR [31] W ?_
   first|refine Po (ax W W) ?_|(refine Po (av W) ?_;refine Po (aQ K W W W W) ?_)
   refine dR [1,2,37] W<|Po (aq L W W)<|dL [3,2,0,2,0,2,0,2,0,2,0,2,0,2,0,2,0] W<|Pz [nD 5 (.bm i.cells 0),nD 2 (.sl (aI g)),nR 0 1] (GH v an main w) W W<|dC [2,2] W<|Pz [nN 12 0,nM 11 (gN 2 (bL [])),nD 5 (.bm i.cells 0),nD 2 (.sl (aI g)),nR 0 1] (dZ (GH v an main w) 16 (bL [])) W W<|dC [3] W<|DC.lp (λy z=> ∃(a:Nat) (f:List aB) (A:GS),z=⟨[nI 12 (a:Int),nM 11 (gN 2 (bL f)),nD 5 (.bm i.cells 0),nD 2 (.sl (aI g)),nR 0 1],[],dZ (GH v an main A) 16 (bL f)⟩/\a<=g.length/\f.length=a/\p7 i (g.take a) f/\Mv zs ⟨o,p,n-1⟩ A/\y=g.length-a) g.length _
    ⟨0,[],w,rfl,by omega,rfl,.nil,t,rfl⟩ W ?_
   rintro y z ⟨a,f,h,rfl,hi,V,s,m,rfl⟩;refine dO [2,100] W<|Po (bp W W W) ?_;rw[bD];refine dL [] W<|DC.cond W (λF=> ?_) (λF=> ?_)
   ·have q:a<g.length:=by grind
    clear F;have r:=ez q;have B:=au1 q;generalize g[a]=l at r B;obtain⟨x0,x1,x2,x3,x4,x5,x6,x7,X,_⟩:=ll l;rw[X]at r;obtain⟨G,H,⟨e,x,rfl,rfl,J,Y⟩,j⟩:=dM ht an main 3 (by omega) i TK l.ty true h m.le;obtain⟨O,P,Q,R,S,T,u⟩:=e.shape;rw[u]at j;have Z:=eW (by rfl) j 16 (bL f);have C:bL (f++ [.df l.name e])=bL f++ [[.int .u8 1,.sl [[.str l.name]],.str ⟨#[]⟩,.sl [],.bool false,.int .u8 O,.int .u8 P,.int .i32 Q,.str R,.sl S,.sl T,.int .i64 0,.int .i64 0,.sl [],.int .i64 0,.int .i64 0]]:=by rw[jl,bL,bL,aB.cells,u];rfl
    refine dC [3] W ?_;apply Ps bN
    ·intro s0 Oo;refine fR 3 W<|a_ W W W (auJ a) r W<|fR 7 W<|a_ W W W (auJ a) r W<|fR 2 W<|bg Z W W<|fR 2 W<|oh (H0:=GH v an main x) W W W W (by rfl) W (by rw[eC];omega) (by rw[eC];omega)<|fR 1 W<|TF.nil ⟨by kernel_rfl,rfl⟩
    refine dO [2,103] W<|Po (az W W W (by omega))<|dL [] W<|bK (k':=g.length-(a+1)) (by omega) ⟨a+1,f++ [.df l.name e],x,rfl,by omega,by simp[V],by rw[B];exact .snoc s l e J,m.trans Y,W⟩ (by rw[C];rfl) (kc W (kc (by rw[C];rfl) W))
   ·refine DC.exit ?_;have q:a=g.length:=by grind
    subst q;rw[avo]at s;obtain⟨e1,e2,e3⟩:=ol v an main h 16 (bL f);refine dC [2] W<|DC.cw 8 W (jB (GH v an main h) 16 (bL f) (fB f)) ?_;have D:=m.n;simp only at D;exact DC.ret ⟨_,W,e1,jO W,e2,f,[],h,W,e3,by simp only;rw[D];exact .sZ s,by omega,by simp,Aj ah hn m⟩
theorem Dj(a:Nat)(f:a<=3)(g:an<=10)(h: ∀d,a=d+1->rE zs v an main d): ∀c,c<=14->xC zs v an main a c
 |0,b=>B1 ht an main a 0 f b g h (λi e=>by omega)
 |c+1,b=>B1 ht an main a (c+1) f b g h (λi e=>by
   have j:i=c:=by omega
   subst j;exact Dj a f g h i (by omega))
end
def L2(H:Hp)(UJ:List (List D))(m1:M)(n2:Nat)(V0:List (List D))(m2:M):Prop:= ∃i1 i2,Acc 15 i1 UJ m1 H/\Acc n2 i2 V0 m2 H/\2<=i1/\2<=i2/\i1≠i2
theorem L2.HK{H:Hp}{a:List (List D)}{b:M}{c:Nat}{d:List (List D)}{e:M}(h:L2 H a b c d e)(n:Nat):L2 H a b n [] (.d (.sl [])):=by
 obtain⟨f,g,i,m,j,k,l⟩:=h;exact⟨f,g,i,.inl ⟨W,W⟩,j,k,l⟩
theorem L2.Gx{H:Hp}{a:List (List D)}{b:M}{d:Nat}{e:List (List D)}{f:M}(h:L2 H a b d e f)(g: ∀c∈a,c.length=15):jy H b=some (.sl a):=by
 obtain⟨j,k,i,_⟩:=h;exact i.view g
theorem L2.Ak{H:Hp}{e:List (List D)}{f:M}{b:Nat}{a:List (List D)}{c:M}(h:L2 H e f b a c)(g: ∀d∈a,d.length=b):jy H c=some (.sl a):=by
 obtain⟨j,k,_,i,_⟩:=h;exact i.view g
theorem vL(a b:List (List D)):bf (a++b)=bf a++bf b:=by simp[bf]
theorem EJ{n i:Nat}{rs rows:List (List D)}{m:M}{H:Hp}(h:Acc n i rs m H)(hi:2<=i)(p:2<=H.length):
  ∃d,Acc n d (rs++rows) (iA m H rows) (fm n m H rows)/\2<=d/\(d=i\/d=H.length)/\(∀j ob,(rs≠ []->j≠i)->H[j]?=some ob->(fm n m H rows)[j]?=some ob)/\H.length<=(fm n m H rows).length/\ ∀v b c g F,H=GH v b c g++F-> ∃q,fm n m H rows=GH v b c g++q:=by
 rcases h with⟨rfl,rfl⟩|⟨r,f,rfl,k⟩
 ·cases rows with
  |nil=>exact⟨i,.inl ⟨W,W⟩,hi,.inl W,λj ob _ h=>h,auK _,λv b c g F h=>⟨F,h⟩⟩
  |cons l o=>
   refine⟨H.length,.inr ⟨by simp,0,by simp[iA,vo],by simp[fm,kz]⟩,p,.inr W,λj ob _ h=> ?_,by simp[fm,kz],λv b c g F h=>⟨F++ [.row true n 0 (bf (l::o))],by rw[h];simp[fm,kz]⟩⟩;simp only[fm,kz];rw[auL (sQ h)];exact h
 ·have s:=sQ k;have e:fm n (.bH i f rs.length) H rows=H.set i (.row true n (f+1) (bf rs++bf rows)):=by simp only[fm,k]
  rw[e];refine⟨i,.inr ⟨by simp[r],f+1,by simp[iA],by rw[vL];simp[s]⟩,hi,.inl W,λj ob t h=>by grind,by simp,λv b c g F h=> ?_⟩;obtain⟨a,rfl⟩: ∃a,i=2+a:=⟨i-2,by omega⟩;refine⟨F.set a (.row true n (f+1) (bf rs++bf rows)),?_⟩;rw[h,avY _ _ (by grind)];show _++F.set (2+a-2) _=_;rw[show 2+a-2=a by omega]
section
variable{v:D}{an:Nat}{main:Bool}{g:GS}{F:Hp}{UJ V0 rows:List (List D)}{m1 m2:M}{n2:Nat}
theorem L2.yh(h:L2 (GH v an main g++F) UJ m1 n2 V0 m2)(rows:List (List D)): ∃a,fm n2 m2 (GH v an main g++F) rows=GH v an main g++a/\L2 (GH v an main g++a) UJ m1 n2 (V0++rows) (iA m2 (GH v an main g++F) rows):=by
 obtain⟨f,u,b,m,n,o,i⟩:=h;obtain⟨c,d,j,p,k,q,r⟩:=EJ (rows:=rows) m o (by simp);obtain⟨a,l⟩:=r _ _ _ _ _ W;rw[l]at d k q;refine⟨a,l,?_⟩;by_cases e:UJ= []
 ·subst e;exact⟨c+1,c,b.any,d,by omega,j,by omega⟩
 ·have w:=b.lt e;refine⟨f,c,b.other (λs t=>k f s (λ_=>i) t),d,n,j,?_⟩;rcases p with rfl|rfl
  ·exact i
  ·omega
theorem L2.KQ(h:L2 (GH v an main g++F) UJ m1 n2 V0 m2)(rows:List (List D)): ∃a,fm 15 m1 (GH v an main g++F) rows=GH v an main g++a/\L2 (GH v an main g++a) (UJ++rows) (iA m1 (GH v an main g++F) rows) n2 V0 m2:=by
 obtain⟨u,f,m,b,n,o,i⟩:=h;obtain⟨c,d,j,p,k,q,r⟩:=EJ (rows:=rows) m n (by simp);obtain⟨a,l⟩:=r _ _ _ _ _ W;rw[l]at d k q;refine⟨a,l,?_⟩;by_cases e:V0= []
 ·subst e;exact⟨c,c+1,d,b.any,j,by omega,by omega⟩
 ·have w:=b.lt e;refine⟨c,f,d,b.other (λs t=>k f s (λ_=>avH i) t),j,o,?_⟩;rcases p with rfl|rfl
  ·exact i
  ·omega
theorem L2.call{g':GS}(h:L2 (GH v an main g++F) UJ m1 n2 V0 m2):L2 (GH v an main g'++F) UJ m1 n2 V0 m2:=by
 obtain⟨b,c,j,k,d,e,l⟩:=h;have i: ∀a,2<=a-> ∀f,(GH v an main g++F)[a]?=some f->(GH v an main g'++F)[a]?=some f:=by
  grind
 exact⟨b,c,j.other (i b d),k.other (i c e),d,e,l⟩
end
theorem u7(l r:List Va):(fK l r).length<=l.length+r.length:=by
 induction r generalizing l with
 |nil=>simp[fK]
 |cons a r b=>
  simp only[fK];split
  ·grind
  ·grind
def xD(W:Int):Nat->Int
 |0=>0
 |i+1=>xD W i+W
theorem HL{W:Int}(h:0<=W): ∀i,i<=6->0<=xD W i/\xD W i<=6*W
 |0,_=>by simp only[xD];omega
 |1,_=>by simp only[xD];omega
 |2,_=>by simp only[xD];omega
 |3,_=>by simp only[xD];omega
 |4,_=>by simp only[xD];omega
 |5,_=>by simp only[xD];omega
 |6,_=>by simp only[xD];omega
 |i+7,h=>by omega
theorem NW: ∀d,qB d=6*(1+3*qP d)
 |0=>rfl
 |d+1=>rfl
theorem NX(a:Nat): ∀d,GB a d=ED (GQ (EH a d) a)
 |0=>rfl
 |d+1=>rfl
instance:bz prog 52:=cN (by kernel_rfl)
theorem Mp(l:List Va)(k:Nat):CU ((aI l).drop k)= .sl (aI (l.drop k))\/CU ((aI l).drop k)= .ov/\l.drop k= []:=by
 have e:(aI l).drop k=aI (l.drop k):=by simp[aI,List.map_drop]
 rw[e];cases l.drop k with
 |nil=>exact .inr ⟨W,W⟩
 |cons a b=>exact .inl W
section
variable{zs:List Int}{v:D}(ht:Tape zs v)(an:Nat)(main:Bool)
include ht
set_option maxHeartbeats 4000000 in
theorem B7(d:Nat)(hd:d<=3)(hE:xC zs v an main d 14):rE zs v an main d:=by
 intro g hs s ho H hg hn ST RZ;have hL:=ht.hl;have Eq:=hs.ready;have Us:=hs.di;have Ze:=KP d hd;obtain⟨r0,K0,⟨m,g0,rfl,rfl,XI⟩,Rf⟩:=fL ht an main 4 (by omega) (by omega) H hg;have Rr:=XI.lt;have Qg:=XI.mv;have Zj:=XI.qQ;have Ys:=Qg.n;have rt:=Qg.q;have Fd:=Qg.i;refine DT.drop 2 (auK _)<|DT.ob func37 W ntmps37 W<|dO [2,2,2,27] W<|Po (aq Rf W W)<|dL [] W<|dC [2] W<|Pz [nN 11 0,nN 10 m,(9,.loc 9 0),(8,.loc 8 0),nD 5 (.bm g.cells 0),nN 3 d,nD 2 (.sl (aI s)),nR 0 1] (GH v an main g0++ []) W W<|dC [3] W<|DC.lp (λI J=> ∃(n:Nat) (f:List Va) (y:M) (g':GS) (h:Hp) (p:List (Nat×List M)),J=⟨[nI 11 (n:Int),nN 10 m,(9,.loc 9 0),(8,.loc 8 0),nD 5 (.bm g.cells 0),nN 3 d,nD 2 (.sl (aI s)),nR 0 1],p,GH v an main g'++h⟩/\Go.Mt.get p 9=some [y,.d (.sl [])]/\Go.Mt.get p 8=some [.d (.sl []),.d (.sl [])]/\L2 (GH v an main g'++h) (aI f) y 16 [] (.d (.sl []))/\n<=m/\f.length=n/\NV H.n f g'.n/\g'.n=H.n+n/\g'.q=H.q/\g0.i<=g'.i/\g'.i<=zs.length/\I=m-n) m _
  ⟨0,[],.d (.sl []),g0,[],_,rfl,rfl,rfl,⟨2,3,.inl ⟨rfl,rfl⟩,.inl ⟨rfl,rfl⟩,by omega,by omega,by omega⟩,by omega,rfl,by rw[Ys];exact .nil,by omega,rt,auK _,Qg.le,rfl⟩ W ?_
 rintro I J ⟨n,f,y,a,h,p,rfl,o,r,j,hi,UH,i9,FS,UT,GT,mt,rfl⟩;refine dC [2] W<|DC.cond W (λk=> ?_) (λk=> ?_)
 ·have A:n<m:=by have:=auV k;omega
  obtain⟨r1,K1,⟨rfl,rfl⟩,PR⟩:=rD ht an main 118 a mt (by omega);obtain⟨r2,K2,⟨q,g2,rfl,rfl,Qz⟩,PX⟩:=HI ht an main ⟨a.i,a.n+1,a.q⟩ mt;obtain⟨r3,K3,⟨b,Q,rfl,rfl,R⟩,K⟩:=fL ht an main 3 (by omega) (by omega) g2 Qz.le;have ah:=Qz.trans R.mv;have co:=ah.n;have rx:=ah.q;have t3:=ah.i;simp only at co rx t3;have PR:=jF (by rfl) PR h;have PX:=jF (by rfl) PX h;have K:=jF (by rfl) K h;have WU:(aI f).length=n:=by rw[bD,UH]
  refine dO [3,2,34] W<|Po (aq PR W W)<|dR [36] W<|Po (aq PX W W)<|dL [] W ?_;rcases avl b with t4|t4
  ·subst t4;obtain⟨r4,K4,⟨e,S,rfl,rfl,Id,d8⟩,L⟩:=jk ht an main q Q ah.le;obtain⟨ke,Sh,ne,se,ae,be,he⟩:=e.shape;rw[he]at L;have L:=jF (by rfl) L h;have In:=d8.n;have UV:=d8.q;have U0:=d8.i;have P:=j.call (g':=S);have hw:(⟨nm 118 (a.n+1),q,none,true,e⟩:Va).cells= [.str (nm 118 (a.n+1)),.int .u8 q.kind,.str q.nm,.sl [],.bool true,.int .u8 ke,.int .u8 Sh,.int .i32 ne,.str se,.sl ae,.sl be,.int .i64 0,.int .i64 0,.int .i64 0,.int .i64 0]:=by simp only[Va.cells,he];rfl
   obtain⟨F',T,d6⟩:=P.KQ [[.str (nm 118 (a.n+1)),.int .u8 q.kind,.str q.nm,.sl [],.bool true,.int .u8 ke,.int .u8 Sh,.int .i32 ne,.str se,.sl ae,.sl be,.int .i64 0,.int .i64 0,.int .i64 0,.int .i64 0]];have Qw:aI (f++ [⟨nm 118 (a.n+1),q,none,true,e⟩])=aI f++ [[.str (nm 118 (a.n+1)),.int .u8 q.kind,.str q.nm,.sl [],.bool true,.int .u8 ke,.int .u8 Sh,.int .i32 ne,.str se,.sl ae,.sl be,.int .i64 0,.int .i64 0,.int .i64 0,.int .i64 0]]:=by rw[iw,<-hw];rfl
   obtain⟨i1,i2,Rk,_⟩:=id P;refine dO [2,42] W<|Po (aq K W W)<|dR [1,2,2,48] W<|Po (aq L W W)<|dR [2,51] W<|Po (jx W W o W)<|dR [54] W<|Po (mS Rk W W W W W (mR W) (by rw[WU];simp only[avd];omega) (by rw[WU];simp only[avd];omega))<|dR [999] W<|Po (fD W W o (gw _ _ _) W W)<|dR [2,32] W<|Po (az W W W (by omega))<|dL [] W ?_;rw[<-Qw]at d6;exact bK (k':=m-(n+1)) (by omega) ⟨n+1,_,_,S,F',_,rfl,rfl,r,d6,by omega,by simp[UH],by rw[In,co];exact .snoc i9 _ W W (.inr ⟨W,Id⟩),by omega,by omega,by omega,d8.le,rfl⟩ T W
  ·have IO:(((b:Nat):Int)==0)=false:=avs.2 (by omega);have P:=j.call (g':=Q);obtain⟨F',T,d6⟩:=P.KQ [[.str (nm 118 (a.n+1)),.int .u8 q.kind,.str q.nm,.sl [],.bool false,.int .u8 0,.int .u8 0,.int .i32 0,.str ⟨#[]⟩,.sl [],.sl [],.int .i64 0,.int .i64 0,.int .i64 0,.int .i64 0]];have Qw:aI (f++ [⟨nm 118 (a.n+1),q,none,false,.nil⟩])=aI f++ [[.str (nm 118 (a.n+1)),.int .u8 q.kind,.str q.nm,.sl [],.bool false,.int .u8 0,.int .u8 0,.int .i32 0,.str ⟨#[]⟩,.sl [],.sl [],.int .i64 0,.int .i64 0,.int .i64 0,.int .i64 0]]:=by rw[iw];rfl
   obtain⟨i1,i2,Rk,_⟩:=id P;refine dO [2,42] W<|Po (aq K W W)<|dR [43] W<|Po (aQ IO W W W W)<|dR [0,2,51] W<|Po (jx W W o W)<|dR [54] W<|Po (mS Rk W W W W W (mR W) (by rw[WU];simp only[avd];omega) (by rw[WU];simp only[avd];omega))<|dR [999] W<|Po (fD W W o (gw _ _ _) W W)<|dR [2,32] W<|Po (az W W W (by omega))<|dL [] W ?_;rw[<-Qw]at d6;exact bK (k':=m-(n+1)) (by omega) ⟨n+1,_,_,Q,F',_,rfl,rfl,r,d6,by omega,by simp[UH],by rw[co];exact .snoc i9 _ W W (.inl ⟨W,W⟩),by omega,by omega,by omega,ah.le,rfl⟩ T W
 refine DC.exit ?_;have A:n=m:=by have:=au9 k;omega
 have WU:(aI f).length<=3:=by rw[bD,UH];omega
 have U8:(aI s).length<=3:=by rw[bD];omega
 have LE:a.n<=3*a.i:=by
  rcases avl m with ac|ac
  ·omega
  ·have:=Zj (by omega);omega
 have Vs:H.n<=a.n:=by omega
 have YO:H.i<=a.i:=by omega
 clear Zj FS Fd Ys rt GT Qg XI;refine dC [2] W ?_;have l0:=j.HK 15;obtain⟨F1,d9,l1⟩:=l0.yh (aI f);obtain⟨F2,X,Y⟩:=l1.yh (aI s);obtain⟨_,i2,_,X4,_⟩:=id l0;obtain⟨_,i3,_,WM,_⟩:=id l1;have f9:=l0.Gx (cx f);refine dO [2,58] W<|Po (jx W W o W)<|Po (TL.cw 54 W f9)<|dR [59] W<|Po (mS X4 W W W W W (cx _) (by simp only[avt];omega) (by simp only[avt];omega))<|dL [] W ?_;rw[d9];generalize iA (.d (.sl [])) (GH v an main a++h) (aI f)=ma at l1 X Y WM⊢;refine dO [2,62] W<|Po (mS WM W W W W W (cx _) (by simp only[avn];omega) (by simp only[avn];omega))<|dL [] W ?_;rw[X];generalize iA ma (GH v an main a++F1) (aI s)=mb at Y⊢;rw[avn,<-iw]at Y;refine DC.cw 13 W (Y.Ak (cx _))<|dC [2] W ?_;have l3:=Y.HK 15;obtain⟨F3,t5,l4⟩:=l3.yh (aI g.ready);obtain⟨F4,pm,F⟩:=l4.yh (aI f);obtain⟨F5,gc,u⟩:=F.yh (aI s);obtain⟨_,_,_,t6,_⟩:=id l3;obtain⟨_,_,_,d7,_⟩:=id l4;obtain⟨_,_,_,U,_⟩:=id F;have T5:(aI g.ready).length<=1000:=by rw[bD];omega
 have t7:=l4.Gx (cx f);refine dO [2,70] W<|Po (mS t6 W W W W W (cx _) (by simp only[avt];omega) (by simp only[avt];omega))<|dR [999] W<|Po (fD W W W (gw _ _ _) W W)<|dL [] W ?_;rw[t5];generalize iA (.d (.sl [])) (GH v an main a++F2) (aI g.ready)=mc at l4 pm F gc u d7 U⊢;refine dO [2,75] W<|Po (jx W W o W)<|Po (TL.cw 71 W t7)<|dR [76] W<|Po (mS d7 W W W W W (cx _) (by simp only[avn];omega) (by simp only[avn];omega))<|dR [999] W<|Po (fD W W W (gw _ _ _) W W)<|dL [] W ?_;rw[pm];generalize iA mc (GH v an main a++F3) (aI f)=md at F gc u U⊢;refine dO [2,81] W<|Po (mS U W W W W W (cx _) (by simp only[avn,auN];omega) (by simp only[avn,auN];omega))<|dR [999] W<|Po (fD W W W (gw _ _ _) W W)<|dL [] W ?_;rw[gc];generalize iA md (GH v an main a++F4) (aI s)=me at u⊢;rw[avn,<-iw,<-iw]at u;refine DC.gM (PV:=[.d (.sl (aI g.ready)),.d (.sl (aI (g.ready++f++s))),.d (.sl [])]) 14 W (dV (fX (u.Ak (cx _)) (dV W))) ?_;have l7:=u.HK 15;obtain⟨F6,t8,l8⟩:=l7.yh (aI g.di);obtain⟨_,_,_,t9,_⟩:=id l7;have Rm:(aI g.di).length<=1000:=by rw[bD];omega
 refine dO [2,87] W<|Po (mS t9 W W W W W (cx _) (by simp only[avt];omega) (by simp only[avt];omega))<|dR [999] W<|Po (fD W W W (gw _ _ _) W W)<|dL [] W ?_;rw[t8];generalize iA (.d (.sl [])) (GH v an main a++F5) (aI g.di)=mf at l8⊢;rw[avn]at l8;clear l0 l1 Y l3 l4 F u l7 d9 X t5 pm gc t8 X4 WM t6 d7 U t9 f9 t7 j;refine dC [2] W ?_;obtain⟨i,ge⟩: ∃i,i=f++s:=⟨_,rfl⟩;have ZV:i.length<=6:=by rw[ge,auN];omega
 rw[<-ge];refine Pz [nN 15 0,(14,.loc 14 0),nD 13 (.sl (aI i)),(9,.loc 9 0),(8,.loc 8 0),nN 3 d,nR 0 1] (GH v an main a++F6) W W<|dC [3] W<|DC.lp (λI J=> ∃(n:Nat) (Z:M) (h:Hp) (p:List (Nat×List M)),J=⟨[nI 15 (n:Int),(14,.loc 14 0),nD 13 (.sl (aI i)),(9,.loc 9 0),(8,.loc 8 0),nN 3 d,nR 0 1],p,GH v an main a++h⟩/\Go.Mt.get p 9=some [y,.d (.sl [])]/\Go.Mt.get p 8=some [.d (.sl []),.d (.sl [])]/\Go.Mt.get p 14=some [.d (.sl (aI g.ready)),.d (.sl (aI (g.ready++f++s))),Z]/\L2 (GH v an main a++h) (aI f) y 15 (aI (fK g.di (i.take n))) Z/\n<=i.length/\I=i.length-n) i.length _
  ⟨0,mf,F6,_,rfl,o,r,rfl,l8,by omega,rfl⟩ W ?_
 clear o r l8;rintro I J ⟨b,Z,h,p,rfl,o,r,w,j,hj,rfl⟩;refine dO [2,91] W<|Po (bp W W W) ?_;rw[bD];refine dL [] W<|DC.cond W (λk=> ?_) (λk=> ?_)
 ·have A:b<i.length:=by have:=auV k;omega
  clear k;have B:=ez A;have Qu:=au1 A;generalize i[b]=z at B Qu;have x:=Ae g.di (i.take b) z;rw[<-Qu]at x;have Do:=u7 g.di (i.take b);rw[awm]at Do;generalize fK g.di (i.take b)=V at j x Do;have f9:=j.Ak (cx V);have i6:CT prog 52 [Z,.d (.str z.name)] (GH v an main a++h) λr' K'=>r'= .d (.bool (V.any λi8=>decide (i8.name=z.name)))/\K'=GH v an main a++h:=
   CT.J5 f9 ((Sy (Mn V z.name (by omega))).mono (by rintro _ _ ⟨⟨_,rfl,rfl⟩,rfl⟩;exact⟨W,W⟩))
  obtain⟨_,_,_,LT,_⟩:=id j;obtain⟨F',T,N⟩:=j.yh [z.cells];obtain⟨x0,x1,x2,x3,x4,x5,x6,x7,hw,_⟩:=ll z;have Qw:aI (V++ [z])=aI V++ [z.cells]:=by rw[iw];rfl
  rw[<-Qw]at N;rw[hw]at B T N;have asb:(aI V).length<=1000:=by rw[bD];omega
  refine dC [3] W ?_;cases Q2:z.last with
  |false=>
   rw[Q2]at B x;simp only[Bool.false_and,avS,awi]at x;refine dC [] W ?_;apply Ps bN
   ·intro s0 Oo;refine fR 2 W<|a_ W W W (auJ b) B W<|fR 13 W<|TF.nil ⟨by kernel_rfl,rfl⟩
   refine dO [0,2,94] W<|Po (az W W W (by omega))<|dL [] W<|bK (k':=i.length-(b+1)) (by omega) ⟨b+1,Z,h,_,rfl,o,r,w,by rw[x];exact j,by omega,rfl⟩ W W
  |true=>
   rw[Q2]at B x;cases ZT:V.any λi8=>decide (i8.name=z.name)with
   |true=>
    rw[ZT]at x i6;simp only[Bool.not_true,Bool.and_false,avS,awi]at x;refine dC [] W ?_;apply Ps bN
    ·intro s0 Oo;refine fR 2 W<|a_ W W W (auJ b) B W<|fR 4 W ?_
     first|refine aX W W W W ?_|refine aY W W W ?_|(refine aR W W ?_;(refine px W W w W ?_))
     refine fR 2 W ?_
     first|refine aX W W W W ?_|refine aY W W W ?_|(refine aR W W ?_;(refine a_ W W W (auJ b) B W ?_))
     refine fR 2 W ?_
     first|refine aX W W W W ?_|refine aY W W W ?_|(refine aR W W ?_;(refine la i6 W W ?_))
     refine fR 2 W<|TF.nil ⟨by kernel_rfl,rfl⟩
    refine dO [0,2,94] W<|Po (az W W W (by omega))<|dL [] W<|bK (k':=i.length-(b+1)) (by omega) ⟨b+1,Z,h,_,rfl,o,r,w,by rw[x];exact j,by omega,rfl⟩ W W
   |false=>
    rw[ZT]at x i6;simp only[Bool.not_false,Bool.and_true,awr]at x;rw[Q2]at T N;refine dC [] W ?_;apply Ps bN
    ·intro s0 Oo;refine fR 2 W<|a_ W W W (auJ b) B W<|fR 4 W ?_
     first|refine aX W W W W ?_|refine aY W W W ?_|(refine aR W W ?_;(refine px W W w W ?_))
     refine fR 2 W ?_
     first|refine aX W W W W ?_|refine aY W W W ?_|(refine aR W W ?_;(refine a_ W W W (auJ b) B W ?_))
     refine fR 2 W ?_
     first|refine aX W W W W ?_|refine aY W W W ?_|(refine aR W W ?_;(refine la i6 W W ?_))
     refine fR 2 W<|TF.nil ⟨by kernel_rfl,rfl⟩
    refine dC [1] W ?_;apply Ps bN
    ·intro s0 Oo;refine fR 1 W<|px W W w W<|fR 2 W<|a_ W W W (auJ b) B W<|fR 2 W<|yA LT W W W W W W (by omega) (by omega)<|fR 1 W<|jc W W w (gw _ _ _) W W<|TF.nil ⟨by kernel_rfl,rfl⟩
    refine dO [2,94] W<|Po (az W W W (by omega))<|dL [] W<|bK (k':=i.length-(b+1)) (by omega) ⟨b+1,_,F',_,rfl,o,r,rfl,by rw[x];exact N,by omega,rfl⟩ T W
 refine DC.exit ?_;have A:b=i.length:=by have:=au9 k;omega
 clear k;subst A;rw[avo]at j;have N:=j.HK 16;have v6:(fK g.di i).length<=800-200*d+6:=by have:=u7 g.di i;omega
 refine DC.gM (PV:=[.d (.sl (aI g.ready)),.d (.sl (aI (g.ready++f++s))),.d (.sl (aI (fK g.di i)))]) 14 w (dV (dV (fX (j.Ak (cx _)) W))) ?_;obtain⟨C,i7⟩: ∃C:Sc,C=KK g f s:=⟨_,rfl⟩;have qr:C.ready=g.ready:=by rw[i7];rfl
 have ZD:C.all=g.ready++f++s:=by rw[i7];rfl
 have rg:C.di=fK g.di i:=by rw[i7,ge];rfl
 rw[<-ZD,<-rg,<-qr];have Pi:C.di.length<=800-200*d+6:=by rw[rg];exact v6
 have Pm:C.all.length<=1000:=by rw[ZD];simp only[auN];omega
 have hSr:C.ready.length<=800-200*d:=by rw[qr];exact Eq
 clear w j v6 qr ZD rg;have hW:0<=1+3*qP d:=by omega
 refine dC [3] W<|DC.lp (λI J=> ∃(b:Nat) (c:List Va) (td:D) (t:Sc) (E:List aB) (G:List Va) (y me:M) (g':GS) (h:Hp) (p:List (Nat×List M)),J=⟨[(14,.loc 14 0),nM 13 (.d td),(9,.loc 9 0),(8,.loc 8 0),nN 3 d,nR 0 1],p,GH v an main g'++h⟩/\
   (td= .sl (aI c)\/td= .ov/\c= [])/\Go.Mt.get p 9=some [y,me]/\Go.Mt.get p 8=some [.d (.sl []),.d (.sl [])]/\Go.Mt.get p 14=some [.d (.sl (aI t.ready)),.d (.sl (aI t.all)),.d (.sl (aI t.di))]/\L2 (GH v an main g'++h) (aI (f++G)) y 16 (bL E) me/\
   GL (GQ (EH an d) an) C i a.n t c g'.n E G/\(t.ready.length+c.length<=800-200*d+6/\t.all.length<=1000/\t.di.length<=800-200*d+6/\G.length<=42*b/\E.length<=45*b/\b+c.length<=6)/\(a.i<=g'.i/\g'.i<=zs.length/\a.n<=g'.n/\g'.n<=3*g'.i/\min H.q 0-xD (1+3*qP d) b<=g'.q/\g'.q<=H.q)/\I=c.length) i.length _
  ⟨0,i,_,C,[],[],y,.d (.sl []),a,h,_,rfl,.inl W,o,r,rfl,by rw[avg];exact N,.start,⟨by omega,Pm,Pi,by simp,by simp,by omega⟩,⟨auK _,mt,auK _,LE,by simp only[xD];omega,by omega⟩,rfl⟩ W ?_
 clear o r N;rintro I J ⟨b,c,td,t,E,G,y,me,g2,h,p,rfl,wd,o,r,w,j,wn,⟨z1,z2,z3,z4,z5,z6⟩,⟨y1,y2,y3,y4,y5,y6⟩,rfl⟩;have Pn:lB td=some c.length:=by
  rcases wd with rfl|⟨rfl,rfl⟩
  ·simp only[lB,bD]
  ·rfl
 refine dO [2,121] W<|Po (bp W W Pn)<|dL [] W<|DC.cond W (λk=> ?_) (λk=> ?_)
 ·have A:0<c.length:=by have:=auV k;omega
  clear k;obtain rfl:td= .sl (aI c):=by
   rcases wd with ac|⟨_,rfl⟩
   ·exact ac
   ·simp at A
  have Pp:=HL hW b (by omega);have hqB:=NT d hd;obtain⟨r3,K3,⟨k0,Q,rfl,rfl,R⟩,K⟩:=fL ht an main 3 (by omega) (by omega) g2 y2;have XD:=R.lt;have co:=R.mv.n;have rx:=R.mv.q;have t3:=R.mv.i;have K:=jF (by rfl) K h;have N:=j.call (g':=Q);obtain⟨l,hkk⟩: ∃l,l=min (k0+1) c.length:=⟨_,rfl⟩;have O:1<=l/\l<=3/\l<=c.length:=by omega
  have Pq:1+((k0:Nat):Int)=((k0+1:Nat):Int):=by omega
  obtain⟨r4,K4,⟨q1,VK,S,rfl,rfl,SG,Uz,asc,P5⟩,L⟩:=hE t (by omega) z2 (by omega) (c.take l) (by rw[awm];omega) Q R.mv.le (by omega) (by omega) (by omega) (by omega);have L:=jF (by rfl) L h;have hb0:=P5.q0;have WN:=P5.q1;have Ux:=P5.i;have hbn:=P5.n;have P:=j.call (g':=S);have Qu:(aI c).take l=aI (c.take l):=by simp[aI,aw2]
  have PS:aI c≠ []:=by intro ac;have h2:=bD c;rw[ac]at h2;have h3:(0:Nat)=c.length:=h2;omega
  obtain⟨F1,d9,F⟩:=P.yh (bL q1);obtain⟨F2,X,u⟩:=F.KQ (aI VK);obtain⟨_,_,_,d7,_⟩:=id P;obtain⟨_,_,U,_,_⟩:=id F;have asd:(aI (f++G)).length<=300:=by rw[bD,auN];omega
  have ase:(aI VK).length<=50:=by rw[bD];omega
  have asf:(bL E).length<=300:=by rw[eC];omega
  have asg:(bL q1).length<=50:=by rw[eC];omega
  refine dO [3,2,127] W<|Po (aq K W W)<|dR [128] W<|Po (az W W W (by omega)) ?_;rw[Pq];refine dR [2,131] W<|Po (bp W W W) ?_;rw[bD];refine dL [] W<|DC.md ⟨[nN 16 l,(14,.loc 14 0),nD 13 (.sl (aI c)),(9,.loc 9 0),(8,.loc 8 0),nN 3 d,nR 0 1],p,GH v an main Q++h⟩ ?_ ?_
  ·refine DC.cond W (λk=> ?_) (λk=> ?_)
   ·have Pt:c.length<k0+1:=by have:=auV k;omega
    refine dO [2,134] W<|Po (bp W W W) ?_;rw[bD,show c.length=l by omega];refine dL [] W<|cR W W
   ·have Pt: ¬c.length<k0+1:=by have:=au9 k;omega
    refine dC [] W<|cR W (kc (by rw[show l=k0+1 by omega];rfl) W)
  refine dC [] W ?_;apply Ps bN
  ·intro s0 Oo;refine fR 1 W<|ra W W w W W<|fR 2 W<|zI W W W PS O.1 (by rw[bD];exact O.2.2) (cx _) ?_;rw[Qu];refine fR 1 W<|bg L W W<|fR 5 W<|TF.nil ⟨by kernel_rfl,rfl⟩
  refine dO [2,146] W<|Po (jx W W o W)<|dR [148] W<|Po (mS d7 W W W W W (fB q1) (by omega) (by omega))<|dR [999] W<|Po (fD W W o (gw _ _ _) W W)<|dL [] W ?_;rw[d9];generalize iA me (GH v an main S++h) (bL q1)=Px at F X u U⊢;refine dO [2,153] W<|Po (mS U W W W W W (cx VK) (by omega) (by omega))<|dR [999] W<|Po (fD W W W (gw _ _ _) W W)<|dL [] W ?_;rw[X];generalize iA y (GH v an main S++F1) (aI VK)=Q6 at u⊢;apply Ps bN
  ·intro s0 Oo;refine ra W W w W W<|fR 2 W<|zI W W W PS O.1 (by rw[bD];exact O.2.2) (cx _) ?_;rw[Qu];refine aW (ub t (c.take l) (by omega) (by rw[awm];omega)) W W<|jc W W w W W W<|TF.nil ⟨by kernel_rfl,rfl⟩
  refine dO [2,162] W<|Po (F0 W W W PS (by rw[bD];exact O.2.2) (cx _))<|dL [] W ?_;rw[<-iw,<-jl]at u;have QR:(c.drop l).length=c.length-l:=by simp
  exact bK (k':=(c.drop l).length) (by omega) ⟨b+1,c.drop l,_,t.more (c.take l),E++q1,G++VK,Q6,Px,S,F2,_,rfl,Mp c l,rfl,r,rfl,by rw[<-avh];exact u,.step wn l O.1 O.2.1 O.2.2 (by rw[<-co];exact SG),⟨by simp only[Sc.more,auN,awm];omega,z2,z3,by simp only[auN];omega,by simp only[auN];omega,by omega⟩,⟨by omega,P5.le,by omega,P5.qQ,by simp only[xD];omega,by omega⟩,rfl⟩ W W
 refine DC.exit ?_;have A:c= []:=by
  have:=au9 k;exact List.length_eq_zero_iff.1 (by omega)
 clear k;subst A;refine DC.gM (PV:=[.d (.sl (aI (f++G))),.d (.sl (bL E))]) 9 o (fX (j.Gx (cx _)) (fX (j.Ak (fB _)) W))<|dO [2,999] W<|Po (fD W W r W W W)<|dL [] W ?_;have Pp:=HL hW b (by omega);have hqe:=NW d;refine DC.ret ⟨_,W,by simp,.d _,p8 v an main g2,.mk (f++G) E,g2,by rw[bj.cells];rfl,rfl,?_,⟨by omega,y2,by omega,y4,by omega,y6⟩⟩;rw[NX];exact⟨f,a.n,t,E,G,i9,by omega,by rw[<-i7,<-ge];exact wn,W⟩
end
section
variable{zs:List Int}{v:D}(ht:Tape zs v)(an:Nat)(main:Bool)
include ht
theorem blocks(b:an<=10): ∀d,d<=3->rE zs v an main d
 |0,a=>B7 ht an main 0 a (Dj ht an main 0 a b (λd e=>by omega) 14 (by omega))
 |d+1,a=>B7 ht an main (d+1) a (Dj ht an main (d+1) a b (λc e=>by
   have f:c=d:=by omega
   subst f;exact blocks b c (by omega)) 14 (by omega))
theorem KR(x:an<=10)(i0:Nat)(G:i0<=zs.length):DT prog 24 [.ref 1 0,dN an] (GH v an main ⟨i0,0,14⟩) λr K=> ∃(y:Nd) (g':GS),r= .d (.agg y.cells)/\K=GH v an main g'/\GN an y/\i0<=g'.i/\g'.i<=zs.length:=by
 have S:=ht.hl;have E:=nP (an+1) an (by omega) (by omega);have ac:=rC an;obtain⟨T,U,⟨F,f,rfl,rfl,N⟩,z⟩:=fL ht an main 3 (by omega) (by omega) ⟨i0,0,14⟩ G;have h:=N.mv;have O:=h.n;have P:=h.q;have Q:=h.i;simp only at O P Q;rcases avl F with A|A
 ·skip
  subst A;obtain⟨V,X,⟨e,t,rfl,rfl,R,g⟩,B⟩:=jk ht an main .int f h.le;obtain⟨i,j,k,l,m,o,C⟩:=e.shape;rw[C]at B;have ah:=g.n;have co:=g.q;have d6:=g.i;have p:aI [⟨⟨#[120]⟩,.int,none,true,e⟩,yV]= [[D.str ⟨#[120]⟩,.int .u8 2,.str ⟨#[]⟩,.sl [],.bool true,.int .u8 i,.int .u8 j,.int .i32 k,.str l,.sl m,.sl o,.int .i64 0,.int .i64 0,.int .i64 0,.int .i64 0],[D.str ⟨#[121]⟩,.int .u8 3,.str nj,.sl [],.bool false,.int .u8 0,.int .u8 0,.int .i32 0,.str ⟨#[]⟩,.sl [],.sl [],.int .i64 0,.int .i64 0,.int .i64 0,.int .i64 0]]:=by simp only[aI,avm,avT,Va.cells,C];rfl
  obtain⟨H,I,⟨b,d,rfl,rfl,q,a⟩,c⟩:=blocks ht an main x 3 (by omega) ⟨[aV,bV],[],[]⟩ ⟨by simp,by simp,by simp⟩ [⟨⟨#[120]⟩,.int,none,true,e⟩,yV] (by simp) t g.le (by omega) (by omega) (by omega);obtain⟨J,L,s⟩:=b.shape;rw[s,p]at c;have c:=jF (by rfl) c [.row true 15 0 (bf [[D.str ⟨#[120]⟩,.int .u8 2,.str ⟨#[]⟩,.sl [],.bool true,.int .u8 i,.int .u8 j,.int .i32 k,.str l,.sl m,.sl o,.int .i64 0,.int .i64 0,.int .i64 0,.int .i64 0],[D.str ⟨#[121]⟩,.int .u8 3,.str nj,.sl [],.bool false,.int .u8 0,.int .u8 0,.int .i32 0,.str ⟨#[]⟩,.sl [],.sl [],.int .i64 0,.int .i64 0,.int .i64 0,.int .i64 0]])];have M:=a.i;refine DT.drop 2 (auK _)<|DT.ob func24 W ntmps24 W<|dO [2,2,12] W<|Po (aE E W W)<|dR [13] W<|Po (q_ W W W (by have:(⟨#[102]⟩:ByteArray).size=1:=rfl;omega))<|dR [2,15] W<|Po (aE dP W W)<|dR [17] W<|Po (aE kj W W)<|dR [2,21] W<|Po (aE dP W W)<|dR [23] W<|Po (aE kV W W)<|dR [25] W<|Po (jf W W W W W W)<|dL [] W ?_;have w:=jF (by rfl) z [.row false 15 0 (bf [[D.str ⟨#[120]⟩,.int .u8 2,.str ⟨#[]⟩,.sl [],.bool false,.int .u8 0,.int .u8 0,.int .i32 0,.str ⟨#[]⟩,.sl [],.sl [],.int .i64 0,.int .i64 0,.int .i64 0,.int .i64 0],[D.str ⟨#[121]⟩,.int .u8 3,.str nj,.sl [],.bool false,.int .u8 0,.int .u8 0,.int .i32 0,.str ⟨#[]⟩,.sl [],.sl [],.int .i64 0,.int .i64 0,.int .i64 0,.int .i64 0]])]
  refine dO [2,31] W<|Po (aq w W W)<|dR [1,2,35] W<|Po (Bw W W W W (by omega) (by decide))<|dR [999] W<|Po (Io W W W W W W)<|dL [] W ?_;apply Ps bN
  ·intro Y Z;refine fR 3 W<|aW dP W W<|bg (jF (by rfl) B [.row false 15 0 (bf [[D.str ⟨#[120]⟩,.int .u8 2,.str ⟨#[]⟩,.sl [],.bool true,.int .u8 0,.int .u8 0,.int .i32 0,.str ⟨#[]⟩,.sl [],.sl [],.int .i64 0,.int .i64 0,.int .i64 0,.int .i64 0],[D.str ⟨#[121]⟩,.int .u8 3,.str nj,.sl [],.bool false,.int .u8 0,.int .u8 0,.int .i32 0,.str ⟨#[]⟩,.sl [],.sl [],.int .i64 0,.int .i64 0,.int .i64 0,.int .i64 0]])]) W W<|c_ W W W W (by omega) (by decide)<|fR 1 W<|fY W W W W W W<|TF.nil ⟨by kernel_rfl,rfl⟩
  refine DC.mi 2 W<|Pz [(5,.loc 5 0),(4,.loc 4 0),nR 0 1] (GH v an main t++ [.row true 15 0 (bf [[D.str ⟨#[120]⟩,.int .u8 2,.str ⟨#[]⟩,.sl [],.bool true,.int .u8 i,.int .u8 j,.int .i32 k,.str l,.sl m,.sl o,.int .i64 0,.int .i64 0,.int .i64 0,.int .i64 0],[D.str ⟨#[121]⟩,.int .u8 3,.str nj,.sl [],.bool false,.int .u8 0,.int .u8 0,.int .i32 0,.str ⟨#[]⟩,.sl [],.sl [],.int .i64 0,.int .i64 0,.int .i64 0,.int .i64 0]])]) W W<|DC.gM (PV:=[.d (.str (⟨#[102]⟩++dg an)),.d (.sl (aI [aV,bV])),.d (.sl [[D.str ⟨#[120]⟩,.int .u8 2,.str ⟨#[]⟩,.sl [],.bool true,.int .u8 i,.int .u8 j,.int .i32 k,.str l,.sl m,.sl o,.int .i64 0,.int .i64 0,.int .i64 0,.int .i64 0],[D.str ⟨#[121]⟩,.int .u8 3,.str nj,.sl [],.bool false,.int .u8 0,.int .u8 0,.int .i32 0,.str ⟨#[]⟩,.sl [],.sl [],.int .i64 0,.int .i64 0,.int .i64 0,.int .i64 0]]),.d (.sl []),.d (.sl []),.d (.int .i64 0),.d (.int .i64 0)]) 5 W (dV (dV (fX (lQ (n:=15) (rs:=[[D.str ⟨#[120]⟩,.int .u8 2,.str ⟨#[]⟩,.sl [],.bool true,.int .u8 i,.int .u8 j,.int .i32 k,.str l,.sl m,.sl o,.int .i64 0,.int .i64 0,.int .i64 0,.int .i64 0],[D.str ⟨#[121]⟩,.int .u8 3,.str nj,.sl [],.bool false,.int .u8 0,.int .u8 0,.int .i32 0,.str ⟨#[]⟩,.sl [],.sl [],.int .i64 0,.int .i64 0,.int .i64 0,.int .i64 0]]) W W (by simp) (by simp_all)) W)))<|dO [2,2,51] W<|Po (aq c W W)<|dL [2] W ?_
  refine DC.ret ⟨_,W,qn W,.d _,p8 v an main d,⟨nm 102 an,[aV,bV],[⟨⟨#[120]⟩,.int,none,true,e⟩,yV],b⟩,d,by rw[Nd.cells,p,s];rfl,rfl,⟨rfl,rfl,⟨true,e,.inr ⟨rfl,R⟩,rfl⟩,d.n,(by have:=a.qQ;have:=a.le;omega),?_⟩,by omega,a.le⟩;have u:t.n=0:=by omega
  rw[u]at q;exact q
 ·skip
  have g:Mv zs f f:=⟨rfl,rfl,auK _,h.le⟩;have p:aI [⟨⟨#[120]⟩,.int,none,false,.nil⟩,yV]= [[D.str ⟨#[120]⟩,.int .u8 2,.str ⟨#[]⟩,.sl [],.bool false,.int .u8 0,.int .u8 0,.int .i32 0,.str ⟨#[]⟩,.sl [],.sl [],.int .i64 0,.int .i64 0,.int .i64 0,.int .i64 0],[D.str ⟨#[121]⟩,.int .u8 3,.str nj,.sl [],.bool false,.int .u8 0,.int .u8 0,.int .i32 0,.str ⟨#[]⟩,.sl [],.sl [],.int .i64 0,.int .i64 0,.int .i64 0,.int .i64 0]]:=by rfl
  obtain⟨H,I,⟨b,d,rfl,rfl,q,a⟩,c⟩:=blocks ht an main x 3 (by omega) ⟨[aV,bV],[],[]⟩ ⟨by simp,by simp,by simp⟩ [⟨⟨#[120]⟩,.int,none,false,.nil⟩,yV] (by simp) f g.le (by omega) (by omega) (by omega);obtain⟨J,L,s⟩:=b.shape;rw[s,p]at c;have c:=jF (by rfl) c [.row true 15 0 (bf [[D.str ⟨#[120]⟩,.int .u8 2,.str ⟨#[]⟩,.sl [],.bool false,.int .u8 0,.int .u8 0,.int .i32 0,.str ⟨#[]⟩,.sl [],.sl [],.int .i64 0,.int .i64 0,.int .i64 0,.int .i64 0],[D.str ⟨#[121]⟩,.int .u8 3,.str nj,.sl [],.bool false,.int .u8 0,.int .u8 0,.int .i32 0,.str ⟨#[]⟩,.sl [],.sl [],.int .i64 0,.int .i64 0,.int .i64 0,.int .i64 0]])];have M:=a.i;refine DT.drop 2 (auK _)<|DT.ob func24 W ntmps24 W<|dO [2,2,12] W<|Po (aE E W W)<|dR [13] W<|Po (q_ W W W (by have:(⟨#[102]⟩:ByteArray).size=1:=rfl;omega))<|dR [2,15] W<|Po (aE dP W W)<|dR [17] W<|Po (aE kj W W)<|dR [2,21] W<|Po (aE dP W W)<|dR [23] W<|Po (aE kV W W)<|dR [25] W<|Po (jf W W W W W W)<|dL [] W ?_;have w:=jF (by rfl) z [.row false 15 0 (bf [[D.str ⟨#[120]⟩,.int .u8 2,.str ⟨#[]⟩,.sl [],.bool false,.int .u8 0,.int .u8 0,.int .i32 0,.str ⟨#[]⟩,.sl [],.sl [],.int .i64 0,.int .i64 0,.int .i64 0,.int .i64 0],[D.str ⟨#[121]⟩,.int .u8 3,.str nj,.sl [],.bool false,.int .u8 0,.int .u8 0,.int .i32 0,.str ⟨#[]⟩,.sl [],.sl [],.int .i64 0,.int .i64 0,.int .i64 0,.int .i64 0]])]
  refine dO [2,31] W<|Po (aq w W W)<|dR [32] W<|Po (aQ (avs.2 (by omega)) W W W W)<|dL [0] W<|DC.mi 2 W<|Pz [(5,.loc 5 0),(4,.loc 4 0),nR 0 1] (GH v an main f++ [.row true 15 0 (bf [[D.str ⟨#[120]⟩,.int .u8 2,.str ⟨#[]⟩,.sl [],.bool false,.int .u8 0,.int .u8 0,.int .i32 0,.str ⟨#[]⟩,.sl [],.sl [],.int .i64 0,.int .i64 0,.int .i64 0,.int .i64 0],[D.str ⟨#[121]⟩,.int .u8 3,.str nj,.sl [],.bool false,.int .u8 0,.int .u8 0,.int .i32 0,.str ⟨#[]⟩,.sl [],.sl [],.int .i64 0,.int .i64 0,.int .i64 0,.int .i64 0]])]) W W<|DC.gM (PV:=[.d (.str (⟨#[102]⟩++dg an)),.d (.sl (aI [aV,bV])),.d (.sl [[D.str ⟨#[120]⟩,.int .u8 2,.str ⟨#[]⟩,.sl [],.bool false,.int .u8 0,.int .u8 0,.int .i32 0,.str ⟨#[]⟩,.sl [],.sl [],.int .i64 0,.int .i64 0,.int .i64 0,.int .i64 0],[D.str ⟨#[121]⟩,.int .u8 3,.str nj,.sl [],.bool false,.int .u8 0,.int .u8 0,.int .i32 0,.str ⟨#[]⟩,.sl [],.sl [],.int .i64 0,.int .i64 0,.int .i64 0,.int .i64 0]]),.d (.sl []),.d (.sl []),.d (.int .i64 0),.d (.int .i64 0)]) 5 W (dV (dV (fX (lQ (n:=15) (rs:=[[D.str ⟨#[120]⟩,.int .u8 2,.str ⟨#[]⟩,.sl [],.bool false,.int .u8 0,.int .u8 0,.int .i32 0,.str ⟨#[]⟩,.sl [],.sl [],.int .i64 0,.int .i64 0,.int .i64 0,.int .i64 0],[D.str ⟨#[121]⟩,.int .u8 3,.str nj,.sl [],.bool false,.int .u8 0,.int .u8 0,.int .i32 0,.str ⟨#[]⟩,.sl [],.sl [],.int .i64 0,.int .i64 0,.int .i64 0,.int .i64 0]]) W W (by simp) (by simp_all)) W)))<|dO [2,2,51] W<|Po (aq c W W)<|dL [2] W ?_
  refine DC.ret ⟨_,W,qn W,.d _,p8 v an main d,⟨nm 102 an,[aV,bV],[⟨⟨#[120]⟩,.int,none,false,.nil⟩,yV],b⟩,d,by rw[Nd.cells,p,s];rfl,rfl,⟨rfl,rfl,⟨false,.nil,.inl ⟨rfl,rfl⟩,rfl⟩,d.n,(by have:=a.qQ;have:=a.le;omega),?_⟩,by omega,a.le⟩;have u:f.n=0:=by omega
  rw[u]at q;exact q
end
instance:bz prog 24:=cN (by kernel_rfl)
theorem Dk(n:Nd):n.cells.length=7:=by
 obtain⟨v,b,a⟩:=n.b.shape;rw[Nd.cells,a];rfl
theorem B9(l:List Nd):(eL l).length=l.length:=by simp[eL]
theorem Al(l:List Nd): ∀r∈eL l,r.length=7:=by intro r a;obtain⟨_,_,rfl⟩:=ava.1 a;exact Dk _
theorem KS{l:List D}(h:l.length=7): ∃a b c d e f g,l= [a,b,c,d,e,f,g]:=by
 match l,h with
 | [a,b,c,d,e,f,g],_=>exact⟨_,_,_,_,_,_,_,W⟩
section
variable{zs:List Int}{v:D}(ht:Tape zs v)
include ht
theorem KT(c:Nat)(h:Bool)(A:c<=10)(i0:Nat)(B:i0<=zs.length)(H:Hp)(n:H[0]?=some (.box (fP v i0))):
  ∃(i:Nd) (o:Nat) (C:Nat) (D:Int),GN c i/\o<=zs.length/\CT prog 24 [.ref H.length 0,dN c] (H++ [.box (kU 0 14 c h)]) λr K=>r= .d (.agg i.cells)/\K=H.set 0 (.box (fP v o))++ [.box (kU C D c h)]:=by
 obtain⟨r,K,⟨i,k,rfl,rfl,E,P,F⟩,G⟩:=KR ht c h A i0 B;refine⟨i,k.i,k.n,k.q,E,F,?_⟩;have p:0<H.length:=by
  rcases auM 0 H.length with l|l
  ·exact l
  ·simp[auP l]at n
 have q:=CT.frame (H:=GH v c h ⟨i0,0,14⟩) (K:=H++ [.box (kU 0 14 c h)]) (λa=>if a=0 then 0 else H.length) (λa f d g s=>by
   have j:a=0\/a=1:=by have:a<2:=d;omega
   have I:f=0\/f=1:=by have:f<2:=g;omega
   rcases j with rfl|rfl<;>rcases I with rfl|rfl
   ·rfl
   ·exact absurd (show 0=H.length from s) (by omega)
   ·exact absurd (show H.length=0 from s) (by omega)
   ·rfl) (λa Q d=>by
   have j:a=0\/a=1:=by have R:a<2:=sQ d;omega
   rcases j with rfl|rfl
   ·simp at d;subst d;rw[auL (by simpa using p)];simpa [cM,jp,dH] using n
   ·simp at d;subst d;simp[cM,jp,dH]) (p8 _ _ _ _) (λm t=>by
   simp at t;rcases t with rfl|rfl
   ·exact jO W
   ·exact .d _) (G.mono λJ u ⟨z,b⟩=>(⟨by rw[b];rfl,z,b⟩:u.length=(GH v c h ⟨i0,0,14⟩).length/\(J= .d (.agg i.cells)/\u=GH v c h k)))
 have e:jp (λa=>if a=0 then 0 else H.length) [.ref 1 0,dN c]= [.ref H.length 0,dN c]:=by simp[jp,dH]
 rw[e]at q;refine q.mono ?_;rintro r O ⟨S,T,⟨rfl,rfl⟩,_,rfl,L,w,M⟩;refine⟨W,?_⟩;apply awt;intro f;have x:=w 0 _ W;have y:=w 1 _ W;simp[cM,jp,dH]at x y;rcases av6 f H.length with g|g|g
 ·rw[auL (by simpa using g)];by_cases N:f=0
  ·subst N;rw[x];simp[p]
  ·rw[M f (λa d=>by
    have j:a=0\/a=1:=by have:a<2:=d;omega
    rcases j with rfl|rfl
    ·simp;omega
    ·simp;omega),auL g,auT (by omega)]
 ·subst g;rw[y,auR (by simp)];simp
 ·rw[auP (by simp at L;omega),auP (by simp;omega)]
end
theorem Jg(a:List Int)(v:D)(ht:Tape a v)(k:Nat)(e:0<k)(u:k<=1000)(i:Nat)(o:i<=a.length):DT prog 23 [.ref 0 0,dN k] [.box (fP v i)] λr K=> ∃(j f:Nat),r=dN j/\K= [.box (fP v f)]/\j<k/\f<=a.length:=by
 obtain⟨⟨n,p,q⟩,w⟩:=ht;refine DT.ob func23 W ntmps23 W<|dC [2] W ?_;rcases auM i a.length with c|c
 rotate_left
 ·have d:decide (((i:Nat):Int)>=(a.length:Int))=true:=au5 (by omega);refine dC [] W ?_;apply Ps bN
  ·intro g h;refine fR 8 W<|yx W W n<|kq W W W (r:= .bool true) (by show some (D.bool (decide _))=_;rw[d])<|TF.nil ⟨by kernel_rfl,rfl⟩
  refine dC [1,2] W<|DC.ret ⟨_,W,0,i,W,W,e,o⟩
 ·have d:decide (((i:Nat):Int)>=(a.length:Int))=false:=avc (by omega);obtain rfl:v= .sl (kQ .u8 a):=p.resolve_left (by grind);have l:(kQ .u8 a)[((i:Nat):Int).toNat]?=some [.int .u8 a[i]]:=zD (auO c);have m:=KL (q a[i] (avb c));generalize a[i]=b at l m;obtain⟨b,rfl⟩:=axm m.1;have s:((i:Nat):Int)+1-1=(i:Int):=by omega
  have t:Int.tmod (b:Int) (k:Int)=((b%k:Nat):Int):=rfl;refine dC [] W ?_;apply Ps bN
  ·intro g h;refine fR 8 W<|yx W W n<|kq W W W (r:= .bool false) (by show some (D.bool (decide _))=_;rw[d])<|TF.nil ⟨by kernel_rfl,rfl⟩
  refine dO [0,2,23] W<|Po (az W W W (by omega))<|dR [999] W<|Po (cc W W W W W W)<|dL [] W ?_;apply Ps bN
  ·intro g h;refine fR 8 W<|fT W W W (by omega) ?_;rw[s];refine a_ W W W (auJ i) l W<|fR 1 W<|rc W W ?_;rw[IntWalk.i64_in _ ⟨by omega,by omega⟩];refine fR 1 W<|CJ W W W (by simp;omega) ?_;rw[t];refine fR 1 W<|TF.nil ⟨by kernel_rfl,rfl⟩
  exact DC.ret ⟨_,W,b%k,i+1,W,W,awu _ e,c⟩
theorem KU{a:Type}{l:List a}{i:Nat}{x:a}(h:l[i]?=some x):i<l.length:=by grind
theorem B_{n i:Nat}{rs:List (List D)}{m:M}{H:Hp}(h:Acc n i rs m H)(hi:1<=i)(d:1<=H.length)(rows:List (List D)):
  ∃b,Acc n b (rs++rows) (iA m H rows) (fm n m H rows)/\1<=b/\(∀j ob,(rs≠ []->j≠i)->H[j]?=some ob->(fm n m H rows)[j]?=some ob)/\H.length<=(fm n m H rows).length:=by
 rcases h with⟨rfl,rfl⟩|⟨f,a,rfl,c⟩
 ·cases rows with
  |nil=>exact⟨i,.inl ⟨W,W⟩,hi,λj ob _ h=>h,auK _⟩
  |cons k l=>
   refine⟨H.length,.inr ⟨by simp,0,by simp[iA,vo],by simp[fm,kz]⟩,d,λj ob _ h=> ?_,by simp[fm,kz]⟩;simp only[fm,kz];rw[auL (sQ h)];exact h
 ·have g:=sQ c;have e:fm n (.bH i a rs.length) H rows=H.set i (.row true n (a+1) (bf rs++bf rows)):=by simp only[fm,c]
  rw[e];exact⟨i,.inr ⟨by simp[f],a+1,by simp[iA],by rw[vL];simp[g]⟩,hi,λj ob o h=>by grind,by simp⟩
theorem ue(t:List Int)(v:D)(ht:Tape t v):PT prog 10 [v] (λr=> ∃l,r= [.agg (KI l)]/\GP l):=by
 obtain⟨r1,K1,⟨s,T,rfl,rfl,hj,S8⟩,PR⟩:=Jg t v ht 3 (by omega) (by omega) 0 (by omega);have hN:1+((s:Nat):Int)=((s+1:Nat):Int):=by omega
 have ah:s+1<=3:=by omega
 have S3:1<=s+1:=by omega
 have hv:(∃q,v= .sl q)\/v= .ov:=by
  have:=ht.du.1;cases v<;>simp[lB]at this
  ·exact .inl ⟨_,W⟩
  ·exact .inr W
 have co:= λ(an:Nat) (d7:Bool) (hs:an<=10) (g:Nat) (u:g<=t.length)=>KT ht an d7 hs g u
 rcases hv with⟨q,rfl⟩|rfl
 ·refine PI (DT.ct ?_);refine DT.ob func10 W ntmps10 W<|dO [2,2,14] W<|Po (cH W W W)<|dR [2,2,20] W<|Po (aq PR W W)<|dR [21] W<|Po (az W W W (by omega)) ?_;rw[hN];refine dL [] W ?_;generalize s+1=b at ah S3⊢;refine dC [2] W<|Pz [nN 6 0,nN 5 b,(4,.loc 4 0),nR 3 0,(2,.loc 2 0)] [.box (fP (.sl q) T)] W W<|dC [3] W<|DC.lp (λc w=> ∃(a:Nat) (l:List Nd) (m:M) (g h:Nat) (e:Hp) (i:List (Nat×List M)),w=⟨[nI 6 (a:Int),nN 5 b,(4,.loc 4 0),nR 3 0,(2,.loc 2 0)],i,e⟩/\Go.Mt.get i 4=some [.d (.sl [nq]),m]/\Go.Mt.get i 2=some [.d (.sl []),.d (.sl [])]/\Acc 7 h (eL l) m e/\1<=h/\e[0]?=some (.box (fP (.sl q) g))/\g<=t.length/\a<=b/\l.length=a/\(∀(c:Nat) (d:Nd),l[c]?=some d->GN c d)/\c=b-a) b _
   ⟨0,[],.d (.sl []),T,1,_,_,rfl,rfl,rfl,.inl ⟨rfl,rfl⟩,by omega,rfl,S8,by omega,rfl,by simp,rfl⟩ W ?_
  rintro c w ⟨a,l,m,g,h,e,i,rfl,n,x,y,U,R,u,hi,z,A,rfl⟩;refine dC [2] W<|DC.cond W (λo=> ?_) (λo=> ?_)
  ·have V:a<b:=by have:=auV o;omega
   obtain⟨p,j,B,C,X,Y,E⟩:=co a (((a:Nat):Int)==((b:Nat):Int)-1) (by omega) g u e R;obtain⟨F,G,H,I,J,K,L,N⟩:=KS (Dk p);rw[N]at E;have S:=sQ R;have O:Acc 7 h (eL l) m (e.set 0 (.box (fP (.sl q) j))++ [.box (kU B C a (((a:Nat):Int)==((b:Nat):Int)-1))]):=y.other (λob P=>by
    rw[auL (by simpa using sQ P),auT (by omega)];exact P)
   have d6:(eL l).length<=3:=by rw[B9];omega
   have Z:eL (l++ [p])=eL l++ [[F,G,H,I,J,K,L]]:=by rw[<-N];simp[eL]
   obtain⟨a',Q,b2,b3,b4⟩:=B_ O U (by simp) [[F,G,H,I,J,K,L]];have ac:=b3 0 _ (by omega) (show(e.set 0 (.box (fP (.sl q) j))++ [.box (kU B C a (((a:Nat):Int)==((b:Nat):Int)-1))])[0]?=some (.box (fP (.sl q) j)) by rw[auL (by simpa using S)];simp[S]);rw[<-Z]at Q;refine dO [3,2,31] W<|Po (cL W W W (by omega))<|dR [33] W<|Po (k8 W W W W W)<|dR [34] W<|Po (cH W W W)<|dL [] W ?_;apply Ps bN
   ·intro s0 Oo;refine fR 1 W<|px W W n W<|fR 2 W<|bg E W W<|fR 1 W<|yA O W W W W W W (by omega) (by omega)<|fR 1 W<|jc W W n (gw _ _ _) W W<|TF.nil ⟨by kernel_rfl,rfl⟩
   refine dO [2,26] W<|Po (az W W W (by omega))<|dL [] W<|bK (k':=b-(a+1)) (by omega) ⟨a+1,l++ [p],_,j,a',_,_,rfl,rfl,x,Q,b2,ac,Y,by omega,by simp[z],by
    intro c d f;rcases auM c l.length with k|k
    ·rw[auL k]at f;exact A c d f
    ·rw[auR k]at f;obtain rfl:c=l.length:=by have:=KU f;simp at this;omega
     simp at f;subst f;rw[z];exact X,W⟩ W W
  ·refine DC.exit ?_;have V:a=b:=by have:=au9 o;omega
   refine DC.gM (PV:=[.d (.sl [nq]),.d (.sl (eL l))]) 4 n (dV (fX (y.view (Al l)) W))<|dO [2,999] W<|Po (fD W W x W W W)<|dL [] W<|DC.ret ⟨_,W,[_],W,l,W,by omega,by omega,A⟩
 ·refine PI (DT.ct ?_);refine DT.ob func10 W ntmps10 W<|dO [2,2,14] W<|Po (cH W W W)<|dR [2,2,20] W<|Po (aq PR W W)<|dR [21] W<|Po (az W W W (by omega)) ?_;rw[hN];refine dL [] W ?_;generalize s+1=b at ah S3⊢;refine dC [2] W<|Pz [nN 6 0,nN 5 b,(4,.loc 4 0),nR 3 0,(2,.loc 2 0)] [.box (fP .ov T)] W W<|dC [3] W<|DC.lp (λc w=> ∃(a:Nat) (l:List Nd) (m:M) (g h:Nat) (e:Hp) (i:List (Nat×List M)),w=⟨[nI 6 (a:Int),nN 5 b,(4,.loc 4 0),nR 3 0,(2,.loc 2 0)],i,e⟩/\Go.Mt.get i 4=some [.d (.sl [nq]),m]/\Go.Mt.get i 2=some [.d (.sl []),.d (.sl [])]/\Acc 7 h (eL l) m e/\1<=h/\e[0]?=some (.box (fP .ov g))/\g<=t.length/\a<=b/\l.length=a/\(∀(c:Nat) (d:Nd),l[c]?=some d->GN c d)/\c=b-a) b _
   ⟨0,[],.d (.sl []),T,1,_,_,rfl,rfl,rfl,.inl ⟨rfl,rfl⟩,by omega,rfl,S8,by omega,rfl,by simp,rfl⟩ W ?_
  rintro c w ⟨a,l,m,g,h,e,i,rfl,n,x,y,U,R,u,hi,z,A,rfl⟩;refine dC [2] W<|DC.cond W (λo=> ?_) (λo=> ?_)
  ·have V:a<b:=by have:=auV o;omega
   obtain⟨p,j,B,C,X,Y,E⟩:=co a (((a:Nat):Int)==((b:Nat):Int)-1) (by omega) g u e R;obtain⟨F,G,H,I,J,K,L,N⟩:=KS (Dk p);rw[N]at E;have S:=sQ R;have O:Acc 7 h (eL l) m (e.set 0 (.box (fP .ov j))++ [.box (kU B C a (((a:Nat):Int)==((b:Nat):Int)-1))]):=y.other (λob P=>by
    rw[auL (by simpa using sQ P),auT (by omega)];exact P)
   have d6:(eL l).length<=3:=by rw[B9];omega
   have Z:eL (l++ [p])=eL l++ [[F,G,H,I,J,K,L]]:=by rw[<-N];simp[eL]
   obtain⟨a',Q,b2,b3,b4⟩:=B_ O U (by simp) [[F,G,H,I,J,K,L]];have ac:=b3 0 _ (by omega) (show(e.set 0 (.box (fP .ov j))++ [.box (kU B C a (((a:Nat):Int)==((b:Nat):Int)-1))])[0]?=some (.box (fP .ov j)) by rw[auL (by simpa using S)];simp[S]);rw[<-Z]at Q;refine dO [3,2,31] W<|Po (cL W W W (by omega))<|dR [33] W<|Po (k8 W W W W W)<|dR [34] W<|Po (cH W W W)<|dL [] W ?_;apply Ps bN
   ·intro s0 Oo;refine fR 1 W<|px W W n W<|fR 2 W<|bg E W W<|fR 1 W<|yA O W W W W W W (by omega) (by omega)<|fR 1 W<|jc W W n (gw _ _ _) W W<|TF.nil ⟨by kernel_rfl,rfl⟩
   refine dO [2,26] W<|Po (az W W W (by omega))<|dL [] W<|bK (k':=b-(a+1)) (by omega) ⟨a+1,l++ [p],_,j,a',_,_,rfl,rfl,x,Q,b2,ac,Y,by omega,by simp[z],by
    intro c d f;rcases auM c l.length with k|k
    ·rw[auL k]at f;exact A c d f
    ·rw[auR k]at f;obtain rfl:c=l.length:=by have:=KU f;simp at this;omega
     simp at f;subst f;rw[z];exact X,W⟩ W W
  ·refine DC.exit ?_;have V:a=b:=by have:=au9 o;omega
   refine DC.gM (PV:=[.d (.sl [nq]),.d (.sl (eL l))]) 4 n (dV (fX (y.view (Al l)) W))<|dO [2,999] W<|Po (fD W W x W W W)<|dL [] W<|DC.ret ⟨_,W,[_],W,l,W,by omega,by omega,A⟩
end Go.Proofs
namespace Go.Ex
open Go.Mt Go.Mk
abbrev e0:Nm:=⟨#[]⟩
abbrev z2:Int×Int:=(0,0)
def cA:E->Sm.Xp
 | .nil=> .mk 0 0 0 e0 [] [] z2
 | .int n=> .mk 1 0 n e0 [] [] z2
 | .bool n=> .mk 2 0 n e0 [] [] z2
 | .ctor s=> .mk 3 0 0 s [] [] z2
 | .var s=> .mk 4 0 0 s [] [] z2
 | .last s=> .mk 5 0 0 s [] [] z2
 | .un op a=> .mk 6 op 0 e0 [] [cA a] z2
 | .bin op a b=> .mk 7 op 0 e0 [] [cA a,cA b] z2
 | .ite c a b=> .mk 8 0 0 e0 [] [cA c,cA a,cA b] z2
 | .ga a b=> .mk 9 0 0 e0 [] [cA a,cA b] z2
 | .pre a=> .mk 10 0 0 e0 [] [cA a] z2
 | .arrow a b=> .mk 11 0 0 e0 [] [cA a,cA b] z2
 | .fI x c a=> .mk 12 0 0 x [c] [cA a] z2
 | .merge x c1 c2 c3 a b c=> .mk 13 0 0 x [c1,c2,c3] [cA a,cA b,cA c] z2
def Gy:Option (Nm×Nm)->List (Nm×Nm)
 |none=>[]
 |some c=>[c]
def ey(v:Va):Sm.Va:=⟨v.name,v.ty.kind,v.ty.nm,Gy v.clock,v.last,cA v.first,z2⟩
def vM(t:Tr):Sm.Tr:=⟨cA t.e,t.to,t.fV,z2⟩
mutual
def dE:aB->Sm.aB
 | .df x e=> .mk 1 [x] e0 [] false (cA e) [] z2
 | .call x y f a b has e=> .mk 2 [x,y] f [cA a,cA b] has (cA e) [] z2
 | .sw e aj=> .mk 3 [] e0 [] false (cA e) (eZ aj) z2
 | .aP aj=> .mk 4 [] e0 [] false (cA .nil) (eZ aj) z2
 | .reset e b=> .mk 5 [] e0 [] false (cA e) [.mk e0 (eV b) [] [] z2] z2
def pj:bh->Sm.bh
 | .mk name b fG fH=> .mk name (eV b) (fG.map vM) (fH.map vM) z2
def eZ:List bh->List Sm.bh
 | []=>[]
 |a::l=>pj a::eZ l
def eV:bj->Sm.bj
 | .mk vars au=> .mk (vars.map ey) (fM au)
def fM:List aB->List Sm.aB
 | []=>[]
 |q::l=>dE q::fM l
end
theorem pE(l:List bh):eZ l=l.map pj:=by induction l with
 |nil=>rfl
 |cons b l a=>simp[eZ,a]
theorem iG(l:List aB):fM l=l.map dE:=by induction l with
 |nil=>rfl
 |cons b l a=>simp[fM,a]
def cC(d:Nd):Sm.Nd:=⟨d.name,d.ins.map ey,d.outs.map ey,eV d.b,z2⟩
abbrev Am:Sm.En:=⟨nj,[cj,bC,c8],z2⟩
def dG(l:List Nd):Sm.Pg:=⟨[Am],l.map cC⟩
theorem dj: ∀e:E,(cA e).cells=e.cells
 | .nil=>rfl
 | .int f=>rfl
 | .bool f=>rfl
 | .ctor d=>rfl
 | .var d=>rfl
 | .last d=>rfl
 | .un h a=>by simp only[cA,Sm.Xp.cells,Sm.sT,dj a];rfl
 | .bin h a b=>by simp only[cA,Sm.Xp.cells,Sm.sT,dj a,dj b];rfl
 | .ite c a b=>by simp only[cA,Sm.Xp.cells,Sm.sT,dj a,dj b,dj c];rfl
 | .ga a b=>by simp only[cA,Sm.Xp.cells,Sm.sT,dj a,dj b];rfl
 | .pre a=>by simp only[cA,Sm.Xp.cells,Sm.sT,dj a];rfl
 | .arrow a b=>by simp only[cA,Sm.Xp.cells,Sm.sT,dj a,dj b];rfl
 | .fI g c a=>by simp only[cA,Sm.Xp.cells,Sm.sT,dj a];rfl
 | .merge g i j k a b c=>by simp only[cA,Sm.Xp.cells,Sm.sT,dj a,dj b,dj c];rfl
theorem Gz(v:Va):(ey v).cells=v.cells:=by
 obtain⟨b,c,a,d,e⟩:=v;have:Sm.tG (Gy a)=tG a:=by cases a<;>rfl
 simp only[ey,Sm.Va.cells,Va.cells,dj,this]
theorem An(l:List Va):Sm.aI (l.map ey)=aI l:=by simp[Sm.aI,aI,Function.comp_def,Gz]
theorem GA(l:List Tr):Sm.fo (l.map vM)=fo l:=by
 simp only[Sm.fo,fo,axr];exact avy λa _=>by simp[vM,Sm.Tr.cells,Tr.cells,dj]
mutual
theorem GD: ∀q:aB,(dE q).cells=q.cells
 | .df c e=>by simp only[dE,Sm.aB.cells,aB.cells,dj];try rfl
 | .call c d f g b h e=>by simp only[dE,Sm.aB.cells,aB.cells,dj,avm,avT];try rfl
 | .sw e a=>by simp only[dE,Sm.aB.cells,aB.cells,dj,ug a];try rfl
 | .aP a=>by simp only[dE,Sm.aB.cells,aB.cells,dj,ug a];try rfl
 | .reset e b=>by simp only[dE,Sm.aB.cells,aB.cells,dj,Sm.cm,Sm.bh.cells,vO b];try rfl
theorem GF: ∀a:bh,(pj a).cells=a.cells
 | .mk e b c d=>by simp only[pj,Sm.bh.cells,bh.cells,vO b,GA]
theorem ug: ∀l:List bh,Sm.cm (eZ l)=cm l
 | []=>rfl
 |a::l=>by simp only[eZ,Sm.cm,cm,GF a,ug l]
theorem vO: ∀b:bj,(eV b).cells=b.cells
 | .mk c a=>by simp only[eV,Sm.bj.cells,bj.cells,An,yi a]
theorem yi: ∀l:List aB,Sm.bL (fM l)=bL l
 | []=>rfl
 |a::l=>by simp only[fM,Sm.bL,bL,GD a,yi l]
end
theorem GG(d:Nd):(cC d).cells=d.cells:=by
 have a:=vO d.b;rw[Sm.bj.aC]at a;have b:d.cells= [.str d.name,.sl (aI d.ins),.sl (aI d.outs)]++d.b.cells++ [.int .i64 0,.int .i64 0]:=rfl;rw[b,<-a];simp only[cC,Sm.Nd.cells,An];rfl
theorem jS(l:List Nd):(dG l).cells=KI l:=by
 have:(l.map cC).map Sm.Nd.cells=eL l:=by
  simp only[eL,axr];exact avy λd _=>GG d
 show [D.sl [Sm.En.cells Am],D.sl ((l.map cC).map Sm.Nd.cells)]=_;rw[this];rfl
abbrev Env:=List (Nm×Option Int×Nat)
def qR:Env->Nat->Nm->Option (Option Int×Nat×Nat)
 | [],_,_=>none
 |(y,v,s)::r,i,x=>if y=x then some (v,s,i)else qR r (i+1) x
def get(A:Env)(x:Nm):Option (Option Int×Nat×Nat):=qR A 0 x
theorem vP: ∀(A a:Env) (i:Nat) (x:Nm),qR (A++a) i x=match qR A i x with|some e=>some e|none=>qR a (i+A.length) x
 | [],a,i,x=>rfl
 |(d,v,f)::b,a,i,x=>by
  simp only[avM,qR];by_cases c:d=x
  ·grind
  ·rw[auU c,auU c,vP b a (i+1) x,au4,show i+(b.length+1)=i+1+b.length by omega]
theorem mW{A a:Env}{x:Nm}{e:Option Int×Nat×Nat}(h:get A x=some e):get (A++a) x=some e:=by unfold get;rw[vP];unfold get at h;rw[h]
theorem B': ∀{A:Env} {i:Nat} {x:Nm} {v:Option Int} {s k:Nat},qR A i x=some (v,s,k)->i<=k/\k<i+A.length
 | [],i,x,v,s,k,a=>by cases a
 |(b,c,d)::e,i,x,v,s,k,a=>by
  unfold qR at a;split at a
  ·grind
  ·have:=B' a;simp;omega
theorem uO{A:Env}{x:Nm}{v:Option Int}{s k:Nat}(h:get A x=some (v,s,k)):k<A.length:=by have:=B' h;omega
def val(A:Env)(x:Nm):Int:=match get A x with
 |some (some v,_,_)=>v
 |_=>0
def Kn(A:Env)(x:Nm)(r:Nat):Prop:= ∃v s i,get A x=some (some v,s,i)/\i<r
theorem Kn.app{A:Env}{x:Nm}{r r':Nat}(h:Kn A x r)(a:Env)(e:r<=r'):Kn (A++a) x r':=by obtain⟨v,b,c,d,f⟩:=h;exact⟨v,b,c,mW d,by omega⟩
theorem Kn.val{A:Env}{x:Nm}{r:Nat}(h:Kn A x r)(b:Env):val (A++b) x=val A x:=by obtain⟨v,c,d,a,e⟩:=h;unfold Ex.val;rw[mW a,a]
def VT:Ty->Int->Prop
 | .bool,n=>n=0\/n=1
 | .int,n=>Sm.lG n
 | .fJ,n=>n=0\/n=1\/n=2
abbrev xE(e:E):Nat:=Sm.xP (cA e)
def iT(x:Nm):Int:=Sm.lJ [cj,bC,c8] x
inductive PK where
 |val (t:Ty)|any|aP (N:Nat)|call (j:Nat)
structure eD where
 ty:Nm->Ty
 ls:Nm->Bool
 lp:Nm->Nat
 pt:Nat->PK
def qS(T:eD):E->Ty
 | .nil=> .int
 | .int _=> .int
 | .bool _=> .bool
 | .ctor _=> .fJ
 | .var x=>T.ty x
 | .last x=>T.ty x
 | .un op _=>if op=1 then .bool else .int
 | .bin op _ _=>if op∈ [(3:Int),4,5,6,7]then .int else .bool
 | .ite _ a _=>qS T a
 | .ga c _=>qS T c
 | .pre a=>qS T a
 | .arrow a _=>qS T a
 | .fI _ _ a=>qS T a
 | .merge _ _ _ _ _ _ c=>qS T c
section
variable(T:eD)(A:Env)(rd:Nat->Int)
def cG:E->Nat->Int
 | .nil,_=>0
 | .int n,_=>n
 | .bool n,_=>n
 | .ctor s,_=>iT s
 | .var x,_=>val A x
 | .last x,_=>rd (T.lp x)
 | .un op a,p=>Sm.C1 op (cG a p)
 | .bin op a b,p=>Sm.jE op (cG a p) (cG b (p+xE a))
 | .ite c a b,p=>if cG c p=0 then cG b (p+xE c+xE a)else cG a (p+xE c)
 | .ga _ _,p=>rd p
 | .pre _,p=>rd p
 | .arrow a b,p=>if rd p=0 then cG b (p+1+xE a)else cG a (p+1)
 | .fI _ _ a,p=>cG a p
 | .merge x c1 c2 _ a b c,p=>if iT c1=val A x then cG a p else if iT c2=val A x then cG b (p+xE a)else cG c (p+xE a+xE b)
def ej:E->Nat->List (Nat×Int)
 | .un _ a,p=>ej a p
 | .bin _ a b,p=>ej a p++ej b (p+xE a)
 | .ite c a b,p=>ej c p++ej a (p+xE c)++ej b (p+xE c+xE a)
 | .ga c y,p=>(p,cG T A rd y (p+1+xE c))::ej y (p+1+xE c)
 | .pre y,p=>(p,cG T A rd y (p+1))::ej y (p+1)
 | .arrow a b,p=>(p,0)::(ej a (p+1)++ej b (p+1+xE a))
 | .fI _ _ a,p=>ej a p
 | .merge x c1 c2 _ a b c,p=>if iT c1=val A x then ej a p else if iT c2=val A x then ej b (p+xE a)else ej c (p+xE a+xE b)
 |_,_=>[]
def fb(V:Nm->Prop)(R:Nat):Nat->E->Prop
 |_,.nil=>False
 |_,.int _=>True
 |_,.bool _=>True
 |_,.ctor s=>s∈ [cj,bC,c8]
 |r,.var x=>V x/\Kn A x r
 |_,.last x=>V x/\T.ls x=true
 |r,.un _ a=>fb V R r a
 |r,.bin _ a b=>fb V R r a/\fb V R r b
 |r,.ite c a b=>fb V R r c/\fb V R r a/\fb V R r b
 |_,.ga c y=>fb V R R y
 |_,.pre y=>fb V R R y
 |r,.arrow a b=>fb V R r a/\fb V R r b
 |r,.fI _ _ a=>fb V R r a
 |r,.merge x c1 c2 c3 a b c=>V x/\Kn A x r/\T.ty x= .fJ/\(if iT c1=val A x then fb V R r a else if iT c2=val A x then fb V R r b else iT c3=val A x/\fb V R r c)
end
section
variable{T:eD}{A:Env}{rd:Nat->Int}{V:Nm->Prop}
theorem jG(d:Env): ∀{e:E} {g r p:Nat},fb T A V g r e->cG T (A++d) rd e p=cG T A rd e p
 | .nil,_,_,_,a=>a.elim
 | .int _,_,_,_,_=>rfl
 | .bool _,_,_,_,_=>rfl
 | .ctor _,_,_,_,_=>rfl
 | .var j,_,_,_,a=>a.2.val d
 | .last _,_,_,_,_=>rfl
 | .un k f,g,r,p,a=>by simp only[cG];rw[jG d (e:=f) a]
 | .bin k f b,g,r,p,a=>by simp only[cG];rw[jG d (e:=f) a.1,jG d (e:=b) a.2]
 | .ite c f b,g,r,p,a=>by simp only[cG];rw[jG d (e:=c) a.1,jG d (e:=f) a.2.1,jG d (e:=b) a.2.2]
 | .ga _ _,_,_,_,_=>rfl
 | .pre _,_,_,_,_=>rfl
 | .arrow f b,g,r,p,a=>by simp only[cG];rw[jG d (e:=f) a.1,jG d (e:=b) a.2]
 | .fI _ _ f,g,r,p,a=>by simp only[cG];exact jG d (e:=f) a
 | .merge j m n o f b c,g,r,p,a=>by
  obtain⟨q,l,s,h⟩:=a;simp only[cG,l.val d];split
  ·rename_i e;rw[au2 e]at h;exact jG d h
  ·rename_i e;rw[auU e]at h;split
   ·rename_i i;rw[au2 i]at h;exact jG d h
   ·rename_i i;rw[auU i]at h;exact jG d h.2
theorem fb.app(g:Env){m:Nat} : ∀{e:E} {h r r':Nat},fb T A V h r e->h<=m->r<=r'->fb T (A++g) V m r' e
 | .nil,_,_,_,a,_,_=>a.elim
 | .int _,_,_,_,_,_,_=>trivial
 | .bool _,_,_,_,_,_,_=>trivial
 | .ctor _,_,_,_,a,_,_=>a
 | .var o,_,_,_,a,_,f=>⟨a.1,a.2.app g f⟩
 | .last _,_,_,_,a,_,_=>a
 | .un p j,h,r,r',a,d,f=>fb.app g (e:=j) a d f
 | .bin p j b,h,r,r',a,d,f=>⟨fb.app g a.1 d f,fb.app g a.2 d f⟩
 | .ite c j b,h,r,r',a,d,f=>⟨fb.app g a.1 d f,fb.app g a.2.1 d f,fb.app g a.2.2 d f⟩
 | .ga c k,h,r,r',a,d,f=>fb.app g (e:=k) a d d
 | .pre k,h,r,r',a,d,f=>fb.app g (e:=k) a d d
 | .arrow j b,h,r,r',a,d,f=>⟨fb.app g a.1 d f,fb.app g a.2 d f⟩
 | .fI _ _ j,h,r,r',a,d,f=>fb.app g (e:=j) a d f
 | .merge o t u v j b c,h,r,r',a,d,f=>by
  obtain⟨q,n,s,i⟩:=a;refine⟨q,n.app g f,s,?_⟩;rw[n.val g];split
  ·rename_i e;rw[au2 e]at i;exact fb.app g i d f
  ·rename_i e;rw[auU e]at i;split
   ·rename_i l;rw[au2 l]at i;exact fb.app g i d f
   ·rename_i l;rw[auU l]at i;exact⟨i.1,fb.app g i.2 d f⟩
theorem fb.tc{V':Nm->Prop}(d: ∀g,V g->V' g): ∀{e:E} {f r:Nat},fb T A V f r e->fb T A V' f r e
 | .nil,_,_,a=>a.elim
 | .int _,_,_,_=>trivial
 | .bool _,_,_,_=>trivial
 | .ctor _,_,_,a=>a
 | .var g,_,_,a=>⟨d g a.1,a.2⟩
 | .last g,_,_,a=>⟨d g a.1,a.2⟩
 | .un l i,f,r,a=>fb.tc d (e:=i) a
 | .bin l i b,f,r,a=>⟨fb.tc d a.1,fb.tc d a.2⟩
 | .ite c i b,f,r,a=>⟨fb.tc d a.1,fb.tc d a.2.1,fb.tc d a.2.2⟩
 | .ga c j,f,r,a=>fb.tc d (e:=j) a
 | .pre j,f,r,a=>fb.tc d (e:=j) a
 | .arrow i b,f,r,a=>⟨fb.tc d a.1,fb.tc d a.2⟩
 | .fI _ _ i,f,r,a=>fb.tc d (e:=i) a
 | .merge g p q s i b c,f,r,a=>by
  obtain⟨m,n,o,h⟩:=a;refine⟨d g m,n,o,?_⟩;split
  ·rename_i e;rw[au2 e]at h;exact fb.tc d h
  ·rename_i e;rw[auU e]at h;split
   ·rename_i k;rw[au2 k]at h;exact fb.tc d h
   ·rename_i k;rw[auU k]at h;exact⟨h.1,fb.tc d h.2⟩
end
def o7(T:eD)(rd:Nat->Int):E->Nat->Prop
 | .un _ a,p=>o7 T rd a p
 | .bin _ a b,p=>o7 T rd a p/\o7 T rd b (p+xE a)
 | .ite c a b,p=>o7 T rd c p/\o7 T rd a (p+xE c)/\o7 T rd b (p+xE c+xE a)
 | .ga c y,p=>VT (qS T c) (rd p)/\o7 T rd y (p+1+xE c)
 | .pre y,p=>VT (qS T y) (rd p)/\o7 T rd y (p+1)
 | .arrow a b,p=>o7 T rd a (p+1)/\o7 T rd b (p+1+xE a)
 | .fI _ _ a,p=>o7 T rd a p
 | .merge _ _ _ _ a b c,p=>o7 T rd a p/\o7 T rd b (p+xE a)/\o7 T rd c (p+xE a+xE b)
 |_,_=>True
def NY(T:eD)(s:Sc):Prop:=(∀v∈s.ready,T.ty v.name=v.ty)/\(∀v∈s.all,T.ty v.name=v.ty)/\ ∀v∈s.di,T.ty v.name=v.ty
structure Jh(T:eD)(A:Env)(rd:Nat->Int)(V:Nm->Prop)(s:Sc)(r:Nat):Prop where
 t:NY T s
 yo: ∀v∈s.ready,v.clock=none->V v.name/\Kn A v.name r/\VT v.ty (val A v.name)
 wM: ∀v∈s.di,V v.name/\T.ls v.name=true/\VT v.ty (rd (T.lp v.name))
def rF(A:Env)(V:Nm->Prop)(s:Sc)(R:Nat):Prop:= ∀v∈s.all,v.clock=none->V v.name/\Kn A v.name R/\VT v.ty (val A v.name)
section
variable{T:eD}{A:Env}{rd:Nat->Int}{V:Nm->Prop}
theorem uh{t:Ty}{e:E}(h:GC t e):qS T e=t:=by cases h<;>rfl
theorem KV{s:Sc}{t:Ty}{st:Bool}{d:Nat}{e:E}(h:GE s t st d e):NY T s->qS T e=t:=by
 induction h with
 |v h=>intro b;cases h with
  |vB h=>exact uh h
  |var h=>obtain⟨v,g,i,_,rfl⟩:=h;exact(b.1 v g).trans i
 |c h=>intro _;exact uh h
 |ite l f j p a k=>intro b;exact a b
 |ga l f a=>intro _;simp only[qS];exact uh l
 |arrow f j a k=>intro b;exact a b
 |last h=>intro b;obtain⟨v,g,i,_,rfl⟩:=h;exact(b.2.2 v g).trans i
 |neg f a=>intro _;rfl
 |arith m n f j a k=>intro _;simp only[qS];rw[au2 n]
 |not f a=>intro _;rfl
 |lH m o n f j a k=>
  intro _;have:m∉ [(3:Int),4,5,6,7]:=by
   grind
  simp only[qS];rw[auU this]
theorem i32_in(n:Int):Sm.lG (Sm.i32 n):=by
 have a:Sm.i32 n=if n%4294967296>=2147483648 then n%4294967296-4294967296 else n%4294967296:=by
  show IntKind.i32.wrap n=_;unfold IntKind.wrap;have b:(2:Int)^32=4294967296:=by decide
  have c:(2:Int)^(32-1)=2147483648:=by decide
  simp only[IntKind.signed,IntKind.bits,Bool.true_and,b,c,decide_eq_true_eq]
 rw[a];unfold Sm.lG;constructor<;>split<;>omega
theorem Ca(b:Bool):VT .bool (Sm.lD b):=by cases b<;>simp[Sm.lD,VT]
theorem Mq(a:Int):VT .int (Sm.C1 2 a):=by
 have:Sm.C1 2 a=Sm.i32 (-a):=rfl;rw[this];exact i32_in _
theorem Mr(a:Int):VT .bool (Sm.C1 1 a):=Ca _
theorem EK{op a b:Int}(d:op∈ [(3:Int),4,5,6,7])(e:Sm.lG a)(h:Sm.lG b):VT .int (Sm.jE op a b):=by
 have c:Sm.lG 0:=by unfold Sm.lG;omega
 simp only[auX,au3,avF]at d;rcases d with rfl|rfl|rfl|rfl|rfl
 ·exact i32_in _
 ·exact i32_in _
 ·exact i32_in _
 ·show Sm.lG (if b=0 then 0 else if a= -2147483648/\b= -1 then a else Sm.i32 (Int.tdiv a b));split
  ·exact c
  ·split
   ·exact e
   ·exact i32_in _
 ·show Sm.lG (if b=0 then 0 else if a= -2147483648/\b= -1 then 0 else Int.tmod a b);split
  ·exact c
  ·split
   ·exact c
   ·unfold Sm.lG at e⊢;have i:Int.natAbs (Int.tmod a b)<=Int.natAbs a:=by
     rw[Int.natAbs_tmod];exact Nat.mod_le _ _
    rcases Int.le_total 0 a with f|f
    ·have:=Int.tmod_nonneg b f;omega
    ·have:Int.tmod a b<=0:=by
      have g:=Int.tmod_nonneg b (show 0<= -a by omega);rw[Int.neg_tmod]at g;omega
     omega
theorem Ji{op a b:Int}(c:op=8\/op=9\/op=10\/op=11\/op=13\/op=16):VT .bool (Sm.jE op a b):=by
 rcases c with rfl|rfl|rfl|rfl|rfl|rfl<;>exact Ca _
theorem Dl{t:Ty}{e:E}(h:GC t e)(p:Nat):VT t (cG T A rd e p):=by
 cases h with
 |bool h=>exact h
 |int h=>
  simp only[cG];show Sm.lG _;simp only[auX,au3,avF]at h;unfold Sm.lG;omega
 |fJ h=>
  simp only[cG];simp only[auX,au3,avF]at h;rcases h with rfl|rfl|rfl
  ·exact .inl W
  ·exact .inr (.inl W)
  ·exact .inr (.inr W)
theorem GI{t:Ty}{e:E}(h:GC t e)(a r:Nat):fb T A V a r e:=by
 cases h with
 |bool h=>trivial
 |int h=>trivial
 |fJ h=>exact h
theorem ot{s:Sc}{t:Ty}{st:Bool}{d:Nat}{e:E}(h:GE s t st d e): ∀{r p:Nat},Jh T A rd V s r->o7 T rd e p->VT t (cG T A rd e p):=by
 induction h with
 | @v s t st d e h=>
  intro r p a b;cases h with
  |vB h=>exact Dl h p
  |var h=>obtain⟨v,l,m,i,rfl⟩:=h;simp only[cG];rw[<-m];exact(a.yo v l i).2.2
 |c h=>intro r p a b;exact Dl h p
 |ite i g k u f j=>
  intro r p a b;simp only[cG];split
  ·exact j a b.2.2
  ·exact f a b.2.1
 |ga i g f=>intro r p a b;simp only[cG];have:=b.1;rw[uh i]at this;exact this
 |arrow g k f j=>
  intro r p a b;simp only[cG];split
  ·have:=b.2.1;rw[KV k ⟨a.t.2.1,a.t.2.1,a.t.2.2⟩]at this;exact this
  ·exact f a b.1
 |last h=>intro r p a b;obtain⟨v,l,m,i,rfl⟩:=h;simp only[cG];rw[<-m];exact(a.wM v l).2.2
 |neg g f=>intro r p a b;exact Mq _
 |arith o n g k f j=>intro r p a b;exact EK n (f a b.1) (j a b.2)
 |not g f=>intro r p a b;exact Mr _
 |lH o q n g k f j=>
  intro r p a b;refine Ji ?_;rcases n with⟨h,_⟩|⟨h,_⟩|rfl
  ·grind
  ·grind
  ·omega
theorem oV{s:Sc}{t:Ty}{st:Bool}{d:Nat}{e:E}(h:GE s t st d e): ∀{r g:Nat},r<=g->Jh T A rd V s r->rF A V s g->fb T A V g r e:=by
 induction h with
 | @v s t st d e h=>
  intro r g f a b;cases h with
  |vB h=>exact GI h g r
  |var h=>obtain⟨v,l,o,m,rfl⟩:=h;exact⟨(a.yo v l m).1,(a.yo v l m).2.1⟩
 |c h=>intro r g f a b;exact GI h g r
 |ite m k n p i j=>intro r g f a b;exact⟨p f a b,i f a b,j f a b⟩
 |ga m k i=>intro r g f a b;exact i (auK g) ⟨⟨a.t.2.1,a.t.2.1,a.t.2.2⟩,b,a.wM⟩ b
 |arrow k n i j=>intro r g f a b;exact⟨i f a b,j (auK g) ⟨⟨a.t.2.1,a.t.2.1,a.t.2.2⟩,b,a.wM⟩ b⟩
 |last h=>intro r g f a b;obtain⟨v,l,o,m,rfl⟩:=h;exact⟨(a.wM v l).1,(a.wM v l).2.1⟩
 |neg k i=>intro r g f a b;exact i f a b
 |arith q u k n i j=>intro r g f a b;exact⟨i f a b,j f a b⟩
 |not k i=>intro r g f a b;exact i f a b
 |lH q w u k n i j=>intro r g f a b;exact⟨i f a b,j f a b⟩
end
structure Rs where
 rd:Nat->Int
 rp:Nat->Bool
 rs:Nat->Option Sm.US
def Dm(F:List (Option Int))(s:Rs)(lo hi:Nat):Rs:=
 ⟨λk=>if lo<=k/\k<hi then Sm.bZ F k else s.rd k,λk=>if(lo<=k/\k<hi)/\F[k]?=some none then false else s.rp k,λk=>if(lo<=k/\k<hi)/\F[k]?=some none then none else s.rs k⟩
def Mem(T:eD)(G:Nat->Sm.US->Prop)(s:Rs):Prop:= ∀k,match T.pt k with
 | .val t=>VT t (s.rd k)
 | .any=>True
 | .aP N=>0<=s.rd k/\s.rd k<N
 | .call j=> ∀u,s.rs k=some u->u.i=j/\G j u
def iU(T:eD):E->Nat->Prop
 | .un _ a,p=>iU T a p
 | .bin _ a b,p=>iU T a p/\iU T b (p+xE a)
 | .ite c a b,p=>iU T c p/\iU T a (p+xE c)/\iU T b (p+xE c+xE a)
 | .ga c y,p=>T.pt p= .val (qS T c)/\iU T y (p+1+xE c)
 | .pre y,p=>T.pt p= .val (qS T y)/\iU T y (p+1)
 | .arrow a b,p=>T.pt p= .any/\iU T a (p+1)/\iU T b (p+1+xE a)
 | .fI _ _ a,p=>iU T a p
 | .merge _ _ _ _ a b c,p=>iU T a p/\iU T b (p+xE a)/\iU T c (p+xE a+xE b)
 |_,_=>True
theorem kH{T:eD}{f:Nat->Sm.US->Prop}{s:Rs}(h:Mem T f s): ∀{e:E} {p:Nat},iU T e p->o7 T s.rd e p
 | .nil,_,_=>trivial
 | .int _,_,_=>trivial
 | .bool _,_,_=>trivial
 | .ctor _,_,_=>trivial
 | .var _,_,_=>trivial
 | .last _,_,_=>trivial
 | .un i d,p,a=>kH h (e:=d) a
 | .bin i d b,p,a=>⟨kH h a.1,kH h a.2⟩
 | .ite c d b,p,a=>⟨kH h a.1,kH h a.2.1,kH h a.2.2⟩
 | .ga c g,p,a=>⟨by have:=h p;rw[a.1]at this;exact this,kH h a.2⟩
 | .pre g,p,a=>⟨by have:=h p;rw[a.1]at this;exact this,kH h a.2⟩
 | .arrow d b,p,a=>⟨kH h a.2.1,kH h a.2.2⟩
 | .fI _ _ d,p,a=>kH h (e:=d) a
 | .merge _ _ _ _ d b c,p,a=>⟨kH h a.1,kH h a.2.1,kH h a.2.2⟩
def cD:aB->List bh
 | .sw _ aj=>aj
 | .aP aj=>aj
 | .reset _ b=>[.mk e0 b [] []]
 |_=>[]
def eb:bh->bj| .mk _ b _ _=>b
def kD:bh->Nm| .mk n _ _ _=>n
def jY:bh->List Tr| .mk _ _ u _=>u
def lu:bh->List Tr| .mk _ _ _ w=>w
def dw:bj->List Va| .mk v _=>v
def cT:bj->List aB| .mk _ q=>q
abbrev cU:List Sm.En:=[Am]
section
variable(T:eD)(F:List (Option Int))(A:Env)
def jv(rd:Nat->Int):List Tr->Option Tr
 | []=>none
 |t::l=>if cG T A rd t.e 0≠0 then some t else jv rd l
def sH(l:List bh)(x:Nm):Nat:=(l.findIdx? λa=>decide (kD a=x)).getD 0
def fQ(s:Rs)(p:Nat):aB->Nat
 | .sw e aj=>(aj.findIdx? λa=>decide (Sm.io cU (kD a)=cG T A s.rd e p)).getD 0
 | .aP aj=>match jv T A s.rd (((aj[(s.rd p).toNat]?).map jY).getD [])with
  |none=>(s.rd p).toNat
  |some t=>sH aj t.to
 |_=>0
def Bj(s:Rs)(p:Nat):aB->Bool
 | .aP aj=>match jv T A s.rd (((aj[(s.rd p).toNat]?).map jY).getD [])with
  |none=>s.rp p
  |some t=> !t.fV
 | .reset e _=>decide (cG T A s.rd e p≠0)
 |_=>false
abbrev oI(q:aB)(p k:Nat):Nat:=Sm.cI (dE q) p k
def pk(s:Rs)(p:Nat)(q:aB)(a:bh):Rs:=if Bj T A s p q then Dm F s (oI q p (fQ T A s p q)) (oI q p (fQ T A s p q)+Sm.bP (eV (eb a)))else s
def jm(x:Nm):Nat:=match get A x with
 |some (_,sb,_)=>sb
 |none=>0
abbrev dQ(q:aB):List Nm:=Sm.cd (dE q)
abbrev dA(a:bh):List Nm:=Sm.kT (eV (eb a))
def Ao(s:Rs)(q:aB)(a:bh):Prop:= ∀x∈dQ q,x∉dA a->T.ls x=true/\ ∃i,get A x=some (some (s.rd (T.lp x)),i,i)
variable(Pr:Nat->Sm.US->List Int->List Int->Sm.US->Prop)(aD:Nat->Sm.US)
def Ap(V:Nm->Prop)(s:Rs)(p:Nat):aB->Prop
 | .df x e=>V x/\((∃i,get A x=some (some (cG T A s.rd e p),i,i)/\fb T A V (A.length+1) i e)\/ ∃i,get A x=some (none,i,i))
 | .call x y f a b has e=>V x/\V y/\x≠y/\ ∃j i ox oy u',f=nm 102 j/\get A x=some (some ox,i,i)/\get A y=some (some oy,i,i+1)/\(has=true->fb T A V (A.length+1) i e)/\fb T A V (A.length+1) i a/\fb T A V (A.length+1) i b
   /\Pr j ((if has=true/\cG T A s.rd e (p+1)≠0 then none else s.rs p).getD (aD j)) [cG T A s.rd a (p+1+xE e),cG T A s.rd b (p+1+xE e+xE a)] [ox,oy] u'/\ ∀u,s.rs p=some u->u.i=j
 | .sw e aj=> ∃t a,t<=A.length/\fb T A V (A.length+1) t e/\(∀x∈dQ (.sw e aj),V x/\t<=jm A x)/\aj[fQ T A s p (.sw e aj)]?=some a/\Sm.io cU (kD a)=cG T A s.rd e p
   /\(∀(i:Nat) (b:bh),i<fQ T A s p (.sw e aj)->aj[i]?=some b->Sm.io cU (kD b)≠cG T A s.rd e p)/\Ao T A s (.sw e aj) a
 | .aP aj=> ∃t a a0,t<=A.length/\0<=s.rd p/\aj[(s.rd p).toNat]?=some a0/\(∀w∈jY a0,fb T A V (A.length+1) t w.e/\xE w.e=0/\ej T A s.rd w.e 0= []/\ ∃k,Sm.nH (eZ aj) w.to=some k/\k=sH aj w.to)/\(∀x∈dQ (.aP aj),V x/\t<=jm A x)/\aj[fQ T A s p (.aP aj)]?=some a
   /\(∀w∈lu a,fb T A (λx=>V x\/ ∃v∈dw (eb a),v.name=x) (A.length+1) (A.length+1) w.e/\xE w.e=0/\ej T A (pk T F A s p (.aP aj) a).rd w.e 0= []/\ ∃k,Sm.nH (eZ aj) w.to=some k/\k=sH aj w.to)/\Ao T A s (.aP aj) a
 | .reset e b=> ∃t,t<=A.length/\fb T A V (A.length+1) t e/\(∀x∈dQ (.reset e b),V x/\t<=jm A x)/\Ao T A s (.reset e b) (.mk e0 b [] [])
def MT(k:Nat)(v:Int):Prop:=match T.pt k with
 | .val t=>VT t v
 | .any=>True
 |_=>False
def Ph(s:Rs)(p:Nat):aB->Prop
 | .df x e=>(∃v sb i,get A x=some (some v,sb,i))-> ∀kv∈ej T A s.rd e p,MT T kv.1 kv.2
 | .call _ _ _ a b has e=>(has=true-> ∀kv∈ej T A s.rd e (p+1),MT T kv.1 kv.2)/\(∀kv∈ej T A s.rd a (p+1+xE e),MT T kv.1 kv.2)/\ ∀kv∈ej T A s.rd b (p+1+xE e+xE a),MT T kv.1 kv.2
 | .sw e _=> ∀kv∈ej T A s.rd e p,MT T kv.1 kv.2
 | .aP _=>True
 | .reset e _=> ∀kv∈ej T A s.rd e p,MT T kv.1 kv.2
def Cb(V:Nm->Prop)(s:Rs)(p:Nat)(q:aB):Prop:=Ap T F A Pr aD V s p q/\Ph T A s p q
def Nf(V:Nm->Prop)(v:Va):Prop:=T.ty v.name=v.ty/\T.ls v.name=v.last/\ ∃o sb i,get A v.name=some (o,sb,i)/\sb<=i/\match v.clock with
 |none=>o.isSome=true
 |some (k,x)=>V x/\T.ty x= .fJ/\Kn A x sb/\(o.isSome=true↔iT k=val A x)
inductive s6:(Nm->Prop)->Rs->Nat->bj->Prop where
 |mk {V:Nm->Prop} {s:Rs} {p0:Nat} {b:bj} (hv: ∀v∈dw b,Nf T A (λx=>V x\/ ∃v∈dw b,v.name=x) v)
   (hl: ∀(i:Nat) (v:Va),(dw b)[i]?=some v->v.last=true->(Sm.b_ ((dw b).map ey) p0)[i]?=some (some (T.lp v.name))/\T.pt (T.lp v.name)= .val v.ty/\VT v.ty (val A v.name))
   (hq: ∀(j:Nat) (q:aB) (p:Nat),(cT b)[j]?=some q->(Sm.dX (fM (cT b)) (p0+Sm.aU ((dw b).map ey)))[j]?=some p->Cb T F A Pr aD (λx=>V x\/ ∃v∈dw b,v.name=x) s p q)
   (hb: ∀(j:Nat) (q:aB) (p:Nat) (a:bh),(cT b)[j]?=some q->(Sm.dX (fM (cT b)) (p0+Sm.aU ((dw b).map ey)))[j]?=some p->(cD q)[fQ T A s p q]?=some a->
    s6 (λx=>V x\/ ∃v∈dw b,v.name=x) (pk T F A s p q a) (oI q p (fQ T A s p q)) (eb a)):s6 V s p0 b
end
def Aq(T:eD):aB->Nat->Prop
 | .df _ e,p=>iU T e p
 | .call _ _ f a b _ e,p=>(∀j,f=nm 102 j->T.pt p= .call j)/\iU T e (p+1)/\iU T a (p+1+xE e)/\iU T b (p+1+xE e+xE a)
 | .sw e _,p=>iU T e p
 | .aP aj,p=>T.pt p= .aP aj.length
 | .reset e _,p=>iU T e p
inductive qT(T:eD):Nat->bj->Prop where
 |mk {p0:Nat} {b:bj} (hv: ∀(i:Nat) (v:Va),(dw b)[i]?=some v->T.ty v.name=v.ty/\T.ls v.name=v.last/\(v.last=true->(Sm.b_ ((dw b).map ey) p0)[i]?=some (some (T.lp v.name))/\T.pt (T.lp v.name)= .val v.ty))
   (hq: ∀(j:Nat) (q:aB) (p:Nat),(cT b)[j]?=some q->(Sm.dX (fM (cT b)) (p0+Sm.aU ((dw b).map ey)))[j]?=some p->Aq T q p)
   (hb: ∀(j:Nat) (q:aB) (p k:Nat) (a:bh),(cT b)[j]?=some q->(Sm.dX (fM (cT b)) (p0+Sm.aU ((dw b).map ey)))[j]?=some p->(cD q)[k]?=some a->qT T (oI q p k) (eb a)):qT T p0 b
def KW(l:List UInt8):Nat:=l.foldl (λa b=>10*a+(b.toNat-48)) 0
theorem sI(d:Nat)(h:d<10):(strOfNums [IntKind.u8.wrap (48+(d:Int))]).data.toList= [UInt8.ofNat (48+d)]:=by
 match d,h with
 |0,_=>rfl
 |1,_=>rfl
 |2,_=>rfl
 |3,_=>rfl
 |4,_=>rfl
 |5,_=>rfl
 |6,_=>rfl
 |7,_=>rfl
 |8,_=>rfl
 |9,_=>rfl
theorem EL(d:Nat)(h:d<10):(UInt8.ofNat (48+d)).toNat-48=d:=by
 match d,h with
 |0,_=>rfl
 |1,_=>rfl
 |2,_=>rfl
 |3,_=>rfl
 |4,_=>rfl
 |5,_=>rfl
 |6,_=>rfl
 |7,_=>rfl
 |8,_=>rfl
 |9,_=>rfl
theorem HM(n:Nat):KW (dg n).data.toList=n:=by
 induction n using Nat.strongRecOn with
 |ind n c=>
  rw[dg];split
  ·rename_i a;rw[sI n a];simp only[KW,avZ,axc];rw[EL n a];omega
  ·rename_i a;have b:=c (n/10) (by omega);rw[aw1,aw7,sI (n%10) (by omega)];unfold KW at b⊢;rw[axg,b];simp only[avZ,axc];rw[EL (n%10) (by omega)];omega
theorem Ar(c:UInt8)(k:Nat):(nm c k).data.toList=c::(dg k).data.toList:=by
 unfold nm;rw[aw1,aw7];rfl
theorem iX{c a:UInt8}{k k':Nat}(h:nm c k=nm a k'):c=a/\k=k':=by
 have b:(nm c k).data.toList=(nm a k').data.toList:=by rw[h]
 rw[Ar,Ar]at b;injection b with d e
 exact⟨d,by rw[<-HM k,e,HM k']⟩
theorem NZ(k:Nat):(dg k).data.toList≠ []:=by
 rw[dg];split
 ·rename_i a;rw[sI k a];simp
 ·rw[aw1,aw7,sI _ (by omega)];simp
theorem Ms(c a:UInt8)(k:Nat):nm c k≠⟨#[a]⟩:=by
 intro d;have b:(nm c k).data.toList= [a]:=by rw[d]
 rw[Ar]at b;injection b with _ e
 exact NZ k e
def Gt(n:Nat)(x:Nm):Prop:= ∃ch k,n<k/\x=nm ch k
def gT(n n':Nat)(x:Nm):Prop:= ∃ch k,n<k/\k<=n'/\x=nm ch k
theorem gT.gt{n n':Nat}{x:Nm}(h:gT n n' x):Gt n x:=by obtain⟨c,a,b,_,d⟩:=h;exact⟨c,a,b,d⟩
theorem gT.not{n n':Nat}{x:Nm}(h:gT n n' x): ¬Gt n' x:=by
 rintro⟨e,f,g,a⟩;obtain⟨c,d,i,j,b⟩:=h;rw[b]at a;have:=(iX a).2;omega
theorem gT.mono{n n' m a:Nat}{x:Nm}(h:gT n n' x)(e:m<=n)(f:n'<=a):gT m a x:=by obtain⟨c,b,g,i,d⟩:=h;exact⟨c,b,by omega,by omega,d⟩
theorem Jj{l:List Nm}{x y:Nm} :y∈Sm.lK l x↔y∈l\/y=x:=by
 unfold Sm.lK;split
 ·rename_i a;rw[Sm.py]at a;constructor
  ·exact .inl
  ·grind
 ·simp
theorem As{r:List Nm} : ∀{l:List Nm} {y:Nm},y∈r.foldl Sm.lK l↔y∈l\/y∈r:=by
 induction r with
 |nil=>intro l y;simp
 |cons b r a=>intro l y;rw[avZ,a,Jj,auX,or_assoc]
theorem uj{aj:List Sm.bh} : ∀{l:List Nm} {x:Nm},x∈Sm.jQ l aj↔x∈l\/ ∃a∈aj,x∈Sm.kT a.cy:=by
 induction aj with
 |nil=>intro l x;simp[Sm.jQ]
 |cons a c b=>
  intro l x;rw[Sm.jQ,b,As];have e:Sm.sf a=Sm.kT a.cy:=by cases a;rw[Sm.sf];rfl
  rw[e];constructor
  ·grind
  ·grind
theorem EM{b:List Sm.Va}{a:List Sm.aB} : ∀{l:List Nm} {x:Nm},x∈Sm.lX b l a↔x∈l\/ ∃q∈a,x∈Sm.cd q/\(Sm.f_ b x).isNone=true:=by
 induction a with
 |nil=>intro l x;simp[Sm.lX]
 |cons q d c=>
  intro l x;rw[Sm.lX,c,As,awP];constructor
  ·grind
  ·grind
theorem nQ{b:bj}{x:Nm} :x∈Sm.kT (eV b)↔(∃q∈cT b,x∈dQ q)/\ ∀v∈dw b,v.name≠x:=by
 obtain⟨d,h⟩:=b;rw[eV,Sm.kT,EM];have i:(Sm.f_ (d.map ey) x).isNone=true↔ ∀v∈d,v.name≠x:=by
  unfold Sm.f_;rw[Option.isNone_iff_eq_none,av4];constructor
  ·intro a v c e;have:=a (ey v) (avw c);simp[ey,e]at this
  ·intro a g f;obtain⟨v,c,rfl⟩:=ava.1 f;simp[ey,a v c]
 simp only[cT,dw];rw[iG];constructor
 ·grind
 ·grind
theorem eE{q:aB}{x:Nm} :x∈dQ q↔(match q with| .df y _=>x=y| .call y z _ _ _ _ _=>x=y\/x=z|_=> ∃a∈cD q,x∈dA a):=by
 have g: ∀c:List bh,(∃a∈eZ c,x∈Sm.kT a.cy)↔ ∃a∈c,x∈dA a:= λc=>by
  rw[pE];constructor
  ·rintro⟨a,f,d⟩;obtain⟨h,i,rfl⟩:=ava.1 f;exact⟨h,i,by cases h;exact d⟩
  ·rintro⟨a,f,d⟩;exact⟨pj a,avw f,by cases a;exact d⟩
 cases q with
 |df y e=>simp[dQ,dE,Sm.cd,Sm.jQ]
 |call y z j a b k e=>simp[dQ,dE,Sm.cd,Sm.jQ]
 |sw e c=>simp only[dQ,dE,Sm.cd,uj,au3,false_or];exact g c
 |aP c=>simp only[dQ,dE,Sm.cd,uj,au3,false_or];exact g c
 |reset e b=>
  have:=g [.mk e0 b [] []];simp only[dQ,dE,Sm.cd,uj,au3,false_or];exact this
theorem rG(l r:List Sm.aB): ∀a,Sm.dX (l++r) a=Sm.dX l a++Sm.dX r (a+Sm.aS (l.map Sm.qP)):=by
 induction l with
 |nil=>intro a;simp[Sm.dX,Sm.aS]
 |cons c l b=>intro a;simp only[avM,Sm.dX,avm,Sm.iM];rw[b,avE]
abbrev fu(l:List Va)(x:Nm):Prop:= ∃v∈l,v.name=x
abbrev EN(V:Nm->Prop)(b:bj)(x:Nm):Prop:=V x\/ ∃v∈dw b,v.name=x
inductive wN:(Nm->Prop)->bj->Prop where
 |mk {V:Nm->Prop} {b:bj} (hn:((dw b).map (·.name)).Nodup) (hd: ∀v∈dw b,¬V v.name) (hu: ∀(i j:Nat) (q q':aB) (x:Nm),(cT b)[i]?=some q->(cT b)[j]?=some q'->x∈dQ q->x∈dQ q'->i=j)
   (hs: ∀q∈cT b,∀x∈dQ q,EN V b x) (hb: ∀q∈cT b,∀a∈cD q,wN (EN V b) (eb a)) (hx: ∀v∈dw b,∃q∈cT b,v.name∈dQ q):wN V b
def Uq(qs:List aB):Prop:= ∀(i j:Nat) (q q':aB) (x:Nm),qs[i]?=some q->qs[j]?=some q'->x∈dQ q->x∈dQ q'->i=j
theorem Uq.nil:Uq []:= λb c d f e a=>by simp at a
theorem Uq.one(q:aB):Uq [q]:= λh i j b k f g _ _=>by
 have e: ∀{a:Nat} {c:aB},[q][a]?=some c->a=0:= λ{a c} d=>by cases a with
  |zero=>rfl
  |succ a=>simp at d
 rw[e f,e g]
theorem Uq.app{l r:List aB}(m:Uq l)(n:Uq r)(o: ∀c∈l,∀d∈r,∀a,a∈dQ c->a∈dQ d->False):Uq (l++r):=by
 intro i g c d a e f j k;rcases auM i l.length with h|h
 ·rw[auL h]at e;rcases auM g l.length with b|b
  ·rw[auL b]at f;exact m i g c d a e f j k
  ·grind
 ·rw[auR h]at e;rcases auM g l.length with b|b
  ·grind
  ·rw[auR b]at f;have:=n _ _ c d a e f j k;omega
theorem Uq.cons{q:aB}{r:List aB}(c:Uq r)(e: ∀b∈r,∀a,a∈dQ q->a∈dQ b->False):Uq (q::r):=by
 have:=Uq.app (Uq.one q) c (λd f b g a h i=>by grind);simpa using this
structure mZ(Sub:Sc->List Va->Nat->Nat->bj->Prop):Prop where
 le: ∀s outs n n' b,Sub s outs n n' b->n<=n'
 st: ∀s outs n n' b,Sub s outs n n' b-> ∀V:Nm->Prop,(∀v∈outs,V v.name)->(∀x,V x-> ¬gT n n' x)->(outs.map (·.name)).Nodup->
  (∀v∈dw b,gT n n' v.name)/\(∀x,x∈Sm.kT (eV b)↔fu outs x)/\wN V b
theorem LS.names{a b:List Va}(h:LS a b):(b.map (·.name)).Sublist (a.map (·.name)):=by
 induction h with
 |nil=>exact List.Sublist.refl _
 |cK h d c=>simp only[avi];exact List.Sublist.append c (List.Sublist.refl _)
 |drop h d e c=>simp only[avi];exact c.trans (List.sublist_append_left _ _)
section
variable{Sub:Sc->List Va->Nat->Nat->bj->Prop}
theorem mw(k: ∀s outs n n' b,Sub s outs n n' b->n<=n'){s:Sc}{outs:List Va}{names:List Nm}{n n':Nat}{aj:List bh}(h:nO Sub s outs names n aj n'):
  n<=n'/\ ∀(i:Nat) (a:bh),aj[i]?=some a-> ∃c b l d e,names[i]?=some c/\a= .mk c b [] []/\LS outs l/\(i=0->l=outs)/\n<=d/\e<=n'/\Sub s.bA l d e b:=by
 induction h with
 |nil=>exact⟨auK _,λi a h=>by simp at h⟩
 | @snoc aj d e h c m l o p b f g=>
  obtain⟨q,r⟩:=g;have t:=k _ _ _ _ _ f;refine⟨by omega,λi a u=> ?_⟩;rcases auM i aj.length with j|j
  ·grind
  ·grind
theorem xF(I: ∀s outs n n' b,Sub s outs n n' b->n<=n'){s:Sc}{outs:List Va}{N n n':Nat}{aj:List bh}(h:u6 Sub s outs N n aj n'):
  n<=n'/\ ∀(i:Nat) (a:bh),aj[i]?=some a-> ∃b l d f g j,a= .mk (nm 83 i) b g j/\LS outs l/\(i=0->l=outs)/\n<=d/\f<=n'/\Sub s.bA l d f b/\Af s N g/\Af (s.more l) N j:=by
 induction h with
 |nil=>exact⟨auK _,λi a h=>by simp at h⟩
 | @snoc aj d f h l o p g q b m j r t=>
  obtain⟨u,v⟩:=t;have J:=I _ _ _ _ _ m;refine⟨by omega,λi a c=> ?_⟩;rcases auM i aj.length with k|k
  ·rw[auL k]at c;obtain⟨w,x,y,z,A,B,C,D,E,F,K,G⟩:=v i a c;exact⟨w,x,y,z,A,B,C,D,E,F,by omega,G⟩
  ·rw[auR k]at c;have H:i=aj.length:=by
    grind
   subst H;simp at c;subst c;exact⟨b,l,d,f,g,j,W,o,λe=>p (avA e),u,auK _,m,q,r⟩
structure Au(outs:List Va)(n n':Nat)(qs:List aB)(vs:List Va):Prop where
 v: ∀v∈vs,gT n n' v.name
 nd:(vs.map (·.name)).Nodup
 d:(∀x,fu outs x-> ¬gT n n' x)->(outs.map (·.name)).Nodup-> ∀x,(∃q∈qs,x∈dQ q)↔fu outs x\/fu vs x
 u:(∀x,fu outs x-> ¬gT n n' x)->(outs.map (·.name)).Nodup->Uq qs
 b: ∀V:Nm->Prop,(∀v∈outs,V v.name)->(∀x,fu outs x-> ¬gT n n' x)->(outs.map (·.name)).Nodup->(∀x,V x->gT n n' x->fu vs x)-> ∀q∈qs,∀a∈cD q,wN V (eb a)
theorem Au.pre{outs:List Va}{n m n':Nat}{q0 l:List aB}{v0 y:List Va}(r:n<=m)(C:m<=n')(u: ∀v∈v0,gT n m v.name)(H:(v0.map (·.name)).Nodup)(z: ∀b,(∃c∈q0,b∈dQ c)↔fu v0 b)(I:Uq q0)(J: ∀c∈q0,∀w∈cD c,False)
  (h:Au outs m n' l y):Au outs n n' (q0++l) (v0++y):=by
 have E: ∀b,fu v0 b->fu y b->False:=by
  rintro b ⟨v,d,rfl⟩ ⟨x,K,e⟩;have s:=u v d;have k:=h.v x K;rw[e]at k;exact s.not k.gt
 refine⟨λv L=> ?_,?_,λo p b=> ?_,λo p=> ?_,λG M o p N c O w D=> ?_⟩
 ·rcases auS.1 L with a|a
  ·exact(u v a).mono (auK _) C
  ·exact(h.v v a).mono r (auK _)
 ·rw[avi,avL];refine⟨H,h.nd,λb q j i e=> ?_⟩;subst e;obtain⟨v,s,P⟩:=ava.1 q;obtain⟨x,k,Q⟩:=ava.1 i;exact E b ⟨v,s,P⟩ ⟨x,k,Q⟩
 ·have A:=h.d (λj i g=>o j i (g.mono r (auK _))) p b;constructor
  ·rintro⟨c,B,q⟩;rcases auS.1 B with a|a
   ·obtain⟨v,d,e⟩:=(z b).1 ⟨c,a,q⟩;exact .inr ⟨v,auY _ d,e⟩
   ·rcases A.1 ⟨c,a,q⟩with a|⟨v,d,e⟩
    ·exact .inl a
    ·exact .inr ⟨v,au0 _ d,e⟩
  ·rintro(a|⟨v,d,e⟩)
   ·obtain⟨c,t,f⟩:=A.2 (.inl a);exact⟨c,au0 _ t,f⟩
   ·rcases auS.1 d with a|a
    ·obtain⟨c,t,f⟩:=(z b).2 ⟨v,a,e⟩;exact⟨c,auY _ t,f⟩
    ·obtain⟨c,t,f⟩:=A.2 (.inr ⟨v,a,e⟩);exact⟨c,au0 _ t,f⟩
 ·have F: ∀b,fu outs b-> ¬gT m n' b:= λj i g=>o j i (g.mono r (auK _))
  refine Uq.app I (h.u F p) λc B R S b s k=> ?_
  obtain a:=(z b).1 ⟨c,B,s⟩;rcases(h.d F p b).1 ⟨R,S,k⟩with f|f
  ·obtain⟨v,d,e⟩:=a;exact o b f (e▸(u v d).mono (auK _) C)
  ·exact E b a f
 ·rcases auS.1 O with a|a
  ·exact(J c a w D).elim
  ·refine h.b G M (λj i g=>o j i (g.mono r (auK _))) p (λb q g=> ?_) c a w D;obtain⟨v,d,e⟩:=N b q (g.mono r (auK _));rcases auS.1 d with a|a
   ·exact((u v a).not (e▸g.gt)).elim
   ·exact⟨v,a,e⟩
theorem uk(c:mZ Sub){j:Nat}{s:Sc}{outs:List Va}{n n':Nat}{k:List aB}{l:List Va}(h:GQ Sub j s outs n n' k l):n<=n':=by
 induction h with
 |sZ h=>exact auK _
 |ua d a g=>exact(mw c.le a).1
 |qy d a g=>exact(mw c.le a).1
 |aP o r a g=>exact(xF c.le a).1
 |reset d f=>exact c.le _ _ _ _ _ f
 |call p t i b a f y e d h m=>omega
 |mY i b q u e cK a f v w d x h m=>omega
theorem wO{outs:List Va}{aj:List bh}{n n':Nat}(t:mZ Sub)(z:0<aj.length)(u: ∀(g:Nat) (a:bh),aj[g]?=some a-> ∃b c i j,eb a=b/\LS outs c/\(g=0->c=outs)/\n<=i/\j<=n'/\ ∃r,Sub r c i j b):
  ((∀x,fu outs x-> ¬gT n n' x)->(outs.map (·.name)).Nodup-> ∀x,(∃a∈aj,x∈dA a)↔fu outs x)/\ ∀V:Nm->Prop,(∀v∈outs,V v.name)->(outs.map (·.name)).Nodup->(∀x,V x-> ¬gT n n' x)-> ∀a∈aj,wN V (eb a):=by
 refine⟨λA s x=>⟨?_,λB=> ?_⟩,λV C s D a k=> ?_⟩
 ·rintro⟨a,k,B⟩;obtain⟨g,w⟩:=ave.1 k;obtain⟨b,c,i,j,rfl,d,y,l,m,r,o⟩:=u g a w;have:=t.st _ _ _ _ _ o (fu outs) (λv f=>⟨v,d.mem v f,rfl⟩) (λh p q=>A h p (q.mono l m)) ((LS.names d).nodup s);obtain⟨v,f,e⟩:=(this.2.1 x).1 B;exact⟨v,d.mem v f,e⟩
 ·have k:=auO z;obtain⟨b,c,i,j,E,d,y,l,m,r,o⟩:=u 0 _ k;have e:=y W;subst e;have:=t.st _ _ _ _ _ o (fu c) (λv f=>⟨v,f,rfl⟩) (λh p q=>A h p (q.mono l m)) s;exact⟨aj[0],avb z,by grind⟩
 ·obtain⟨g,w⟩:=ave.1 k;obtain⟨b,c,i,j,rfl,d,y,l,m,r,o⟩:=u g a w;exact(t.st _ _ _ _ _ o V (λv f=>C v (d.mem v f)) (λh p q=>D h p (q.mono l m)) ((LS.names d).nodup s)).2.2
theorem Dp(C:mZ Sub){an:Nat}{s:Sc}{outs:List Va}{n n':Nat}{V:List aB}{M:List Va}(h:GQ Sub an s outs n n' V M):Au outs n n' V M:=by
 have O: ∀{outs:List Va} {n n':Nat} {f:aB},(∀d,d∈dQ f↔ ∃i∈cD f,d∈dA i)->0<(cD f).length->(∀(a:Nat) (i:bh),(cD f)[a]?=some i-> ∃b q w x,eb i=b/\LS outs q/\(a=0->q=outs)/\n<=w/\x<=n'/\ ∃s',Sub s' q w x b)->Au outs n n' [f] []:=by
  intro outs n n' f X h0 hg;have Q:=wO C h0 hg;refine⟨λv k=>(by cases k),awq,λR D d=> ?_,λ_ _=>Uq.one f,λU hV R D hB y o i p=> ?_⟩
  ·constructor
   ·rintro⟨y,o,l⟩;rw[auW]at o;subst o;exact .inl ((Q.1 R D d).1 ((X d).1 l))
   ·rintro(l|⟨v,k,_⟩)
    ·exact⟨f,av1 _,(X d).2 ((Q.1 R D d).2 l)⟩
    ·cases k
  ·rw[auW]at o;subst o;exact Q.2 U hV D (λd l F=>by obtain⟨v,k,_⟩:=hB d l F;cases k) i p
 induction h with
 | @sZ s outs n f h=>
  have d6: ∀{outs:List Va} {f:List aB},p7 s outs f->f.length=outs.length/\(∀(a:Nat) (e:aB),f[a]?=some e-> ∃t z,outs[a]?=some t/\e= .df t.name z):=by
   intro outs f h
   induction h with
   |nil=>exact⟨W,λa e h=>by simp at h⟩
   | @snoc q f h t e G u=>
    refine⟨by simp[u.1],λa d l=> ?_⟩;rcases auM a f.length with g|g
    ·rw[auL g]at l;obtain⟨Y,z,j,r⟩:=u.2 a d l;exact⟨Y,z,by rw[auL (by rw[<-u.1];exact g)];exact j,r⟩
    ·rw[auR g]at l;have Z:a-f.length=0:=by
      rcases avl (a-f.length)with e|e
      ·exact e
      ·rw[auP (by simp;omega)]at l;cases l
     rw[Z]at l;simp at l;subst l;exact⟨t,e,by rw[auR (by rw[<-u.1];exact g),<-u.1,Z];rfl,rfl⟩
  obtain⟨k1,E⟩:=d6 h;refine⟨λv k=>(by cases k),awq,λ_ _ d=> ?_,λ_ D=> ?_,λU _ _ _ _ y o i p=> ?_⟩
  ·constructor
   ·rintro⟨y,o,l⟩;obtain⟨a,g⟩:=ave.1 o;obtain⟨t,z,j,rfl⟩:=E a y g;have:d=t.name:=eE.1 l;exact .inl ⟨t,auQ j,this.symm⟩
   ·rintro(⟨v,k,rfl⟩|⟨v,k,_⟩)
    ·obtain⟨a,g⟩:=ave.1 k;have N:a<f.length:=by
      rcases auM a outs.length with h|h
      ·omega
      ·rw[auP h]at g;cases g
     obtain⟨t,z,j,r⟩:=E a f[a] (auO N);rw[g]at j;injection j with j
     subst j;refine⟨f[a],avb N,?_⟩;rw[r];exact eE.2 W
    ·cases k
  ·intro a P i b d j r h3 h4;obtain⟨t,z,A,rfl⟩:=E a i j;obtain⟨Y,d9,B,rfl⟩:=E P b r;have S:(outs.map (·.name))[a]?=some d:=by simp[A,eE.1 h3]
   have m2:(outs.map (·.name))[P]?=some d:=by simp[B,eE.1 h4]
   have N:a<(outs.map (·.name)).length:=by
    rcases auM a (outs.map (·.name)).length with h|h
    ·exact h
    ·rw[auP h]at S;cases S
   exact(awW N D).1 (S.trans m2.symm)
  ·obtain⟨a,g⟩:=ave.1 o;obtain⟨t,z,j,rfl⟩:=E a y g;cases p
 | @ua s outs n n' e H G p hl=>
  exact O (λd=>eE) (by show 0<H.length;omega) (λa i g=>by obtain⟨c,b,q,w,x,_,rfl,A,B,I,J,K⟩:=(mw C.le p).2 a i g;exact⟨b,q,w,x,W,A,B,I,J,_,K⟩)
 | @qy s outs n n' e H G p hl=>
  exact O (λd=>eE) (by show 0<H.length;omega) (λa i g=>by obtain⟨c,b,q,w,x,_,rfl,A,B,I,J,K⟩:=(mw C.le p).2 a i g;exact⟨b,q,w,x,W,A,B,I,J,_,K⟩)
 | @aP s outs n n' H d7 hN p hl=>
  exact O (λd=>eE) (by show 0<H.length;omega) (λa i g=>by obtain⟨b,q,w,x,u1,u2,rfl,A,B,I,J,K,_⟩:=(xF C.le p).2 a i g;exact⟨b,q,w,x,W,A,B,I,J,_,K⟩)
 | @reset s outs n n' e b G F=>
  refine O (λd=>eE) Nat.one_pos (λa i g=> ?_);have XY:a=0:=by
   cases a with
   |zero=>rfl
   |succ a=>simp[cD]at g
  subst XY;simp[cD]at g;subst g;exact⟨b,outs,n,n',W,LS.refl _,λ_=>rfl,auK _,auK _,_,F⟩
 | @call s outs n n' q M P hj i b p F f9 e G h u=>
  have T:=uk C h;refine Au.pre (m:=n+2) (q0:=[_]) (v0:=[_,_]) (by omega) T ?_ ?_ ?_ (Uq.one _) ?_ u
  ·intro v k;simp only[auX,au3,avF]at k;rcases k with rfl|rfl
   ·exact⟨117,n+1,by omega,by omega,rfl⟩
   ·exact⟨117,n+2,by omega,by omega,rfl⟩
  ·simp only[avm,avT,awQ,auW,au3,awX,awq,and_true];intro e;have:=(iX e).2;omega
  ·intro d;simp only[auW,exists_eq_left,eE,fu,auX,au3,avF,exists_eq_or_imp];constructor
   ·rintro(h|h)<;>simp[c9,h]
   ·rintro(h|h)
    ·exact .inl h.symm
    ·exact .inr h.symm
  ·intro f L i p;rw[auW]at L;subst L;cases p
 | @mY s outs n n' q M i b d8 E e cK p F hk P7 G RS h u=>
  have T:=uk C h;have ac:nm 99 (n+1)≠nm 119 (n+2):= λe=>by have:=(iX e).2;omega
  have ah:nm 99 (n+1)≠nm 122 (n+3):= λe=>by have:=(iX e).2;omega
  have co:nm 119 (n+2)≠nm 122 (n+3):= λe=>by have:=(iX e).2;omega
  refine Au.pre (m:=n+3) (q0:=[_,_,_]) (v0:=[_,_,_]) (by omega) T ?_ ?_ ?_ ?_ ?_ u
  ·intro v k;simp only[auX,au3,avF]at k;rcases k with rfl|rfl|rfl
   ·exact⟨99,n+1,by omega,by omega,rfl⟩
   ·exact⟨119,n+2,by omega,by omega,rfl⟩
   ·exact⟨122,n+3,by omega,by omega,rfl⟩
  ·simp only[avm,avT,awQ,auX,au3,avF,not_or,awX,awq,and_true];exact⟨⟨ac,ah⟩,co⟩
  ·intro d;simp only[fu,auX,au3,avF,exists_eq_or_imp,exists_eq_left,eE];constructor
   ·rintro(h|h|h)<;>simp[c9,h]
   ·rintro(h|h|h)
    ·exact .inl h.symm
    ·exact .inr (.inl h.symm)
    ·exact .inr (.inr h.symm)
  ·refine Uq.cons (Uq.cons (Uq.one _) ?_) ?_
   ·intro y o d j r;rw[auW]at o;subst o;have j:=eE.1 j;have r:=eE.1 r;exact co (j.symm.trans r)
   ·intro y o d j r;have j:=eE.1 j;simp only[auX,au3,avF]at o;rcases o with rfl|rfl
    ·exact ac (j.symm.trans (eE.1 r))
    ·exact ah (j.symm.trans (eE.1 r))
  ·intro f L i p;simp only[auX,au3,avF]at L;rcases L with rfl|rfl|rfl<;>cases p
theorem Dq{Q:Sc->List Va->Nat->Nat->List aB->List Va->Prop}(Z: ∀s Y n L R z,Q s Y n L R z->n<=L/\Au Y n L R z){s0:Sc}{S:List Va}{E:Nat}{s:Sc}{D:List Va}{n:Nat}{q:List aB}{z:List Va}(h:GL Q s0 S E s D n q z):
  E<=n/\ ∃A,S=A++D/\Au A E n q z:=by
 induction h with
 |start=>
  refine⟨auK _,[],W,λv g=>(by cases g),awq,λ_ _ c=> ?_,λ_ _=>Uq.nil,λJ _ _ _ _ q x=>(by cases x)⟩;constructor
  ·rintro⟨q,x,_⟩;cases x
  ·rintro(⟨q,x,_⟩|⟨q,x,_⟩)<;>cases x
 | @step s D n T q z q1 VK h K F h3 hk x ih=>
  obtain⟨B,A,i2,p⟩:=ih;obtain⟨C,r⟩:=Z _ _ _ _ _ _ x;have X: ∀c,fu z c->fu VK c->False:=by
   rintro c ⟨v,Qw,rfl⟩ ⟨k,hw,e⟩;have t:=p.v v Qw;have m:=r.v k hw;rw[e]at m;exact t.not m.gt
  have inl: ∀{w b:List Va} {c:Nm},fu (w++b) c↔fu w c\/fu b c:= λ{w b c} =>by
   constructor
   ·rintro⟨v,g,e⟩;rcases auS.1 g with a|a
    ·exact .inl ⟨v,a,e⟩
    ·exact .inr ⟨v,a,e⟩
   ·rintro(⟨v,g,e⟩|⟨v,g,e⟩)
    ·exact⟨v,auY _ g,e⟩
    ·exact⟨v,au0 _ g,e⟩
  refine⟨by omega,A++D.take K,by rw[avh,avC];exact i2,λv g=> ?_,?_,λo f c=> ?_,λo f=> ?_,λJ U o f V i M w G=> ?_⟩
  ·rcases auS.1 g with a|a
   ·exact(p.v v a).mono (auK _) C
   ·exact(r.v v a).mono B (auK _)
  ·rw[avi,avL];refine⟨p.nd,r.nd,λc y l j e=> ?_⟩;subst e;obtain⟨v,F,e1⟩:=ava.1 y;obtain⟨k,N,e2⟩:=ava.1 j;exact X c ⟨v,F,e1⟩ ⟨k,N,e2⟩
  ·rw[avi,avL]at f;have O:=p.d (λl j d=>o l (inl.2 (.inl j)) (d.mono (auK _) C)) f.1 c;have P:=r.d (λl j d=>o l (inl.2 (.inr j)) (d.mono B (auK _))) f.2.1 c;rw[inl,inl];constructor
   ·rintro⟨i,M,y⟩;rcases auS.1 M with a|a
    ·rcases O.1 ⟨i,a,y⟩with a|a
     ·exact .inl (.inl a)
     ·exact .inr (.inl a)
    ·rcases P.1 ⟨i,a,y⟩with a|a
     ·exact .inl (.inr a)
     ·exact .inr (.inr a)
   ·rintro((a|a)|(a|a))
    ·obtain⟨i,t,m⟩:=O.2 (.inl a);exact⟨i,auY _ t,m⟩
    ·obtain⟨i,t,m⟩:=P.2 (.inl a);exact⟨i,au0 _ t,m⟩
    ·obtain⟨i,t,m⟩:=O.2 (.inr a);exact⟨i,auY _ t,m⟩
    ·obtain⟨i,t,m⟩:=P.2 (.inr a);exact⟨i,au0 _ t,m⟩
  ·rw[avi,avL]at f;have H: ∀c,fu A c-> ¬gT E n c:= λl j d=>o l (inl.2 (.inl j)) (d.mono (auK _) C)
   have I: ∀c,fu (D.take K) c-> ¬gT n T c:= λl j d=>o l (inl.2 (.inr j)) (d.mono B (auK _))
   refine Uq.app (p.u H f.1) (r.u I f.2.1) λw G b d c F N=> ?_
   rcases(p.d H f.1 c).1 ⟨w,G,F⟩with⟨v,a,rfl⟩|⟨v,a,rfl⟩<;>rcases(r.d I f.2.1 _).1 ⟨b,d,N⟩with⟨k,u,e⟩|⟨k,u,e⟩
   ·exact f.2.2 _ (avw a) _ (avw u) e.symm
   ·exact o _ (inl.2 (.inl ⟨v,a,W⟩)) (e▸(r.v k u).mono B (auK _))
   ·exact o _ (inl.2 (.inr ⟨k,u,W⟩)) (e▸(p.v v a).mono (auK _) C)
   ·exact X v.name ⟨v,a,W⟩ ⟨k,u,e⟩
  ·rw[avi,avL]at f;have H: ∀c,fu A c-> ¬gT E n c:= λl j d=>o l (inl.2 (.inl j)) (d.mono (auK _) C)
   have I: ∀c,fu (D.take K) c-> ¬gT n T c:= λl j d=>o l (inl.2 (.inr j)) (d.mono B (auK _))
   rcases auS.1 M with a|a
   ·refine p.b J (λv g=>U v (auY _ g)) H f.1 (λc y d=> ?_) i a w G;rcases inl.1 (V c y (d.mono (auK _) C))with a|⟨k,u,e⟩
    ·exact a
    ·exact(d.not (e▸(r.v k u).gt)).elim
   ·refine r.b J (λv g=>U v (au0 _ g)) I f.2.1 (λc y d=> ?_) i a w G;rcases inl.1 (V c y (d.mono B (auK _)))with⟨k,u,e⟩|a
    ·exact((e▸p.v k u).not d.gt).elim
    ·exact a
theorem Dr{n m:Nat}{b:List Va}(h:NV n b m):n<=m/\(∀v∈b,gT n m v.name)/\(b.map (·.name)).Nodup:=by
 induction h with
 |nil=>exact⟨auK _,λv c=>(by cases c),awq⟩
 | @snoc b d h j k u w l=>
  obtain⟨o,f,p⟩:=l;have i:gT d (d+1) j.name:=⟨118,d+1,by omega,by omega,k⟩;refine⟨by omega,λv c=> ?_,?_⟩
  ·rcases auS.1 c with a|a
   ·exact(f v a).mono (auK _) (by omega)
   ·rw[auW]at a;subst a;exact i.mono o (auK _)
  ·rw[avi,avL];refine⟨p,by simp,λs q t g e=> ?_⟩;subst e;obtain⟨v,r,rfl⟩:=ava.1 q;simp only[avm,avT,auW]at g;exact(f v r).not (g▸i.gt)
theorem HN{Q:Sc->List Va->Nat->Nat->List aB->List Va->Prop}(H: ∀u i j h I f,Q u i j h I f->j<=h/\Au i j h I f):mZ (ED Q):=by
 constructor
 ·rintro u i j h b ⟨f,J,R,N,t,w,S,x,rfl⟩;have:=(Dr w).1;have:=(Dq H x).1;omega
 ·rintro u i j h b ⟨f,J,R,N,t,w,S,x,rfl⟩ Z q r T;obtain⟨y,s,K⟩:=Dr w;obtain⟨U,dn,L,k⟩:=Dq H x;rw[avg]at L;subst L;have z: ∀v∈f++t,gT j h v.name:= λv c=>by
   rcases auS.1 c with a|a
   ·exact(s v a).mono (auK _) U
   ·exact(k.v v a).mono y (auK _)
  have M: ∀d,fu i d-> ∀v∈f++t,v.name≠d:=by
   rintro d ⟨m,V,rfl⟩ v c e;exact r _ (q m V) (e▸z v c)
  have G:((f++i).map (·.name)).Nodup:=by
   rw[avi,avL];refine⟨K,T,λd g O A e=> ?_⟩;subst e;obtain⟨v,n,B⟩:=ava.1 g;obtain⟨m,l,C⟩:=ava.1 A;exact M d ⟨m,l,C⟩ v (auY _ n) B
  have D: ∀d,fu (f++i) d-> ¬gT J h d:=by
   rintro d ⟨v,c,rfl⟩ o;rcases auS.1 c with a|a
   ·exact(s v a).not o.gt
   ·exact r _ (q v a) (o.mono y (auK _))
  have p:=k.d D G;refine⟨z,λd=> ?_,⟨?_,λv c X=>r _ X (z v c),k.u D G,λE F d g=> ?_,λE F P Y=> ?_,λv c=> ?_⟩⟩
  ·rw[nQ];constructor
   ·rintro⟨n,l⟩;rcases(p d).1 n with⟨v,c,e⟩|⟨v,c,e⟩
    ·rcases auS.1 c with a|a
     ·exact(l v (auY _ a) e).elim
     ·exact⟨v,a,e⟩
    ·exact(l v (au0 _ c) e).elim
   ·intro a;refine⟨(p d).2 (.inl ?_),M d a⟩;obtain⟨v,c,e⟩:=a;exact⟨v,au0 _ c,e⟩
  ·show((f++t).map (·.name)).Nodup;rw[avi,avL];refine⟨K,k.nd,λd g O A e=> ?_⟩;subst e;obtain⟨v,n,B⟩:=ava.1 g;obtain⟨m,l,C⟩:=ava.1 A;have:=s v n;rw[B,<-C]at this;exact this.not (k.v m l).gt
  ·rcases(p d).1 ⟨E,F,g⟩with⟨v,c,e⟩|⟨v,c,e⟩
   ·rcases auS.1 c with a|a
    ·exact .inr ⟨v,auY _ a,e⟩
    ·exact .inl (e▸q v a)
   ·exact .inr ⟨v,au0 _ c,e⟩
  ·refine k.b _ (λv c=> ?_) D G (λd g o=> ?_) E F P Y
   ·rcases auS.1 c with a|a
    ·exact .inr ⟨v,auY _ a,W⟩
    ·exact .inl (q v a)
   ·rcases g with g|⟨v,c,e⟩
    ·exact(r d g (o.mono y (auK _))).elim
    ·rcases auS.1 c with a|a
     ·exact((s v a).not (e▸o.gt)).elim
     ·exact⟨v,a,e⟩
  ·rcases auS.1 c with a|a
   ·exact(p v.name).2 (.inl ⟨v,auY _ a,W⟩)
   ·exact(p v.name).2 (.inr ⟨v,a,W⟩)
theorem Av(b:Nat): ∀d,mZ (GB b d)
 |0=>HN λe j f g h i a=>by
  have c:mZ (λ_ _ _ _ _=>False):=⟨λ_ _ _ _ _ a=>a.elim,λ_ _ _ _ _ a=>a.elim⟩;exact⟨uk c a,Dp c a⟩
 |d+1=>HN λe j f g h i a=>⟨uk (Av b d) a,Dp (Av b d) a⟩
end
def At(qs:List aB)(c:Nat)(q:aB)(p:Nat):Prop:= ∃j:Nat,qs[j]?=some q/\(Sm.dX (fM qs) c)[j]?=some p
def Bk(qs:List aB):Nat:=Sm.aS ((fM qs).map Sm.qP)
theorem iF(l:List Sm.aB): ∀c,(Sm.dX l c).length=l.length:=by
 induction l with
 |nil=>intro c;rfl
 |cons b l a=>intro c;simp[Sm.dX,a]
theorem At.nil{c q p} : ¬At [] c q p:=by rintro⟨b,a,_⟩;simp at a
theorem At.one{q0:aB}{c:Nat}{q:aB}{p:Nat} :At [q0] c q p↔q=q0/\p=c:=by
 constructor
 ·rintro⟨b,a,d⟩;cases b with
  |zero=>simp[fM,Sm.dX]at a d;exact⟨a.symm,d.symm⟩
  |succ b=>simp at a
 ·rintro⟨rfl,rfl⟩;exact⟨0,W,W⟩
theorem At.app{l r:List aB}{c:Nat}{q:aB}{p:Nat} :At (l++r) c q p↔At l c q p\/At r (c+Bk l) q p:=by
 have f:(Sm.dX (fM l) c).length=l.length:=by rw[iF,iG,au8]
 have b:Sm.dX (fM (l++r)) c=Sm.dX (fM l) c++Sm.dX (fM r) (c+Bk l):=by
  rw[iG,avi,<-iG,<-iG];exact rG _ _ _
 unfold At;rw[b];constructor
 ·grind
 ·rintro(⟨a,d,e⟩|⟨a,d,e⟩)
  ·have g:a<l.length:=by
    grind
   exact⟨a,by grind,by grind⟩
  ·exact⟨l.length+a,by grind,by grind⟩
theorem At.cons{q0:aB}{r:List aB}{c:Nat}{q:aB}{p:Nat} :At (q0::r) c q p↔(q=q0/\p=c)\/At r (c+Sm.qP (dE q0)) q p:=by
 have a:=At.app (l:=[q0]) (r:=r) (c:=c) (q:=q) (p:=p);rw[At.one]at a;have e:Bk [q0]=Sm.qP (dE q0):=by simp[Bk,fM,Sm.aS]
 rw[e]at a;exact a
structure Wd(T:eD)(F:List (Option Int))(G:Nat->Sm.US->Prop)(Pr:Nat->Sm.US->List Int->List Int->Sm.US->Prop)(aD:Nat->Sm.US)(an:Nat):Prop where
 fv: ∀k t,T.pt k= .val t->VT t (Sm.bZ F k)
 fa: ∀k N,T.pt k= .aP N->0<=Sm.bZ F k/\Sm.bZ F k<N
 fc: ∀k j,T.pt k= .call j->F[k]?=some none
 aD: ∀j,j<an->G j (aD j)/\(aD j).i=j
 Pj: ∀j,j<an-> ∀u,G j u-> ∀a b,VT .int a->VT .bool b-> ∃ox oy u',Pr j u [a,b] [ox,oy] u'/\VT .int ox/\VT .fJ oy
def Jk(T:eD)(v:Va):Prop:=T.ty v.name=v.ty/\T.ls v.name=v.last/\(v.last=true->T.pt (T.lp v.name)= .val v.ty)
structure mx(T:eD)(A:Env)(V:Nm->Prop)(s:Sc)(r:Nat):Prop where
 t:NY T s
 yo: ∀v∈s.ready,v.clock=none->V v.name/\Kn A v.name r/\VT v.ty (val A v.name)
 wM: ∀v∈s.di,V v.name/\T.ls v.name=true/\T.pt (T.lp v.name)= .val v.ty
section
variable{T:eD}{F:List (Option Int)}{G:Nat->Sm.US->Prop}{Pr:Nat->Sm.US->List Int->List Int->Sm.US->Prop}{aD:Nat->Sm.US}{an:Nat}
theorem EO(f:Wd T F G Pr aD an){s:Rs}(h:Mem T G s)(lo hi:Nat):Mem T G (Dm F s lo hi):=by
 intro a;have b:=h a;cases c:T.pt a with
 |val d=>
  rw[c]at b;show VT d (if lo<=a/\a<hi then Sm.bZ F a else s.rd a);split
  ·exact f.fv a d c
  ·exact b
 |any=>trivial
 |aP e=>
  rw[c]at b;show 0<=(if lo<=a/\a<hi then Sm.bZ F a else s.rd a)/\(if lo<=a/\a<hi then Sm.bZ F a else s.rd a)<(e:Int);split
  ·exact f.fa a e c
  ·exact b
 |call k=>
  rw[c]at b;intro i j;have g:(if(lo<=a/\a<hi)/\F[a]?=some none then none else s.rs a)=some i:=j;split at g
  ·cases g
  ·grind
theorem mx.s{A:Env}{V:Nm->Prop}{s:Sc}{r:Nat}(h:mx T A V s r){rs:Rs}(a:Mem T G rs):Jh T A rs.rd V s r:=
 ⟨h.t,h.yo,λv b=>by
  obtain⟨c,d,e⟩:=h.wM v b;have:=a (T.lp v.name);rw[e]at this;exact⟨c,d,this⟩⟩
theorem mx.app{A:Env}{V:Nm->Prop}{s:Sc}{r r':Nat}(h:mx T A V s r)(a:Env)(c:r<=r'):mx T (A++a) V s r':=
 ⟨h.t,λv d e=>by
  obtain⟨f,b,g⟩:=h.yo v d e;exact⟨f,b.app a c,by rw[b.val a];exact g⟩,h.wM⟩
theorem mx.tc{A:Env}{V V':Nm->Prop}{s:Sc}{r:Nat}(h:mx T A V s r)(f: ∀e,V e->V' e):mx T A V' s r:=
 ⟨h.t,λv a g=>by obtain⟨b,c,d⟩:=h.yo v a g;exact⟨f _ b,c,d⟩,λv a=>by obtain⟨b,c,d⟩:=h.wM v a;exact⟨f _ b,c,d⟩⟩
theorem mx.bA{A:Env}{V:Nm->Prop}{s:Sc}{r:Nat}(h:mx T A V s r):mx T A V s.bA r:=⟨⟨h.t.1,λv a=>(by cases a),h.t.2.2⟩,h.yo,h.wM⟩
theorem mx.more{A:Env}{V:Nm->Prop}{s:Sc}{r:Nat}(h:mx T A V s r){l:List Va}(c: ∀v∈l,T.ty v.name=v.ty/\(v.clock=none->V v.name/\Kn A v.name r/\VT v.ty (val A v.name))):mx T A V (s.more l) r:=
 ⟨⟨λv b=>by
   rcases auS.1 b with a|a
   ·exact h.t.1 v a
   ·exact(c v a).1,h.t.2.1,h.t.2.2⟩,λv b d=>by
  rcases auS.1 b with a|a
  ·exact h.yo v a d
  ·exact(c v a).2 d,h.wM⟩
theorem N0{s:Sc}{t:Ty}{st:Bool}{d:Nat}{e:E}(h:GE s t st d e): ∀{A:Env} {rd:Nat->Int} {V:Nm->Prop} {r:Nat} (a:Env) (p:Nat),mx T A V s r->cG T (A++a) rd e p=cG T A rd e p:=by
 induction h with
 |v h=>intro A rd V r a p b;cases h with
  |vB h=>cases h<;>rfl
  |var h=>obtain⟨v,l,m,j,rfl⟩:=h;exact(b.yo v l j).2.1.val a
 |c h=>intro A rd V r a p b;cases h<;>rfl
 |ite j g k n f i=>intro A rd V r a p b;simp only[cG];rw[n a _ b,f a _ b,i a _ b]
 |ga j g f=>intro A rd V r a p b;rfl
 |arrow g k f i=>
  intro A rd V r a p b;simp only[cG];rw[f a _ b]
 |last h=>intro A rd V r a p b;obtain⟨v,l,m,j,rfl⟩:=h;rfl
 |neg g f=>intro A rd V r a p b;simp only[cG];rw[f a _ b]
 |arith o q g k f i=>intro A rd V r a p b;simp only[cG];rw[f a _ b,i a _ b]
 |not g f=>intro A rd V r a p b;simp only[cG];rw[f a _ b]
 |lH o u q g k f i=>intro A rd V r a p b;simp only[cG];rw[f a _ b,i a _ b]
theorem vQ{s:Sc}{t:Ty}{st:Bool}{d:Nat}{e:E}(h:GE s t st d e): ∀{A:Env} {rs:Rs} {V:Nm->Prop} {r l p:Nat},Mem T G rs->Jh T A rs.rd V s r->rF A V s l->iU T e p-> ∀f∈ej T A rs.rd e p,MT T f.1 f.2:=by
 induction h with
 |v h=>intro A rs V r l p g a i j f b;cases h with
  |vB h=>cases h<;>cases b
  |var h=>obtain⟨v,y,z,w,rfl⟩:=h;cases b
 |c h=>intro A rs V r l p g a i j f b;cases h<;>cases b
 |ite w n u B m o=>
  intro A rs V r l p g a i j f b;simp only[ej,auS]at b;rcases b with(k|k)|k
  ·exact B g a i j.1 f k
  ·exact m g a i j.2.1 f k
  ·exact o g a i j.2.2 f k
 |ga w n m=>
  intro A rs V r l p g a i j f b;have q:=(⟨⟨a.t.2.1,a.t.2.1,a.t.2.2⟩,i,a.wM⟩:Jh T A rs.rd V ⟨_,_,_⟩ l);simp only[ej,auX]at b;rcases b with rfl|k
  ·show MT T p _;unfold MT;rw[j.1,uh w];exact ot n q (kH g j.2)
  ·exact m g q i j.2 f k
 |arrow n u m o=>
  intro A rs V r l p g a i j f b;have q:=(⟨⟨a.t.2.1,a.t.2.1,a.t.2.2⟩,i,a.wM⟩:Jh T A rs.rd V ⟨_,_,_⟩ l);simp only[ej,auX,auS]at b;obtain⟨C,J,D,x⟩:=j;rcases b with rfl|k|rfl|k
  ·show MT T p _;unfold MT;rw[C];trivial
  ·grind
  ·unfold MT;simp only;rw[D,KV u q.t];exact ot u q (kH g x)
  ·exact o g q i x f k
 |last h=>intro A rs V r l p g a i j f b;obtain⟨v,y,z,w,rfl⟩:=h;cases b
 |neg n m=>intro A rs V r l p g a i j f b;exact m g a i j f b
 |arith F H n u m o=>
  intro A rs V r l p g a i j f b;simp only[ej,auS]at b;rcases b with k|k
  ·exact m g a i j.1 f k
  ·exact o g a i j.2 f k
 |not n m=>intro A rs V r l p g a i j f b;exact m g a i j f b
 |lH F I H n u m o=>
  intro A rs V r l p g a i j f b;simp only[ej,auS]at b;rcases b with k|k
  ·exact m g a i j.1 f k
  ·exact o g a i j.2 f k
theorem ou{s:Sc}{t:Ty}{st:Bool}{d:Nat}{e:E}(h:GE s t st d e):st=false->xE e=0/\ ∀(A:Env) (rd:Nat->Int) (p:Nat),ej T A rd e p= []:=by
 induction h with
 |v h=>intro _;cases h with
  |vB h=>cases h<;>exact⟨W,λ_ _ _=>rfl⟩
  |var h=>obtain⟨v,o,q,l,rfl⟩:=h;exact⟨W,λ_ _ _=>rfl⟩
 |c h=>intro _;cases h<;>exact⟨W,λ_ _ _=>rfl⟩
 |ite l i m r b j=>
  intro h;obtain⟨n,u⟩:=r h;obtain⟨a,f⟩:=b h;obtain⟨g,k⟩:=j h;refine⟨?_,λA rd p=>by simp only[ej,u,f,k];rfl⟩;simp only[xE]at n a g;simp[xE,cA,Sm.xP,Sm.eg,Sm.dt,n,a,g]
 |ga l i b=>intro h;cases h
 |arrow i m b j=>intro h;cases h
 |last h=>intro _;obtain⟨v,o,q,l,rfl⟩:=h;exact⟨W,λ_ _ _=>rfl⟩
 |neg i b=>intro h;obtain⟨a,f⟩:=b h;exact⟨by simp only[xE]at a;simp[xE,cA,Sm.xP,Sm.eg,Sm.dt,a],λA rd p=>by simp only[ej,f]⟩
 |arith w x i m b j=>intro h;obtain⟨a,f⟩:=b h;obtain⟨g,k⟩:=j h;exact⟨by simp only[xE]at a g;simp[xE,cA,Sm.xP,Sm.eg,Sm.dt,a,g],λA rd p=>by simp only[ej,f,k];rfl⟩
 |not i b=>intro h;obtain⟨a,f⟩:=b h;exact⟨by simp only[xE]at a;simp[xE,cA,Sm.xP,Sm.eg,Sm.dt,a],λA rd p=>by simp only[ej,f]⟩
 |lH w y x i m b j=>intro h;obtain⟨a,f⟩:=b h;obtain⟨g,k⟩:=j h;exact⟨by simp only[xE]at a g;simp[xE,cA,Sm.xP,Sm.eg,Sm.dt,a,g],λA rd p=>by simp only[ej,f,k];rfl⟩
end
def br(A E:Env):Prop:= ∃C,E=A++C
theorem br.refl(A:Env):br A A:=⟨[],by simp⟩
theorem br.trans{A a C:Env}(h:br A a)(g:br a C):br A C:=by obtain⟨b,rfl⟩:=h;obtain⟨c,rfl⟩:=g;exact⟨b++c,by simp⟩
theorem br.app(A a:Env):br A (A++a):=⟨a,rfl⟩
theorem br.get{A E:Env}(h:br A E){x:Nm}{e:Option Int×Nat×Nat}(g:Ex.get A x=some e):Ex.get E x=some e:=by obtain⟨a,rfl⟩:=h;exact mW g
theorem br.len{A E:Env}(h:br A E):A.length<=E.length:=by obtain⟨a,rfl⟩:=h;simp
theorem br.kn{A E:Env}(h:br A E){x:Nm}{r r':Nat}(g:Kn A x r)(b:r<=r'):Kn E x r':=by obtain⟨a,rfl⟩:=h;exact g.app a b
theorem br.val{A E:Env}(h:br A E){x:Nm}{r:Nat}(g:Kn A x r):Ex.val E x=Ex.val A x:=by obtain⟨a,rfl⟩:=h;exact g.val a
theorem mx.ext{T:eD}{A E:Env}{V:Nm->Prop}{s:Sc}{r r':Nat}(h:mx T A V s r)(g:br A E)(b:r<=r'):mx T E V s r':=by obtain⟨a,rfl⟩:=g;exact h.app a b
theorem po{T:eD}{s:Sc}{t:Ty}{st:Bool}{d:Nat}{e:E}(h:GE s t st d e){A a:Env}{rd:Nat->Int}{V:Nm->Prop}{r:Nat}(g:br A a)(p:Nat)(c:mx T A V s r):cG T a rd e p=cG T A rd e p:=by obtain⟨b,rfl⟩:=g;exact N0 h b p c
theorem HO{s:Sc}{t:Ty}{st:Bool}{d:Nat}{e:E}(h:GE s t st d e):st=false->GE s.bA t st d e:=by
 induction h with
 |v h=>intro _;exact .v h
 |c h=>intro _;exact .c h
 |ite l b g m a f=>intro h;exact .ite (m h) (a h) (f h)
 |ga l b a=>intro h;cases h
 |arrow b g a f=>intro h;cases h
 |last h=>intro _;exact .last h
 |neg b a=>intro h;exact .neg (a h)
 |arith i j b g a f=>intro h;exact .arith i j (a h) (f h)
 |not b a=>intro h;exact .not (a h)
 |lH i k j b g a f=>intro h;exact .lH i k j (a h) (f h)
theorem rF.bA{A:Env}{V:Nm->Prop}{s:Sc}{a:Nat} :rF A V s.bA a:= λv b=>by cases b
theorem Cc(E:Env)(y:Nm)(o:Option Int)(sb:Nat)(x:Nm):get (E++ [(y,o,sb)]) x=match get E x with|some e=>some e|none=>if y=x then some (o,sb,E.length)else none:=by
 unfold get;rw[vP];simp only[qR,awc]<;>cases qR E 0 x<;>rfl
theorem iB{E:Env}{y:Nm}{o:Option Int}{sb:Nat}(h:get E y=none):get (E++ [(y,o,sb)]) y=some (o,sb,E.length):=by rw[Cc,h];simp
theorem iC{E:Env}{y:Nm}{o:Option Int}{sb:Nat}{x:Nm}(h:get (E++ [(y,o,sb)]) x≠none):get E x≠none\/x=y:=by
 rw[Cc]at h;cases a:get E x with
 |some e=>exact .inl (by simp)
 |none=>rw[a]at h;simp at h;exact .inr h.symm
theorem kW{E:Env}{y:Nm}{o:Option Int}{sb:Nat}{x:Nm}(h:get E x=none)(b:x≠y):get (E++ [(y,o,sb)]) x=none:=by
 cases a:get (E++ [(y,o,sb)]) x with
 |none=>rfl
 |some e=>
  rcases iC (x:=x) (E:=E) (y:=y) (o:=o) (sb:=sb) (by rw[a];simp)with h1|h1
  ·grind
  ·grind
def EP(a:Nat)(E:Env)(v:Va):Prop:= ∃o sb i,get E v.name=some (some o,sb,i)/\a<=sb/\sb<=i/\VT v.ty o
theorem EP.mono{a b:Nat}{E c:Env}{v:Va}(h:EP a E v)(g:br E c)(k:b<=a):EP b c v:=by obtain⟨d,sb,e,f,l,i,j⟩:=h;exact⟨d,sb,e,g.get f,by omega,i,j⟩
theorem EP.kn{a:Nat}{E:Env}{v:Va}(h:EP a E v){r:Nat}(f:E.length<=r):Kn E v.name r/\VT v.ty (val E v.name):=by
 obtain⟨c,sb,d,b,g,i,e⟩:=h;have:=uO b;refine⟨⟨c,sb,d,b,by omega⟩,?_⟩;unfold val;rw[b];exact e
structure EQ(A E:Env)(outs:List Va)(n n':Nat):Prop where
 o: ∀v∈outs,EP A.length E v
 GJ: ∀x,get E x≠none->get A x≠none\/fu outs x\/gT n n' x
theorem Ng(f:Va->Int): ∀(L:List Va) (E:Env),(L.map (·.name)).Nodup->(∀v∈L,get E v.name=none)-> ∃b,br E b/\(∀v∈L,∃i,E.length<=i/\get b v.name=some (some (f v),i,i))/\ ∀x,get b x≠none->get E x≠none\/fu L x
 | [],E,_,_=>⟨E,br.refl E,λv a=>(by cases a),λx k=> .inl k⟩
 |g::L,E,d,h=>by
  rw[avm,awQ]at d;obtain⟨b,j,n,l⟩:=Ng f L (E++ [(g.name,some (f g),E.length)]) d.2 (λv a=>kW (h v (au7 _ a)) (λe=>d.1 (e▸avw a)));refine⟨b,(br.app _ _).trans j,λv a=> ?_,λx m=> ?_⟩
  ·rcases auX.1 a with rfl|a
   ·exact⟨E.length,auK _,j.get (iB (h v (avj ..)))⟩
   ·grind
  ·rcases l x m with c|⟨v,a,e⟩
   ·rcases iC c with c|rfl
    ·exact .inl c
    ·grind
   ·grind
theorem LS.Mu{a b:List Va}(h:LS a b): ∀v∈a,v∈b\/v.last=true:=by
 induction h with
 |nil=>intro v c;cases c
 |cK h f e=>
  intro v c;rcases auS.1 c with d|d
  ·grind
  ·grind
 |drop h f g e=>
  intro v c;rcases auS.1 c with d|d
  ·exact e v d
  ·grind
theorem Mw{T:eD}{I:Nat->Sm.US->Prop}{A E:Env}{outs l:List Va}{n n' u w:Nat}{rs:Rs}(K:Mem T I rs)(r:LS outs l)(x:(outs.map (·.name)).Nodup)(s: ∀v∈outs,Jk T v/\get A v.name=none)(L: ∀k,fu outs k-> ¬gT n n' k)
  (y:n<=u) (z:w<=n') (t:br A E) (h:EQ A E l u w): ∃m,br E m/\EQ A m outs n n'/\ ∀v∈outs,¬fu l v.name->T.ls v.name=true/\ ∃i,get m v.name=some (some (rs.rd (T.lp v.name)),i,i):=by
 have p: ∀v,v∈outs.filter (λv=>l.all λc=> !decide (c.name=v.name))↔v∈outs/\ ¬fu l v.name:= λv=>by
  rw[awP,av5];constructor
  ·rintro⟨f,d⟩;refine⟨f,?_⟩;rintro⟨c,j,e⟩;have:=d c j;simp[e]at this
  ·rintro⟨f,d⟩;refine⟨f,λc j=> ?_⟩;simp only[avW,awS];exactλe=>d ⟨c,j,e⟩
 obtain⟨m,B,C,M⟩:=Ng (λv=>rs.rd (T.lp v.name)) (outs.filter (λv=>l.all λc=> !decide (c.name=v.name))) E ((List.Sublist.map _ List.filter_sublist).nodup x) (λv a=>by
  obtain⟨f,d⟩:=(p v).1 a;cases N:get E v.name with
  |none=>rfl
  |some e=>
   rcases h.GJ v.name (by rw[N];simp)with b|b|b
   ·exact(b (s v f).2).elim
   ·exact(d b).elim
   ·exact(L _ ⟨v,f,W⟩ (b.mono y z)).elim)
 have D: ∀v∈outs,¬fu l v.name->v.last=true:= λv a g=>by
  rcases LS.Mu r v a with b|b
  ·exact(g ⟨v,b,W⟩).elim
  ·exact b
 refine⟨m,B,⟨λv a=> ?_,λk t=> ?_⟩,λv a g=> ?_⟩
 ·by_cases g:fu l v.name
  ·obtain⟨c,j,e⟩:=g;obtain⟨i,q⟩:=ave.1 (r.mem c j);obtain⟨J,o⟩:=ave.1 a;have O:i<(outs.map (·.name)).length:=by
    rcases auM i outs.length with h|h
    ·simpa using h
    ·rw[auP h]at q;cases q
   have:i=J:=(awW O x).1 (by simp[q,o,e]);subst this;rw[q]at o;injection o with o
   subst o;exact(h.o c j).mono B (auK _)
  ·obtain⟨i,f,d⟩:=C v ((p v).2 ⟨a,g⟩);have Q:=t.len;refine⟨_,i,i,d,by omega,auK _,?_⟩;obtain⟨P,F,G⟩:=(s v a).1;have H:=K (T.lp v.name);rw[G (D v a g)]at H;exact H
 ·rcases M k t with b|⟨v,a,e⟩
  ·rcases h.GJ k b with b|⟨v,a,e⟩|b
   ·exact .inl b
   ·exact .inr (.inl ⟨v,r.mem v a,e⟩)
   ·exact .inr (.inr (b.mono y z))
  ·exact .inr (.inl ⟨v,((p v).1 a).1,e⟩)
 ·obtain⟨i,f,d⟩:=C v ((p v).2 ⟨a,g⟩);refine⟨?_,i,d⟩;obtain⟨P,F,G⟩:=(s v a).1;rw[F];exact D v a g
def Cd(T:eD)(E:Env)(V:Nm->Prop)(v:Va):Prop:= ∃o sb i,get E v.name=some (o,sb,i)/\sb<=i/\match v.clock with
 |none=>o.isSome=true
 |some (k,x)=>V x/\T.ty x= .fJ/\Kn E x sb/\(o.isSome=true↔iT k=val E x)
theorem Cd.ext{T:eD}{E e:Env}{V:Nm->Prop}{v:Va}(h:Cd T E V v)(g:br E e):Cd T e V v:=by
 obtain⟨i,sb,j,l,m,a⟩:=h;refine⟨i,sb,j,g.get l,m,?_⟩;cases f:v.clock with
 |none=>rw[f]at a;exact a
 |some n=>
  obtain⟨o,p⟩:=n;rw[f]at a;obtain⟨k,b,c,d⟩:=a;exact⟨k,b,g.kn c (auK _),by rw[g.val c];exact d⟩
section
variable(T:eD)(F:List (Option Int))(G:Nat->Sm.US->Prop)(Pr:Nat->Sm.US->List Int->List Int->Sm.US->Prop)(aD:Nat->Sm.US)
def wP(Sub:Sc->List Va->Nat->Nat->bj->Prop):Prop:= ∀s outs n n' b,Sub s outs n n' b-> ∀(A:Env) (rs:Rs) (V:Nm->Prop) (p:Nat),Mem T G rs->mx T A V s A.length->(∀v∈outs,V v.name/\Jk T v/\v.clock=none/\get A v.name=none)->(outs.map (·.name)).Nodup->(∀x,V x-> ¬gT n n' x)->(∀x,gT n n' x->get A x=none)->qT T p b->
 ∃E,br A E/\EQ A E outs n n'/\ ∀E',br E E'->s6 T F E' Pr aD V rs p b
structure QX(A:Env)(V:Nm->Prop)(rs:Rs)(s:Sc)(outs:List Va)(n n':Nat)(qs:List aB)(c:Nat)(vs:List Va):Prop where
 m:Mem T G rs
 x:mx T A V s A.length
 o: ∀v∈outs,V v.name/\Jk T v/\v.clock=none/\get A v.name=none
 nd:(outs.map (·.name)).Nodup
 vv: ∀v∈vs,V v.name/\Jk T v
 vb: ∀x,V x->gT n n' x->fu vs x
 f: ∀x,gT n n' x->get A x=none
 ob: ∀x,fu outs x-> ¬gT n n' x
 sq: ∀q p,At qs c q p->Aq T q p
 sb: ∀q p,At qs c q p-> ∀(k:Nat) (a:bh),(cD q)[k]?=some a->qT T (oI q p k) (eb a)
structure QD(A E:Env)(V:Nm->Prop)(rs:Rs)(s:Sc)(outs:List Va)(n n':Nat)(qs:List aB)(c:Nat)(vs:List Va):Prop where
 x:br A E
 o:EQ A E outs n n'
 v: ∀v∈vs,Cd T E V v
 q: ∀E',br E E'->rF E' V s (E'.length+1)-> ∀q p,At qs c q p->Cb T F E' Pr aD V rs p q
 b: ∀E',br E E'-> ∀q p a,At qs c q p->(cD q)[fQ T E' rs p q]?=some a->s6 T F E' Pr aD V (pk T F E' rs p q a) (oI q p (fQ T E' rs p q)) (eb a)
end
theorem Aw{T:eD}{F:List (Option Int)}{g:Nat->Sm.US->Prop}{Pr:Nat->Sm.US->List Int->List Int->Sm.US->Prop}{aD:Nat->Sm.US}{R:Nat}{G:Sc->List Va->Nat->Nat->bj->Prop}(S:Wd T F g Pr aD R)(U:mZ G)(X:wP T F g Pr aD G)
  {A:Env} {V:Nm->Prop} {rs:Rs} {s:Sc} {outs:List Va} {n n' c:Nat} {q:aB} (e:QX T g A V rs s outs n n' [q] c []) (K:Nat) (N:Bool) (I: ∀b,br A b->fQ T b rs c q=K) (Y: ∀b,br A b->Bj T b rs c q=N)
  {a:bh} (J:(cD q)[K]?=some a) {l:List Va} {i j:Nat} {t:Sc} (k:LS outs l) (u:n<=i) (w:j<=n') (m:G t l i j (eb a)) (Z:mx T A V t A.length) (L: ∀x,x∈dQ q↔fu outs x):
  ∃E,br A E/\EQ A E outs n n'/\(∀v∈l,EP A.length E v)/\ ∀b,br E b->Ao T b rs q a/\(∀x∈dQ q,V x/\A.length<=jm b x)/\ ∀q' p a',At [q] c q' p->(cD q')[fQ T b rs p q']?=some a'->s6 T F b Pr aD V (pk T F b rs p q' a') (oI q' p (fQ T b rs p q')) (eb a'):=by
 have Q: ∀x,V x-> ¬gT i j x:= λx f m=>by obtain⟨v,d,_⟩:=e.vb x f (m.mono u w);cases d
 have M:=(LS.names k).nodup e.nd
 let y:Rs:=if N then Dm F rs (oI q c K) (oI q c K+Sm.bP (eV (eb a)))else rs
 have RG:Mem T g y:=by
  show Mem T g (if N then _ else rs);split
  ·exact EO S e.m _ _
  ·exact e.m
 obtain⟨E,z,O,e3⟩:=X t l i j (eb a) m A y V (oI q c K) RG Z (λv d=>e.o v (k.mem v d)) M Q (λx f=>e.f x (f.mono u w)) (e.sb q c (At.one.2 ⟨rfl,rfl⟩) K a J);obtain⟨E2,o,P,f3⟩:=Mw e.m k e.nd (λv d=>⟨(e.o v d).2.1,(e.o v d).2.2.2⟩) e.ob u w z O;refine⟨E2,z.trans o,P,λv d=>(O.o v d).mono o (auK _),λb r=>⟨λx f Wu=> ?_,λx f=> ?_,λq' p a' RI h=> ?_⟩⟩
 ·obtain⟨v,d,rfl⟩:=(L x).1 f;obtain⟨B,H,C⟩:=f3 v d (λhn=>Wu ((((U.st _ _ _ _ _ m V (λv d=>(e.o v (k.mem v d)).1) Q M).2.1) _).2 hn));exact⟨B,H,r.get C⟩
 ·obtain⟨v,d,rfl⟩:=(L x).1 f;obtain⟨ac,sb,H,B,C,g3,g4⟩:=P.o v d;refine⟨(e.o v d).1,?_⟩;unfold jm;rw[r.get B];exact C
 ·obtain⟨rfl,rfl⟩:=At.one.1 RI;have D:=(z.trans o).trans r;rw[I b D]at h⊢;rw[J]at h;injection h with h
  subst h;have:pk T F b rs p q' a=y:=by
   unfold pk;rw[Y b D,I b D]
  rw[this];exact e3 b (o.trans r)
theorem yF{c:Type}(l:List c)(f:c->Bool)(h: ∃a∈l,f a=true): ∃k a,l.findIdx? f=some k/\l[k]?=some a/\f a=true/\ ∀(i:Nat) (b:c),i<k->l[i]?=some b->f b=false:=by
 induction l with
 |nil=>obtain⟨a,j,_⟩:=h;cases j
 |cons e l m=>
  rw[List.findIdx?_cons];cases g:f e with
  |true=>exact⟨0,e,by simp,rfl,g,λi b n=>by omega⟩
  |false=>
   obtain⟨k,a,o,p,q,r⟩:=m (by
    grind)
   refine⟨k+1,a,by simp[o],p,q,λi b n d=> ?_⟩;cases i with
   |zero=>simp at d;subst d;exact g
   |succ i=>exact r i b (by omega) d
section
variable{T:eD}{F:List (Option Int)}{G:Nat->Sm.US->Prop}{Pr:Nat->Sm.US->List Int->List Int->Sm.US->Prop}{aD:Nat->Sm.US}{an:Nat}{Sub:Sc->List Va->Nat->Nat->bj->Prop}
theorem Jl(P:Wd T F G Pr aD an){A:Env}{V:Nm->Prop}{rs:Rs}{s:Sc}(g:Mem T G rs)(o:mx T A V s A.length){outs:List Va}{r:List aB}(h:p7 s outs r): ∀(c n n':Nat),(∀v∈outs,V v.name/\get A v.name=none)->(outs.map (·.name)).Nodup->(∀q p,At r c q p->Aq T q p)->
  ∃E,br A E/\(∀v∈outs,EP A.length E v)/\(∀x,get E x≠none->get A x≠none\/fu outs x)/\ ∀f,br E f->rF f V s (f.length+1)-> ∀q p,At r c q p->Cb T F f Pr aD V rs p q:=by
 induction h with
 |nil=>intro c n n' _ _ _;exact⟨A,br.refl A,λv d=>(by cases d),λx h=> .inl h,λf _ _ q p h=>(At.nil h).elim⟩
 | @snoc O q h b e i J=>
  intro c n n' z t B;rw[avi,avL]at t;obtain⟨E,j,K,C,L⟩:=J c n n' (λv d=>z v (auY _ d)) t.1 (λq p u=>B q p (At.app.2 (.inl u)));have D:=z b (au0 _ (av1 _));have H:get E b.name=none:=by
   cases M:get E b.name with
   |none=>rfl
   |some e=>
    rcases C b.name (by rw[M];simp)with a|⟨v,d,a⟩
    ·exact(a D.2).elim
    ·exact(t.2.2 v.name (avw d) b.name (by simp) a).elim
  have k:=o.ext j j.len;have I:=B (.df b.name e) (c+Bk q) (At.app.2 (.inr (At.one.2 ⟨rfl,rfl⟩)));have l:br E (E++ [(b.name,some (cG T E rs.rd e (c+Bk q)),E.length)]):=br.app _ _;refine⟨E++ [(b.name,some (cG T E rs.rd e (c+Bk q)),E.length)],j.trans l,λv d=> ?_,λx o=> ?_,λf w y N p u=> ?_⟩
  ·rcases auS.1 d with a|a
   ·exact(K v a).mono l (auK _)
   ·rw[auW]at a;subst a;exact⟨_,_,_,iB H,j.len,auK _,(ot i (k.s g) (kH g I))⟩
  ·rcases iC o with a|rfl
   ·rcases C x a with a|⟨v,d,a⟩
    ·exact .inl a
    ·exact .inr ⟨v,auY _ d,a⟩
   ·exact .inr ⟨b,au0 _ (av1 _),W⟩
  ·rcases At.app.1 u with a|a
   ·exact L f (l.trans w) y N p a
   ·obtain⟨rfl,rfl⟩:=At.one.1 a;have m:=l.trans w;refine⟨⟨D.1,.inl ⟨E.length,?_,?_⟩⟩,λ_=>vQ i g ((k.ext m (auK _)).s g) y I⟩
    ·rw[po i m _ k];exact w.get (iB H)
    ·exact oV i (by have:=m.len;omega) ((k.ext m (auK _)).s g) y
theorem N1{names:List Nm}{n n':Nat}{s:Sc}{outs:List Va}{aj:List bh}(h:mZ Sub)(j:nO Sub s outs names n aj n')(t:aj.length=names.length)(x:Int)(l: ∃c∈names,Sm.io cU c=x):
  ∃k a,(aj.findIdx? λa=>decide (Sm.io cU (kD a)=x))=some k/\aj[k]?=some a/\Sm.io cU (kD a)=x/\ ∀(i:Nat) (b:bh),i<k->aj[i]?=some b->Sm.io cU (kD b)≠x:=by
 obtain⟨c,m,e⟩:=l;obtain⟨i,f⟩:=ave.1 m;have g:i<aj.length:=by
  grind
 obtain⟨u,b,r,v,w,d,o,_⟩:=(mw h.le j).2 i aj[i] (auO g);rw[f]at d;injection d with d
 subst d;obtain⟨k,a,p,q,y,z⟩:=yF aj (λa=>decide (Sm.io cU (kD a)=x)) ⟨aj[i],avb g,by rw[o];exact au5 e⟩;exact⟨k,a,p,q,by grind,λi b f A=>by grind⟩
theorem HP(O:Wd T F G Pr aD an)(j:mZ Sub)(P:wP T F G Pr aD Sub){A:Env}{V:Nm->Prop}{rs:Rs}{s:Sc}{outs:List Va}{n n' c:Nat}{e:E}{aj:List bh}{t:Ty}{d:Nat}{names:List Nm}(l:GE s t true d e)(r:nO Sub s outs names n aj n')(Q:aj.length=names.length)(R:0<aj.length)
  (ac: ∀g,VT t g-> ∃c∈names,Sm.io cU c=g) (f:QX T G A V rs s outs n n' [.sw e aj] c []): ∃E,QD T F Pr aD A E V rs s outs n n' [.sw e aj] c []:=by
 have M:=f.sq _ _ (At.one.2 ⟨rfl,rfl⟩);have u:=ot l (f.x.s f.m) (kH f.m M);obtain⟨k,i,S,z,k3,U⟩:=N1 j r Q _ (ac _ u);have B: ∀a,br A a->cG T a rs.rd e c=cG T A rs.rd e c:= λa p=>po l p c f.x
 have C: ∀a,br A a->fQ T a rs c (.sw e aj)=k:= λa p=>by
  show((aj.findIdx? λi=>decide (Sm.io cU (kD i)=cG T a rs.rd e c)).getD 0)=k;rw[B a p,S];rfl
 obtain⟨cn,b,y,D,H,I,rfl,w,J,x,X,Y⟩:=(mw j.le r).2 k i z;have Z: ∀g,g∈dQ (.sw e aj)↔fu outs g:= λg=>by
  have m:=wO j (aj:=aj) (outs:=outs) (n:=n) (n':=n') R (λN i hi=>by obtain⟨c,b,y,D,H,_,rfl,I,g2,w,J,x⟩:=(mw j.le r).2 N i hi;exact⟨b,y,D,H,W,I,g2,w,J,_,x⟩);exact(eE (q:= .sw e aj)).trans (m.1 f.ob f.nd g)
 obtain⟨E,K,e2,e3,L⟩:=Aw O j P f k false C (λ_ _=>rfl) z w x X Y f.x.bA Z;refine⟨E,K,e2,λv u=>(by cases u),λa o m q ah RI=> ?_,λa o=>(L a o).2.2⟩;obtain⟨rfl,rfl⟩:=At.one.1 RI;obtain⟨f1,f2,f3⟩:=L a o;have h:=K.trans o;refine⟨⟨A.length,_,h.len,oV l (by have:=h.len;omega) ((f.x.ext h (auK _)).s f.m) m,f2,?_,?_,?_,f1⟩,vQ l f.m ((f.x.ext h (auK _)).s f.m) m M⟩
 ·simp_all
 ·simp_all
 ·rw[C a h,B a h];exact U
theorem GK(x:Wd T F G Pr aD an)(o:mZ Sub)(y:wP T F G Pr aD Sub){A:Env}{V:Nm->Prop}{rs:Rs}{s:Sc}{outs:List Va}{n n' c:Nat}{e:E}{b:bj}{d:Nat}(m:GE s .bool true d e)(p:Sub s outs n n' b)
  (f:QX T G A V rs s outs n n' [.reset e b] c []): ∃E,QD T F Pr aD A E V rs s outs n n' [.reset e b] c []:=by
 have z: ∀g,br A g->cG T g rs.rd e c=cG T A rs.rd e c:= λg l=>po m l c f.x
 have B: ∀h,h∈dQ (.reset e b)↔fu outs h:= λh=>by
  have i:=wO o (aj:=[.mk e0 b [] []]) (outs:=outs) (n:=n) (n':=n') Nat.one_pos (λw a r=>by
   have C:w=0:=by
    grind
   subst C;simp at r;subst r;exact⟨b,outs,n,n',W,LS.refl _,λ_=>rfl,auK _,auK _,s,p⟩)
  exact(eE (q:= .reset e b)).trans (i.1 f.ob f.nd h)
 obtain⟨E,t,D,M,u⟩:=Aw x o y f 0 (decide (cG T A rs.rd e c≠0)) (λ_ _=>rfl) (λg l=>by show decide (cG T g rs.rd e c≠0)=_;rw[z g l]) (a:= .mk e0 b [] []) W (LS.refl outs) (auK _) (auK _) p f.x B;refine⟨E,t,D,λv H=>(by cases H),λg j i q L I=> ?_,λg j=>(u g j).2.2⟩;obtain⟨rfl,rfl⟩:=At.one.1 I;obtain⟨J,K,N⟩:=u g j;have k:=t.trans j;exact⟨⟨A.length,k.len,oV m (by have:=k.len;omega) ((f.x.ext k (auK _)).s f.m) i,K,J⟩,vQ m f.m ((f.x.ext k (auK _)).s f.m) i (f.sq _ _ (At.one.2 ⟨rfl,rfl⟩))⟩
theorem ES{A b:Env}{V:Nm->Prop}{s:Sc}{r:Nat}(g:br A b)(c:mx T A V s r)(rd:Nat->Int): ∀(l:List Tr),(∀t∈l,∃st d,GE s .bool st d t.e)->jv T b rd l=jv T A rd l
 | [],_=>rfl
 |t::l,a=>by
  obtain⟨st,d,e⟩:=a t (avj ..);simp only[jv];rw[po e g 0 c,ES g c rd l (λt f=>a t (au7 _ f))]
theorem ul{A:Env}{rd:Nat->Int} : ∀{l:List Tr} {t:Tr},jv T A rd l=some t->t∈l
 | [],t,a=>by cases a
 |b::l,t,a=>by
  unfold jv at a;split at a
  ·grind
  ·exact au7 _ (ul a)
theorem N2{aj:List bh}(e: ∀(b:Nat) (a:bh),aj[b]?=some a->kD a=nm 83 b){k:Nat}(f:k<aj.length):(aj.findIdx? λa=>decide (kD a=nm 83 k))=some k:=by
 obtain⟨d,a,g,h,i,j⟩:=yF aj (λa=>decide (kD a=nm 83 k)) ⟨aj[k],avb f,by grind⟩;have c:kD a=nm 83 k:=by grind
 rw[e d a h]at c;have:=(iX c).2;rw[g,this]
theorem Ce(aj:List bh)(x:Nm):Sm.nH (eZ aj) x=aj.findIdx? λa=>decide (kD a=x):=by
 unfold Sm.nH;rw[pE,awY]
 congr 1
 funext a
 cases a;rfl
theorem Jm(hW:Wd T F G Pr aD an)(H:mZ Sub)(hD:wP T F G Pr aD Sub){A:Env}{V:Nm->Prop}{rs:Rs}{s:Sc}{outs:List Va}{n n' c:Nat}{aj:List bh}{N:Nat}(hN:1<=N)(ha:u6 Sub s outs N n aj n')(hl:aj.length=N)
  (g:QX T G A V rs s outs n n' [.aP aj] c []): ∃E,QD T F Pr aD A E V rs s outs n n' [.aP aj] c []:=by
 have z:=(xF H.le ha).2;have Qp:0<=rs.rd c/\rs.rd c<aj.length:=by have:=g.m c;rw[g.sq _ _ (At.one.2 ⟨rfl,rfl⟩)]at this;exact this
 have PP:(rs.rd c).toNat<aj.length:=by omega
 have d9: ∀(k:Nat) (a:bh),aj[k]?=some a->kD a=nm 83 k:= λk a I=>by obtain⟨b,y,J,K,u1,u2,rfl,_⟩:=z k a I;rfl
 have Y:=auO PP;have L: ∀f,f<N->(aj.findIdx? λa=>decide (kD a=nm 83 f))=some f:= λf i=>N2 d9 (by omega)
 have Z: ∀f,f<N->sH aj (nm 83 f)=f:= λf i=>by unfold sH;rw[L f i];rfl
 obtain⟨b0,l0,m1,m2,j,i7,q1,q2,q3,q4,q5,q6,M,q8⟩:=z _ _ Y;have ah:((aj[(rs.rd c).toNat]?).map jY).getD []=j:=by rw[Y];simp only[awC,Option.getD_some];rw[q1];rfl
 have co: ∀d,br A d->jv T d rs.rd j=jv T A rs.rd j:= λd p=>ES p g.x.bA rs.rd j (λh ht=>⟨_,_,(M.2 h ht).1⟩)
 have ac: ∀d,fQ T d rs c (.aP aj)=match jv T d rs.rd j with|none=>(rs.rd c).toNat|some h=>sH aj h.to:= λd=>by
  show(match jv T d rs.rd (((aj[(rs.rd c).toNat]?).map jY).getD [])with|none=>(rs.rd c).toNat|some h=>sH aj h.to)=_;rw[ah]
 have d6: ∀d,Bj T d rs c (.aP aj)=match jv T d rs.rd j with|none=>rs.rp c|some h=> !h.fV:= λd=>by
  show(match jv T d rs.rd (((aj[(rs.rd c).toNat]?).map jY).getD [])with|none=>rs.rp c|some h=> !h.fV)=_;rw[ah]
 have d7:fQ T A rs c (.aP aj)<aj.length:=by
  rw[ac A];cases m:jv T A rs.rd j with
  |none=>exact PP
  |some h=>
   obtain⟨f,i,e⟩:=(M.2 h (ul m)).2;simp only;rw[e,Z f i];omega
 have O: ∀d,br A d->fQ T d rs c (.aP aj)=fQ T A rs c (.aP aj):= λd p=>by rw[ac,ac,co d p]
 have f9: ∀d,br A d->Bj T d rs c (.aP aj)=Bj T A rs c (.aP aj):= λd p=>by rw[d6,d6,co d p]
 obtain⟨a,C⟩: ∃a,aj[fQ T A rs c (.aP aj)]?=some a:=⟨_,auO d7⟩;obtain⟨b,y,J,K,P,Q,r1,r2,r3,r4,r5,r6,r7,r8⟩:=z _ _ C;have hd: ∀t,t∈dQ (.aP aj)↔fu outs t:= λt=>by
  have hA:=wO H (aj:=aj) (outs:=outs) (n:=n) (n':=n') (by omega) (λk a I=>by obtain⟨b,y,J,K,u1,u2,rfl,R,S,g3,g4,g5,_⟩:=z k a I;exact⟨b,y,J,K,W,R,S,g3,g4,_,g5⟩);exact(eE (q:= .aP aj)).trans (hA.1 g.ob g.nd t)
 obtain⟨l,gc⟩: ∃l,fQ T A rs c (.aP aj)=l:=⟨_,rfl⟩;rw[gc]at O C d7 r1;subst r1;obtain⟨E,e1,e2,e3,e4⟩:=Aw hW H hD g l _ O f9 (a:= .mk (nm 83 l) b P Q) C r2 r4 r5 r6 g.x.bA hd;refine⟨E,e1,e2,λv B=>(by cases B),λd u hA q d8 RI=> ?_,λd u=>(e4 d u).2.2⟩;obtain⟨rfl,rfl⟩:=At.one.1 RI;obtain⟨f1,f2,f3⟩:=e4 d u;have o:=e1.trans u;refine⟨⟨A.length,.mk (nm 83 l) b P Q,_,o.len,Qp.1,Y,λD m=> ?_,f2,?_,λD m=> ?_,f1⟩,trivial⟩
 ·rw[q1]at m;obtain⟨w,f,i,x⟩:=M.2 D m;obtain⟨U,X⟩:=ou (T:=T) w W;refine⟨oV w (by have:=o.len;omega) ((g.x.ext o (auK A.length)).bA.s g.m) rF.bA,U,X _ _ _,f,?_,?_⟩
  ·rw[Ce,x];exact L f i
  ·rw[x,Z f i]
 ·rw[O d o];exact C
 ·obtain⟨w,f,i,x⟩:=r8.2 D m;obtain⟨U,X⟩:=ou (T:=T) w W;have ge:mx T d V (s.more y) (d.length+1):=(g.x.ext o (by have:=o.len;omega)).more λv B=>by
   have Yt:=r2.mem v B;obtain⟨R,S⟩:=((e3 v B).mono u (auK _)).kn (r:=d.length+1) (by omega);exact⟨(g.o v Yt).2.1.1,λ_=>⟨(g.o v Yt).1,R,S⟩⟩
  have i6:Mem T G (pk T F d rs d8 (.aP aj) (.mk (nm 83 l) b P Q)):=by
   unfold pk;split
   ·exact EO hW g.m _ _
   ·exact g.m
  refine⟨fb.tc (λt hx=> .inl hx) (oV w (auK _) (ge.bA.s i6) rF.bA),U,X _ _ _,f,?_,?_⟩
  ·rw[Ce,x];exact L f i
  ·rw[x,Z f i]
end
end Go.Ex
