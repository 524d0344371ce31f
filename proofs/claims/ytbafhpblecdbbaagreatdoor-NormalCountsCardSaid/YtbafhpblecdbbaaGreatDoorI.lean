/- A part of the proof of the last text of this claim, without conditions. -/
import Derived.Test.YtbafhpblecdbbaaGreatDoorH
set_option maxRecDepth 4000
set_option linter.all false
namespace Go.Proofs
open Go.Mt Go.Mk
open Tryz
instance:bu prog 263:=dz (by kernel_rfl)
instance:bu prog 264:=dz (by kernel_rfl)
instance:bu prog 223:=dz (by kernel_rfl)
instance:bu prog 266:=dz (by kernel_rfl)
instance:bu prog 167:=dz (by kernel_rfl)
structure vi(s:Sc):Prop where
 ready:s.ready.length<=100000
 all:s.all.length<=100000
 aY:s.aY.length<=100000
def vi.wide{s:Sc}(h:vi s):vi ⟨s.all,s.all,s.aY⟩:=⟨h.all,h.all,h.aY⟩
section
variable(zs:List Int)(v:D)(az:Nat)(main:Bool)
def tY(d:Nat):Prop:=∀(s:Sc),vi s->∀(t:Ty) (a:Bool) (g:GS),g.i<=zs.length->DT prog 223 [.ref 1 0,.d (.agg s.cells),.d (.agg t.cells),.d (.int .i64 ((d:Nat):Int)),.d (.bool a)] (GH v az main g) λr K=>∃(e:E) (b:GS),r=.d (.agg e.cells)/\K=GH v az main b/\GE s t a d e/\Mv zs g b
def I1(d:Nat):Prop:=∀(s:Sc),vi s->∀(t:Ty) (a:Bool) (g:GS),g.i<=zs.length->DT prog 266 [.ref 1 0,.d (.agg s.cells),.d (.agg t.cells),.d (.int .i64 ((d:Nat):Int)),.d (.bool a)] (GH v az main g) λr K=>∃(e:E) (b:GS),r=.d (.agg e.cells)/\K=GH v az main b/\GE s t a d e/\Mv zs g b
end
section
variable{zs:List Int}{v:D}(ht:Tape zs v)(az:Nat)(main:Bool)
include ht
def HU(d:Nat)(O:d<=100)(g:tY zs v az main d):I1 zs v az main (d+1):=by
 intro s c F f u G;obtain⟨P,Q,⟨j,i,rfl,rfl,w⟩,h⟩:=e9 ht az main 6 (by omega) (by omega) u G;have R:=w.lt;have a:=w.mv;have b:((d+1:Nat):Int)-1=(d:Int):=by omega
 cases F with
 |iO=>
  obtain⟨t,x,⟨k,n,rfl,rfl,o,q⟩,l⟩:=mF ht az main s.ready c.ready .iO i a.le;obtain⟨y,z,A,B,C,H,m⟩:=k.shape;rw[m]at l;refine DT.ob func266 W ntmps266 W<|dO [2,2,25] W<|K_ (aD h W W)<|dR [2,3,2,0,2,0,2,116] W<|K_ (aD l W W)<|dL [] W<|DC.ret ⟨_,W,k,n,by rw[m];rfl,rfl,.v o,a.trans q⟩
 |int=>
  obtain⟨N,S,⟨k,x,rfl,rfl,y,m⟩,n⟩:=g s c .int f i a.le;obtain⟨r2,K2,⟨o,B,rfl,rfl,C,H⟩,z⟩:=g s c .int f x m.le;obtain⟨T,U,V,X,Y,Z,l⟩:=k.shape;obtain⟨k2,Ri,n2,s2,a2,b2,q⟩:=o.shape;have A:= λa=>jT 7 a k o
  rw[l]at n;rw[q]at z;rw[l,q]at A;rcases agJ j 5 with I|I
  .have J:∃a:Int,a∈[(3:Int),4,5,6,7]/\([[D.int .u8 3],[.int .u8 4],[.int .u8 5],[.int .u8 6],[.int .u8 7]]:List (List D))[((j:Nat):Int).toNat]?=some [.int .u8 a]:=by
    have:j=0\/j=1\/j=2\/j=3\/j=4:=by omega
    rcases this with rfl|rfl|rfl|rfl|rfl
    .grind
    .grind
    .grind
    .grind
    .grind
   obtain⟨t,K,L⟩:=J;have M:(((j:Nat):Int)==5)=false:=ahG.2 (by omega);refine DT.ob func266 W ntmps266 W<|dO [2,2,25] W<|K_ (aD h W W)<|dR [2,3,2,1,2,2,32] W<|K_ (dW M W W W W)<|dR [0,2,46] W<|K_ (cD W W W (by omega)) ?_;rw[b];refine dR [48] W<|K_ (aD n W W)<|dL [] W ?_;apply Le fG
   .intro s0 Oo;refine fR 2 W<|bE W W W (ago j) L W<|fR 6 W<|fK W W W (by omega) ?_;rw[b];refine fR 1 W<|bt z W W<|bc (A t) W W<|fR 1 W<|TF.nil ⟨by kernel_rfl,rfl⟩
   exact DC.ret ⟨_,W,.bin t k o,B,by rw[E.cells,l,q];rfl,rfl,.arith t K y C,a.trans (m.trans H)⟩
  .obtain rfl:j=5:=by omega
   refine DT.ob func266 W ntmps266 W<|dO [2,2,25] W<|K_ (aD h W W)<|dR [2,3,2,1,2,2,1,2,37] W<|K_ (cD W W W (by omega)) ?_;rw[b];refine dR [39] W<|K_ (aD n W W)<|dL [] W<|DC.ret ⟨_,W,.un 2 k,x,by rw[E.cells,l];rfl,rfl,.neg y,a.trans m⟩
 |bool=>
  refine DT.mono (p:= λr K=>∃(e:E) (a:GS),r=.d (.agg e.cells)/\K=GH v az main a/\GE s .bool f (d+1) e/\Mv zs u a) ?_ (λ_ _ h=>h);have L:j=0\/j=1\/j=2\/j=3\/j=4\/j=5:=by omega
  rcases L with rfl|rfl|rfl|rfl|rfl|rfl
  .skip
   obtain⟨r3,K3,⟨B,M,rfl,rfl,N⟩,C⟩:=e9 ht az main 3 (by omega) (by omega) i a.le;have t:=N.mv;obtain⟨S,T,⟨k,x,rfl,rfl,y,m⟩,n⟩:=g s c .bool f M t.le;obtain⟨r2,K2,⟨o,H,rfl,rfl,I,J⟩,z⟩:=g s c .bool f x m.le;obtain⟨U,V,X,Y,Z,b1,l⟩:=k.shape;obtain⟨k2,Ri,n2,s2,a2,b2,q⟩:=o.shape;rw[l]at n;rw[q]at z;rcases ag5 B with rfl|ac
   .skip
    refine DT.ob func266 W ntmps266 W<|dO [2,2,25] W<|K_ (aD h W W)<|dR [2,3,2,0,2,1,2,2,2,0,2,0,2,80] W ?_
    first|refine K_ (aQ W W) ?_|(refine K_ (aE W) ?_;refine K_ (aD C W W) ?_)
    refine dR [1,2,87] W<|K_ (cD W W W (by omega)) ?_;rw[b];refine dR [89] W<|K_ (aD n W W)<|dL [] W<|DC.ret ⟨_,W,.un 1 k,x,by rw[E.cells,l];rfl,rfl,.not y,a.trans (t.trans m)⟩
   .skip
    have K:(((B:Nat):Int)==0)=false:=ahG.2 (by omega);refine DT.ob func266 W ntmps266 W<|dO [2,2,25] W<|K_ (aD h W W)<|dR [2,3,2,0,2,1,2,2,2,0,2,0,2,80] W ?_
    first|refine K_ (aQ W W) ?_|(refine K_ (aE W) ?_;refine K_ (aD C W W) ?_)
    refine dR [81] W ?_
    first|refine K_ (aQ W W) ?_|(refine K_ (aE W) ?_;refine K_ (dW K W W W W) ?_)
    refine dL [0] W ?_;have A:=jT 7 8 k o;rw[l,q]at A;refine dO [2,96] W<|K_ (cD W W W (by omega)) ?_;rw[b];refine dR [98] W<|K_ (aD n W W)<|dL [] W ?_;apply Le fG
    .intro s0 Oo;refine fR 2 W<|bE W W W (by decide) (r:=[.int .u8 8]) W W<|fR 6 W<|fK W W W (by omega) ?_;rw[b];refine fR 1 W<|bt z W W<|bc A W W<|fR 1 W<|TF.nil ⟨by kernel_rfl,rfl⟩
    exact DC.ret ⟨_,W,.bin 8 k o,H,by rw[E.cells,l,q];rfl,rfl,.qM 8 _ (.inl ⟨by simp,rfl⟩) y I,a.trans (t.trans (m.trans J))⟩
  .skip
   obtain⟨H,I,⟨k,y,rfl,rfl,z,o⟩,q⟩:=g s c .bool f i a.le;obtain⟨U,V,⟨m,A,rfl,rfl,B,C⟩,t⟩:=g s c .bool f y o.le;obtain⟨J,K,M,N,S,T,l⟩:=k.shape;obtain⟨X,Y,Z,s2,a2,b2,n⟩:=m.shape;rw[l]at q;rw[n]at t;refine DT.ob func266 W ntmps266 W<|dO [2,2,25] W<|K_ (aD h W W)<|dL [2,3,2,0,2,1,2,2,2,0,2,0,2,0] W ?_;have x:=jT 7 9 k m;rw[l,n]at x;refine dO [2,96] W<|K_ (cD W W W (by omega)) ?_;rw[b];refine dR [98] W<|K_ (aD q W W)<|dL [] W ?_;apply Le fG
   .intro s0 Oo;refine fR 2 W<|bE W W W (by decide) (r:=[.int .u8 9]) W W<|fR 6 W<|fK W W W (by omega) ?_;rw[b];refine fR 1 W<|bt t W W<|bc x W W<|fR 1 W<|TF.nil ⟨by kernel_rfl,rfl⟩
   exact DC.ret ⟨_,W,.bin 9 k m,A,by rw[E.cells,l,n];rfl,rfl,.qM 9 _ (.inl ⟨by simp,rfl⟩) z B,a.trans (o.trans C)⟩
  .skip
   obtain⟨H,I,⟨k,y,rfl,rfl,z,o⟩,q⟩:=g s c .bool f i a.le;obtain⟨U,V,⟨m,A,rfl,rfl,B,C⟩,t⟩:=g s c .bool f y o.le;obtain⟨J,K,M,N,S,T,l⟩:=k.shape;obtain⟨X,Y,Z,s2,a2,b2,n⟩:=m.shape;rw[l]at q;rw[n]at t;refine DT.ob func266 W ntmps266 W<|dO [2,2,25] W<|K_ (aD h W W)<|dL [2,3,2,0,2,1,2,2,2,0,2,0,2,0] W ?_;have x:=jT 7 10 k m;rw[l,n]at x;refine dO [2,96] W<|K_ (cD W W W (by omega)) ?_;rw[b];refine dR [98] W<|K_ (aD q W W)<|dL [] W ?_;apply Le fG
   .intro s0 Oo;refine fR 2 W<|bE W W W (by decide) (r:=[.int .u8 10]) W W<|fR 6 W<|fK W W W (by omega) ?_;rw[b];refine fR 1 W<|bt t W W<|bc x W W<|fR 1 W<|TF.nil ⟨by kernel_rfl,rfl⟩
   exact DC.ret ⟨_,W,.bin 10 k m,A,by rw[E.cells,l,n];rfl,rfl,.qM 10 _ (.inl ⟨by simp,rfl⟩) z B,a.trans (o.trans C)⟩
  .skip
   obtain⟨H,I,⟨k,y,rfl,rfl,z,o⟩,q⟩:=g s c .int f i a.le;obtain⟨U,V,⟨m,A,rfl,rfl,B,C⟩,t⟩:=g s c .int f y o.le;obtain⟨J,K,M,N,S,T,l⟩:=k.shape;obtain⟨X,Y,Z,s2,a2,b2,n⟩:=m.shape;rw[l]at q;rw[n]at t;refine DT.ob func266 W ntmps266 W<|dO [2,2,25] W<|K_ (aD h W W)<|dR [2,3,2,0,2,1,2,2,2,1,2,68] W<|K_ (aL dM W W)<|dL [2,0,2,0] W ?_;have x:=jT 7 13 k m;rw[l,n]at x;refine dO [2,96] W<|K_ (cD W W W (by omega)) ?_;rw[b];refine dR [98] W<|K_ (aD q W W)<|dL [] W ?_;apply Le fG
   .intro s0 Oo;refine fR 2 W<|bE W W W (by decide) (r:=[.int .u8 13]) W W<|fR 6 W<|fK W W W (by omega) ?_;rw[b];refine fR 1 W<|bt t W W<|bc x W W<|fR 1 W<|TF.nil ⟨by kernel_rfl,rfl⟩
   exact DC.ret ⟨_,W,.bin 13 k m,A,by rw[E.cells,l,n];rfl,rfl,.qM 13 _ (.inr (.inl ⟨by simp,rfl⟩)) z B,a.trans (o.trans C)⟩
  .skip
   obtain⟨H,I,⟨k,y,rfl,rfl,z,o⟩,q⟩:=g s c .int f i a.le;obtain⟨U,V,⟨m,A,rfl,rfl,B,C⟩,t⟩:=g s c .int f y o.le;obtain⟨J,K,M,N,S,T,l⟩:=k.shape;obtain⟨X,Y,Z,s2,a2,b2,n⟩:=m.shape;rw[l]at q;rw[n]at t;refine DT.ob func266 W ntmps266 W<|dO [2,2,25] W<|K_ (aD h W W)<|dR [2,3,2,0,2,1,2,2,2,1,2,68] W<|K_ (aL dM W W)<|dL [2,0,2,0] W ?_;have x:=jT 7 16 k m;rw[l,n]at x;refine dO [2,96] W<|K_ (cD W W W (by omega)) ?_;rw[b];refine dR [98] W<|K_ (aD q W W)<|dL [] W ?_;apply Le fG
   .intro s0 Oo;refine fR 2 W<|bE W W W (by decide) (r:=[.int .u8 16]) W W<|fR 6 W<|fK W W W (by omega) ?_;rw[b];refine fR 1 W<|bt t W W<|bc x W W<|fR 1 W<|TF.nil ⟨by kernel_rfl,rfl⟩
   exact DC.ret ⟨_,W,.bin 16 k m,A,by rw[E.cells,l,n];rfl,rfl,.qM 16 _ (.inr (.inl ⟨by simp,rfl⟩)) z B,a.trans (o.trans C)⟩
  .skip
   obtain⟨r3,K3,⟨o,J,rfl,rfl,z⟩,K⟩:=wJ ht az main i a.le;obtain⟨M,N,⟨k,A,rfl,rfl,B,q⟩,t⟩:=g s c o f J z.le;obtain⟨Z,K2,⟨m,C,rfl,rfl,H,I⟩,x⟩:=g s c o f A q.le;obtain⟨S,T,U,V,X,Y,l⟩:=k.shape;obtain⟨k2,Ri,n2,s2,a2,b2,n⟩:=m.shape;rw[l]at t;rw[n]at x;refine DT.ob func266 W ntmps266 W<|dO [2,2,25] W<|K_ (aD h W W)<|dR [2,3,2,0,2,1,2,2,2,1,2,68] W<|K_ (aL dM W W)<|dR [2,1,2,72] W<|K_ (aD K W W)<|dL [2,0] W ?_;have y:=jT 7 11 k m;rw[l,n]at y;refine dO [2,96] W<|K_ (cD W W W (by omega)) ?_;rw[b];refine dR [98] W<|K_ (aD t W W)<|dL [] W ?_;apply Le fG
   .intro s0 Oo;refine fR 2 W<|bE W W W (by decide) (r:=[.int .u8 11]) W W<|fR 6 W<|fK W W W (by omega) ?_;rw[b];refine fR 1 W<|bt x W W<|bc y W W<|fR 1 W<|TF.nil ⟨by kernel_rfl,rfl⟩
   exact DC.ret ⟨_,W,.bin 11 k m,C,by rw[E.cells,l,n];rfl,rfl,.qM 11 _ (.inr (.inr W)) B H,a.trans (z.trans (q.trans I))⟩
def Gc:tY zs v az main 0:=by
 intro s d t j g e;obtain⟨k,l,⟨a,f,rfl,rfl,h,i⟩,b⟩:=mF ht az main s.ready d.ready t g e;obtain⟨m,n,o,p,q,r,c⟩:=a.shape;rw[c]at b;refine DT.ob func223 W ntmps223 W<|dO [2,2,1,2,30] W<|K_ (aD b W W)<|dL [] W<|DC.ret ⟨_,W,a,f,by rw[c];rfl,rfl,.v h,i⟩
def Gd(d:Nat)(C:d<=100)(i:tY zs v az main d):tY zs v az main (d+1):=by
 have k:=HU ht az main d C i;intro s c t h B D;obtain⟨N,O,⟨j,g,rfl,rfl,q⟩,e⟩:=e9 ht az main 12 (by omega) (by omega) B D;have P:=q.lt;have a:=q.mv;have l:((d+1:Nat):Int)-1=(d:Int):=by omega
 have f:decide (((d+1:Nat):Int)<=0)=false:=ahc (by omega);have F:j=0\/j=1\/j=2\/j=3\/j=4\/j=5\/j=6\/j=7\/j=8\/j=9\/j=10\/j=11:=by omega
 rcases F with rfl|rfl|rfl|rfl|rfl|rfl|rfl|rfl|rfl|rfl|rfl|rfl
 .skip
  obtain⟨w,x,⟨m,p,rfl,rfl,r,u⟩,n⟩:=gZ ht az main t g a.le;obtain⟨y,z,A,G,H,I,o⟩:=m.shape;rw[o]at n;refine DT.ob func223 W ntmps223 W<|dO [2,2,25] W<|K_ (dW f W W W W)<|dR [0,2,35] W<|K_ (aD e W W)<|dR [3,2,1,2,40] W<|K_ (aD n W W)<|dL [] W<|DC.ret ⟨_,W,m,p,by rw[o];rfl,rfl,.c r,a.trans u⟩
 .skip
  obtain⟨w,x,⟨m,p,rfl,rfl,u,r⟩,n⟩:=mF ht az main s.ready c.ready t g a.le;obtain⟨y,z,A,G,H,I,o⟩:=m.shape;rw[o]at n;refine DT.ob func223 W ntmps223 W<|dO [2,2,25] W<|K_ (dW f W W W W)<|dR [0,2,35] W<|K_ (aD e W W)<|dR [3,2,0,2,1,1,2,48] W<|K_ (aD n W W)<|dL [] W<|DC.ret ⟨_,W,m,p,by rw[o];rfl,rfl,.v u,a.trans r⟩
 .skip
  obtain⟨w,x,⟨m,p,rfl,rfl,u,r⟩,n⟩:=mF ht az main s.ready c.ready t g a.le;obtain⟨y,z,A,G,H,I,o⟩:=m.shape;rw[o]at n;refine DT.ob func223 W ntmps223 W<|dO [2,2,25] W<|K_ (dW f W W W W)<|dR [0,2,35] W<|K_ (aD e W W)<|dR [3,2,0,2,0,2,1,2,48] W<|K_ (aD n W W)<|dL [] W<|DC.ret ⟨_,W,m,p,by rw[o];rfl,rfl,.v u,a.trans r⟩
 .skip
  obtain⟨Q,R,⟨m,G,rfl,rfl,H,n⟩,o⟩:=i s c .bool h g a.le;obtain⟨S,T,U,V,X,Y,p⟩:=m.shape;rw[p]at o;obtain⟨Z,K2,⟨r,I,rfl,rfl,J,u⟩,w⟩:=i s c t h G n.le;obtain⟨k2,Ri,n2,s2,a2,b2,x⟩:=r.shape;rw[x]at w;obtain⟨r3,K3,⟨y,K,rfl,rfl,M,L⟩,z⟩:=i s c t h I u.le;obtain⟨k3,ac,n3,s3,a3,b3,A⟩:=y.shape;rw[A]at z;refine DT.ob func223 W ntmps223 W<|dO [2,2,25] W<|K_ (dW f W W W W)<|dR [0,2,35] W<|K_ (aD e W W)<|dL [3,2,0,2,0,2,0,2,1] W ?_;apply Le fG
  .intro s0 Oo;refine fR 2 W<|bc jd W W<|fR 1 W<|fK W W W (by omega) ?_;rw[l];refine fR 1 W<|bt o W W<|fR 2 W<|TF.nil ⟨by kernel_rfl,rfl⟩
  refine dO [2,62] W<|K_ (cD W W W (by omega)) ?_;rw[l];refine dR [64] W<|K_ (aD w W W)<|dL [] W ?_;apply Le fG
  .intro s0 Oo;refine fR 6 W<|fK W W W (by omega) ?_;rw[l];refine fR 1 W<|bt z W W<|fR 3 W<|TF.nil ⟨by kernel_rfl,rfl⟩
  exact DC.ret ⟨_,W,.ite m r y,K,by rw[E.cells,p,x,A];rfl,rfl,.ite H J M,a.trans (n.trans (u.trans L))⟩
 .skip
  cases h with
  |true=>
   obtain⟨I,J,⟨m,y,rfl,rfl,z,r⟩,u⟩:=gZ ht az main t g a.le;obtain⟨K,L,M,Q,R,S,n⟩:=m.shape;rw[n]at u;obtain⟨T,U,⟨o,A,rfl,rfl,G,H⟩,w⟩:=i ⟨s.all,s.all,s.aY⟩ c.wide t true y r.le;obtain⟨V,X,Y,Z,a2,b2,p⟩:=o.shape;rw[p]at w;have x:=jT 9 0 m o;rw[n,p]at x;refine DT.ob func223 W ntmps223 W<|dO [2,2,25] W<|K_ (dW f W W W W)<|dR [0,2,35] W<|K_ (aD e W W)<|dR [3,2,0,2,0,2,0,2,0,2,1,1,2,1,2,82] W<|K_ (aD u W W)<|dL [2] W ?_;apply Le fG
   .intro s0 Oo;refine fR 5 W<|fK W W W (by omega) ?_;rw[l];refine fR 1 W<|bt w W W<|bc x W W<|fR 1 W<|TF.nil ⟨by kernel_rfl,rfl⟩
   exact DC.ret ⟨_,W,.rC m o,A,by rw[E.cells,n,p];rfl,rfl,.rC z G,a.trans (r.trans H)⟩
  |false=>
   obtain⟨u,w,⟨m,go,rfl,rfl,p,r⟩,n⟩:=k s c t false g a.le;obtain⟨x,y,no,z,A,G,o⟩:=m.shape;rw[o]at n;refine DT.ob func223 W ntmps223 W<|dO [2,2,25] W<|K_ (dW f W W W W)<|dR [0,2,35] W<|K_ (aD e W W)<|dR [3,2,0,2,0,2,0,2,0,2,1,1,2,0,2,146] W<|K_ (aD n W W)<|dL [] W<|DC.ret ⟨_,W,m,go,by rw[o];rfl,rfl,p,a.trans r⟩
 .skip
  cases h with
  |true=>
   obtain⟨I,J,⟨m,y,rfl,rfl,z,r⟩,u⟩:=gZ ht az main t g a.le;obtain⟨K,L,M,Q,R,S,n⟩:=m.shape;rw[n]at u;obtain⟨T,U,⟨o,A,rfl,rfl,G,H⟩,w⟩:=i ⟨s.all,s.all,s.aY⟩ c.wide t true y r.le;obtain⟨V,X,Y,Z,a2,b2,p⟩:=o.shape;rw[p]at w;have x:=jT 9 0 m o;rw[n,p]at x;refine DT.ob func223 W ntmps223 W<|dO [2,2,25] W<|K_ (dW f W W W W)<|dR [0,2,35] W<|K_ (aD e W W)<|dR [3,2,0,2,0,2,0,2,0,2,0,2,1,2,1,2,82] W<|K_ (aD u W W)<|dL [2] W ?_;apply Le fG
   .intro s0 Oo;refine fR 5 W<|fK W W W (by omega) ?_;rw[l];refine fR 1 W<|bt w W W<|bc x W W<|fR 1 W<|TF.nil ⟨by kernel_rfl,rfl⟩
   exact DC.ret ⟨_,W,.rC m o,A,by rw[E.cells,n,p];rfl,rfl,.rC z G,a.trans (r.trans H)⟩
  |false=>
   obtain⟨u,w,⟨m,go,rfl,rfl,p,r⟩,n⟩:=k s c t false g a.le;obtain⟨x,y,no,z,A,G,o⟩:=m.shape;rw[o]at n;refine DT.ob func223 W ntmps223 W<|dO [2,2,25] W<|K_ (dW f W W W W)<|dR [0,2,35] W<|K_ (aD e W W)<|dR [3,2,0,2,0,2,0,2,0,2,0,2,1,2,0,2,146] W<|K_ (aD n W W)<|dL [] W<|DC.ret ⟨_,W,m,go,by rw[o];rfl,rfl,p,a.trans r⟩
 .skip
  cases h with
  |true=>
   obtain⟨I,J,⟨m,y,rfl,rfl,z,r⟩,u⟩:=i s c t true g a.le;obtain⟨K,L,M,Q,R,S,n⟩:=m.shape;rw[n]at u;obtain⟨T,U,⟨o,A,rfl,rfl,G,H⟩,w⟩:=i ⟨s.all,s.all,s.aY⟩ c.wide t true y r.le;obtain⟨V,X,Y,Z,a2,b2,p⟩:=o.shape;rw[p]at w;have x:=jT 11 0 m (.pre o);rw[E.cells,n,p]at x;refine DT.ob func223 W ntmps223 W<|dO [2,2,25] W<|K_ (dW f W W W W)<|dR [0,2,35] W<|K_ (aD e W W)<|dR [3,2,0,2,0,2,0,2,0,2,0,2,0,2,1,2,1,2,106] W<|K_ (cD W W W (by omega)) ?_;rw[l];refine dR [108] W<|K_ (aD u W W)<|dR [2,2,120] W<|K_ (cD W W W (by omega)) ?_;rw[l];refine dR [122] W<|K_ (aD w W W)<|dR [2,127] W<|K_ (aL x W W)<|dL [] W<|DC.ret ⟨_,W,.arrow m (.pre o),A,by rw[E.cells,E.cells,n,p];rfl,rfl,.arrow z G,a.trans (r.trans H)⟩
  |false=>
   obtain⟨u,w,⟨m,go,rfl,rfl,p,r⟩,n⟩:=k s c t false g a.le;obtain⟨x,y,no,z,A,G,o⟩:=m.shape;rw[o]at n;refine DT.ob func223 W ntmps223 W<|dO [2,2,25] W<|K_ (dW f W W W W)<|dR [0,2,35] W<|K_ (aD e W W)<|dR [3,2,0,2,0,2,0,2,0,2,0,2,0,2,1,2,0,2,146] W<|K_ (aD n W W)<|dL [] W<|DC.ret ⟨_,W,m,go,by rw[o];rfl,rfl,p,a.trans r⟩
 .skip
  obtain⟨M,Q,⟨x,b,r,rfl,rfl,m,z⟩,u⟩:=Cv ht az main s.aY c.aY t g a.le;cases b with
  |true=>
   refine DT.ob func223 W ntmps223 W<|dO [2,2,25] W<|K_ (dW f W W W W)<|dR [0,2,35] W<|K_ (aD e W W)<|dR [3,2,0,2,0,2,0,2,0,2,0,2,0,2,0,2,1,2,135] W<|K_ (aD u W W)<|dL [2,1,2] W<|DC.ret ⟨_,W,.last x,r,W,W,.last (z W),a.trans m⟩
  |false=>
   obtain⟨A,G,⟨n,go,rfl,rfl,w,y⟩,o⟩:=k s c t h r m.le;obtain⟨H,I,no,J,K,L,p⟩:=n.shape;rw[p]at o;refine DT.ob func223 W ntmps223 W<|dO [2,2,25] W<|K_ (dW f W W W W)<|dR [0,2,35] W<|K_ (aD e W W)<|dR [3,2,0,2,0,2,0,2,0,2,0,2,0,2,0,2,1,2,135] W<|K_ (aD u W W)<|dR [2,0,2,146] W<|K_ (aD o W W)<|dL [] W<|DC.ret ⟨_,W,n,go,by rw[p];rfl,rfl,w,a.trans (m.trans y)⟩
 .skip
  obtain⟨u,w,⟨m,go,rfl,rfl,p,r⟩,n⟩:=k s c t h g a.le;obtain⟨x,y,no,z,A,G,o⟩:=m.shape;rw[o]at n;refine DT.ob func223 W ntmps223 W<|dO [2,2,25] W<|K_ (dW f W W W W)<|dR [0,2,35] W<|K_ (aD e W W)<|dR [3,2,0,2,0,2,0,2,0,2,0,2,0,2,0,2,0,2,146] W<|K_ (aD n W W)<|dL [] W<|DC.ret ⟨_,W,m,go,by rw[o];rfl,rfl,p,a.trans r⟩
 .skip
  obtain⟨u,w,⟨m,go,rfl,rfl,p,r⟩,n⟩:=k s c t h g a.le;obtain⟨x,y,no,z,A,G,o⟩:=m.shape;rw[o]at n;refine DT.ob func223 W ntmps223 W<|dO [2,2,25] W<|K_ (dW f W W W W)<|dR [0,2,35] W<|K_ (aD e W W)<|dR [3,2,0,2,0,2,0,2,0,2,0,2,0,2,0,2,0,2,146] W<|K_ (aD n W W)<|dL [] W<|DC.ret ⟨_,W,m,go,by rw[o];rfl,rfl,p,a.trans r⟩
 .skip
  obtain⟨u,w,⟨m,go,rfl,rfl,p,r⟩,n⟩:=k s c t h g a.le;obtain⟨x,y,no,z,A,G,o⟩:=m.shape;rw[o]at n;refine DT.ob func223 W ntmps223 W<|dO [2,2,25] W<|K_ (dW f W W W W)<|dR [0,2,35] W<|K_ (aD e W W)<|dR [3,2,0,2,0,2,0,2,0,2,0,2,0,2,0,2,0,2,146] W<|K_ (aD n W W)<|dL [] W<|DC.ret ⟨_,W,m,go,by rw[o];rfl,rfl,p,a.trans r⟩
 .skip
  obtain⟨u,w,⟨m,go,rfl,rfl,p,r⟩,n⟩:=k s c t h g a.le;obtain⟨x,y,no,z,A,G,o⟩:=m.shape;rw[o]at n;refine DT.ob func223 W ntmps223 W<|dO [2,2,25] W<|K_ (dW f W W W W)<|dR [0,2,35] W<|K_ (aD e W W)<|dR [3,2,0,2,0,2,0,2,0,2,0,2,0,2,0,2,0,2,146] W<|K_ (aD n W W)<|dL [] W<|DC.ret ⟨_,W,m,go,by rw[o];rfl,rfl,p,a.trans r⟩
def fv:∀(d:Nat),d<=100->tY zs v az main d
 |0,_=>Gc ht az main
 |d+1,h=>Gd ht az main d (by omega) (fv d (by omega))
end
end Go.Proofs
namespace Go.Mk
open Go.Mt
inductive NV(n:Nat):List Va->Nat->Prop where
 |nil:NV n [] n
 |snoc {b:List Va} {a:Nat} (h:NV n b a) (w:Va) (c:w.name=nm 118 (a+1)) (d:w.clock=none) (e:w.last=false/\w.first=.nil\/w.last=true/\GC w.ty w.first):NV n (b++[w]) (a+1)
def e_(l:List Va):List Va->List Va
 |[]=>l
 |w::r=>e_ (if w.last&& !(l.any λu=>decide (u.name=w.name))then l++[w]else l) r
def yv(l:List Va)(r:List Va)(w:Va):e_ l (r++[w])=(if w.last&& !((e_ l r).any λu=>decide (u.name=w.name))then e_ l r++[w]else e_ l r):=by
 induction r generalizing l with
 |nil=>rfl
 |cons b r a=>simp only[agQ,e_];exact a _
inductive LS:List Va->List Va->Prop where
 |nil:LS [] []
 |fT {a b:List Va} (h:LS a b) (w:Va):LS (a++[w]) (b++[w])
 |drop {a b:List Va} (h:LS a b) (w:Va) (c:w.last=true):LS (a++[w]) b
def LS.Al:∀l:List Va,LS l.reverse l.reverse
 |[]=>.nil
 |a::l=>by rw[List.reverse_cons];exact .fT (Al l) a
def LS.refl(l:List Va):LS l l:=by have:=LS.Al l.reverse;simpa using this
def LS.len{a b:List Va}(h:LS a b):b.length<=a.length:=by
 induction h with
 |nil=>simp
 |fT h w c=>simp;omega
 |drop h w d c=>simp;omega
def LS.mem{a b:List Va}(h:LS a b):∀w∈b,w∈a:=by
 induction h with
 |nil=>intro w c;exact c
 |fT h w c=>intro u d;rcases agG.1 d with h|h;exact ahm _ (c u h);exact ahz _ h
 |drop h w e c=>intro u d;exact ahm _ (c u d)
abbrev Sc.jZ(s:Sc):Sc:=⟨s.ready,[],s.aY⟩
def Bs(s:Sc)(N:Nat)(l:List Tr):Prop:=l.length<=2/\∀t∈l,GE s.jZ .bool false 2 t.e/\∃k,k<N/\t.to=nm 83 k
abbrev qk:Nm:=⟨#[116,114,117,101]⟩
abbrev nY:Nm:=⟨#[102,97,108,115,101]⟩
section
variable(Sub:Sc->List Va->Nat->Nat->bT->Prop)
inductive qO(s:Sc)(a:List Va)(d:List Nm)(n:Nat):List aP->Nat->Prop where
 |nil:qO s a d n [] n
 |snoc {aq:List aP} {e f:Nat} (h:qO s a d n aq e) (c:Nm) (g:d[aq.length]?=some c) (l:List Va) (i:LS a l) (j:aq=[]->l=a) (b:bT) (k:Sub s.jZ l e f b):qO s a d n (aq++[.mk c b [] []]) f
inductive Am(s:Sc)(a:List Va)(N:Nat)(n:Nat):List aP->Nat->Prop where
 |nil:Am s a N n [] n
 |snoc {aq:List aP} {c d:Nat} (h:Am s a N n aq c) (l:List Va) (g:LS a l) (i:aq=[]->l=a) (e:List Tr) (j:Bs s N e) (b:bT) (k:Sub s.jZ l c d b) (f:List Tr) (m:Bs (s.more l) N f):Am s a N n (aq++[.mk (nm 83 aq.length) b e f]) d
inductive rP(s:Sc):List Va->List aJ->Prop where
 |nil:rP s [] []
 |snoc {l:List Va} {q:List aJ} (h:rP s l q) (w:Va) (e:E) (a:GE s w.ty true 3 e):rP s (l++[w]) (q++[.df w.name e])
abbrev eu(c:UInt8)(k:Nat)(t:Ty):Va:=⟨nm c k,t,none,false,.nil⟩
inductive GQ(az:Nat):Sc->List Va->Nat->Nat->List aJ->List Va->Prop where
 |tZ {s outs n q} (h:rP s outs q):GQ az s outs n n q []
 |HV {s outs n n' e aq} (c:GE s .iO true 2 e) (d:qO Sub s outs [eF,cS,ci] n aq n') (f:aq.length=3):GQ az s outs n n' [.sw e aq] []
 |EQ {s outs n n' e aq} (c:GE s .bool true 2 e) (d:qO Sub s outs [qk,nY] n aq n') (f:aq.length=2):GQ az s outs n n' [.sw e aq] []
 |wg {s outs n n' aq} (N:Nat) (f:1<=N/\N<=3) (c:Am Sub s outs N n aq n') (d:aq.length=N):GQ az s outs n n' [.wg aq] []
 |reset {s outs n n' e b} (c:GE s .bool true 2 e) (d:Sub s outs n n' b):GQ az s outs n n' [.reset e b] []
 |call {s outs n n' l vs} (j:Nat) (i:j<az) (a b:E) (f:GE s .int true 2 a) (g:GE s .bool true 2 b) (c:Bool) (e:E) (d:c=false/\e=.nil\/c=true/\GE s .bool true 2 e)
   (h:GQ az (s.more [eu 117 (n+1) .int,eu 117 (n+2) .iO]) outs (n+2) n' l vs):
   GQ az s outs n n' (.call (nm 117 (n+1)) (nm 117 (n+2)) (nm 102 j) a b c e::l) (eu 117 (n+1) .int::eu 117 (n+2) .iO::vs)
 |yw {s outs n n' l vs} (a b k c e fT:E) (f:GE s .int false 2 a) (g:GE s .int false 2 b) (i:GC .int k) (m:GC .int c) (d:GE s .iO true 3 e)
   (QY:fT=.lS (nm 99 (n+1)) cS a\/fT=.rC c (.bin 3 (.var (nm 119 (n+2))) (.lS (nm 99 (n+1)) cS a)))
   (h:GQ az (s.more [eu 99 (n+1) .iO,eu 122 (n+3) .int]) outs (n+3) n' l vs):
   GQ az s outs n n' (.df (nm 99 (n+1)) e:: .df (nm 119 (n+2)) fT:: .df (nm 122 (n+3)) (.merge (nm 99 (n+1)) ci cS eF (.lS (nm 99 (n+1)) ci b) (.var (nm 119 (n+2))) k)::l)
    (eu 99 (n+1) .iO::⟨nm 119 (n+2),.int,some (cS,nm 99 (n+1)),false,.nil⟩::eu 122 (n+3) .int::vs)
end
inductive GL(Q:Sc->List Va->Nat->Nat->List aJ->List Va->Prop)(a:Sc)(b:List Va)(c:Nat):Sc->List Va->Nat->List aJ->List Va->Prop where
 |start:GL Q a b c a b c [] []
 |step {s todo n n1 q vs q1 RB} (h:GL Q a b c s todo n q vs) (k:Nat) (d:1<=k) (e:k<=3) (f:k<=todo.length) (g:Q s (todo.take k) n n1 q1 RB):GL Q a b c (s.more (todo.take k)) (todo.drop k) n1 (q++q1) (vs++RB)
def I2(s:Sc)(a b:List Va):Sc:=⟨s.ready,s.ready++a++b,e_ s.aY (a++b)⟩
def I3(Q:Sc->List Va->Nat->Nat->List aJ->List Va->Prop)(s:Sc)(d:List Va)(n f:Nat)(b:bT):Prop:=
 ∃a c g q e,NV n a c/\a.length<=3/\GL Q (I2 s a d) (a++d) c g [] f q e/\b=.mk (a++e) q
def GB(az:Nat):Nat->Sc->List Va->Nat->Nat->bT->Prop
 |0=>I3 (GQ (λ_ _ _ _ _=>False) az)
 |d+1=>I3 (GQ (GB az d) az)
def aV:Va:=⟨⟨#[97]⟩,.int,none,false,.nil⟩
def bV:Va:=⟨⟨#[98]⟩,.bool,none,false,.nil⟩
def yV:Va:=⟨⟨#[121]⟩,.iO,none,false,.nil⟩
def GN(k:Nat)(d:Nd):Prop:=d.name=nm 102 k/\d.ins=[aV,bV]/\(∃(last:Bool) (first:E),(last=false/\first=.nil\/last=true/\GC .int first)/\d.outs=[⟨⟨#[120]⟩,.int,none,last,first⟩,yV])/\∃a,a<=3000/\GB k 3 ⟨d.ins,[],[]⟩ d.outs 0 a d.b
def GP(l:List Nd):Prop:=1<=l.length/\l.length<=3/\∀(k:Nat) (d:Nd),l[k]?=some d->GN k d
end Go.Mk
namespace Go.Mt
variable{P:Program}{H:Hp}{n:Nat}
theorem DT.drop{f:Nat}{ms:List M}{post:M->Hp->Prop}(n:Nat)(a:H.length<=n)
  (h:DT P f ms H λr K=>n<=K.length/\MB n r/\HB n (K.take n)/\post r (K.take n)):DT P f ms H post:=by
 obtain⟨r,K,⟨g,i,j,c⟩,d⟩:=h;exact⟨r,K.take n,c,CT.drop n a (post:= λa k=>a=r/\k=K.take n) (d.mono λl k ⟨e,b⟩=>by grind)⟩
def HW(n:Nat)(rs:List (List D)):Hp:=match rs with
 |[]=>[]
 |q::r=>[.row true n r.length (bf (q::r))]
def Cw(H0:Hp)(n:Nat)(rs:List (List D)):dY H0 n rs=H0++HW n rs:=by cases rs<;>simp[dY,HW]
def wN{B:Nat}{I:Nat->St->Prop}{k k':Nat}{sl LJ:List (Nat×V)}{bx L4:List (Nat×List M)}{H':Hp}(a:k'<k)(b:I k' ⟨LJ,L4,H'⟩)(c:∀t,get L4 t=get bx t)(d:H=H')(e:keeps sl LJ):xx P n B I k ⟨sl,bx,H⟩:=
 ⟨k',_,a,b,λ_ _ _ _ _ f=>by subst d;exact f.gN (gA e) c⟩
section
variable{X:cY}{ops:Array Oper}{rest:List Oper}{sl:List (Nat×V)}{bx:List (Nat×List M)}{Lw:List Ef->St->Prop}{d ty:Nat}{pos:String}{af:Array Edge}
theorem lJ{T e a:Nat}{x y:Operand}{H0:Hp}{rs:List (List D)}{r:List D}{z:D}[ht:br X.P T e][j:cc X.P e n][l:jx X.P e a][m:fC X.P e z](b:Nat.blt d X.n=true)
  (c:bj sl x=some (.m (gr H0.length rs))) (f:bj sl y=some (.m (.d (.sl [r])))) (h:Nat.blt 0 n=true) (g:(bP z).length=n) (o:r.length=n) (p:(rs.length+1)*a<=140737488355328) (s:rs.length+1<=140737488355328)
  (k:TF X ops rest ⟨(d,.m (gr H0.length (rs++[r])))::sl,bx,dY H0 n (rs++[r])⟩ λa b=>Lw (⟨some d,.m (gr H0.length (rs++[r])),[],[],none,true,some (dY H0 n (rs++[r]))⟩::a) b):
  TF X ops (⟨some d,.call ⟨.builtin .append,#[x,y],#[T,T]⟩,ty,pos,af,none⟩::rest) ⟨sl,bx,dY H0 n rs⟩ Lw:=by
 cases rs with
 |nil=>exact pc true b c f h g (by simp) (by grind) (by grind) k
 |cons q rs=>
  refine m_ (acc:=true) (cs:=bf (q::rs)) b c f (by simp[dY]) g (by grind) (by grind) (by grind) ?_;have e:(dY H0 n (q::rs)).set H0.length (.row true n (rs.length+1) (bf (q::rs)++bf [r]))=dY H0 n (q::rs++[r]):=by simp[dY,bf]
  have i:M.cy H0.length (rs.length+1) (rs.length+1+1)=gr H0.length (q::rs++[r]):=by simp[gr]
  rw[<-e,<-i]at k;exact k
end
end Go.Mt
namespace Go.Proofs
open Go.Mt Go.Mk
open Tryz
def eI{P:Program}{f:Nat}{ms:List M}{v:D}{az:Nat}{a:Bool}{g g':GS}{r:M}(h:(ms.all (AS 2))=true)(i:CT P f ms (GH v az a g) λc d=>c=r/\d=GH v az a g')(n:Nat)(rs:List (List D)):
  CT P f ms (dY (GH v az a g) n rs) λc d=>c=r/\d=dY (GH v az a g') n rs:=by
 rw[Cw,Cw];refine(CT.suffix (HW n rs) (H:=GH v az a g) (nq v az a g) (λm a=>iL (ahD.1 h m a)) (i.mono λc d ⟨e,b⟩=>(⟨by rw[b];rfl,e,b⟩:d.length=(GH v az a g).length/\(c=r/\d=GH v az a g')))).mono ?_;rintro c k ⟨j,rfl,_,rfl,rfl⟩;exact⟨W,W⟩
def lK(v:D)(az:Nat)(a:Bool)(g:GS)(n:Nat)(rs:List (List D)):2<=(dY (GH v az a g) n rs).length/\HB 2 ((dY (GH v az a g) n rs).take 2)/\(dY (GH v az a g) n rs).take 2=GH v az a g:=by
 have b:=Dg (GH v az a g) n rs;exact⟨(Ff (GH v az a g) n rs),by rw[show(2:Nat)=(GH v az a g).length from rfl,b];exact nq _ _ _ _,b⟩
section
variable{zs:List Int}{v:D}(ht:Tape zs v)(az:Nat)(main:Bool)
include ht
theorem yx(a:List Va)(B:a.length<=1000)(g:GS)(s:g.i<=zs.length):DT prog 261 [.ref 1 0,.d (.sl (aB a))] (GH v az main g) λr K=>∃(l:List Va) (g':GS),r=.d (.sl (aB l))/\K=GH v az main g'/\Mv zs g g'/\LS a l:=by
 refine DT.drop 2 (ags _)<|DT.ob func261 W ntmps261 W<|dC [2,2,2] W<|LF [(6,.m (.d (.int .i64 ((0:Nat):Int)))),(5,.m (gr 2 (aB []))),(1,.m (.d (.sl (aB a)))),(0,.m (.ref 1 0))] (dY (GH v az main g) 15 (aB [])) W W<|dC [3] W<|NB (λk s=>∃(i:Nat) (l:List Va) (g':GS),s=⟨[(6,.m (.d (.int .i64 (i:Int)))),(5,.m (gr 2 (aB l))),(1,.m (.d (.sl (aB a)))),(0,.m (.ref 1 0))],[],dY (GH v az main g') 15 (aB l)⟩/\i<=a.length/\LS (a.take i) l/\Mv zs g g'/\k=a.length-i) a.length _
  ⟨0,[],g,rfl,by omega,.nil,⟨rfl,rfl,ags _,s⟩,rfl⟩ W ?_
 rintro z A ⟨i,l,d,rfl,C,e,f,rfl⟩;refine dO [2,13] W<|K_ (aT W W W) ?_;rw[bM];refine dL [] W<|DC.cond W (λj=>?_) (λj=>?_)
 .have o:i<a.length:=by grind
  have b:=jB o;have h:=agp o;generalize a[i]=w at b h;have t:=e.len;rw[agM]at t;obtain⟨D,E,F,G,H,I,J,L,u,_⟩:=jC w;have c:aB (l++[w])=aB l++[w.cells]:=by rw[gM];rfl
  rw[u]at b c;obtain⟨r,K,⟨n,k,rfl,rfl,x⟩,j⟩:=e9 ht az main 2 (by omega) (by omega) d f.le;have p:=eI W j 15 (aB l);have q:=x.mv;refine dC [3] W ?_;cases m:w.last with
  |false=>
   rw[m]at b c;refine dO [2,19] W<|K_ (aN W W W (ago i) b W)<|dR [1,2,34] W<|K_ (aN W W W (ago i) b W)<|dR [37] W<|K_ (wG (H0:=GH v az main d) W W W W (by rfl) W (by rw[bM];omega) (by rw[bM];omega))<|dR [2,16] W<|K_ (aI W W W (by omega))<|dL [] W<|bH (k':=a.length-(i+1)) (by omega) ⟨i+1,l++[w],d,rfl,by omega,by rw[h];exact .fT e w,f,W⟩ (by rw[c];rfl) (kc W (kc (by rw[c];rfl) W))
  |true=>
   rw[m]at b c;rcases ag5 n with rfl|M
   .refine dO [2,19] W<|K_ (aN W W W (ago i) b W)<|dR [27] W ?_
    first|refine K_ (aQ W W) ?_|(refine K_ (aE W) ?_;refine K_ (eC W W ((uJ _ _ _ 1 (ags _)).trans W) W) ?_)
    refine dR [28] W ?_
    first|refine K_ (aQ W W) ?_|(refine K_ (aE W) ?_;refine K_ (aD p W W) ?_)
    refine dR [1,2,34] W<|K_ (aN W W W (ago i) b W)<|dR [37] W<|K_ (wG (H0:=GH v az main k) W W W W (by rfl) W (by rw[bM];omega) (by rw[bM];omega))<|dR [2,16] W<|K_ (aI W W W (by omega))<|dL [] W<|bH (k':=a.length-(i+1)) (by omega) ⟨i+1,l++[w],k,rfl,by omega,by rw[h];exact .fT e w,f.trans q,W⟩ (by rw[c];rfl) (kc W (kc (by rw[c];rfl) W))
   .have y:(((n:Nat):Int)==0)=false:=ahG.2 (by omega);refine dO [2,19] W<|K_ (aN W W W (ago i) b W)<|dR [27] W ?_
    first|refine K_ (aQ W W) ?_|(refine K_ (aE W) ?_;refine K_ (eC W W ((uJ _ _ _ 1 (ags _)).trans W) W) ?_)
    refine dR [28] W ?_
    first|refine K_ (aQ W W) ?_|(refine K_ (aE W) ?_;refine K_ (aD p W W) ?_)
    refine dR [29] W ?_
    first|refine K_ (aQ W W) ?_|(refine K_ (aE W) ?_;refine K_ (dW y W W W W) ?_)
    refine dR [0,2,16] W<|K_ (aI W W W (by omega))<|dL [] W<|bH (k':=a.length-(i+1)) (by omega) ⟨i+1,l,k,rfl,by omega,by rw[h];exact .drop e w m,f.trans q,W⟩ W W
 .refine DC.exit ?_;have b:i=a.length:=by grind
  subst b;rw[agz]at e;obtain⟨c,h,k⟩:=lK v az main d 15 (aB l);refine dC [2] W<|DC.bg 4 W (i_ (GH v az main d) 15 (aB l) (bR l))<|DC.ret ⟨_,W,c,.d _,h,l,d,W,k,f,e⟩
end
variable{s:Sc}{c:Nat}{H:Hp}{d:D}{r ms:List M}
instance:bu prog 261:=dz (by kernel_rfl)
instance:bu prog 262:=dz (by kernel_rfl)
instance:bu prog 117:=dz (by kernel_rfl)
instance:bu prog 170:=dz (by kernel_rfl)
def vi.jZ(h:vi s):vi s.jZ:=⟨h.ready,ahy _,h.aY⟩
def Tr.len(t:Tr):t.cells.length=12:=by simp[Tr.cells,E.len]
def D6(l:List Tr):∀r∈eG l,r.length=12:=by intro r a;obtain⟨_,_,rfl⟩:=agC.1 a;exact Tr.len _
def An(l:List Tr):(eG l).length=l.length:=by simp[eG]
structure Bm(a:List Int)(w:Int)(g g':GS):Prop where
 i:g.i<=g'.i
 le:g'.i<=a.length
 n:g.n<=g'.n
 ox:g'.n<=3*g'.i
 q0:min g.q 0-w<=g'.q
 q1:g'.q<=g.q
def qB:Nat->Int
 |0=>6
 |d+1=>6*(1+3*qB d)
def JV:∀d,d<=3->0<=qB d/\qB d<=40000
 |0,_=>by decide
 |1,_=>by decide
 |2,_=>by decide
 |3,_=>by decide
 |d+4,h=>by omega
def wO:∀d,d<=2->0<=qB d/\qB d<=4000
 |0,_=>by decide
 |1,_=>by decide
 |2,_=>by decide
 |d+3,h=>by omega
def ws(a:Int):Nat->Int
 |0=>0
 |i+1=>ws a i+a
def vj{a:Int}(h:0<=a):∀i,i<=3->0<=ws a i/\ws a i<=3*a
 |0,_=>by simp only[ws];omega
 |1,_=>by simp only[ws];omega
 |2,_=>by simp only[ws];omega
 |3,_=>by simp only[ws];omega
 |i+4,h=>by omega
def Iv(H:Hp):Prop:=∃a,H[1]?=some (.box a)/\a[0]?=some (.ref 0 0)
def ER(v:D)(az:Nat)(a:Bool)(g:GS)(n:Nat)(rs:List (List D)):Iv (dY (GH v az a g) n rs):=⟨_,(uJ _ _ _ 1 (ags _)).trans W,rfl⟩
structure Bt(c:Nat)(s:Sc):Prop where
 ready:s.ready.length<=c
 all:s.all.length<=1000
 aY:s.aY.length<=c
def Bt.b(h:Bt c s)(a:c<=1000):vi s:=⟨by have:=h.ready;omega,by have:=h.all;omega,by have:=h.aY;omega⟩
def Bt.jZ(h:Bt c s):Bt c s.jZ:=⟨h.ready,ahy _,h.aY⟩
section
variable(zs:List Int)(v:D)(az:Nat)(main:Bool)
def oT(d:Nat):Prop:=∀(s:Sc),Bt (800-200*d) s->∀(c:List Va),c.length<=3->∀(g:GS),g.i<=zs.length->g.n<=3*g.i->g.q<=14-> -200000<=g.q->
 DT prog 117 [.ref 1 0,.d (.agg s.cells),.d (.sl (aB c)),.d (.int .i64 ((d:Nat):Int))] (GH v az main g) λr K=>∃(b:bT) (a:GS),r=.d (.agg b.cells)/\K=GH v az main a/\GB az d s c g.n a.n b/\Bm zs (qB d) g a
end
section
variable{zs:List Int}{v:D}(ht:Tape zs v)(az:Nat)(main:Bool)
include ht
def t_(s:Sc)(z:vi s)(N:Nat)(T:1<=N/\N<=3)(g:GS)(A:g.i<=zs.length):DT prog 262 [.ref 1 0,.d (.agg s.cells),.d (.int .i64 ((N:Nat):Int))] (GH v az main g) λr K=>∃(l:List Tr) (g':GS),r=.d (.sl (eG l))/\K=GH v az main g'/\Mv zs g g'/\Bs s N l:=by
 obtain⟨U,V,⟨m,f,rfl,rfl,k⟩,B⟩:=e9 ht az main 3 (by omega) (by omega) g A;have X:=k.lt;refine DT.drop 2 (ags _)<|DT.ob func262 W ntmps262 W<|dO [2,2,2,18] W<|K_ (aD B W W)<|dL [2] W<|LF [(9,.m (.d (.int .i64 ((0:Nat):Int)))),(8,.m (.d (.int .i64 ((m:Nat):Int)))),(7,.m (gr 2 (eG []))),(4,.m (.d (.ca s.cells 0))),(2,.m (.d (.int .i64 ((N:Nat):Int)))),(0,.m (.ref 1 0))] (dY (GH v az main f) 12 (eG [])) W W<|dC [3] W<|NB (λk a=>∃(i:Nat) (l:List Tr) (g':GS),a=⟨[(9,.m (.d (.int .i64 (i:Int)))),(8,.m (.d (.int .i64 ((m:Nat):Int)))),(7,.m (gr 2 (eG l))),(4,.m (.d (.ca s.cells 0))),(2,.m (.d (.int .i64 ((N:Nat):Int)))),(0,.m (.ref 1 0))],[],dY (GH v az main g') 12 (eG l)⟩/\i<=m/\l.length=i/\(∀t∈l,GE s.jZ .bool false 2 t.e/\∃k,k<N/\t.to=nm 83 k)/\Mv zs g g'/\k=m-i) m _
  ⟨0,[],f,rfl,by omega,rfl,by simp,k.mv,rfl⟩ W ?_
 rintro S n ⟨i,l,a,rfl,Y,C,x,b,rfl⟩;refine dC [2] W<|DC.cond W (λo=>?_) (λo=>?_)
 .have Z:i<m:=by have:=agr o;omega
  obtain⟨r1,K1,⟨c,D,rfl,rfl,E,p⟩,q⟩:=fv ht az main 2 (by omega) s.jZ z.jZ .bool false a b.le;obtain⟨F,G,H,n,I,J,t⟩:=c.shape;rw[t]at q;obtain⟨r2,K2,⟨j,L,rfl,rfl,d⟩,M⟩:=e9 ht az main N (by omega) (by omega) D p.le;obtain⟨r3,K3,⟨e,u,rfl,rfl,Q⟩,O⟩:=e9 ht az main 2 (by omega) (by omega) L d.le;have P:=d.lt;have OH:=gR j;have w:eG (l++[⟨c,nm 83 j,((e:Nat):Int)==0⟩])=eG l++[bD F G H n I J++[.str (⟨#[83]⟩++dg j),.bool (((e:Nat):Int)==0),.int .i64 0,.int .i64 0]]:=by
   simp only[eG,agI,agH,ag1,Tr.cells,t];rfl
  refine dC [3] W ?_;apply DC.Dh Iv (ER _ _ _ _ _ _) fG
  .intro h y;refine iR 7 W ?_;apply NN
   .skip
    refine bc jd W W<|TF.nil ⟨W,W⟩
   apply NN
   .skip
    refine bt (eI W q 12 (eG l)) W W<|TF.nil ⟨W,W⟩
   refine iR 3 W<|lX.GY W W (λH h=>h)<|iR 1 W ?_;apply NN
   .skip
    refine bt (eI W M 12 (eG l)) W W<|TF.nil ⟨W,W⟩
   apply NN
   .skip
    refine bc (lx (j+1) j (by omega) (by omega)) W W<|TF.nil ⟨rfl,rfl⟩
   apply NN
   .skip
    refine oG W W W (by have:(⟨#[83]⟩:ByteArray).size=1:=rfl;omega)<|TF.nil ⟨rfl,rfl⟩
   refine iR 3 W<|lX.GY W W (λH h=>h) ?_;apply NN
   .skip
    refine bt (eI W O 12 (eG l)) W W<|TF.nil ⟨W,W⟩
   refine iR 3 W ?_;apply NN
   .skip
    refine lJ (H0:=GH v az main u) W W W W (by rfl) W (by rw[An];omega) (by rw[An];omega)<|TF.nil ⟨rfl,rfl⟩
   refine iR 1 W<|lX.nil ⟨by kernel_rfl,by repeat' first|exact trivial|exact ER _ _ _ _ _ _|refine⟨?_,?_⟩,rfl⟩
  refine dO [2,23] W<|K_ (aI W W W (by omega))<|dL [] W<|bH (k':=m-(i+1)) (by omega) ⟨i+1,l++[⟨c,nm 83 j,((e:Nat):Int)==0⟩],u,rfl,by omega,by simp[C],by
   intro y R;rcases agG.1 R with h|h
   .exact x y h
   .simp at h;subst h;exact⟨E,j,P,W⟩,b.trans (p.trans (d.mv.trans Q.mv)),W⟩ (by rw[w];rfl) (kc W (kc W (kc (by rw[w];rfl) W)))
 .refine DC.exit ?_;obtain⟨c,d,e⟩:=lK v az main a 12 (eG l);refine dC [2] W<|DC.bg 6 W (i_ (GH v az main a) 12 (eG l) (D6 l))<|DC.ret ⟨_,W,c,.d _,d,l,a,W,e,b,by omega,x⟩
end
instance:bu prog 221:=dz (by kernel_rfl)
instance:bu prog 222:=dz (by kernel_rfl)
def fQ(a:dV H r=some ms):dV H (.d d::r)=some (.d d::ms):=by simp only[dV,eK,a]
def gT{m:M}(h:eK H m=some d)(a:dV H r=some ms):dV H (m::r)=some (.d d::ms):=by simp only[dV,h,a]
def gD(l:List aP):(cr l).length=l.length:=by rw[jp];simp
def qQ(l:List aP):∀r∈cr l,r.length=7:=by rw[jp];intro r a;obtain⟨_,_,rfl⟩:=agC.1 a;exact aP.len _
def kv(l:List aP)(a:aP):cr (l++[a])=cr l++[a.cells]:=by rw[jp,jp];simp
def pE(H:Hp):dV H []=some []:=rfl
abbrev Ge(k op n:Int)(s:Nm)(a b:List (List D))(m:M):List M:=[.d (.int .u8 3),.d (.sl []),.d (.str ⟨#[]⟩),.d (.sl []),.d (.bool false),.d (.int .u8 k),.d (.int .u8 op),.d (.int .i32 n),.d (.str s),.d (.sl a),.d (.sl b),.d (.int .i64 0),.d (.int .i64 0),m,.d (.int .i64 0),.d (.int .i64 0)]
abbrev Gf:List M:=[.d (.int .u8 0),.d (.sl []),.d (.str ⟨#[]⟩),.d (.sl []),.d (.bool false),.d (.int .u8 0),.d (.int .u8 0),.d (.int .i32 0),.d (.str ⟨#[]⟩),.d (.sl []),.d (.sl []),.d (.int .i64 0),.d (.int .i64 0),.d (.sl []),.d (.int .i64 0),.d (.int .i64 0)]
section
variable{zs:List Int}{v:D}(ht:Tape zs v)(az:Nat)(main:Bool)
include ht
theorem pA(d:Nat)(Z:d<=2)(m:oT zs v az main d)(s:Sc)(k:Bt (800-200*d) s)(a:List Va)(G:a.length<=3)(g:GS)(hg:g.i<=zs.length)(hn:g.n<=3*g.i)(Q4:0<g.q)(Rv:g.q<=14):
  DT prog 221 [.ref 1 0,.d (.agg s.cells),.d (.sl (aB a)),.d (.int .i64 ((d+1:Nat):Int))] (GH v az main g) λr K=>∃(q:aJ) (g':GS),r=.d (.agg q.cells)/\K=GH v az main g'/\GQ (GB az d) az s a g.n g'.n [q] []/\Bm zs (3*qB d) g g':=by
 obtain⟨r0,K0,⟨C,H,rfl,rfl,I⟩,J⟩:=e9 ht az main 2 (by omega) (by omega) g hg;have hj:=I.lt;have n:=I.mv;have L:=k.b (by omega);have o:=wO d Z;have p:((d+1:Nat):Int)-1=(d:Int):=by omega
 have Pe:C=0\/C=1:=by omega
 rcases Pe with rfl|rfl
 .obtain⟨r1,K1,⟨M,N,rfl,rfl,M1,LR⟩,O⟩:=fv ht az main 2 (by omega) s L .iO true H n.le;obtain⟨q,t,u,w,x,y,P⟩:=M.shape;rw[P]at O;have h:=n.trans LR;refine DT.drop 2 (ags _)<|DT.ob func221 W ntmps221 W<|dO [2,2,2,2,23] W<|K_ (aD J W W)<|dL [1,2] W ?_;apply Le fG
  .intro f j;refine fR 2 W<|bc jN W W<|bt O W W<|fR 2 W<|TF.nil ⟨by kernel_rfl,rfl⟩
  refine dC [2] W<|L3 [(11,.m (.d (.int .i64 ((0:Nat):Int)))),(10,.m (.d (.sl [[D.str eF],[.str cS],[.str ci]]))),(9,.loc 9 0),(8,.loc 8 0),(5,.m (.d (.ca s.cells 0))),(3,.m (.d (.int .i64 ((d+1:Nat):Int)))),(2,.m (.d (.sl (aB a)))),(0,.m (.ref 1 0))]
   [(9,Ge q t u w x y (gr 2 (cr []))),(8,Gf)] (dY (GH v az main N) 7 (cr [])) W (by intro f;simp only[Go.Mt.get];cases Nat.beq 9 f<;>cases Nat.beq 8 f<;>rfl) W ?_
  refine dC [3] W<|NB (λk f=>∃(i:Nat) (e:List aP) (g':GS),f=⟨[(11,.m (.d (.int .i64 (i:Int)))),(10,.m (.d (.sl [[D.str eF],[.str cS],[.str ci]]))),(9,.loc 9 0),(8,.loc 8 0),(5,.m (.d (.ca s.cells 0))),(3,.m (.d (.int .i64 ((d+1:Nat):Int)))),(2,.m (.d (.sl (aB a)))),(0,.m (.ref 1 0))],[(9,Ge q t u w x y (gr 2 (cr e))),(8,Gf)],dY (GH v az main g') 7 (cr e)⟩/\i<=3/\e.length=i/\qO (GB az d) s a [eF,cS,ci] g.n e g'.n/\(g.i<=g'.i/\g'.i<=zs.length/\g.n<=g'.n/\g'.n<=3*g'.i/\ -(ws (qB d) i)<=g'.q/\g'.q<=g.q)/\k=3-i) 3 _
   ⟨0,[],N,rfl,by omega,rfl,by have f:=h.n;rw[f];exact .nil,⟨h.i,h.le,by rw[h.n];exact ags _,by have:=h.n;have:=h.i;omega,by have:=h.q;simp only[ws];omega,by rw[h.q];exact Int.le_refl _⟩,W⟩ W ?_
  rintro ac s2 ⟨i,e,l,rfl,hi,z,A,⟨Vq,B,b3,Q,b5,b6⟩,rfl⟩;refine dC [2] W<|DC.cond W (λhc=>?_) (λhc=>?_)
  .have Lg:i<3:=by grind
   have Mn:∃c:Nm,([eF,cS,ci]:List Nm)[i]?=some c/\([[D.str eF],[.str cS],[.str ci]]:List (List D))[((i:Nat):Int).toNat]?=some [.str c]:=by
    grind
   obtain⟨c,Pr,R⟩:=Mn;have SU:=vj o.1 i (by omega);have S:decide ((i:Int)>0)=decide (0<i):=by grind
   refine dC [3] W ?_;rcases ag5 i with h0|h0
   .obtain⟨r3,K3,⟨b,E,rfl,rfl,V,f⟩,X⟩:=m s.jZ k.jZ a G l B Q (by omega) (by omega);obtain⟨Y,bq,F⟩:=b.shape;have T:=eI (by rfl) X 7 (cr e);rw[F]at T;have U:cr (e++[.mk c b [] []])=cr e++[[.str c,.sl Y,.sl bq,.sl [],.sl [],.int .i64 0,.int .i64 0]]:=by rw[kv,aP.cells,F];rfl
    refine dO [2,2,44] W<|K_ (av W W W (r:=.bool false) (by show some (D.bool (decide _))=_;rw[S,ahc (by omega)]))<|dL [0] W ?_;apply Le fG
    .intro s0 Oo;refine fR 4 W<|bE W W W (ago i) R W<|fR 9 W<|fK W W W (by omega) ?_;rw[p];refine bt T W W<|fR 2 W<|lJ (H0:=GH v az main E) W W W W (by rfl) W (by rw[gD];omega) (by rw[gD];omega)<|fR 1 W<|bS W W W (lg _ _) W W<|TF.nil ⟨by kernel_rfl,rfl⟩
    refine dO [2,41] W<|K_ (aI W W W (by omega))<|dL [] W<|wN (k':=3-(i+1)) (by omega) ⟨i+1,e++[.mk c b [] []],E,rfl,by omega,by simp[z],.snoc A c (by grind) a (LS.refl _) (λ_=>rfl) b V,⟨by have:=f.i;omega,f.le,by have:=f.n;omega,f.ox,by have:=f.q0;simp only[ws];omega,by have:=f.q1;omega⟩,rfl⟩ (by intro j;simp only[Go.Mt.get];rw[U];cases Nat.beq 9 j<;>cases Nat.beq 8 j<;>rfl) (by rw[U];rfl) W
   .obtain⟨r4,K4,⟨F,g4,rfl,rfl,f,Y⟩,OQ⟩:=yx ht az main a (by omega) l B;have MO:=Y.len;have Ln:=eI (by rfl) OQ 7 (cr e);obtain⟨r3,K3,⟨b,T,rfl,rfl,Oe,j⟩,L7⟩:=m s.jZ k.jZ F (by omega) g4 f.le (by have:=f.n;have:=f.i;omega) (by have:=f.q;omega) (by have:=f.q;omega);obtain⟨bv,bq,U⟩:=b.shape;have V:=eI (by rfl) L7 7 (cr e);rw[U]at V;have X:cr (e++[.mk c b [] []])=cr e++[[.str c,.sl bv,.sl bq,.sl [],.sl [],.int .i64 0,.int .i64 0]]:=by rw[kv,aP.cells,U];rfl
    refine dO [2,2,44] W<|K_ (av W W W (r:=.bool true) (by show some (D.bool (decide _))=_;rw[S,aha (by omega)]))<|dR [1,2,47] W<|K_ (aD Ln W W)<|dL [] W ?_;apply Le fG
    .intro s0 Oo;refine fR 4 W<|bE W W W (ago i) R W<|fR 9 W<|fK W W W (by omega) ?_;rw[p];refine bt V W W<|fR 2 W<|lJ (H0:=GH v az main T) W W W W (by rfl) W (by rw[gD];omega) (by rw[gD];omega)<|fR 1 W<|bS W W W (lg _ _) W W<|TF.nil ⟨by kernel_rfl,rfl⟩
    refine dO [2,41] W<|K_ (aI W W W (by omega))<|dL [] W<|wN (k':=3-(i+1)) (by omega) ⟨i+1,e++[.mk c b [] []],T,rfl,by omega,by simp[z],.snoc A c (by grind) F Y (λh=>by grind) b (by rw[<-f.n];exact Oe),⟨by have:=j.i;have:=f.i;omega,j.le,by have:=j.n;have:=f.n;omega,j.ox,by have:=j.q0;have:=f.q;simp only[ws];omega,by have:=j.q1;have:=f.q;omega⟩,rfl⟩ (by intro E;simp only[Go.Mt.get];rw[X];cases Nat.beq 9 E<;>cases Nat.beq 8 E<;>rfl) (by rw[X];rfl) W
  .refine DC.exit ?_;have f:i=3:=by grind
   subst f;obtain⟨j,E,F⟩:=lK v az main l 7 (cr e);refine DC.cZ (Ls:=Ge q t u w x y (.d (.sl (cr e)))) 9 W (by repeat' first|exact pE _|refine fQ ?_|refine gT (i_ (GH v az main l) 7 (cr e) (qQ e)) ?_) ?_;refine dC [2] W ?_;have R:=vj o.1 3 (by omega);exact DC.ret ⟨_,W,j,.d _,E,.sw M e,l,by rw[aJ.cells,P];rfl,F,.HV M1 A z,⟨Vq,B,b3,Q,by omega,b6⟩⟩
 .obtain⟨r1,K1,⟨M,N,rfl,rfl,M1,LR⟩,O⟩:=fv ht az main 2 (by omega) s L .bool true H n.le;obtain⟨q,t,u,w,x,y,P⟩:=M.shape;rw[P]at O;have h:=n.trans LR;refine DT.drop 2 (ags _)<|DT.ob func221 W ntmps221 W<|dO [2,2,2,2,23] W<|K_ (aD J W W)<|dL [0] W ?_;apply Le fG
  .intro f j;refine fR 2 W<|bc jd W W<|bt O W W<|fR 2 W<|TF.nil ⟨by kernel_rfl,rfl⟩
  refine dC [2] W<|L3 [(11,.m (.d (.int .i64 ((0:Nat):Int)))),(10,.m (.d (.sl [[D.str qk],[.str nY]]))),(9,.loc 9 0),(8,.loc 8 0),(5,.m (.d (.ca s.cells 0))),(3,.m (.d (.int .i64 ((d+1:Nat):Int)))),(2,.m (.d (.sl (aB a)))),(0,.m (.ref 1 0))]
   [(9,Ge q t u w x y (gr 2 (cr []))),(8,Gf)] (dY (GH v az main N) 7 (cr [])) W (by intro f;simp only[Go.Mt.get];cases Nat.beq 9 f<;>cases Nat.beq 8 f<;>rfl) W ?_
  refine dC [3] W<|NB (λk f=>∃(i:Nat) (e:List aP) (g':GS),f=⟨[(11,.m (.d (.int .i64 (i:Int)))),(10,.m (.d (.sl [[D.str qk],[.str nY]]))),(9,.loc 9 0),(8,.loc 8 0),(5,.m (.d (.ca s.cells 0))),(3,.m (.d (.int .i64 ((d+1:Nat):Int)))),(2,.m (.d (.sl (aB a)))),(0,.m (.ref 1 0))],[(9,Ge q t u w x y (gr 2 (cr e))),(8,Gf)],dY (GH v az main g') 7 (cr e)⟩/\i<=2/\e.length=i/\qO (GB az d) s a [qk,nY] g.n e g'.n/\(g.i<=g'.i/\g'.i<=zs.length/\g.n<=g'.n/\g'.n<=3*g'.i/\ -(ws (qB d) i)<=g'.q/\g'.q<=g.q)/\k=2-i) 2 _
   ⟨0,[],N,rfl,by omega,rfl,by have f:=h.n;rw[f];exact .nil,⟨h.i,h.le,by rw[h.n];exact ags _,by have:=h.n;have:=h.i;omega,by have:=h.q;simp only[ws];omega,by rw[h.q];exact Int.le_refl _⟩,W⟩ W ?_
  rintro ac s2 ⟨i,e,l,rfl,hi,z,A,⟨Vq,B,b3,Q,b5,b6⟩,rfl⟩;refine dC [2] W<|DC.cond W (λhc=>?_) (λhc=>?_)
  .have Lg:i<2:=by grind
   have Mn:∃c:Nm,([qk,nY]:List Nm)[i]?=some c/\([[D.str qk],[.str nY]]:List (List D))[((i:Nat):Int).toNat]?=some [.str c]:=by
    grind
   obtain⟨c,Pr,R⟩:=Mn;have SU:=vj o.1 i (by omega);have S:decide ((i:Int)>0)=decide (0<i):=by grind
   refine dC [3] W ?_;rcases ag5 i with h0|h0
   .obtain⟨r3,K3,⟨b,E,rfl,rfl,V,f⟩,X⟩:=m s.jZ k.jZ a G l B Q (by omega) (by omega);obtain⟨Y,bq,F⟩:=b.shape;have T:=eI (by rfl) X 7 (cr e);rw[F]at T;have U:cr (e++[.mk c b [] []])=cr e++[[.str c,.sl Y,.sl bq,.sl [],.sl [],.int .i64 0,.int .i64 0]]:=by rw[kv,aP.cells,F];rfl
    refine dO [2,2,44] W<|K_ (av W W W (r:=.bool false) (by show some (D.bool (decide _))=_;rw[S,ahc (by omega)]))<|dL [0] W ?_;apply Le fG
    .intro s0 Oo;refine fR 4 W<|bE W W W (ago i) R W<|fR 9 W<|fK W W W (by omega) ?_;rw[p];refine bt T W W<|fR 2 W<|lJ (H0:=GH v az main E) W W W W (by rfl) W (by rw[gD];omega) (by rw[gD];omega)<|fR 1 W<|bS W W W (lg _ _) W W<|TF.nil ⟨by kernel_rfl,rfl⟩
    refine dO [2,41] W<|K_ (aI W W W (by omega))<|dL [] W<|wN (k':=2-(i+1)) (by omega) ⟨i+1,e++[.mk c b [] []],E,rfl,by omega,by simp[z],.snoc A c (by grind) a (LS.refl _) (λ_=>rfl) b V,⟨by have:=f.i;omega,f.le,by have:=f.n;omega,f.ox,by have:=f.q0;simp only[ws];omega,by have:=f.q1;omega⟩,rfl⟩ (by intro j;simp only[Go.Mt.get];rw[U];cases Nat.beq 9 j<;>cases Nat.beq 8 j<;>rfl) (by rw[U];rfl) W
   .obtain⟨r4,K4,⟨F,g4,rfl,rfl,f,Y⟩,OQ⟩:=yx ht az main a (by omega) l B;have MO:=Y.len;have Ln:=eI (by rfl) OQ 7 (cr e);obtain⟨r3,K3,⟨b,T,rfl,rfl,Oe,j⟩,L7⟩:=m s.jZ k.jZ F (by omega) g4 f.le (by have:=f.n;have:=f.i;omega) (by have:=f.q;omega) (by have:=f.q;omega);obtain⟨bv,bq,U⟩:=b.shape;have V:=eI (by rfl) L7 7 (cr e);rw[U]at V;have X:cr (e++[.mk c b [] []])=cr e++[[.str c,.sl bv,.sl bq,.sl [],.sl [],.int .i64 0,.int .i64 0]]:=by rw[kv,aP.cells,U];rfl
    refine dO [2,2,44] W<|K_ (av W W W (r:=.bool true) (by show some (D.bool (decide _))=_;rw[S,aha (by omega)]))<|dR [1,2,47] W<|K_ (aD Ln W W)<|dL [] W ?_;apply Le fG
    .intro s0 Oo;refine fR 4 W<|bE W W W (ago i) R W<|fR 9 W<|fK W W W (by omega) ?_;rw[p];refine bt V W W<|fR 2 W<|lJ (H0:=GH v az main T) W W W W (by rfl) W (by rw[gD];omega) (by rw[gD];omega)<|fR 1 W<|bS W W W (lg _ _) W W<|TF.nil ⟨by kernel_rfl,rfl⟩
    refine dO [2,41] W<|K_ (aI W W W (by omega))<|dL [] W<|wN (k':=2-(i+1)) (by omega) ⟨i+1,e++[.mk c b [] []],T,rfl,by omega,by simp[z],.snoc A c (by grind) F Y (λh=>by grind) b (by rw[<-f.n];exact Oe),⟨by have:=j.i;have:=f.i;omega,j.le,by have:=j.n;have:=f.n;omega,j.ox,by have:=j.q0;have:=f.q;simp only[ws];omega,by have:=j.q1;have:=f.q;omega⟩,rfl⟩ (by intro E;simp only[Go.Mt.get];rw[X];cases Nat.beq 9 E<;>cases Nat.beq 8 E<;>rfl) (by rw[X];rfl) W
  .refine DC.exit ?_;have f:i=2:=by grind
   subst f;obtain⟨j,E,F⟩:=lK v az main l 7 (cr e);refine DC.cZ (Ls:=Ge q t u w x y (.d (.sl (cr e)))) 9 W (by repeat' first|exact pE _|refine fQ ?_|refine gT (i_ (GH v az main l) 7 (cr e) (qQ e)) ?_) ?_;refine dC [2] W ?_;have R:=vj o.1 2 (by omega);exact DC.ret ⟨_,W,j,.d _,E,.sw M e,l,by rw[aJ.cells,P];rfl,F,.EQ M1 A z,⟨Vq,B,b3,Q,by omega,b6⟩⟩
end
end Go.Proofs
namespace Go.Proofs
open Go.Mt Go.Mk
open Tryz
abbrev JW(m:M):List M:=[.d (.int .u8 4),.d (.sl []),.d (.str ⟨#[]⟩),.d (.sl []),.d (.bool false),.d (.int .u8 0),.d (.int .u8 0),.d (.int .i32 0),.d (.str ⟨#[]⟩),.d (.sl []),.d (.sl []),.d (.int .i64 0),.d (.int .i64 0),m,.d (.int .i64 0),.d (.int .i64 0)]
section
variable{zs:List Int}{v:D}(ht:Tape zs v)(az:Nat)(main:Bool)
include ht
theorem Cx(d:Nat)(S:d<=2)(A:oT zs v az main d)(s:Sc)(e:Bt (800-200*d) s)(c:List Va)(ho:c.length<=3)(g:GS)(T:g.i<=zs.length)(hn:g.n<=3*g.i)(Q4:0<g.q)(Rv:g.q<=14):
  DT prog 222 [.ref 1 0,.d (.agg s.cells),.d (.sl (aB c)),.d (.int .i64 ((d+1:Nat):Int))] (GH v az main g) λr K=>∃(q:aJ) (g':GS),r=.d (.agg q.cells)/\K=GH v az main g'/\GQ (GB az d) az s c g.n g'.n [q] []/\Bm zs (3*qB d) g g':=by
 obtain⟨r0,K0,⟨w,B,rfl,rfl,C⟩,U⟩:=e9 ht az main 3 (by omega) (by omega) g T;have hj:=C.lt;have j:=C.mv;have E:=e.b (by omega);have F:=wO d S;have G:((d+1:Nat):Int)-1=(d:Int):=by omega
 have ac:1+((w:Nat):Int)=((w+1:Nat):Int):=by omega
 refine DT.drop 2 (ags _)<|DT.ob func222 W ntmps222 W<|dO [2,2,2,23] W<|K_ (aD U W W)<|dR [24] W<|K_ (aI W W W (by omega)) ?_;rw[ac];refine dL [] W ?_;generalize ce:w+1=N;have n:1<=N/\N<=3:=by omega
 refine dC [2] W<|L3 [(11,.m (.d (.int .i64 ((0:Nat):Int)))),(10,.m (.d (.int .i64 ((N:Nat):Int)))),(9,.loc 9 0),(8,.loc 8 0),(5,.m (.d (.ca s.cells 0))),(3,.m (.d (.int .i64 ((d+1:Nat):Int)))),(2,.m (.d (.sl (aB c)))),(0,.m (.ref 1 0))]
  [(9,JW (gr 2 (cr []))),(8,Gf)] (dY (GH v az main B) 7 (cr [])) W (by intro t;simp only[Go.Mt.get];cases Nat.beq 9 t<;>cases Nat.beq 8 t<;>rfl) W ?_
 refine dC [3] W<|NB (λk f=>∃(i:Nat) (a:List aP) (g':GS) (e:List (Nat×List M)),f=⟨[(11,.m (.d (.int .i64 (i:Int)))),(10,.m (.d (.int .i64 ((N:Nat):Int)))),(9,.loc 9 0),(8,.loc 8 0),(5,.m (.d (.ca s.cells 0))),(3,.m (.d (.int .i64 ((d+1:Nat):Int)))),(2,.m (.d (.sl (aB c)))),(0,.m (.ref 1 0))],e,dY (GH v az main g') 7 (cr a)⟩/\Go.Mt.get e 9=some (JW (gr 2 (cr a)))/\Go.Mt.get e 8=some Gf/\i<=N/\a.length=i/\Am (GB az d) s c N g.n a g'.n/\(g.i<=g'.i/\g'.i<=zs.length/\g.n<=g'.n/\g'.n<=3*g'.i/\ -(ws (qB d) i)<=g'.q/\g'.q<=g.q)/\k=N-i) N _
  ⟨0,[],B,_,rfl,rfl,rfl,by omega,rfl,by have h:=j.n;rw[h];exact .nil,⟨j.i,j.le,by rw[j.n];exact ags _,by have:=j.n;have:=j.i;omega,by have:=j.q;simp only[ws];omega,by rw[j.q];exact Int.le_refl _⟩,W⟩ W ?_
 rintro am s2 ⟨i,a,l,bx,rfl,o,x,hi,p,y,⟨V,z,X,Y,b5,Z⟩,rfl⟩;refine dC [2] W<|DC.cond W (λH=>?_) (λH=>?_)
 .have Lg:i<N:=by grind
  have SU:=vj F.1 i (by omega);have I:decide ((i:Int)>0)=decide (0<i):=by grind
  have J:=lx (i+1) i (by omega) (by omega);have OH:=gR i;refine dC [3] W ?_;rcases ag5 i with h0|h0
  .skip
   have u:LS c c:=LS.refl _;have f:Mv zs l l:=⟨rfl,rfl,ags _,z⟩;have MO:=u.len;obtain⟨r5,K5,⟨q,R,rfl,rfl,h,Vs⟩,MZ⟩:=t_ ht az main s E N n l f.le;have Yk:=eI (by rfl) MZ 7 (cr a);obtain⟨r3,K3,⟨b,g3,rfl,rfl,Oe,m⟩,L7⟩:=A s.jZ e.jZ c (by omega) R h.le (by have:=f.n;have:=f.i;have:=h.n;have:=h.i;omega) (by have:=f.q;have:=h.q;omega) (by have:=f.q;have:=h.q;omega);obtain⟨bv,bq,L⟩:=b.shape;have O:=eI (by rfl) L7 7 (cr a);rw[L]at O;have Ph:=qN s c (by have:=e.ready;omega) (by omega);obtain⟨r6,K6,⟨t,P,rfl,rfl,k,Ry⟩,RC⟩:=t_ ht az main (s.more c) ⟨by have:=e.ready;simp only[Sc.more,agq];omega,by have:=e.all;simp only[Sc.more];omega,by have:=e.aY;simp only[Sc.more];omega⟩ N n g3 m.le;have Ol:=eI (by rfl) RC 7 (cr a);have Q:cr (a++[.mk (nm 83 a.length) b q t])=cr a++[[.str (⟨#[83]⟩++dg i),.sl bv,.sl bq,.sl (eG q),.sl (eG t),.int .i64 0,.int .i64 0]]:=by rw[kv,aP.cells,L,p];rfl
   refine dO [2,2,32] W<|K_ (av W W W (r:=.bool false) (by show some (D.bool (decide _))=_;rw[I,ahc (by omega)]))<|dR [0,2,37] W<|K_ (aL J W W)<|dR [38] W<|K_ (j' W W W (by have:(⟨#[83]⟩:ByteArray).size=1:=rfl;omega))<|dR [2,43] W<|K_ (aD Yk W W)<|dR [2,53] W<|K_ (cD W W W (by omega)) ?_;rw[G];refine dR [54] W<|K_ (aD O W W)<|dR [2,59] W<|K_ (aL Ph W W)<|dR [61] W<|K_ (aD Ol W W)<|dR [2,64] W<|K_ (aF W W o W)<|dR [67] W<|K_ (wG (H0:=GH v az main P) W W W W (by rfl) W (by rw[gD];omega) (by rw[gD];omega))<|dR [999] W<|K_ (aC W W o (lg _ _) W W)<|dR [2,29] W<|K_ (aI W W W (by omega))<|dL [] W<|bH (k':=N-(i+1)) (by omega) ⟨i+1,a++[.mk (nm 83 a.length) b q t],P,_,rfl,by rw[Q];rfl,x,by omega,by simp[p],by
    have h6:=k.n;rw[h6];refine .snoc y c u (λ_=>rfl) q Vs b ?_ t Ry;have e1:=f.n;have e2:=h.n;rw[<-e1,<-e2];exact Oe,⟨by have:=m.i;have:=f.i;have:=h.i;have:=k.i;omega,k.le,by have:=m.n;have:=f.n;have:=h.n;have:=k.n;omega,by have:=m.ox;have:=k.n;have:=k.i;omega,by have:=m.q0;have:=f.q;have:=h.q;have:=k.q;simp only[ws];omega,by have:=m.q1;have:=f.q;have:=h.q;have:=k.q;omega⟩,rfl⟩ (by rw[Q];rfl) W
  .skip
   obtain⟨r4,K4,⟨q,g4,rfl,rfl,f,L⟩,OQ⟩:=yx ht az main c (by omega) l z;have MO:=L.len;obtain⟨r5,K5,⟨t,g5,rfl,rfl,h,Vs⟩,MZ⟩:=t_ ht az main s E N n g4 f.le;have Yk:=eI (by rfl) MZ 7 (cr a);obtain⟨r3,K3,⟨b,g3,rfl,rfl,Oe,m⟩,L7⟩:=A s.jZ e.jZ q (by omega) g5 h.le (by have:=f.n;have:=f.i;have:=h.n;have:=h.i;omega) (by have:=f.q;have:=h.q;omega) (by have:=f.q;have:=h.q;omega);obtain⟨bv,bq,O⟩:=b.shape;have P:=eI (by rfl) L7 7 (cr a);rw[O]at P;have Ph:=qN s q (by have:=e.ready;omega) (by omega);obtain⟨r6,K6,⟨u,Q,rfl,rfl,k,Ry⟩,RC⟩:=t_ ht az main (s.more q) ⟨by have:=e.ready;simp only[Sc.more,agq];omega,by have:=e.all;simp only[Sc.more];omega,by have:=e.aY;simp only[Sc.more];omega⟩ N n g3 m.le;have Ol:=eI (by rfl) RC 7 (cr a);have R:cr (a++[.mk (nm 83 a.length) b t u])=cr a++[[.str (⟨#[83]⟩++dg i),.sl bv,.sl bq,.sl (eG t),.sl (eG u),.int .i64 0,.int .i64 0]]:=by rw[kv,aP.cells,O,p];rfl
   refine dO [2,2,32] W<|K_ (av W W W (r:=.bool true) (by show some (D.bool (decide _))=_;rw[I,aha (by omega)]))<|dR [1,2,35] W<|K_ (aD (eI (by rfl) OQ 7 (cr a)) W W)<|dR [2,37] W<|K_ (aL J W W)<|dR [38] W<|K_ (j' W W W (by have:(⟨#[83]⟩:ByteArray).size=1:=rfl;omega))<|dR [2,43] W<|K_ (aD Yk W W)<|dR [2,53] W<|K_ (cD W W W (by omega)) ?_;rw[G];refine dR [54] W<|K_ (aD P W W)<|dR [2,59] W<|K_ (aL Ph W W)<|dR [61] W<|K_ (aD Ol W W)<|dR [2,64] W<|K_ (aF W W o W)<|dR [67] W<|K_ (wG (H0:=GH v az main Q) W W W W (by rfl) W (by rw[gD];omega) (by rw[gD];omega))<|dR [999] W<|K_ (aC W W o (lg _ _) W W)<|dR [2,29] W<|K_ (aI W W W (by omega))<|dL [] W<|bH (k':=N-(i+1)) (by omega) ⟨i+1,a++[.mk (nm 83 a.length) b t u],Q,_,rfl,by rw[R];rfl,x,by omega,by simp[p],by
    have h6:=k.n;rw[h6];refine .snoc y q L (λh=>by grind) t Vs b ?_ u Ry;have e1:=f.n;have e2:=h.n;rw[<-e1,<-e2];exact Oe,⟨by have:=m.i;have:=f.i;have:=h.i;have:=k.i;omega,k.le,by have:=m.n;have:=f.n;have:=h.n;have:=k.n;omega,by have:=m.ox;have:=k.n;have:=k.i;omega,by have:=m.q0;have:=f.q;have:=h.q;have:=k.q;simp only[ws];omega,by have:=m.q1;have:=f.q;have:=h.q;have:=k.q;omega⟩,rfl⟩ (by rw[R];rfl) W
 .refine DC.exit ?_;have f:i=N:=by have:=agv H;omega
  subst f;obtain⟨k,h,m⟩:=lK v az main l 7 (cr a);refine DC.cZ (Ls:=JW (.d (.sl (cr a)))) 9 o (by repeat' first|exact pE _|refine fQ ?_|refine gT (i_ (GH v az main l) 7 (cr a) (qQ a)) ?_) ?_;refine dO [2,999] W<|K_ (aC W W x W W W)<|dL [] W ?_;have q:=vj F.1 i (by omega);exact DC.ret ⟨_,W,k,.d _,h,.wg a,l,by rw[aJ.cells];rfl,m,.wg i n y p,⟨V,z,X,Y,by omega,Z⟩⟩
end
end Go.Proofs
namespace Go.Mt
variable{Lh n:Nat}{cs:List M}
section
variable{P:Program}{n B:Nat}{post:Exit->St->Prop}{sl:List (Nat×V)}{bx:List (Nat×List M)}{H:Hp}
def DC.lc{c:Code}(j:Nat){a:Nat}(b:H[j]?=some (.row false a Lh cs))(k:DC P n B c ⟨sl,bx,H.set j (.row true a Lh cs)⟩ post):DC P n B c ⟨sl,bx,H⟩ post:=
 Mq _ (λ_ _ _ a w a=>a.lc b) k
end
def jO{H:Hp}{i k:Nat}{rs:List (List D)}(a:H[i]?=some (.row true n Lh (bf rs)))(b:k=rs.length)(c:rs≠[])(d:∀r∈rs,r.length=n):eK H (.cy i Lh k)=some (.sl rs):=
 Acc.view (n:=n) (i:=i) (.inr ⟨c,Lh,by rw[b],a⟩) d
section
variable{X:cY}{ops:Array Oper}{rest:List Oper}{sl:List (Nat×V)}{bx:List (Nat×List M)}{H:Hp}{Lw:List Ef->St->Prop}{d ty:Nat}{pos:String}{af:Array Edge}
def wi{T e len:Nat}{parts:List (Nat×Operand)}{z:D}{ms:List (Nat×M)}[ht:br X.P T e][b:cc X.P e n][g:fC X.P e z](a:Nat.blt d X.n=true)(c:Nat.blt 0 n=true)(f:(bP z).length=n)
  (i:Nat.ble (len*n) 16777216=true) (g:ez sl parts=some ms) (h:gK (λi=>some (i*n,n)) (fM n len (bP z)) ms=some cs)
  (k:TF X ops rest ⟨(d,.m (.cy H.length 0 len))::sl,bx,H++[Ob.row false n 0 cs]⟩ λa b=>Lw (⟨some d,.m (.cy H.length 0 len),[],[],none,true,some (H++[Ob.row false n 0 cs])⟩::a) b):TF X ops (⟨some d,.buildSlice T len parts.toArray,ty,pos,af,none⟩::rest) ⟨sl,bx,H⟩ Lw:=by
 refine TF.cons (e:=⟨some d,.m (.cy H.length 0 len),[],[],none,true,some (H++[Ob.row false n 0 cs])⟩) (je.xn W W (bL a) λa b=>?_) W k;have a:=b.H W;simp only at a;exact pJ c f i (by rw[b.dF (λp a=>by simp[Op.operands];exact⟨_,a⟩),eA];exact g) h (.inl ⟨by rw[a],by rw[a]⟩)
end
end Go.Mt
namespace Go.Proofs
open Go.Mt Go.Mk
open Tryz
instance:bu prog 166:=dz (by kernel_rfl)
instance:bu prog 169:=dz (by kernel_rfl)
instance:bu prog 224:=dz (by kernel_rfl)
instance:bu prog 225:=dz (by kernel_rfl)
def eh(l:List aJ):(bU l).length=l.length:=by rw[kh];simp
def eV(l:List aJ):∀r∈bU l,r.length=16:=by rw[kh];intro r a;obtain⟨_,_,rfl⟩:=agC.1 a;exact aJ.len _
def g_(a b:List aJ):bU (a++b)=bU a++bU b:=by rw[kh,kh,kh];simp
def re{l:List D}(h:l.length=16):∃a b c d e f g i j k m n o p q r,l=[a,b,c,d,e,f,g,i,j,k,m,n,o,p,q,r]:=by
 match l,h with
 |[a,b,c,d,e,f,g,i,j,k,m,n,o,p,q,r],_=>exact⟨_,_,_,_,_,_,_,_,_,_,_,_,_,_,_,_,W⟩
def Cy(az:Nat):Nat->Sc->List Va->Nat->Nat->bT->Prop
 |0=> λ_ _ _ _ _=>False
 |d+1=>GB az d
def qP:Nat->Int
 |0=>0
 |d+1=>qB d
def iE{P:Program}{f:Nat}{ms:List M}{v:D}{az:Nat}{a:Bool}{g g':GS}{r:M}(h:(ms.all (AS 2))=true)(i:CT P f ms (GH v az a g) λc d=>c=r/\d=GH v az a g')(F:Hp):
  CT P f ms (GH v az a g++F) λc d=>c=r/\d=GH v az a g'++F:=by
 refine(CT.suffix F (H:=GH v az a g) (nq v az a g) (λm a=>iL (ahD.1 h m a)) (i.mono λc d ⟨e,b⟩=>(⟨by rw[b];rfl,e,b⟩:d.length=(GH v az a g).length/\(c=r/\d=GH v az a g')))).mono ?_;rintro c k ⟨j,rfl,_,rfl,rfl⟩;exact⟨W,W⟩
section
variable(zs:List Int)(v:D)(az:Nat)(main:Bool)
def vk(a c:Nat):Prop:=∀(s:Sc),s.ready.length+2*c<=900-200*a->s.all.length<=1000->s.aY.length<=900-200*a->∀(e:List Va),e.length<=3->∀(g:GS),g.i<=zs.length->g.n<=3*g.i->g.q<=c-> -300000<=g.q->g.q<=14->
 DT prog 169 [.ref 1 0,.d (.agg s.cells),.d (.sl (aB e)),.d (.int .i64 ((a:Nat):Int))] (GH v az main g) λr K=>∃(q:List aJ) (b:List Va) (d:GS),r=.c_ [.d (.sl (bU q)),.d (.sl (aB b))]/\K=GH v az main d/\GQ (Cy az a) az s e g.n d.n q b/\q.length<=3*c+3/\b.length<=3*c/\Bm zs (1+3*qP a) g d
end
section
variable{zs:List Int}{v:D}(ht:Tape zs v)(az:Nat)(main:Bool)
include ht
theorem Cz(f c:Nat)(hD:f<=3)(W8:c<=14)(X:vk zs v az main f c)(s:Sc)(h:s.ready.length+2*c+2<=900-200*f)(Y:s.all.length<=1000)(Z:s.aY.length<=900-200*f)(B:List Va)(ho:B.length<=3)(Pw:0<az)(P_:az<=10)
  (g:GS) (C:g.i<=zs.length) (hn:g.n+3<=3*g.i) (Q4:0<g.q) (Rv:g.q<=c):
  DT prog 224 [.ref 1 0,.d (.agg s.cells),.d (.sl (aB B)),.d (.int .i64 ((f:Nat):Int))] (GH v az main g) λr K=>∃(q:List aJ) (a:List Va) (g':GS),r=.c_ [.d (.sl (bU q)),.d (.sl (aB a))]/\K=GH v az main g'/\GQ (Cy az f) az s B g.n g'.n q a/\q.length<=3*(c+1)+3/\a.length<=3*(c+1)/\Bm zs (1+3*qP f) g g':=by
 have hL:=ht.hl;obtain⟨F,a,G⟩:=g;simp only at C hn Q4 Rv;have H:vi s:=⟨by omega,by omega,by omega⟩;obtain⟨r1,K1,⟨rfl,rfl⟩,Lp⟩:=oS ht az main 117 ⟨F,a,G⟩ C (by grind);obtain⟨r2,K2,⟨rfl,rfl⟩,Ly⟩:=oS ht az main 117 ⟨F,a+1,G⟩ C (by grind);obtain⟨r3,K3,⟨j,g3,rfl,rfl,ND⟩,L7⟩:=e9 ht az main az Pw (by omega) ⟨F,a+2,G⟩ C;have PM:=ND.mv;have hj:=ND.lt;have Q7:=lx (j+1) j (by omega) (by omega);have OH:=gR j;obtain⟨r4,K4,⟨d,g4,rfl,rfl,O8,MD⟩,I⟩:=fv ht az main 2 (by omega) s H .int true g3 PM.le;obtain⟨i,k,l,m,n,o,J⟩:=d.shape;rw[J]at I;obtain⟨r5,K5,⟨b,g5,rfl,rfl,Oe,Oh⟩,L⟩:=fv ht az main 2 (by omega) s H .bool true g4 MD.le;obtain⟨p,q,t,u,w,x,M⟩:=b.shape;rw[M]at L;obtain⟨r6,K6,⟨j6,z,rfl,rfl,XT⟩,RC⟩:=e9 ht az main 3 (by omega) (by omega) g5 Oh.le;have N:=XT.mv;have O:=PM.trans (MD.trans (Oh.trans N));have am:=O.n;have ce:=O.q;have co:=O.i;simp only at am ce co;have Ph:=qN s [eu 117 (a+1) .int,eu 117 (a+2) .iO] (by omega) (by simp);rcases ag5 j6 with ac|ac
 .skip
  subst ac;obtain⟨r7,K7,⟨e,g7,rfl,rfl,M1,E⟩,T5⟩:=fv ht az main 2 (by omega) s H .bool true z N.le;obtain⟨P,Q,R,S,T,U,h7⟩:=e.shape;rw[h7]at T5;have d5:=E.n;have d6:=E.q;have d7:=E.i;obtain⟨r8,K8,⟨A,D,V,rfl,rfl,Om,NW,Ot,y⟩,T6⟩:=X (s.more [eu 117 (a+1) .int,eu 117 (a+2) .iO]) (by simp only[Sc.more,agq,agA,List.length_nil];omega) Y Z B ho g7 E.le (by omega) (by omega) (by omega) (by omega);have V':=y.q0;refine DT.drop 2 (ags _)<|DT.ob func224 W ntmps224 W<|dO [2,2,22] W<|K_ (aD Lp W W)<|dR [23] W<|K_ (aL dM W W)<|dR [2,26] W<|K_ (aD Ly W W)<|dR [27] W<|K_ (aL jN W W)<|dL [] W ?_;apply Le fG
  .intro s0 Oo;refine fR 8 W<|bt L7 W W<|bc Q7 W W<|oG W W W (by have:(⟨#[102]⟩:ByteArray).size=1:=rfl;omega)<|fR 8 W<|TF.nil ⟨by kernel_rfl,rfl⟩
  refine dC [] W ?_;apply Le fG
  .intro s0 Oo;refine fR 2 W<|bc dM W W<|bt I W W<|fR 2 W<|bc jd W W<|bt L W W<|fR 3 W<|TF.nil ⟨by kernel_rfl,rfl⟩
  refine dO [2,60] W<|K_ (aD RC W W)<|dL [1,2] W ?_;apply Le fG
  .intro s0 Oo;refine fR 2 W<|bc jd W W<|bt T5 W W<|fR 2 W<|TF.nil ⟨by kernel_rfl,rfl⟩
  refine dO [2,74] W<|K_ (aL Ph W W)<|dR [77] W<|K_ (aD T6 W W)<|dL [] W ?_;have NF:(aJ.call (nm 117 (a+1)) (nm 117 (a+2)) (nm 102 j) d b true e).cells=[.int .u8 2,.sl [[.str (nm 117 (a+1))],[.str (nm 117 (a+2))]],.str (nm 102 j),.sl [bD i k l m n o,bD p q t u w x],.bool true,.int .u8 P,.int .u8 Q,.int .i32 R,.str S,.sl T,.sl U,.int .i64 0,.int .i64 0,.sl [],.int .i64 0,.int .i64 0]:=by rw[aJ.cells,J,M,h7];rfl
  refine dO [2,2,83] W<|K_ (fl true W W W W (by rfl) (by simp) (by exact cM W) (by grind))<|dR [2,86] W<|K_ (fm (cs:=bf [[.int .u8 2,.sl [[.str (nm 117 (a+1))],[.str (nm 117 (a+2))]],.str (nm 102 j),.sl [bD i k l m n o,bD p q t u w x],.bool true,.int .u8 P,.int .u8 Q,.int .i32 R,.str S,.sl T,.sl U,.int .i64 0,.int .i64 0,.sl [],.int .i64 0,.int .i64 0]]) W W W W W (eV A) (by rw[eh];simp;omega) (by rw[eh];simp;omega))<|dR [2,2,91] W<|K_ (fl true W W W W (by rfl) (by simp) (by intro r h;simp at h;rcases h with rfl|rfl<;>rfl) (by grind))<|dR [2,95] W<|K_ (fm (cs:=bf (aB [eu 117 (a+1) .int,eu 117 (a+2) .iO])) W W W W W (bR D) (by rw[bM];simp;omega) (by rw[bM];simp;omega))<|dL [] W<|LF [(8,.m (.cy 2 1 (1+(bU A).length))),(9,.m (.cy 3 1 (2+(aB D).length)))] (GH v az main V++[.row true 16 1 (bf ([.int .u8 2,.sl [[.str (nm 117 (a+1))],[.str (nm 117 (a+2))]],.str (nm 102 j),.sl [bD i k l m n o,bD p q t u w x],.bool true,.int .u8 P,.int .u8 Q,.int .i32 R,.str S,.sl T,.sl U,.int .i64 0,.int .i64 0,.sl [],.int .i64 0,.int .i64 0]::bU A)),.row true 15 1 (bf (aB (eu 117 (a+1) .int::eu 117 (a+2) .iO::D)))]) W W<|DC.bg 8 W (jO W (by grind) (by simp) (by rw[<-NF];exact eV (.call (nm 117 (a+1)) (nm 117 (a+2)) (nm 102 j) d b true e::A)))<|DC.bg 9 W (jO W (by simp only[bM,agA];omega) (by simp[aB]) (bR _)) ?_
  refine DC.ret ⟨_,W,nU W,iL W,nq v az main V,.call (nm 117 (a+1)) (nm 117 (a+2)) (nm 102 j) d b true e::A,eu 117 (a+1) .int::eu 117 (a+2) .iO::D,V,by rw[bU,NF];rfl,rfl,?_,by grind,by grind,⟨by have:=y.i;simp only;omega,y.le,by have:=y.n;simp only;omega,y.ox,by grind,by have:=y.q1;simp only;omega⟩⟩;refine .call j hj d b O8 Oe _ _ (.inr ⟨W,M1⟩) ?_;have e2:a+2=g7.n:=by omega
  rw[e2];rw[e2]at Om;exact Om
 .skip
  have S:Mv zs z z:=⟨rfl,rfl,ags _,N.le⟩;obtain⟨U,V,⟨A,D,E,rfl,rfl,P,NW,Ot,y⟩,T⟩:=X (s.more [eu 117 (a+1) .int,eu 117 (a+2) .iO]) (by simp only[Sc.more,agq,agA,List.length_nil];omega) Y Z B ho z S.le (by omega) (by omega) (by omega) (by omega);have V':=y.q0;refine DT.drop 2 (ags _)<|DT.ob func224 W ntmps224 W<|dO [2,2,22] W<|K_ (aD Lp W W)<|dR [23] W<|K_ (aL dM W W)<|dR [2,26] W<|K_ (aD Ly W W)<|dR [27] W<|K_ (aL jN W W)<|dL [] W ?_;apply Le fG
  .intro s0 Oo;refine fR 8 W<|bt L7 W W<|bc Q7 W W<|oG W W W (by have:(⟨#[102]⟩:ByteArray).size=1:=rfl;omega)<|fR 8 W<|TF.nil ⟨by kernel_rfl,rfl⟩
  refine dC [] W ?_;apply Le fG
  .intro s0 Oo;refine fR 2 W<|bc dM W W<|bt I W W<|fR 2 W<|bc jd W W<|bt L W W<|fR 3 W<|TF.nil ⟨by kernel_rfl,rfl⟩
  refine dO [2,60] W<|K_ (aD RC W W)<|dR [61] W<|K_ (dW (ahG.2 (by omega)) W W W W)<|dR [0,2,74] W<|K_ (aL Ph W W)<|dR [77] W<|K_ (aD T W W)<|dL [] W ?_;have Q:(aJ.call (nm 117 (a+1)) (nm 117 (a+2)) (nm 102 j) d b false .nil).cells=[.int .u8 2,.sl [[.str (nm 117 (a+1))],[.str (nm 117 (a+2))]],.str (nm 102 j),.sl [bD i k l m n o,bD p q t u w x],.bool false,.int .u8 0,.int .u8 0,.int .i32 0,.str ⟨#[]⟩,.sl [],.sl [],.int .i64 0,.int .i64 0,.sl [],.int .i64 0,.int .i64 0]:=by rw[aJ.cells,J,M];rfl
  refine dO [2,2,83] W<|K_ (fl true W W W W (by rfl) (by simp) (by exact cM W) (by grind))<|dR [2,86] W<|K_ (fm (cs:=bf [[.int .u8 2,.sl [[.str (nm 117 (a+1))],[.str (nm 117 (a+2))]],.str (nm 102 j),.sl [bD i k l m n o,bD p q t u w x],.bool false,.int .u8 0,.int .u8 0,.int .i32 0,.str ⟨#[]⟩,.sl [],.sl [],.int .i64 0,.int .i64 0,.sl [],.int .i64 0,.int .i64 0]]) W W W W W (eV A) (by rw[eh];simp;omega) (by rw[eh];simp;omega))<|dR [2,2,91] W<|K_ (fl true W W W W (by rfl) (by simp) (by intro r h;simp at h;rcases h with rfl|rfl<;>rfl) (by grind))<|dR [2,95] W<|K_ (fm (cs:=bf (aB [eu 117 (a+1) .int,eu 117 (a+2) .iO])) W W W W W (bR D) (by rw[bM];simp;omega) (by rw[bM];simp;omega))<|dL [] W<|LF [(8,.m (.cy 2 1 (1+(bU A).length))),(9,.m (.cy 3 1 (2+(aB D).length)))] (GH v az main E++[.row true 16 1 (bf ([.int .u8 2,.sl [[.str (nm 117 (a+1))],[.str (nm 117 (a+2))]],.str (nm 102 j),.sl [bD i k l m n o,bD p q t u w x],.bool false,.int .u8 0,.int .u8 0,.int .i32 0,.str ⟨#[]⟩,.sl [],.sl [],.int .i64 0,.int .i64 0,.sl [],.int .i64 0,.int .i64 0]::bU A)),.row true 15 1 (bf (aB (eu 117 (a+1) .int::eu 117 (a+2) .iO::D)))]) W W<|DC.bg 8 W (jO W (by grind) (by simp) (by rw[<-Q];exact eV (.call (nm 117 (a+1)) (nm 117 (a+2)) (nm 102 j) d b false .nil::A)))<|DC.bg 9 W (jO W (by simp only[bM,agA];omega) (by simp[aB]) (bR _)) ?_
  refine DC.ret ⟨_,W,nU W,iL W,nq v az main E,.call (nm 117 (a+1)) (nm 117 (a+2)) (nm 102 j) d b false .nil::A,eu 117 (a+1) .int::eu 117 (a+2) .iO::D,E,by rw[bU,Q];rfl,rfl,?_,by grind,by grind,⟨by have:=y.i;simp only;omega,y.le,by have:=y.n;simp only;omega,y.ox,by grind,by have:=y.q1;simp only;omega⟩⟩;refine .call j hj d b O8 Oe _ _ (.inl ⟨W,W⟩) ?_;have R:a+2=z.n:=by omega
  rw[R];rw[R]at P;exact P
end
section
variable{zs:List Int}{v:D}(ht:Tape zs v)(az:Nat)(main:Bool)
include ht
def CA(M c:Nat)(hD:M<=3)(W8:c<=14)(ih:vk zs v az main M c)(s:Sc)(P:s.ready.length+2*c+2<=900-200*M)(ha:s.all.length<=1000)(PQ:s.aY.length<=900-200*M)(X:List Va)(ho:X.length<=3)
  (g:GS) (Y:g.i<=zs.length) (hn:g.n+3<=3*g.i) (Q4:0<g.q) (Rv:g.q<=c):
  DT prog 225 [.ref 1 0,.d (.agg s.cells),.d (.sl (aB X)),.d (.int .i64 ((M:Nat):Int))] (GH v az main g) λr K=>∃(q:List aJ) (a:List Va) (g':GS),r=.c_ [.d (.sl (bU q)),.d (.sl (aB a))]/\K=GH v az main g'/\GQ (Cy az M) az s X g.n g'.n q a/\q.length<=3*(c+1)+3/\a.length<=3*(c+1)/\Bm zs (1+3*qP M) g g':=by
 have hL:=ht.hl;obtain⟨gi,a,gq⟩:=g;simp only at Y hn Q4 Rv;have OZ:vi s:=⟨by omega,by omega,by omega⟩;obtain⟨r1,K1,⟨rfl,rfl⟩,Lp⟩:=oS ht az main 99 ⟨gi,a,gq⟩ Y (by simp only;omega);obtain⟨r2,K2,⟨rfl,rfl⟩,Ly⟩:=oS ht az main 119 ⟨gi,a+1,gq⟩ Y (by simp only;omega);obtain⟨r3,K3,⟨rfl,rfl⟩,L7⟩:=oS ht az main 122 ⟨gi,a+2,gq⟩ Y (by simp only;omega);obtain⟨r4,K4,⟨f,g4,rfl,rfl,O8,MD⟩,OQ⟩:=fv ht az main 2 (by omega) s OZ .int false ⟨gi,a+3,gq⟩ Y;obtain⟨h,i,j,k,l,m,Z⟩:=f.shape;rw[Z]at OQ;obtain⟨r5,K5,⟨b,g5,rfl,rfl,Oe,Oh⟩,MZ⟩:=fv ht az main 2 (by omega) s OZ .int false g4 MD.le;obtain⟨n,o,p,q,t,u,h5⟩:=b.shape;rw[h5]at MZ;obtain⟨r6,K6,⟨J,g6,rfl,rfl,am,OD⟩,RC⟩:=gZ ht az main .int g5 Oh.le;obtain⟨w,x,y,z,A,B,h6⟩:=J.shape;rw[h6]at RC;obtain⟨r7,K7,⟨O,g7,rfl,rfl,W9,Sb⟩,T5⟩:=gZ ht az main .int g6 OD.le;obtain⟨Q,R,S,sl,T,U,h7⟩:=O.shape;rw[h7]at T5;have Vu:=jT 7 3 (.var (nm 119 (a+2))) (.lS (nm 99 (a+1)) cS f);have Vv:=jT 9 0 O (.bin 3 (.var (nm 119 (a+2))) (.lS (nm 99 (a+1)) cS f));simp only[E.cells,Z]at Vu;simp only[E.cells,Z,h7]at Vv;obtain⟨r8,K8,⟨j8,g8,rfl,rfl,d5⟩,T6⟩:=e9 ht az main 2 (by omega) (by omega) g7 Sb.le;have ce:=d5.mv;obtain⟨r9,K9,⟨e,g9,rfl,rfl,M1,d6⟩,Yl⟩:=fv ht az main 3 (by omega) s OZ .iO true g8 ce.le;obtain⟨C,D,F,G,H,I,h9⟩:=e.shape;rw[h9]at Yl;have TG:=MD.trans (Oh.trans (OD.trans (Sb.trans (ce.trans d6))));have d7:=TG.n;have d8:=TG.q;have d9:=TG.i;simp only at d7 d8 d9
 have Ph:=qN s [eu 99 (a+1) .iO,eu 122 (a+3) .int] (by omega) (by simp);obtain⟨f5,f6,⟨d,N,V,rfl,rfl,Om,NW,Ot,L⟩,W_⟩:=ih (s.more [eu 99 (a+1) .iO,eu 122 (a+3) .int]) (by simp only[Sc.more,agq,agA,List.length_nil];omega) ha PQ X ho g9 TG.le (by omega) (by omega) (by omega) (by omega);have V':=L.q0;rcases ag5 j8 with co|co
 .skip
  subst co;have NF:bU (.df (nm 99 (a+1)) e:: .df (nm 119 (a+2)) (.lS (nm 99 (a+1)) cS f):: .df (nm 122 (a+3)) (.merge (nm 99 (a+1)) ci cS eF (.lS (nm 99 (a+1)) ci b) (.var (nm 119 (a+2))) J):: [])=[[.int .u8 1,.sl [[.str (nm 99 (a+1))]],.str ⟨#[]⟩,.sl [],.bool false,.int .u8 C,.int .u8 D,.int .i32 F,.str G,.sl H,.sl I,.int .i64 0,.int .i64 0,.sl [],.int .i64 0,.int .i64 0],[.int .u8 1,.sl [[.str (nm 119 (a+2))]],.str ⟨#[]⟩,.sl [],.bool false,.int .u8 12,.int .u8 0,.int .i32 0,.str (nm 99 (a+1)),.sl [[.str cS]],.sl [bD h i j k l m],.int .i64 0,.int .i64 0,.sl [],.int .i64 0,.int .i64 0],[.int .u8 1,.sl [[.str (nm 122 (a+3))]],.str ⟨#[]⟩,.sl [],.bool false,.int .u8 13,.int .u8 0,.int .i32 0,.str (nm 99 (a+1)),.sl [[.str ci],[.str cS],[.str eF]],.sl [bD 12 0 0 (nm 99 (a+1)) [[.str ci]] [bD n o p q t u],bD 4 0 0 (nm 119 (a+2)) [] [],bD w x y z A B],.int .i64 0,.int .i64 0,.sl [],.int .i64 0,.int .i64 0]]:=by simp only[bU,aJ.cells,E.cells,Z,h5,h6,h7,h9];rfl
  have Vw:=iE (by rfl) W_ [.row true 16 0 (bf [[.int .u8 1,.sl [[.str (nm 99 (a+1))]],.str ⟨#[]⟩,.sl [],.bool false,.int .u8 C,.int .u8 D,.int .i32 F,.str G,.sl H,.sl I,.int .i64 0,.int .i64 0,.sl [],.int .i64 0,.int .i64 0],[.int .u8 1,.sl [[.str (nm 119 (a+2))]],.str ⟨#[]⟩,.sl [],.bool false,.int .u8 12,.int .u8 0,.int .i32 0,.str (nm 99 (a+1)),.sl [[.str cS]],.sl [bD h i j k l m],.int .i64 0,.int .i64 0,.sl [],.int .i64 0,.int .i64 0],[.int .u8 1,.sl [[.str (nm 122 (a+3))]],.str ⟨#[]⟩,.sl [],.bool false,.int .u8 13,.int .u8 0,.int .i32 0,.str (nm 99 (a+1)),.sl [[.str ci],[.str cS],[.str eF]],.sl [bD 12 0 0 (nm 99 (a+1)) [[.str ci]] [bD n o p q t u],bD 4 0 0 (nm 119 (a+2)) [] [],bD w x y z A B],.int .i64 0,.int .i64 0,.sl [],.int .i64 0,.int .i64 0]])];refine DT.drop 2 (ags _)<|DT.ob func225 W ntmps225 W<|dO [2,2,26] W<|K_ (aD Lp W W)<|dR [27] W<|K_ (aL jN W W)<|dL [] W ?_;apply Le fG
  .intro s0 Oo;refine fR 1 W<|bt Ly W W<|bc dM W W<|fR 7 W<|TF.nil ⟨by kernel_rfl,rfl⟩
  refine dO [2,38] W<|K_ (aD L7 W W)<|dR [39] W<|K_ (aL dM W W)<|dL [] W ?_;apply Le fG
  .intro s0 Oo;refine fR 5 W<|bc dM W W<|bt OQ W W<|fR 4 W<|TF.nil ⟨by kernel_rfl,rfl⟩
  refine dC [] W ?_;apply Le fG
  .intro s0 Oo;refine fR 5 W<|bc dM W W<|bt MZ W W<|fR 4 W<|TF.nil ⟨by kernel_rfl,rfl⟩
  refine dC [] W ?_;apply Le fG
  .intro s0 Oo;refine fR 8 W<|bc dM W W<|bt RC W W<|fR 4 W<|TF.nil ⟨by kernel_rfl,rfl⟩
  refine dC [] W ?_;apply Le fG
  .intro s0 Oo;refine fR 1 W<|bc dM W W<|bt T5 W W<|fR 4 W<|bc Vu W W<|bc Vv W W<|fR 2 W<|TF.nil ⟨by kernel_rfl,rfl⟩
  refine dO [2,84] W<|K_ (aD T6 W W)<|dL [1,2] W ?_;apply Le fG
  .intro s0 Oo;refine fR 5 W<|bc jN W W<|bt Yl W W<|fR 11 W<|wi W W W W W W<|fR 1 W<|TF.nil ⟨by kernel_rfl,rfl⟩
  refine DC.lc 2 W<|LF [(17,.m (.cy 2 0 3)),(12,.loc 12 0),(11,.loc 11 0),(10,.loc 10 0),(5,.m (.d (.ca s.cells 0))),(3,.m (.d (.int .i64 ((M:Nat):Int)))),(2,.m (.d (.sl (aB X)))),(0,.m (.ref 1 0))] (GH v az main g9++[.row true 16 0 (bf [[.int .u8 1,.sl [[.str (nm 99 (a+1))]],.str ⟨#[]⟩,.sl [],.bool false,.int .u8 C,.int .u8 D,.int .i32 F,.str G,.sl H,.sl I,.int .i64 0,.int .i64 0,.sl [],.int .i64 0,.int .i64 0],[.int .u8 1,.sl [[.str (nm 119 (a+2))]],.str ⟨#[]⟩,.sl [],.bool false,.int .u8 12,.int .u8 0,.int .i32 0,.str (nm 99 (a+1)),.sl [[.str cS]],.sl [bD h i j k l m],.int .i64 0,.int .i64 0,.sl [],.int .i64 0,.int .i64 0],[.int .u8 1,.sl [[.str (nm 122 (a+3))]],.str ⟨#[]⟩,.sl [],.bool false,.int .u8 13,.int .u8 0,.int .i32 0,.str (nm 99 (a+1)),.sl [[.str ci],[.str cS],[.str eF]],.sl [bD 12 0 0 (nm 99 (a+1)) [[.str ci]] [bD n o p q t u],bD 4 0 0 (nm 119 (a+2)) [] [],bD w x y z A B],.int .i64 0,.int .i64 0,.sl [],.int .i64 0,.int .i64 0]])]) W W<|dO [2,112] W<|K_ (aL Ph W W)<|dR [115] W<|K_ (aD Vw W W)<|dR [2,2,123] W<|K_ (fl true W W W W (by rfl) (by simp) (by intro r P;simp at P;rcases P with rfl|rfl|rfl<;>rfl) (by exact nU W))<|dR [2,126] W ?_
  refine K_ (fm (cs:=bf [[.int .u8 1,.sl [[.str (nm 99 (a+1))]],.str ⟨#[]⟩,.sl [],.bool false,.int .u8 C,.int .u8 D,.int .i32 F,.str G,.sl H,.sl I,.int .i64 0,.int .i64 0,.sl [],.int .i64 0,.int .i64 0],[.int .u8 1,.sl [[.str (nm 119 (a+2))]],.str ⟨#[]⟩,.sl [],.bool false,.int .u8 12,.int .u8 0,.int .i32 0,.str (nm 99 (a+1)),.sl [[.str cS]],.sl [bD h i j k l m],.int .i64 0,.int .i64 0,.sl [],.int .i64 0,.int .i64 0],[.int .u8 1,.sl [[.str (nm 122 (a+3))]],.str ⟨#[]⟩,.sl [],.bool false,.int .u8 13,.int .u8 0,.int .i32 0,.str (nm 99 (a+1)),.sl [[.str ci],[.str cS],[.str eF]],.sl [bD 12 0 0 (nm 99 (a+1)) [[.str ci]] [bD n o p q t u],bD 4 0 0 (nm 119 (a+2)) [] [],bD w x y z A B],.int .i64 0,.int .i64 0,.sl [],.int .i64 0,.int .i64 0]]) W W W W W (eV d) (by rw[eh];omega) (by rw[eh];omega))<|dR [129] W<|K_ (fm (cs:=bf (aB (eu 99 (a+1) .iO::⟨nm 119 (a+2),.int,some (cS,nm 99 (a+1)),false,.nil⟩::eu 122 (a+3) .int:: []))) W W W W W (bR N) (by rw[bM];simp;omega) (by rw[bM];simp;omega))<|dL [] W<|LF [(8,.m (.cy 2 1 (3+(bU d).length))),(9,.m (.cy 3 1 (3+(aB N).length)))] (GH v az main V++[.row true 16 1 (bf ([.int .u8 1,.sl [[.str (nm 99 (a+1))]],.str ⟨#[]⟩,.sl [],.bool false,.int .u8 C,.int .u8 D,.int .i32 F,.str G,.sl H,.sl I,.int .i64 0,.int .i64 0,.sl [],.int .i64 0,.int .i64 0]:: [.int .u8 1,.sl [[.str (nm 119 (a+2))]],.str ⟨#[]⟩,.sl [],.bool false,.int .u8 12,.int .u8 0,.int .i32 0,.str (nm 99 (a+1)),.sl [[.str cS]],.sl [bD h i j k l m],.int .i64 0,.int .i64 0,.sl [],.int .i64 0,.int .i64 0]:: [.int .u8 1,.sl [[.str (nm 122 (a+3))]],.str ⟨#[]⟩,.sl [],.bool false,.int .u8 13,.int .u8 0,.int .i32 0,.str (nm 99 (a+1)),.sl [[.str ci],[.str cS],[.str eF]],.sl [bD 12 0 0 (nm 99 (a+1)) [[.str ci]] [bD n o p q t u],bD 4 0 0 (nm 119 (a+2)) [] [],bD w x y z A B],.int .i64 0,.int .i64 0,.sl [],.int .i64 0,.int .i64 0]::bU d)),.row true 15 1 (bf (aB (eu 99 (a+1) .iO::⟨nm 119 (a+2),.int,some (cS,nm 99 (a+1)),false,.nil⟩::eu 122 (a+3) .int::N)))]) W W ?_
  have Rj:bU (.df (nm 99 (a+1)) e:: .df (nm 119 (a+2)) (.lS (nm 99 (a+1)) cS f):: .df (nm 122 (a+3)) (.merge (nm 99 (a+1)) ci cS eF (.lS (nm 99 (a+1)) ci b) (.var (nm 119 (a+2))) J)::d)=[.int .u8 1,.sl [[.str (nm 99 (a+1))]],.str ⟨#[]⟩,.sl [],.bool false,.int .u8 C,.int .u8 D,.int .i32 F,.str G,.sl H,.sl I,.int .i64 0,.int .i64 0,.sl [],.int .i64 0,.int .i64 0]:: [.int .u8 1,.sl [[.str (nm 119 (a+2))]],.str ⟨#[]⟩,.sl [],.bool false,.int .u8 12,.int .u8 0,.int .i32 0,.str (nm 99 (a+1)),.sl [[.str cS]],.sl [bD h i j k l m],.int .i64 0,.int .i64 0,.sl [],.int .i64 0,.int .i64 0]:: [.int .u8 1,.sl [[.str (nm 122 (a+3))]],.str ⟨#[]⟩,.sl [],.bool false,.int .u8 13,.int .u8 0,.int .i32 0,.str (nm 99 (a+1)),.sl [[.str ci],[.str cS],[.str eF]],.sl [bD 12 0 0 (nm 99 (a+1)) [[.str ci]] [bD n o p q t u],bD 4 0 0 (nm 119 (a+2)) [] [],bD w x y z A B],.int .i64 0,.int .i64 0,.sl [],.int .i64 0,.int .i64 0]::bU d:=by
   have ac:=g_ (.df (nm 99 (a+1)) e:: .df (nm 119 (a+2)) (.lS (nm 99 (a+1)) cS f):: .df (nm 122 (a+3)) (.merge (nm 99 (a+1)) ci cS eF (.lS (nm 99 (a+1)) ci b) (.var (nm 119 (a+2))) J):: []) d;rw[NF]at ac;exact ac
  refine DC.bg 8 W (jO W (by simp;omega) (by simp) (by rw[<-Rj];exact eV _))<|DC.bg 9 W (jO W (by simp only[bM,agA];omega) (by simp[aB]) (bR _))<|DC.ret ⟨_,rfl,nU W,iL W,nq v az main V,.df (nm 99 (a+1)) e:: .df (nm 119 (a+2)) (.lS (nm 99 (a+1)) cS f):: .df (nm 122 (a+3)) (.merge (nm 99 (a+1)) ci cS eF (.lS (nm 99 (a+1)) ci b) (.var (nm 119 (a+2))) J)::d,eu 99 (a+1) .iO::⟨nm 119 (a+2),.int,some (cS,nm 99 (a+1)),false,.nil⟩::eu 122 (a+3) .int::N,V,by rw[Rj];rfl,rfl,?_,by simp;omega,by simp;omega,⟨by have:=L.i;simp only;omega,L.le,by have:=L.n;simp only;omega,L.ox,by simp only;omega,by have:=L.q1;simp only;omega⟩⟩;refine .yw f b J O e _ O8 Oe am W9 M1 (.inl W) ?_;have e2:a+3=g9.n:=by omega
  rw[e2];rw[e2]at Om;exact Om
 .skip
  have NF:bU (.df (nm 99 (a+1)) e:: .df (nm 119 (a+2)) (.rC O (.bin 3 (.var (nm 119 (a+2))) (.lS (nm 99 (a+1)) cS f))):: .df (nm 122 (a+3)) (.merge (nm 99 (a+1)) ci cS eF (.lS (nm 99 (a+1)) ci b) (.var (nm 119 (a+2))) J):: [])=[[.int .u8 1,.sl [[.str (nm 99 (a+1))]],.str ⟨#[]⟩,.sl [],.bool false,.int .u8 C,.int .u8 D,.int .i32 F,.str G,.sl H,.sl I,.int .i64 0,.int .i64 0,.sl [],.int .i64 0,.int .i64 0],[.int .u8 1,.sl [[.str (nm 119 (a+2))]],.str ⟨#[]⟩,.sl [],.bool false,.int .u8 9,.int .u8 0,.int .i32 0,.str ⟨#[]⟩,.sl [],.sl [bD Q R S sl T U,bD 7 3 0 ⟨#[]⟩ [] [bD 4 0 0 (nm 119 (a+2)) [] [],bD 12 0 0 (nm 99 (a+1)) [[.str cS]] [bD h i j k l m]]],.int .i64 0,.int .i64 0,.sl [],.int .i64 0,.int .i64 0],[.int .u8 1,.sl [[.str (nm 122 (a+3))]],.str ⟨#[]⟩,.sl [],.bool false,.int .u8 13,.int .u8 0,.int .i32 0,.str (nm 99 (a+1)),.sl [[.str ci],[.str cS],[.str eF]],.sl [bD 12 0 0 (nm 99 (a+1)) [[.str ci]] [bD n o p q t u],bD 4 0 0 (nm 119 (a+2)) [] [],bD w x y z A B],.int .i64 0,.int .i64 0,.sl [],.int .i64 0,.int .i64 0]]:=by simp only[bU,aJ.cells,E.cells,Z,h5,h6,h7,h9];rfl
  have Vw:=iE (by rfl) W_ [.row true 16 0 (bf [[.int .u8 1,.sl [[.str (nm 99 (a+1))]],.str ⟨#[]⟩,.sl [],.bool false,.int .u8 C,.int .u8 D,.int .i32 F,.str G,.sl H,.sl I,.int .i64 0,.int .i64 0,.sl [],.int .i64 0,.int .i64 0],[.int .u8 1,.sl [[.str (nm 119 (a+2))]],.str ⟨#[]⟩,.sl [],.bool false,.int .u8 9,.int .u8 0,.int .i32 0,.str ⟨#[]⟩,.sl [],.sl [bD Q R S sl T U,bD 7 3 0 ⟨#[]⟩ [] [bD 4 0 0 (nm 119 (a+2)) [] [],bD 12 0 0 (nm 99 (a+1)) [[.str cS]] [bD h i j k l m]]],.int .i64 0,.int .i64 0,.sl [],.int .i64 0,.int .i64 0],[.int .u8 1,.sl [[.str (nm 122 (a+3))]],.str ⟨#[]⟩,.sl [],.bool false,.int .u8 13,.int .u8 0,.int .i32 0,.str (nm 99 (a+1)),.sl [[.str ci],[.str cS],[.str eF]],.sl [bD 12 0 0 (nm 99 (a+1)) [[.str ci]] [bD n o p q t u],bD 4 0 0 (nm 119 (a+2)) [] [],bD w x y z A B],.int .i64 0,.int .i64 0,.sl [],.int .i64 0,.int .i64 0]])];refine DT.drop 2 (ags _)<|DT.ob func225 W ntmps225 W<|dO [2,2,26] W<|K_ (aD Lp W W)<|dR [27] W<|K_ (aL jN W W)<|dL [] W ?_;apply Le fG
  .intro s0 Oo;refine fR 1 W<|bt Ly W W<|bc dM W W<|fR 7 W<|TF.nil ⟨by kernel_rfl,rfl⟩
  refine dO [2,38] W<|K_ (aD L7 W W)<|dR [39] W<|K_ (aL dM W W)<|dL [] W ?_;apply Le fG
  .intro s0 Oo;refine fR 5 W<|bc dM W W<|bt OQ W W<|fR 4 W<|TF.nil ⟨by kernel_rfl,rfl⟩
  refine dC [] W ?_;apply Le fG
  .intro s0 Oo;refine fR 5 W<|bc dM W W<|bt MZ W W<|fR 4 W<|TF.nil ⟨by kernel_rfl,rfl⟩
  refine dC [] W ?_;apply Le fG
  .intro s0 Oo;refine fR 8 W<|bc dM W W<|bt RC W W<|fR 4 W<|TF.nil ⟨by kernel_rfl,rfl⟩
  refine dC [] W ?_;apply Le fG
  .intro s0 Oo;refine fR 1 W<|bc dM W W<|bt T5 W W<|fR 4 W<|bc Vu W W<|bc Vv W W<|fR 2 W<|TF.nil ⟨by kernel_rfl,rfl⟩
  refine dO [2,84] W<|K_ (aD T6 W W)<|dR [85] W<|K_ (dW (ahG.2 (by omega)) W W W W)<|dL [0] W ?_;apply Le fG
  .intro s0 Oo;refine fR 5 W<|bc jN W W<|bt Yl W W<|fR 11 W<|wi W W W W W W<|fR 1 W<|TF.nil ⟨by kernel_rfl,rfl⟩
  refine DC.lc 2 W<|LF [(17,.m (.cy 2 0 3)),(12,.loc 12 0),(11,.loc 11 0),(10,.loc 10 0),(5,.m (.d (.ca s.cells 0))),(3,.m (.d (.int .i64 ((M:Nat):Int)))),(2,.m (.d (.sl (aB X)))),(0,.m (.ref 1 0))] (GH v az main g9++[.row true 16 0 (bf [[.int .u8 1,.sl [[.str (nm 99 (a+1))]],.str ⟨#[]⟩,.sl [],.bool false,.int .u8 C,.int .u8 D,.int .i32 F,.str G,.sl H,.sl I,.int .i64 0,.int .i64 0,.sl [],.int .i64 0,.int .i64 0],[.int .u8 1,.sl [[.str (nm 119 (a+2))]],.str ⟨#[]⟩,.sl [],.bool false,.int .u8 9,.int .u8 0,.int .i32 0,.str ⟨#[]⟩,.sl [],.sl [bD Q R S sl T U,bD 7 3 0 ⟨#[]⟩ [] [bD 4 0 0 (nm 119 (a+2)) [] [],bD 12 0 0 (nm 99 (a+1)) [[.str cS]] [bD h i j k l m]]],.int .i64 0,.int .i64 0,.sl [],.int .i64 0,.int .i64 0],[.int .u8 1,.sl [[.str (nm 122 (a+3))]],.str ⟨#[]⟩,.sl [],.bool false,.int .u8 13,.int .u8 0,.int .i32 0,.str (nm 99 (a+1)),.sl [[.str ci],[.str cS],[.str eF]],.sl [bD 12 0 0 (nm 99 (a+1)) [[.str ci]] [bD n o p q t u],bD 4 0 0 (nm 119 (a+2)) [] [],bD w x y z A B],.int .i64 0,.int .i64 0,.sl [],.int .i64 0,.int .i64 0]])]) W W<|dO [2,112] W<|K_ (aL Ph W W)<|dR [115] W<|K_ (aD Vw W W)<|dR [2,2,123] W<|K_ (fl true W W W W (by rfl) (by simp) (by intro r P;simp at P;rcases P with rfl|rfl|rfl<;>rfl) (by exact nU W))<|dR [2,126] W ?_
  refine K_ (fm (cs:=bf [[.int .u8 1,.sl [[.str (nm 99 (a+1))]],.str ⟨#[]⟩,.sl [],.bool false,.int .u8 C,.int .u8 D,.int .i32 F,.str G,.sl H,.sl I,.int .i64 0,.int .i64 0,.sl [],.int .i64 0,.int .i64 0],[.int .u8 1,.sl [[.str (nm 119 (a+2))]],.str ⟨#[]⟩,.sl [],.bool false,.int .u8 9,.int .u8 0,.int .i32 0,.str ⟨#[]⟩,.sl [],.sl [bD Q R S sl T U,bD 7 3 0 ⟨#[]⟩ [] [bD 4 0 0 (nm 119 (a+2)) [] [],bD 12 0 0 (nm 99 (a+1)) [[.str cS]] [bD h i j k l m]]],.int .i64 0,.int .i64 0,.sl [],.int .i64 0,.int .i64 0],[.int .u8 1,.sl [[.str (nm 122 (a+3))]],.str ⟨#[]⟩,.sl [],.bool false,.int .u8 13,.int .u8 0,.int .i32 0,.str (nm 99 (a+1)),.sl [[.str ci],[.str cS],[.str eF]],.sl [bD 12 0 0 (nm 99 (a+1)) [[.str ci]] [bD n o p q t u],bD 4 0 0 (nm 119 (a+2)) [] [],bD w x y z A B],.int .i64 0,.int .i64 0,.sl [],.int .i64 0,.int .i64 0]]) W W W W W (eV d) (by rw[eh];omega) (by rw[eh];omega)) ?_;refine dR [129] W ?_;refine K_ (fm (cs:=bf (aB (eu 99 (a+1) .iO::⟨nm 119 (a+2),.int,some (cS,nm 99 (a+1)),false,.nil⟩::eu 122 (a+3) .int:: []))) W W W W W (bR N) (by rw[bM];simp;omega) (by rw[bM];simp only[agA,List.length_nil];omega)) ?_;refine dL [] W ?_
  refine LF [(8,.m (.cy 2 1 (3+(bU d).length))),(9,.m (.cy 3 1 (3+(aB N).length)))] (GH v az main V++[.row true 16 1 (bf ([.int .u8 1,.sl [[.str (nm 99 (a+1))]],.str ⟨#[]⟩,.sl [],.bool false,.int .u8 C,.int .u8 D,.int .i32 F,.str G,.sl H,.sl I,.int .i64 0,.int .i64 0,.sl [],.int .i64 0,.int .i64 0]:: [.int .u8 1,.sl [[.str (nm 119 (a+2))]],.str ⟨#[]⟩,.sl [],.bool false,.int .u8 9,.int .u8 0,.int .i32 0,.str ⟨#[]⟩,.sl [],.sl [bD Q R S sl T U,bD 7 3 0 ⟨#[]⟩ [] [bD 4 0 0 (nm 119 (a+2)) [] [],bD 12 0 0 (nm 99 (a+1)) [[.str cS]] [bD h i j k l m]]],.int .i64 0,.int .i64 0,.sl [],.int .i64 0,.int .i64 0]:: [.int .u8 1,.sl [[.str (nm 122 (a+3))]],.str ⟨#[]⟩,.sl [],.bool false,.int .u8 13,.int .u8 0,.int .i32 0,.str (nm 99 (a+1)),.sl [[.str ci],[.str cS],[.str eF]],.sl [bD 12 0 0 (nm 99 (a+1)) [[.str ci]] [bD n o p q t u],bD 4 0 0 (nm 119 (a+2)) [] [],bD w x y z A B],.int .i64 0,.int .i64 0,.sl [],.int .i64 0,.int .i64 0]::bU d)),.row true 15 1 (bf (aB (eu 99 (a+1) .iO::⟨nm 119 (a+2),.int,some (cS,nm 99 (a+1)),false,.nil⟩::eu 122 (a+3) .int::N)))]) W W ?_
  have Rj:bU (.df (nm 99 (a+1)) e:: .df (nm 119 (a+2)) (.rC O (.bin 3 (.var (nm 119 (a+2))) (.lS (nm 99 (a+1)) cS f))):: .df (nm 122 (a+3)) (.merge (nm 99 (a+1)) ci cS eF (.lS (nm 99 (a+1)) ci b) (.var (nm 119 (a+2))) J)::d)=[.int .u8 1,.sl [[.str (nm 99 (a+1))]],.str ⟨#[]⟩,.sl [],.bool false,.int .u8 C,.int .u8 D,.int .i32 F,.str G,.sl H,.sl I,.int .i64 0,.int .i64 0,.sl [],.int .i64 0,.int .i64 0]:: [.int .u8 1,.sl [[.str (nm 119 (a+2))]],.str ⟨#[]⟩,.sl [],.bool false,.int .u8 9,.int .u8 0,.int .i32 0,.str ⟨#[]⟩,.sl [],.sl [bD Q R S sl T U,bD 7 3 0 ⟨#[]⟩ [] [bD 4 0 0 (nm 119 (a+2)) [] [],bD 12 0 0 (nm 99 (a+1)) [[.str cS]] [bD h i j k l m]]],.int .i64 0,.int .i64 0,.sl [],.int .i64 0,.int .i64 0]:: [.int .u8 1,.sl [[.str (nm 122 (a+3))]],.str ⟨#[]⟩,.sl [],.bool false,.int .u8 13,.int .u8 0,.int .i32 0,.str (nm 99 (a+1)),.sl [[.str ci],[.str cS],[.str eF]],.sl [bD 12 0 0 (nm 99 (a+1)) [[.str ci]] [bD n o p q t u],bD 4 0 0 (nm 119 (a+2)) [] [],bD w x y z A B],.int .i64 0,.int .i64 0,.sl [],.int .i64 0,.int .i64 0]::bU d:=by
   have ac:=g_ (.df (nm 99 (a+1)) e:: .df (nm 119 (a+2)) (.rC O (.bin 3 (.var (nm 119 (a+2))) (.lS (nm 99 (a+1)) cS f))):: .df (nm 122 (a+3)) (.merge (nm 99 (a+1)) ci cS eF (.lS (nm 99 (a+1)) ci b) (.var (nm 119 (a+2))) J):: []) d;rw[NF]at ac;exact ac
  refine DC.bg 8 W (jO W (by simp only[agA];omega) (by simp) (by rw[<-Rj];exact eV _)) ?_;refine DC.bg 9 W (jO W (by simp only[bM,agA];omega) (by simp[aB]) (bR _)) ?_;refine DC.ret ⟨_,W,nU W,iL W,nq v az main V,.df (nm 99 (a+1)) e:: .df (nm 119 (a+2)) (.rC O (.bin 3 (.var (nm 119 (a+2))) (.lS (nm 99 (a+1)) cS f))):: .df (nm 122 (a+3)) (.merge (nm 99 (a+1)) ci cS eF (.lS (nm 99 (a+1)) ci b) (.var (nm 119 (a+2))) J)::d,eu 99 (a+1) .iO::⟨nm 119 (a+2),.int,some (cS,nm 99 (a+1)),false,.nil⟩::eu 122 (a+3) .int::N,V,by rw[Rj];rfl,rfl,?_,by simp only[agA];omega,by simp only[agA];omega,⟨by have:=L.i;simp only;omega,L.le,by have:=L.n;simp only;omega,L.ox,by simp only;omega,by have:=L.q1;simp only;omega⟩⟩;refine .yw f b J O e _ O8 Oe am W9 M1 (.inr W) ?_;have e2:a+3=g9.n:=by omega
  rw[e2];rw[e2]at Om;exact Om
end
variable{zs:List Int}{w gq:Int}{gi gn:Nat}{g:GS}
def HX:∀d,d<=3->0<=qP d/\qP d<=4000
 |0,_=>by decide
 |d+1,h=>wO d (by omega)
theorem yy(a:0<=w)(b:gn<=3*gi)(h:Mv zs ⟨gi,gn,gq-1⟩ g):Bm zs (1+w) ⟨gi,gn,gq⟩ g:=by
 have b:=h.n;have c:=h.q;have a:=h.i;simp only at b c a;exact⟨a,h.le,by grind,by omega,by grind,by grind⟩
theorem Bu{b:GS}(c:0<gq-1)(d:0<=w)(a:Mv zs ⟨gi,gn,gq-1⟩ b)(h:Bm zs w b g):Bm zs (1+w) ⟨gi,gn,gq⟩ g:=by
 have b:=a.n;have c:=a.q;have d:=a.i;simp only at b c d;have a:=h.i;have a:=h.n;have a:=h.q0;have a:=h.q1;exact⟨by grind,h.le,by grind,h.ox,by grind,by grind⟩
section
variable{zs:List Int}{v:D}(ht:Tape zs v)(az:Nat)(main:Bool)
include ht
theorem Ao(t c:Nat)(D:t<=3)(W8:c<=14)(N:az<=10)(u:∀d,t=d+1->oT zs v az main d)(z:∀a,c=a+1->vk zs v az main t a):vk zs v az main t c:=by
 intro s hr E K a p X F x Y Z Xa;obtain⟨g,h,f⟩:=X;simp only at F x Y Z Xa;have y:vi s:=⟨by omega,by omega,by omega⟩;have hW:=HX t D;have A:0<=3*qP t:=by omega
 cases t with
 |zero=>
  refine DT.drop 2 (ags _)<|DT.ob func169 W ntmps169 W ?_;show DC _ _ _ _ ⟨_,_,[.box (fg v g),.box (jr h f az main)]⟩ _;refine dO [2,2,21] W<|K_ (cD W W W (by omega))<|dR [999] W<|K_ (c8 W W W W W W)<|dL [2,0] W<|LF [(5,.m (.d (.ca s.cells 0))),(2,.m (.d (.sl (aB a)))),(0,.m (.ref 1 0))] (GH v az main ⟨g,h,f-1⟩) W W<|dC [2,2] W<|LF [(12,.m (.d (.int .i64 ((0:Nat):Int)))),(11,.m (gr 2 (bU []))),(5,.m (.d (.ca s.cells 0))),(2,.m (.d (.sl (aB a)))),(0,.m (.ref 1 0))] (dY (GH v az main ⟨g,h,f-1⟩) 16 (bU [])) W W<|dC [3] W<|NB (λk l=>∃(i:Nat) (q:List aJ) (j:GS),l=⟨[(12,.m (.d (.int .i64 (i:Int)))),(11,.m (gr 2 (bU q))),(5,.m (.d (.ca s.cells 0))),(2,.m (.d (.sl (aB a)))),(0,.m (.ref 1 0))],[],dY (GH v az main j) 16 (bU q)⟩/\i<=a.length/\q.length=i/\rP s (a.take i) q/\Mv zs ⟨g,h,f-1⟩ j/\k=a.length-i) a.length _
   ⟨0,[],⟨g,h,f-1⟩,rfl,by omega,rfl,.nil,⟨rfl,rfl,ags _,F⟩,rfl⟩ W ?_
  rintro V s1 ⟨i,q,j,rfl,hi,H,m,k,rfl⟩;refine dO [2,100] W<|K_ (aT W W W) ?_;rw[bM];refine dL [] W<|DC.cond W (λI=>?_) (λI=>?_)
  .have n:i<a.length:=by grind
   have l:=jB n;have o:=agp n;generalize a[i]=w at l o;obtain⟨x0,x1,x2,x3,x4,x5,x6,x7,J,_⟩:=jC w;rw[J]at l;obtain⟨r1,K1,⟨e,r,rfl,rfl,L,M⟩,B⟩:=fv ht az main 3 (by omega) s y w.ty true j k.le;obtain⟨O,P,Q,R,S,T,C⟩:=e.shape;rw[C]at B;have U:=eI (by rfl) B 16 (bU q);have G:bU (q++[.df w.name e])=bU q++[[.int .u8 1,.sl [[.str w.name]],.str ⟨#[]⟩,.sl [],.bool false,.int .u8 O,.int .u8 P,.int .i32 Q,.str R,.sl S,.sl T,.int .i64 0,.int .i64 0,.sl [],.int .i64 0,.int .i64 0]]:=by rw[g_,bU,bU,aJ.cells,C];rfl
   refine dC [3] W ?_;apply Le fG
   .intro s0 Oo;refine fR 3 W<|bE W W W (ago i) l W<|fR 7 W<|bE W W W (ago i) l W<|fR 2 W<|bt U W W<|fR 2 W<|lJ (H0:=GH v az main r) W W W W (by rfl) W (by rw[eh];omega) (by rw[eh];omega)<|fR 1 W<|TF.nil ⟨by kernel_rfl,rfl⟩
   refine dO [2,103] W<|K_ (aI W W W (by omega))<|dL [] W<|bH (k':=a.length-(i+1)) (by omega) ⟨i+1,q++[.df w.name e],r,rfl,by omega,by simp[H],by rw[o];exact .snoc m w e L,k.trans M,W⟩ (by rw[G];rfl) (kc W (kc (by rw[G];rfl) W))
  .refine DC.exit ?_;have n:i=a.length:=by grind
   subst n;rw[agz]at m;obtain⟨o,r,w⟩:=lK v az main j 16 (bU q);refine dC [2] W<|DC.bg 8 W (i_ (GH v az main j) 16 (bU q) (eV q)) ?_;have l:=k.n;simp only at l;exact DC.ret ⟨_,W,o,iL W,r,q,[],j,W,w,by simp only;rw[l];exact .tZ m,by omega,by simp,yy A x k⟩
 |succ d=>
  have k:decide (((d+1:Nat):Int)>0)=true:=aha (by omega);rcases Int.lt_or_le 0 (f-1)with B|B
  rotate_left
  .skip
   refine DT.drop 2 (ags _)<|DT.ob func169 W ntmps169 W ?_;show DC _ _ _ _ ⟨_,_,[.box (fg v g),.box (jr h f az main)]⟩ _;refine dO [2,2,21] W<|K_ (cD W W W (by omega))<|dR [999] W<|K_ (c8 W W W W W W)<|dR [2,25] W<|K_ (dW k W W W W)<|dR [31] W ?_
   first|refine K_ (aQ W W) ?_|(refine K_ (aE W) ?_;refine K_ (dW (ahc (by omega)) W W W W) ?_)
   refine dL [0] W<|LF [(5,.m (.d (.ca s.cells 0))),(2,.m (.d (.sl (aB a)))),(0,.m (.ref 1 0))] (GH v az main ⟨g,h,f-1⟩) W W<|dC [2,2] W<|LF [(12,.m (.d (.int .i64 ((0:Nat):Int)))),(11,.m (gr 2 (bU []))),(5,.m (.d (.ca s.cells 0))),(2,.m (.d (.sl (aB a)))),(0,.m (.ref 1 0))] (dY (GH v az main ⟨g,h,f-1⟩) 16 (bU [])) W W<|dC [3] W<|NB (λk l=>∃(i:Nat) (q:List aJ) (j:GS),l=⟨[(12,.m (.d (.int .i64 (i:Int)))),(11,.m (gr 2 (bU q))),(5,.m (.d (.ca s.cells 0))),(2,.m (.d (.sl (aB a)))),(0,.m (.ref 1 0))],[],dY (GH v az main j) 16 (bU q)⟩/\i<=a.length/\q.length=i/\rP s (a.take i) q/\Mv zs ⟨g,h,f-1⟩ j/\k=a.length-i) a.length _
    ⟨0,[],⟨g,h,f-1⟩,rfl,by omega,rfl,.nil,⟨rfl,rfl,ags _,F⟩,rfl⟩ W ?_
   rintro ac s1 ⟨r,q,G,rfl,hi,U,L,H,rfl⟩;refine dO [2,100] W<|K_ (aT W W W) ?_;rw[bM];refine dL [] W<|DC.cond W (λV=>?_) (λV=>?_)
   .have O:r<a.length:=by grind
    have I:=jB O;have P:=agp O;generalize a[r]=w at I P;obtain⟨x0,x1,x2,x3,x4,x5,x6,x7,hw,_⟩:=jC w;rw[hw]at I;obtain⟨r1,K1,⟨e,Q,rfl,rfl,M1,Mm⟩,R⟩:=fv ht az main 3 (by omega) s y w.ty true G H.le;obtain⟨ke,Nj,ne,se,ae,be,S⟩:=e.shape;rw[S]at R;have QM:=eI (by rfl) R 16 (bU q);have T:bU (q++[.df w.name e])=bU q++[[.int .u8 1,.sl [[.str w.name]],.str ⟨#[]⟩,.sl [],.bool false,.int .u8 ke,.int .u8 Nj,.int .i32 ne,.str se,.sl ae,.sl be,.int .i64 0,.int .i64 0,.sl [],.int .i64 0,.int .i64 0]]:=by rw[g_,bU,bU,aJ.cells,S];rfl
    refine dC [3] W ?_;apply Le fG
    .intro s0 Oo;refine fR 3 W<|bE W W W (ago r) I W<|fR 7 W<|bE W W W (ago r) I W<|fR 2 W<|bt QM W W<|fR 2 W<|lJ (H0:=GH v az main Q) W W W W (by rfl) W (by rw[eh];omega) (by rw[eh];omega)<|fR 1 W<|TF.nil ⟨by kernel_rfl,rfl⟩
    refine dO [2,103] W<|K_ (aI W W W (by omega))<|dL [] W<|bH (k':=a.length-(r+1)) (by omega) ⟨r+1,q++[.df w.name e],Q,rfl,by omega,by simp[U],by rw[P];exact .snoc L w e M1,H.trans Mm,W⟩ (by rw[T];rfl) (kc W (kc (by rw[T];rfl) W))
   .refine DC.exit ?_;have I:r=a.length:=by grind
    subst I;rw[agz]at L;obtain⟨O,P,Q⟩:=lK v az main G 16 (bU q);refine dC [2] W<|DC.bg 8 W (i_ (GH v az main G) 16 (bU q) (eV q)) ?_;have w:=H.n;simp only at w;exact DC.ret ⟨_,W,O,iL W,P,q,[],G,W,Q,by simp only;rw[w];exact .tZ L,by omega,by simp,yy A x H⟩
  have l:=aha (by omega);obtain⟨c,rfl⟩:∃a,c=a+1:=⟨c-1,by omega⟩;have z:=z c W;have u:=u d W;have C:Bt (800-200*d) s:=⟨by omega,E,by omega⟩;have MJ:((d+1:Nat):Int)-1=(d:Int):=by omega
  obtain⟨r0,K0,⟨n,j,rfl,rfl,M⟩,m⟩:=e9 ht az main 9 (by omega) (by omega) ⟨g,h,f-1⟩ F;have hj:=M.lt;have i:=M.mv;have o:=i.n;have Wa:=i.q;have Ym:=i.i;have J:=M.ox;simp only at o Wa Ym J;have Pe:n=0\/n=1\/n=2\/n=3\/n=4\/n=5\/n=6\/n=7\/n=8:=by omega
  rcases Pe with rfl|rfl|rfl|rfl|rfl|rfl|rfl|rfl|rfl
  .skip
   obtain⟨L,O,⟨r,G,rfl,rfl,H,I⟩,q⟩:=pA ht az main d (by omega) u s C a p j i.le (by omega) (by omega) (by omega);obtain⟨P,Q,R,S,T,U,V,a7,a8,a9,b0,b1,b2,b3,b4,b5,w⟩:=re r.len;rw[w]at q;refine DT.ob func169 W ntmps169 W ?_;show DC _ _ _ _ ⟨_,_,[.box (fg v g),.box (jr h f az main)]⟩ _;refine dO [2,2,21] W<|K_ (cD W W W (by omega))<|dR [999] W<|K_ (c8 W W W W W W)<|dR [2,25] W<|K_ (dW k W W W W)<|dR [31] W ?_
   first|refine K_ (aQ W W) ?_|(refine K_ (aE W) ?_;refine K_ (dW l W W W W) ?_)
   refine dR [1,2,37] W<|K_ (aD m W W)<|dR [3,2,1,1,2,45] W<|K_ (aD q W W)<|dL [] W<|DC.ret ⟨_,W,[r],[],G,by rw[bU,bU,w];rfl,rfl,by rw[<-o];exact H,by simp,by simp,Bu B (by grind) i I⟩
  .skip
   obtain⟨L,O,⟨r,G,rfl,rfl,H,I⟩,q⟩:=pA ht az main d (by omega) u s C a p j i.le (by omega) (by omega) (by omega);obtain⟨P,Q,R,S,T,U,V,a7,a8,a9,b0,b1,b2,b3,b4,b5,w⟩:=re r.len;rw[w]at q;refine DT.ob func169 W ntmps169 W ?_;show DC _ _ _ _ ⟨_,_,[.box (fg v g),.box (jr h f az main)]⟩ _;refine dO [2,2,21] W<|K_ (cD W W W (by omega))<|dR [999] W<|K_ (c8 W W W W W W)<|dR [2,25] W<|K_ (dW k W W W W)<|dR [31] W ?_
   first|refine K_ (aQ W W) ?_|(refine K_ (aE W) ?_;refine K_ (dW l W W W W) ?_)
   refine dR [1,2,37] W<|K_ (aD m W W)<|dR [3,2,0,2,1,2,45] W<|K_ (aD q W W)<|dL [] W<|DC.ret ⟨_,W,[r],[],G,by rw[bU,bU,w];rfl,rfl,by rw[<-o];exact H,by simp,by simp,Bu B (by grind) i I⟩
  .skip
   obtain⟨L,O,⟨r,G,rfl,rfl,H,I⟩,q⟩:=Cx ht az main d (by omega) u s C a p j i.le (by omega) (by omega) (by omega);obtain⟨P,Q,R,S,T,U,V,a7,a8,a9,b0,b1,b2,b3,b4,b5,w⟩:=re r.len;rw[w]at q;refine DT.ob func169 W ntmps169 W ?_;show DC _ _ _ _ ⟨_,_,[.box (fg v g),.box (jr h f az main)]⟩ _;refine dO [2,2,21] W<|K_ (cD W W W (by omega))<|dR [999] W<|K_ (c8 W W W W W W)<|dR [2,25] W<|K_ (dW k W W W W)<|dR [31] W ?_
   first|refine K_ (aQ W W) ?_|(refine K_ (aE W) ?_;refine K_ (dW l W W W W) ?_)
   refine dR [1,2,37] W<|K_ (aD m W W)<|dR [3,2,0,2,0,2,1,1,2,54] W<|K_ (aD q W W)<|dL [] W<|DC.ret ⟨_,W,[r],[],G,by rw[bU,bU,w];rfl,rfl,by rw[<-o];exact H,by simp,by simp,Bu B (by grind) i I⟩
  .skip
   obtain⟨L,O,⟨r,G,rfl,rfl,H,I⟩,q⟩:=Cx ht az main d (by omega) u s C a p j i.le (by omega) (by omega) (by omega);obtain⟨P,Q,R,S,T,U,V,a7,a8,a9,b0,b1,b2,b3,b4,b5,w⟩:=re r.len;rw[w]at q;refine DT.ob func169 W ntmps169 W ?_;show DC _ _ _ _ ⟨_,_,[.box (fg v g),.box (jr h f az main)]⟩ _;refine dO [2,2,21] W<|K_ (cD W W W (by omega))<|dR [999] W<|K_ (c8 W W W W W W)<|dR [2,25] W<|K_ (dW k W W W W)<|dR [31] W ?_
   first|refine K_ (aQ W W) ?_|(refine K_ (aE W) ?_;refine K_ (dW l W W W W) ?_)
   refine dR [1,2,37] W<|K_ (aD m W W)<|dR [3,2,0,2,0,2,0,2,1,2,54] W<|K_ (aD q W W)<|dL [] W<|DC.ret ⟨_,W,[r],[],G,by rw[bU,bU,w];rfl,rfl,by rw[<-o];exact H,by simp,by simp,Bu B (by grind) i I⟩
  .skip
   obtain⟨S,T,⟨e,L,rfl,rfl,P,r⟩,w⟩:=fv ht az main 2 (by omega) s y .bool true j i.le;obtain⟨U,V,ne,se,ae,be,G⟩:=e.shape;rw[G]at w;have Q:=r.n;have Yn:=r.q;have Wb:=r.i;obtain⟨r2,K2,⟨b,O,rfl,rfl,R,q⟩,H⟩:=u s C a p L r.le (by omega) (by omega) (by omega);obtain⟨bv,bq,I⟩:=b.shape;rw[I]at H;refine DT.ob func169 W ntmps169 W ?_;show DC _ _ _ _ ⟨_,_,[.box (fg v g),.box (jr h f az main)]⟩ _;refine dO [2,2,21] W<|K_ (cD W W W (by omega))<|dR [999] W<|K_ (c8 W W W W W W)<|dR [2,25] W<|K_ (dW k W W W W)<|dR [31] W ?_
   first|refine K_ (aQ W W) ?_|(refine K_ (aE W) ?_;refine K_ (dW l W W W W) ?_)
   refine dR [1,2,37] W<|K_ (aD m W W)<|dL [3,2,0,2,0,2,0,2,0,2,1] W ?_;apply Le fG
   .intro s0 Oo;refine fR 2 W<|bc jd W W<|bt w W W<|fR 3 W<|TF.nil ⟨by kernel_rfl,rfl⟩
   refine dO [2,67] W<|K_ (cD W W W (by omega)) ?_;rw[MJ];refine dR [68] W<|K_ (aD H W W)<|dL [2] W ?_;have Sl:=q.q0;have VA:=q.q1;have OO:=q.i;have Qq:=q.n;have VY:=wO d (by omega);exact DC.ret ⟨_,W,[.reset e b],[],O,by rw[bU,bU,aJ.cells,G,I];rfl,rfl,.reset P (by simp only;rw[<-o,<-Q];exact R),by simp,by simp,⟨by grind,q.le,by grind,q.ox,by simp only[qP];omega,by grind⟩⟩
  .skip
   rcases ag5 az with V|V
   .skip
    refine DT.drop 2 (ags _)<|DT.ob func169 W ntmps169 W ?_;show DC _ _ _ _ ⟨_,_,[.box (fg v g),.box (jr h f az main)]⟩ _;refine dO [2,2,21] W<|K_ (cD W W W (by omega))<|dR [999] W<|K_ (c8 W W W W W W)<|dR [2,25] W<|K_ (dW k W W W W)<|dR [31] W ?_
    first|refine K_ (aQ W W) ?_|(refine K_ (aE W) ?_;refine K_ (dW l W W W W) ?_)
    refine dR [1,2,37] W<|K_ (aD m W W)<|dR [3,2,0,2,0,2,0,2,0,2,0,2,1,1,2,81] W<|K_ (dW (ahc (by omega)) W W W W)<|dL [0] W<|LF [(5,.m (.d (.ca s.cells 0))),(2,.m (.d (.sl (aB a)))),(0,.m (.ref 1 0))] (GH v az main j) W W<|dC [2,2] W<|LF [(12,.m (.d (.int .i64 ((0:Nat):Int)))),(11,.m (gr 2 (bU []))),(5,.m (.d (.ca s.cells 0))),(2,.m (.d (.sl (aB a)))),(0,.m (.ref 1 0))] (dY (GH v az main j) 16 (bU [])) W W<|dC [3] W<|NB (λk l=>∃(i:Nat) (q:List aJ) (j:GS),l=⟨[(12,.m (.d (.int .i64 (i:Int)))),(11,.m (gr 2 (bU q))),(5,.m (.d (.ca s.cells 0))),(2,.m (.d (.sl (aB a)))),(0,.m (.ref 1 0))],[],dY (GH v az main j) 16 (bU q)⟩/\i<=a.length/\q.length=i/\rP s (a.take i) q/\Mv zs ⟨g,h,f-1⟩ j/\k=a.length-i) a.length _
     ⟨0,[],j,rfl,by omega,rfl,.nil,i,rfl⟩ W ?_
    rintro ac s1 ⟨r,q,G,rfl,hi,Sd,L,H,rfl⟩;refine dO [2,100] W<|K_ (aT W W W) ?_;rw[bM];refine dL [] W<|DC.cond W (λO=>?_) (λO=>?_)
    .have P:r<a.length:=by grind
     clear O;have I:=jB P;have Q:=agp P;generalize a[r]=w at I Q;obtain⟨x0,x1,x2,x3,x4,x5,x6,x7,hw,_⟩:=jC w;rw[hw]at I;obtain⟨r1,K1,⟨e,R,rfl,rfl,M1,Mm⟩,S⟩:=fv ht az main 3 (by omega) s y w.ty true G H.le;obtain⟨ke,Nj,ne,se,ae,be,T⟩:=e.shape;rw[T]at S;have QM:=eI (by rfl) S 16 (bU q);have U:bU (q++[.df w.name e])=bU q++[[.int .u8 1,.sl [[.str w.name]],.str ⟨#[]⟩,.sl [],.bool false,.int .u8 ke,.int .u8 Nj,.int .i32 ne,.str se,.sl ae,.sl be,.int .i64 0,.int .i64 0,.sl [],.int .i64 0,.int .i64 0]]:=by rw[g_,bU,bU,aJ.cells,T];rfl
     refine dC [3] W ?_;apply Le fG
     .intro s0 Oo;refine fR 3 W<|bE W W W (ago r) I W<|fR 7 W<|bE W W W (ago r) I W<|fR 2 W<|bt QM W W<|fR 2 W<|lJ (H0:=GH v az main R) W W W W (by rfl) W (by rw[eh];omega) (by rw[eh];omega)<|fR 1 W<|TF.nil ⟨by kernel_rfl,rfl⟩
     refine dO [2,103] W<|K_ (aI W W W (by omega))<|dL [] W<|bH (k':=a.length-(r+1)) (by omega) ⟨r+1,q++[.df w.name e],R,rfl,by omega,by simp[Sd],by rw[Q];exact .snoc L w e M1,H.trans Mm,W⟩ (by rw[U];rfl) (kc W (kc (by rw[U];rfl) W))
    .refine DC.exit ?_;have I:r=a.length:=by grind
     subst I;rw[agz]at L;obtain⟨P,Q,R⟩:=lK v az main G 16 (bU q);refine dC [2] W<|DC.bg 8 W (i_ (GH v az main G) 16 (bU q) (eV q)) ?_;have w:=H.n;simp only at w;exact DC.ret ⟨_,W,P,iL W,Q,q,[],G,W,R,by simp only;rw[w];exact .tZ L,by omega,by simp,yy A x H⟩
   .skip
    have ac:=J (by omega);obtain⟨L,O,⟨H,I,r,rfl,rfl,G,T,U,q⟩,w⟩:=Cz ht az main (d+1) c D (by omega) z s (by omega) E K a p V N j i.le (by omega) (by omega) (by omega);refine DT.ob func169 W ntmps169 W ?_;show DC _ _ _ _ ⟨_,_,[.box (fg v g),.box (jr h f az main)]⟩ _;refine dO [2,2,21] W<|K_ (cD W W W (by omega))<|dR [999] W<|K_ (c8 W W W W W W)<|dR [2,25] W<|K_ (dW k W W W W)<|dR [31] W ?_
    first|refine K_ (aQ W W) ?_|(refine K_ (aE W) ?_;refine K_ (dW l W W W W) ?_)
    refine dR [1,2,37] W<|K_ (aD m W W)<|dR [3,2,0,2,0,2,0,2,0,2,0,2,1,1,2,81] W<|K_ (dW (aha (by omega)) W W W W)<|dR [1,2,86] W<|K_ (aD w W W)<|dL [] W ?_;have P:=q.q0;have Q:=q.q1;have R:=q.i;have S:=q.n;exact DC.ret ⟨_,W,H,I,r,W,W,by rw[<-o];exact G,by omega,by omega,⟨by grind,q.le,by grind,q.ox,by grind,by grind⟩⟩
  .skip
   rcases ag5 az with V|V
   .skip
    refine DT.drop 2 (ags _)<|DT.ob func169 W ntmps169 W ?_;show DC _ _ _ _ ⟨_,_,[.box (fg v g),.box (jr h f az main)]⟩ _;refine dO [2,2,21] W<|K_ (cD W W W (by omega))<|dR [999] W<|K_ (c8 W W W W W W)<|dR [2,25] W<|K_ (dW k W W W W)<|dR [31] W ?_
    first|refine K_ (aQ W W) ?_|(refine K_ (aE W) ?_;refine K_ (dW l W W W W) ?_)
    refine dR [1,2,37] W<|K_ (aD m W W)<|dR [3,2,0,2,0,2,0,2,0,2,0,2,0,2,1,2,81] W<|K_ (dW (ahc (by omega)) W W W W)<|dL [0] W<|LF [(5,.m (.d (.ca s.cells 0))),(2,.m (.d (.sl (aB a)))),(0,.m (.ref 1 0))] (GH v az main j) W W<|dC [2,2] W<|LF [(12,.m (.d (.int .i64 ((0:Nat):Int)))),(11,.m (gr 2 (bU []))),(5,.m (.d (.ca s.cells 0))),(2,.m (.d (.sl (aB a)))),(0,.m (.ref 1 0))] (dY (GH v az main j) 16 (bU [])) W W<|dC [3] W<|NB (λk l=>∃(i:Nat) (q:List aJ) (j:GS),l=⟨[(12,.m (.d (.int .i64 (i:Int)))),(11,.m (gr 2 (bU q))),(5,.m (.d (.ca s.cells 0))),(2,.m (.d (.sl (aB a)))),(0,.m (.ref 1 0))],[],dY (GH v az main j) 16 (bU q)⟩/\i<=a.length/\q.length=i/\rP s (a.take i) q/\Mv zs ⟨g,h,f-1⟩ j/\k=a.length-i) a.length _
     ⟨0,[],j,rfl,by omega,rfl,.nil,i,rfl⟩ W ?_
    rintro ac s1 ⟨r,q,G,rfl,hi,Sd,L,H,rfl⟩;refine dO [2,100] W<|K_ (aT W W W) ?_;rw[bM];refine dL [] W<|DC.cond W (λO=>?_) (λO=>?_)
    .have P:r<a.length:=by grind
     clear O;have I:=jB P;have Q:=agp P;generalize a[r]=w at I Q;obtain⟨x0,x1,x2,x3,x4,x5,x6,x7,hw,_⟩:=jC w;rw[hw]at I;obtain⟨r1,K1,⟨e,R,rfl,rfl,M1,Mm⟩,S⟩:=fv ht az main 3 (by omega) s y w.ty true G H.le;obtain⟨ke,Nj,ne,se,ae,be,T⟩:=e.shape;rw[T]at S;have QM:=eI (by rfl) S 16 (bU q);have U:bU (q++[.df w.name e])=bU q++[[.int .u8 1,.sl [[.str w.name]],.str ⟨#[]⟩,.sl [],.bool false,.int .u8 ke,.int .u8 Nj,.int .i32 ne,.str se,.sl ae,.sl be,.int .i64 0,.int .i64 0,.sl [],.int .i64 0,.int .i64 0]]:=by rw[g_,bU,bU,aJ.cells,T];rfl
     refine dC [3] W ?_;apply Le fG
     .intro s0 Oo;refine fR 3 W<|bE W W W (ago r) I W<|fR 7 W<|bE W W W (ago r) I W<|fR 2 W<|bt QM W W<|fR 2 W<|lJ (H0:=GH v az main R) W W W W (by rfl) W (by rw[eh];omega) (by rw[eh];omega)<|fR 1 W<|TF.nil ⟨by kernel_rfl,rfl⟩
     refine dO [2,103] W<|K_ (aI W W W (by omega))<|dL [] W<|bH (k':=a.length-(r+1)) (by omega) ⟨r+1,q++[.df w.name e],R,rfl,by omega,by simp[Sd],by rw[Q];exact .snoc L w e M1,H.trans Mm,W⟩ (by rw[U];rfl) (kc W (kc (by rw[U];rfl) W))
    .refine DC.exit ?_;have I:r=a.length:=by grind
     subst I;rw[agz]at L;obtain⟨P,Q,R⟩:=lK v az main G 16 (bU q);refine dC [2] W<|DC.bg 8 W (i_ (GH v az main G) 16 (bU q) (eV q)) ?_;have w:=H.n;simp only at w;exact DC.ret ⟨_,W,P,iL W,Q,q,[],G,W,R,by simp only;rw[w];exact .tZ L,by omega,by simp,yy A x H⟩
   .skip
    have ac:=J (by omega);obtain⟨L,O,⟨H,I,r,rfl,rfl,G,T,U,q⟩,w⟩:=Cz ht az main (d+1) c D (by omega) z s (by omega) E K a p V N j i.le (by omega) (by omega) (by omega);refine DT.ob func169 W ntmps169 W ?_;show DC _ _ _ _ ⟨_,_,[.box (fg v g),.box (jr h f az main)]⟩ _;refine dO [2,2,21] W<|K_ (cD W W W (by omega))<|dR [999] W<|K_ (c8 W W W W W W)<|dR [2,25] W<|K_ (dW k W W W W)<|dR [31] W ?_
    first|refine K_ (aQ W W) ?_|(refine K_ (aE W) ?_;refine K_ (dW l W W W W) ?_)
    refine dR [1,2,37] W<|K_ (aD m W W)<|dR [3,2,0,2,0,2,0,2,0,2,0,2,0,2,1,2,81] W<|K_ (dW (aha (by omega)) W W W W)<|dR [1,2,86] W<|K_ (aD w W W)<|dL [] W ?_;have P:=q.q0;have Q:=q.q1;have R:=q.i;have S:=q.n;exact DC.ret ⟨_,W,H,I,r,W,W,by rw[<-o];exact G,by omega,by omega,⟨by grind,q.le,by grind,q.ox,by grind,by grind⟩⟩
  .skip
   have V:=J (by omega);obtain⟨L,O,⟨H,I,r,rfl,rfl,G,T,U,q⟩,w⟩:=CA ht az main (d+1) c D (by omega) z s (by omega) E K a p j i.le (by omega) (by omega) (by omega);refine DT.ob func169 W ntmps169 W ?_;show DC _ _ _ _ ⟨_,_,[.box (fg v g),.box (jr h f az main)]⟩ _;refine dO [2,2,21] W<|K_ (cD W W W (by omega))<|dR [999] W<|K_ (c8 W W W W W W)<|dR [2,25] W<|K_ (dW k W W W W)<|dR [31] W ?_
   first|refine K_ (aQ W W) ?_|(refine K_ (aE W) ?_;refine K_ (dW l W W W W) ?_)
   refine dR [1,2,37] W<|K_ (aD m W W)<|dR [3,2,0,2,0,2,0,2,0,2,0,2,0,2,0,2,1,2,95] W<|K_ (aD w W W)<|dL [] W ?_;have P:=q.q0;have Q:=q.q1;have R:=q.i;have S:=q.n;exact DC.ret ⟨_,W,H,I,r,W,W,by rw[<-o];exact G,by omega,by omega,⟨by grind,q.le,by grind,q.ox,by grind,by grind⟩⟩
  .skip
   refine DT.drop 2 (ags _)<|DT.ob func169 W ntmps169 W ?_;show DC _ _ _ _ ⟨_,_,[.box (fg v g),.box (jr h f az main)]⟩ _;refine dO [2,2,21] W<|K_ (cD W W W (by omega))<|dR [999] W<|K_ (c8 W W W W W W)<|dR [2,25] W<|K_ (dW k W W W W)<|dR [31] W ?_
   first|refine K_ (aQ W W) ?_|(refine K_ (aE W) ?_;refine K_ (dW l W W W W) ?_)
   refine dR [1,2,37] W<|K_ (aD m W W)<|dL [3,2,0,2,0,2,0,2,0,2,0,2,0,2,0,2,0] W<|LF [(5,.m (.d (.ca s.cells 0))),(2,.m (.d (.sl (aB a)))),(0,.m (.ref 1 0))] (GH v az main j) W W<|dC [2,2] W<|LF [(12,.m (.d (.int .i64 ((0:Nat):Int)))),(11,.m (gr 2 (bU []))),(5,.m (.d (.ca s.cells 0))),(2,.m (.d (.sl (aB a)))),(0,.m (.ref 1 0))] (dY (GH v az main j) 16 (bU [])) W W<|dC [3] W<|NB (λk l=>∃(i:Nat) (q:List aJ) (j:GS),l=⟨[(12,.m (.d (.int .i64 (i:Int)))),(11,.m (gr 2 (bU q))),(5,.m (.d (.ca s.cells 0))),(2,.m (.d (.sl (aB a)))),(0,.m (.ref 1 0))],[],dY (GH v az main j) 16 (bU q)⟩/\i<=a.length/\q.length=i/\rP s (a.take i) q/\Mv zs ⟨g,h,f-1⟩ j/\k=a.length-i) a.length _
    ⟨0,[],j,rfl,by omega,rfl,.nil,i,rfl⟩ W ?_
   rintro ac s1 ⟨r,q,G,rfl,hi,V,L,H,rfl⟩;refine dO [2,100] W<|K_ (aT W W W) ?_;rw[bM];refine dL [] W<|DC.cond W (λO=>?_) (λO=>?_)
   .have P:r<a.length:=by grind
    clear O;have I:=jB P;have Q:=agp P;generalize a[r]=w at I Q;obtain⟨x0,x1,x2,x3,x4,x5,x6,x7,hw,_⟩:=jC w;rw[hw]at I;obtain⟨r1,K1,⟨e,R,rfl,rfl,M1,Mm⟩,S⟩:=fv ht az main 3 (by omega) s y w.ty true G H.le;obtain⟨ke,Nj,ne,se,ae,be,T⟩:=e.shape;rw[T]at S;have QM:=eI (by rfl) S 16 (bU q);have U:bU (q++[.df w.name e])=bU q++[[.int .u8 1,.sl [[.str w.name]],.str ⟨#[]⟩,.sl [],.bool false,.int .u8 ke,.int .u8 Nj,.int .i32 ne,.str se,.sl ae,.sl be,.int .i64 0,.int .i64 0,.sl [],.int .i64 0,.int .i64 0]]:=by rw[g_,bU,bU,aJ.cells,T];rfl
    refine dC [3] W ?_;apply Le fG
    .intro s0 Oo;refine fR 3 W<|bE W W W (ago r) I W<|fR 7 W<|bE W W W (ago r) I W<|fR 2 W<|bt QM W W<|fR 2 W<|lJ (H0:=GH v az main R) W W W W (by rfl) W (by rw[eh];omega) (by rw[eh];omega)<|fR 1 W<|TF.nil ⟨by kernel_rfl,rfl⟩
    refine dO [2,103] W<|K_ (aI W W W (by omega))<|dL [] W<|bH (k':=a.length-(r+1)) (by omega) ⟨r+1,q++[.df w.name e],R,rfl,by omega,by simp[V],by rw[Q];exact .snoc L w e M1,H.trans Mm,W⟩ (by rw[U];rfl) (kc W (kc (by rw[U];rfl) W))
   .refine DC.exit ?_;have I:r=a.length:=by grind
    subst I;rw[agz]at L;obtain⟨P,Q,R⟩:=lK v az main G 16 (bU q);refine dC [2] W<|DC.bg 8 W (i_ (GH v az main G) 16 (bU q) (eV q)) ?_;have w:=H.n;simp only at w;exact DC.ret ⟨_,W,P,iL W,Q,q,[],G,W,R,by simp only;rw[w];exact .tZ L,by omega,by simp,yy A x H⟩
def Bv(a:Nat)(b:a<=3)(f:az<=10)(g:∀d,a=d+1->oT zs v az main d):∀c,c<=14->vk zs v az main a c
 |0,h=>Ao ht az main a 0 b h f g (λa e=>by omega)
 |c+1,i=>Ao ht az main a (c+1) b i f g (λh e=>by
   have j:h=c:=by omega
   subst j;exact Bv a b f g h (by omega))
end
end Go.Proofs
namespace Go.Proofs
open Go.Mt Go.Mk
variable{H:Hp}{PR OC:List (List D)}{m1 m2:M}{n2:Nat}
def L2(H:Hp)(c:List (List D))(d:M)(e:Nat)(f:List (List D))(g:M):Prop:=∃a b,Acc 15 a c d H/\Acc e b f g H/\2<=a/\2<=b/\a≠b
def L2.ES(h:L2 H PR m1 n2 OC m2)(n:Nat):L2 H PR m1 n [] (.d (.sl [])):=by
 obtain⟨a,b,c,g,d,e,f⟩:=h;exact⟨a,b,c,.inl ⟨W,W⟩,d,e,f⟩
def L2.D7(h:L2 H PR m1 n2 OC m2)(a:∀r∈PR,r.length=15):eK H m1=some (.sl PR):=by
 obtain⟨c,d,b,_⟩:=h;exact b.view a
def L2.yz(h:L2 H PR m1 n2 OC m2)(a:∀r∈OC,r.length=n2):eK H m2=some (.sl OC):=by
 obtain⟨c,d,_,b,_⟩:=h;exact b.view a
def yA(a b:List (List D)):bf (a++b)=bf a++bf b:=by simp[bf]
theorem CB{n i:Nat}{rs rows:List (List D)}{m:M}(h:Acc n i rs m H)(hi:2<=i)(c:2<=H.length):
  ∃a,Acc n a (rs++rows) (cQ m H rows) (eg n m H rows)/\2<=a/\(a=i\/a=H.length)/\(∀j ob,(rs≠[]->j≠i)->H[j]?=some ob->(eg n m H rows)[j]?=some ob)/\H.length<=(eg n m H rows).length/\∀v az a g F,H=GH v az a g++F->∃b,eg n m H rows=GH v az a g++b:=by
 rcases h with⟨rfl,rfl⟩|⟨d,a,rfl,b⟩
 .cases rows with
  |nil=>exact⟨i,.inl ⟨W,W⟩,hi,.inl W,λj ob _ h=>h,ags _,λv az a g F h=>⟨F,h⟩⟩
  |cons q r=>
   refine⟨H.length,.inr ⟨by simp,0,by simp[cQ,sy],by simp[eg,jf]⟩,c,.inr W,λj ob _ h=>?_,by simp[eg,jf],λv az a g F h=>⟨F++[.row true n 0 (bf (q::r))],by rw[h];simp[eg,jf]⟩⟩;simp only[eg,jf];rw[agF (nc h)];exact h
 .have f:=nc b;have e:eg n (.cy i a rs.length) H rows=H.set i (.row true n (a+1) (bf rs++bf rows)):=by simp only[eg,b]
  rw[e];refine⟨i,.inr ⟨by simp[d],a+1,by simp[cQ],by rw[yA];simp[f]⟩,hi,.inl W,λj ob a h=>by grind,by simp,λv az l g F h=>?_⟩;obtain⟨k,rfl⟩:∃k,i=2+k:=⟨i-2,by omega⟩;refine⟨F.set k (.row true n (a+1) (bf rs++bf rows)),?_⟩;rw[h,List.set_append_right _ _ (by grind)];show _++F.set (2+k-2) _=_;rw[show 2+k-2=k by omega]
section
variable{v:D}{az:Nat}{main:Bool}{g:GS}{F:Hp}{PR OC rows:List (List D)}{m1 m2:M}{n2:Nat}
def L2.wj(h:L2 (GH v az main g++F) PR m1 n2 OC m2)(rows:List (List D)):∃a,eg n2 m2 (GH v az main g++F) rows=GH v az main g++a/\L2 (GH v az main g++a) PR m1 n2 (OC++rows) (cQ m2 (GH v az main g++F) rows):=by
 obtain⟨d,s,a,m,n,o,f⟩:=h;obtain⟨b,c,i,p,j,q,r⟩:=CB (rows:=rows) m o (by simp);obtain⟨l,k⟩:=r _ _ _ _ _ W;rw[k]at c j q;refine⟨l,k,?_⟩;by_cases e:PR=[]
 .subst e;exact⟨b+1,b,a.any,c,by omega,i,by omega⟩
 .have t:=a.lt e;refine⟨d,b,a.other (λa b=>j d a (λ_=>f) b),c,n,i,?_⟩;rcases p with rfl|rfl
  .exact f
  .omega
def L2.HY(h:L2 (GH v az main g++F) PR m1 n2 OC m2)(rows:List (List D)):∃a,eg 15 m1 (GH v az main g++F) rows=GH v az main g++a/\L2 (GH v az main g++a) (PR++rows) (cQ m1 (GH v az main g++F) rows) n2 OC m2:=by
 obtain⟨s,d,m,a,n,o,f⟩:=h;obtain⟨b,c,i,p,j,q,r⟩:=CB (rows:=rows) m n (by simp);obtain⟨l,k⟩:=r _ _ _ _ _ W;rw[k]at c j q;refine⟨l,k,?_⟩;by_cases e:OC=[]
 .subst e;exact⟨b,b+1,c,a.any,i,by omega,by omega⟩
 .have t:=a.lt e;refine⟨b,d,c,a.other (λa b=>j d a (λ_=>ahJ f) b),i,o,?_⟩;rcases p with rfl|rfl
  .exact f
  .omega
theorem L2.call{g':GS}(h:L2 (GH v az main g++F) PR m1 n2 OC m2):L2 (GH v az main g'++F) PR m1 n2 OC m2:=by
 obtain⟨a,b,f,i,c,d,j⟩:=h;have e:∀i,2<=i->∀a,(GH v az main g++F)[i]?=some a->(GH v az main g'++F)[i]?=some a:=by
  grind
 exact⟨a,b,f.other (e a c),i.other (e b d),c,d,j⟩
end
def rQ(l r:List Va):(e_ l r).length<=l.length+r.length:=by
 induction r generalizing l with
 |nil=>simp[e_]
 |cons w r a=>
  simp only[e_];split
  .grind
  .grind
def vm(a:Int):Nat->Int
 |0=>0
 |i+1=>vm a i+a
def ET{a:Int}(h:0<=a):∀i,i<=6->0<=vm a i/\vm a i<=6*a
 |0,_=>by simp only[vm];omega
 |1,_=>by simp only[vm];omega
 |2,_=>by simp only[vm];omega
 |3,_=>by simp only[vm];omega
 |4,_=>by simp only[vm];omega
 |5,_=>by simp only[vm];omega
 |6,_=>by simp only[vm];omega
 |i+7,h=>by omega
def JX:∀d,qB d=6*(1+3*qP d)
 |0=>rfl
 |d+1=>rfl
def JY(az:Nat):∀d,GB az d=I3 (GQ (Cy az d) az)
 |0=>rfl
 |d+1=>rfl
end Go.Proofs
namespace Go.Proofs
open Go.Mt Go.Mk
open Tryz
instance:bu prog 168:=dz (by kernel_rfl)
def I4(l:List Va)(k:Nat):yX ((aB l).drop k)=.sl (aB (l.drop k))\/yX ((aB l).drop k)=.oa/\l.drop k=[]:=by
 have e:(aB l).drop k=aB (l.drop k):=by simp[aB,List.map_drop]
 rw[e];cases l.drop k with
 |nil=>exact .inr ⟨W,W⟩
 |cons a r=>exact .inl W
section
variable{zs:List Int}{v:D}(ht:Tape zs v)(az:Nat)(main:Bool)
include ht
set_option maxHeartbeats 4000000 in
def rj(d:Nat)(hd:d<=3)(hE:vk zs v az main d 14):oT zs v az main d:=by
 intro s hs n ho x hg hn Xa Q4;have hL:=ht.hl;have d6:=hs.ready;have f8:=hs.aY;have T8:=HX d hd;obtain⟨r0,K0,⟨m,g0,rfl,rfl,T⟩,Mo⟩:=e9 ht az main 4 (by omega) (by omega) x hg;have MD:=T.lt;have H:=T.mv;have Rk:=T.ox;have QO:=H.n;have Wa:=H.q;have Ym:=H.i;refine DT.drop 2 (ags _)<|DT.ob func117 W ntmps117 W<|dO [2,2,2,27] W<|K_ (aD Mo W W)<|dL [] W<|dC [2] W<|LF [(11,.m (.d (.int .i64 ((0:Nat):Int)))),(10,.m (.d (.int .i64 ((m:Nat):Int)))),(9,.loc 9 0),(8,.loc 8 0),(5,.m (.d (.ca s.cells 0))),(3,.m (.d (.int .i64 ((d:Nat):Int)))),(2,.m (.d (.sl (aB n)))),(0,.m (.ref 1 0))] (GH v az main g0++[]) W W<|dC [3] W<|NB (λk f=>∃(i:Nat) (a:List Va) (c:M) (g':GS) (F:Hp) (b:List (Nat×List M)),f=⟨[(11,.m (.d (.int .i64 (i:Int)))),(10,.m (.d (.int .i64 ((m:Nat):Int)))),(9,.loc 9 0),(8,.loc 8 0),(5,.m (.d (.ca s.cells 0))),(3,.m (.d (.int .i64 ((d:Nat):Int)))),(2,.m (.d (.sl (aB n)))),(0,.m (.ref 1 0))],b,GH v az main g'++F⟩/\Go.Mt.get b 9=some [c,.d (.sl [])]/\Go.Mt.get b 8=some [.d (.sl []),.d (.sl [])]/\L2 (GH v az main g'++F) (aB a) c 16 [] (.d (.sl []))/\i<=m/\a.length=i/\NV x.n a g'.n/\g'.n=x.n+i/\g'.q=x.q/\g0.i<=g'.i/\g'.i<=zs.length/\k=m-i) m _
  ⟨0,[],.d (.sl []),g0,[],_,rfl,rfl,rfl,⟨2,3,.inl ⟨rfl,rfl⟩,.inl ⟨rfl,rfl⟩,by omega,by omega,by omega⟩,by omega,rfl,by rw[QO];exact .nil,by omega,Wa,ags _,H.le,rfl⟩ W ?_
 rintro am s1 ⟨A,b,I,a,F,bx,rfl,i,l,g,hi,U,TW,Vz,Yn,Wb,Yo,rfl⟩;refine dC [2] W<|DC.cond W (λh=>?_) (λh=>?_)
 .have q:A<m:=by have:=agr h;omega
  obtain⟨r1,K1,⟨rfl,rfl⟩,P⟩:=oS ht az main 118 a Yo (by omega);obtain⟨r2,K2,⟨t,J,rfl,rfl,Mm⟩,Q⟩:=wJ ht az main ⟨a.i,a.n+1,a.q⟩ Yo;obtain⟨r3,K3,⟨j,V,rfl,rfl,ND⟩,r⟩:=e9 ht az main 3 (by omega) (by omega) J Mm.le;have k:=Mm.trans ND.mv;have VB:=k.n;have ac:=k.q;have d7:=k.i;simp only at VB ac d7;have P:=iE (by rfl) P F;have Q:=iE (by rfl) Q F;have r:=iE (by rfl) r F;have L:(aB b).length=A:=by rw[bM,U]
  refine dO [3,2,34] W<|K_ (aD P W W)<|dR [36] W<|K_ (aD Q W W)<|dL [] W ?_;rcases ag5 j with SN|SN
  .subst SN;obtain⟨r4,K4,⟨e,g4,rfl,rfl,Yp,w⟩,K⟩:=gZ ht az main t V k.le;obtain⟨ke,Nj,ne,se,ae,be,he⟩:=e.shape;rw[he]at K;have K:=iE (by rfl) K F;have d8:=w.n;have f9:=w.q;have ip:=w.i;have SY:=g.call (g':=g4);have hw:(⟨nm 118 (a.n+1),t,none,true,e⟩:Va).cells=[.str (nm 118 (a.n+1)),.int .u8 t.kind,.str t.nm,.sl [],.bool true,.int .u8 ke,.int .u8 Nj,.int .i32 ne,.str se,.sl ae,.sl be,.int .i64 0,.int .i64 0,.int .i64 0,.int .i64 0]:=by simp only[Va.cells,he];rfl
   obtain⟨F',hF,VC⟩:=SY.HY [[.str (nm 118 (a.n+1)),.int .u8 t.kind,.str t.nm,.sl [],.bool true,.int .u8 ke,.int .u8 Nj,.int .i32 ne,.str se,.sl ae,.sl be,.int .i64 0,.int .i64 0,.int .i64 0,.int .i64 0]];have L0:aB (b++[⟨nm 118 (a.n+1),t,none,true,e⟩])=aB b++[[.str (nm 118 (a.n+1)),.int .u8 t.kind,.str t.nm,.sl [],.bool true,.int .u8 ke,.int .u8 Nj,.int .i32 ne,.str se,.sl ae,.sl be,.int .i64 0,.int .i64 0,.int .i64 0,.int .i64 0]]:=by rw[gM,<-hw];rfl
   obtain⟨i1,i2,NE,_⟩:=id SY;refine dO [2,42] W<|K_ (aD r W W)<|dR [1,2,2,48] W<|K_ (aD K W W)<|dR [2,51] W<|K_ (aF W W i W)<|dR [54] W<|K_ (lZ NE W W W W W (cM W) (by rw[L];simp only[agB];omega) (by rw[L];simp only[agB];omega))<|dR [999] W<|K_ (aC W W i (bQ _ _ _) W W)<|dR [2,32] W<|K_ (aI W W W (by omega))<|dL [] W ?_;rw[<-L0]at VC;exact bH (k':=m-(A+1)) (by omega) ⟨A+1,_,_,g4,F',_,rfl,rfl,l,VC,by omega,by simp[U],by rw[d8,VB];exact .snoc TW _ W W (.inr ⟨W,Yp⟩),by omega,by omega,by omega,w.le,rfl⟩ hF W
  .have d8:(((j:Nat):Int)==0)=false:=ahG.2 (by omega);have w:=g.call (g':=V);obtain⟨F',hF,K⟩:=w.HY [[.str (nm 118 (a.n+1)),.int .u8 t.kind,.str t.nm,.sl [],.bool false,.int .u8 0,.int .u8 0,.int .i32 0,.str ⟨#[]⟩,.sl [],.sl [],.int .i64 0,.int .i64 0,.int .i64 0,.int .i64 0]];have L0:aB (b++[⟨nm 118 (a.n+1),t,none,false,.nil⟩])=aB b++[[.str (nm 118 (a.n+1)),.int .u8 t.kind,.str t.nm,.sl [],.bool false,.int .u8 0,.int .u8 0,.int .i32 0,.str ⟨#[]⟩,.sl [],.sl [],.int .i64 0,.int .i64 0,.int .i64 0,.int .i64 0]]:=by rw[gM];rfl
   obtain⟨i1,i2,NE,_⟩:=id w;refine dO [2,42] W<|K_ (aD r W W)<|dR [43] W<|K_ (dW d8 W W W W)<|dR [0,2,51] W<|K_ (aF W W i W)<|dR [54] W<|K_ (lZ NE W W W W W (cM W) (by rw[L];simp only[agB];omega) (by rw[L];simp only[agB];omega))<|dR [999] W<|K_ (aC W W i (bQ _ _ _) W W)<|dR [2,32] W<|K_ (aI W W W (by omega))<|dL [] W ?_;rw[<-L0]at K;exact bH (k':=m-(A+1)) (by omega) ⟨A+1,_,_,V,F',_,rfl,rfl,l,K,by omega,by simp[U],by rw[VB];exact .snoc TW _ W W (.inl ⟨W,W⟩),by omega,by omega,by omega,k.le,rfl⟩ hF W
 refine DC.exit ?_;have q:A=m:=by have:=agv h;omega
 have L:(aB b).length<=3:=by rw[bM,U];omega
 have i6:(aB n).length<=3:=by rw[bM];omega
 have Yq:a.n<=3*a.i:=by
  rcases ag5 m with k|k
  .omega
  .have:=Rk (by omega);omega
 have i7:x.n<=a.n:=by omega
 have i8:x.i<=a.i:=by omega
 clear Rk Vz Ym QO Wa Wb H T;refine dC [2] W ?_;have X:=g.ES 15;obtain⟨F1,Y,Z⟩:=X.wj (aB b);obtain⟨F2,C,E⟩:=Z.wj (aB n);obtain⟨_,i2,_,Qu,_⟩:=id X;obtain⟨_,i3,_,P',_⟩:=id Z;have Qe:=X.D7 (bR b);refine dO [2,58] W<|K_ (aF W W i W)<|K_ (TL.bg 54 W Qe)<|dR [59] W<|K_ (lZ Qu W W W W W (bR _) (by simp only[List.length_nil];omega) (by simp only[List.length_nil];omega))<|dL [] W ?_;rw[Y];generalize cQ (.d (.sl [])) (GH v az main a++F) (aB b)=ma at Z C E P'⊢;refine dO [2,62] W<|K_ (lZ P' W W W W W (bR _) (by simp only[ag2];omega) (by simp only[ag2];omega))<|dL [] W ?_;rw[C];generalize cQ ma (GH v az main a++F1) (aB n)=mb at E⊢;rw[ag2,<-gM]at E;refine DC.bg 13 W (E.yz (bR _))<|dC [2] W ?_;have l3:=E.ES 15;obtain⟨F3,ce,N⟩:=l3.wj (aB s.ready);obtain⟨F4,Yr,u⟩:=N.wj (aB b);obtain⟨F5,Wd,o⟩:=u.wj (aB n);obtain⟨_,_,_,Xc,_⟩:=id l3;obtain⟨_,_,_,O,_⟩:=id N;obtain⟨_,_,_,B,_⟩:=id u;have PW:(aB s.ready).length<=1000:=by rw[bM];omega
 have Xd:=N.D7 (bR b);refine dO [2,70] W<|K_ (lZ Xc W W W W W (bR _) (by simp only[List.length_nil];omega) (by simp only[List.length_nil];omega))<|dR [999] W<|K_ (aC W W W (bQ _ _ _) W W)<|dL [] W ?_;rw[ce];generalize cQ (.d (.sl [])) (GH v az main a++F2) (aB s.ready)=mc at N Yr u Wd o O B⊢;refine dO [2,75] W<|K_ (aF W W i W)<|K_ (TL.bg 71 W Xd)<|dR [76] W<|K_ (lZ O W W W W W (bR _) (by simp only[ag2];omega) (by simp only[ag2];omega))<|dR [999] W<|K_ (aC W W W (bQ _ _ _) W W)<|dL [] W ?_;rw[Yr];generalize cQ mc (GH v az main a++F3) (aB b)=md at u Wd o B⊢;refine dO [2,81] W<|K_ (lZ B W W W W W (bR _) (by simp only[ag2,agq];omega) (by simp only[ag2,agq];omega))<|dR [999] W<|K_ (aC W W W (bQ _ _ _) W W)<|dL [] W ?_;rw[Wd];generalize cQ md (GH v az main a++F4) (aB n)=me at o⊢;rw[ag2,<-gM,<-gM]at o;refine DC.cZ (Ls:=[.d (.sl (aB s.ready)),.d (.sl (aB (s.ready++b++n))),.d (.sl [])]) 14 W (fQ (gT (o.yz (bR _)) (fQ W))) ?_;have l7:=o.ES 15;obtain⟨F6,co,l8⟩:=l7.wj (aB s.aY);obtain⟨_,_,_,Xe,_⟩:=id l7;have MO:(aB s.aY).length<=1000:=by rw[bM];omega
 refine dO [2,87] W<|K_ (lZ Xe W W W W W (bR _) (by simp only[List.length_nil];omega) (by simp only[List.length_nil];omega))<|dR [999] W<|K_ (aC W W W (bQ _ _ _) W W)<|dL [] W ?_;rw[co];generalize cQ (.d (.sl [])) (GH v az main a++F5) (aB s.aY)=mf at l8⊢;rw[ag2]at l8;clear X Z E l3 N u o l7 Y C ce Yr Wd co Qu P' Xc O B Xe Qe Xd g;refine dC [2] W ?_;obtain⟨c,We⟩:∃a,a=b++n:=⟨_,rfl⟩;have Tl:c.length<=6:=by rw[We,agq];omega
 rw[<-We];refine LF [(15,.m (.d (.int .i64 ((0:Nat):Int)))),(14,.loc 14 0),(13,.m (.d (.sl (aB c)))),(9,.loc 9 0),(8,.loc 8 0),(3,.m (.d (.int .i64 ((d:Nat):Int)))),(0,.m (.ref 1 0))] (GH v az main a++F6) W W<|dC [3] W<|NB (λk h=>∃(i:Nat) (g:M) (F:Hp) (f:List (Nat×List M)),h=⟨[(15,.m (.d (.int .i64 (i:Int)))),(14,.loc 14 0),(13,.m (.d (.sl (aB c)))),(9,.loc 9 0),(8,.loc 8 0),(3,.m (.d (.int .i64 ((d:Nat):Int)))),(0,.m (.ref 1 0))],f,GH v az main a++F⟩/\Go.Mt.get f 9=some [I,.d (.sl [])]/\Go.Mt.get f 8=some [.d (.sl []),.d (.sl [])]/\Go.Mt.get f 14=some [.d (.sl (aB s.ready)),.d (.sl (aB (s.ready++b++n))),g]/\L2 (GH v az main a++F) (aB b) I 15 (aB (e_ s.aY (c.take i))) g/\i<=c.length/\k=c.length-i) c.length _
  ⟨0,mf,F6,_,rfl,i,l,rfl,l8,by omega,rfl⟩ W ?_
 clear i l l8;rintro am s1 ⟨j,ml,F,bx,rfl,i,l,p,g,hj,rfl⟩;refine dO [2,91] W<|K_ (aT W W W) ?_;rw[bM];refine dL [] W<|DC.cond W (λh=>?_) (λh=>?_)
 .have q:j<c.length:=by have:=agr h;omega
  clear h;have r:=jB q;have V:=agp q;generalize c[j]=w at r V;have k:=yv s.aY (c.take j) w;rw[<-V]at k;have ac:=rQ s.aY (c.take j);rw[agM]at ac;generalize e_ s.aY (c.take j)=t at g k ac;have Qe:=g.yz (bR t);have K:CT prog 168 [ml,.d (.str w.name)] (GH v az main a++F) λf y=>f=.d (.bool (t.any λu=>decide (u.name=w.name)))/\y=GH v az main a++F:=
   CT.GZ Qe ((CT.Da (I0 t w.name (by omega))).mono (by rintro _ _ ⟨⟨_,rfl,rfl⟩,rfl⟩;exact⟨W,W⟩))
  obtain⟨_,_,_,d7,_⟩:=id g;obtain⟨F',P,y⟩:=g.wj [w.cells];obtain⟨x0,x1,x2,x3,x4,x5,x6,x7,hw,_⟩:=jC w;have L0:aB (t++[w])=aB t++[w.cells]:=by rw[gM];rfl
  rw[<-L0]at y;rw[hw]at r P y;have d8:(aB t).length<=1000:=by rw[bM];omega
  refine dC [3] W ?_;cases Q:w.last with
  |false=>
   rw[Q]at r k;simp only[Bool.false_and,ahj,ahL]at k;refine dC [] W ?_;apply Le fG
   .intro s0 Oo;refine fR 2 W<|bE W W W (ago j) r W<|fR 13 W<|TF.nil ⟨by kernel_rfl,rfl⟩
   refine dO [0,2,94] W<|K_ (aI W W W (by omega))<|dL [] W<|bH (k':=c.length-(j+1)) (by omega) ⟨j+1,ml,F,_,rfl,i,l,p,by rw[k];exact g,by omega,rfl⟩ W W
  |true=>
   rw[Q]at r k;cases RG:t.any λu=>decide (u.name=w.name)with
   |true=>
    rw[RG]at k K;simp only[Bool.not_true,Bool.and_false,ahj,ahL]at k;refine dC [] W ?_;apply Le fG
    .intro s0 Oo;refine fR 2 W<|bE W W W (ago j) r W<|fR 4 W ?_
     first|refine f_ W W W W ?_|refine jm W W W ?_|(refine bA W W ?_;(refine bC W W p W ?_))
     refine fR 2 W ?_
     first|refine f_ W W W W ?_|refine jm W W W ?_|(refine bA W W ?_;(refine bE W W W (ago j) r W ?_))
     refine fR 2 W ?_
     first|refine f_ W W W W ?_|refine jm W W W ?_|(refine bA W W ?_;(refine fO K W W ?_))
     refine fR 2 W<|TF.nil ⟨by kernel_rfl,rfl⟩
    refine dO [0,2,94] W<|K_ (aI W W W (by omega))<|dL [] W<|bH (k':=c.length-(j+1)) (by omega) ⟨j+1,ml,F,_,rfl,i,l,p,by rw[k];exact g,by omega,rfl⟩ W W
   |false=>
    rw[RG]at k K;simp only[Bool.not_false,Bool.and_true,ah3]at k;rw[Q]at P y;refine dC [] W ?_;apply Le fG
    .intro s0 Oo;refine fR 2 W<|bE W W W (ago j) r W<|fR 4 W ?_
     first|refine f_ W W W W ?_|refine jm W W W ?_|(refine bA W W ?_;(refine bC W W p W ?_))
     refine fR 2 W ?_
     first|refine f_ W W W W ?_|refine jm W W W ?_|(refine bA W W ?_;(refine bE W W W (ago j) r W ?_))
     refine fR 2 W ?_
     first|refine f_ W W W W ?_|refine jm W W W ?_|(refine bA W W ?_;(refine fO K W W ?_))
     refine fR 2 W<|TF.nil ⟨by kernel_rfl,rfl⟩
    refine dC [1] W ?_;apply Le fG
    .intro s0 Oo;refine fR 1 W<|bC W W p W<|fR 2 W<|bE W W W (ago j) r W<|fR 2 W<|wH d7 W W W W W W (by omega) (by omega)<|fR 1 W<|bS W W p (bQ _ _ _) W W<|TF.nil ⟨by kernel_rfl,rfl⟩
    refine dO [2,94] W<|K_ (aI W W W (by omega))<|dL [] W<|bH (k':=c.length-(j+1)) (by omega) ⟨j+1,_,F',_,rfl,i,l,rfl,by rw[k];exact y,by omega,rfl⟩ P W
 refine DC.exit ?_;have q:j=c.length:=by have:=agv h;omega
 clear h;subst q;rw[agz]at g;have y:=g.ES 16;have d5:(e_ s.aY c).length<=800-200*d+6:=by have:=rQ s.aY c;omega
 refine DC.cZ (Ls:=[.d (.sl (aB s.ready)),.d (.sl (aB (s.ready++b++n))),.d (.sl (aB (e_ s.aY c)))]) 14 p (fQ (fQ (gT (g.yz (bR _)) W))) ?_;obtain⟨z,Wf⟩:∃a:Sc,a=I2 s b n:=⟨_,rfl⟩;have Ys:z.ready=s.ready:=by rw[Wf];rfl
 have Th:z.all=s.ready++b++n:=by rw[Wf];rfl
 have Yt:z.aY=e_ s.aY c:=by rw[Wf,We];rfl
 rw[<-Th,<-Yt,<-Ys];have d9:z.aY.length<=800-200*d+6:=by rw[Yt];exact d5
 have f5:z.all.length<=1000:=by rw[Th];simp only[agq];omega
 have lw:z.ready.length<=800-200*d:=by rw[Ys];exact d6
 clear p g d5 Ys Th Yt;have hW:0<=1+3*qP d:=by omega
 refine dC [3] W<|NB (λn o=>∃(j:Nat) (f:List Va) (h:D) (S:Sc) (q:List aJ) (i:List Va) (k l:M) (g':GS) (F:Hp) (g:List (Nat×List M)),o=⟨[(14,.loc 14 0),(13,.m (.d h)),(9,.loc 9 0),(8,.loc 8 0),(3,.m (.d (.int .i64 ((d:Nat):Int)))),(0,.m (.ref 1 0))],g,GH v az main g'++F⟩/\
   (h=.sl (aB f)\/h=.oa/\f=[])/\Go.Mt.get g 9=some [k,l]/\Go.Mt.get g 8=some [.d (.sl []),.d (.sl [])]/\Go.Mt.get g 14=some [.d (.sl (aB S.ready)),.d (.sl (aB S.all)),.d (.sl (aB S.aY))]/\L2 (GH v az main g'++F) (aB (b++i)) k 16 (bU q) l/\
   GL (GQ (Cy az d) az) z c a.n S f g'.n q i/\(S.ready.length+f.length<=800-200*d+6/\S.all.length<=1000/\S.aY.length<=800-200*d+6/\i.length<=42*j/\q.length<=45*j/\j+f.length<=6)/\(a.i<=g'.i/\g'.i<=zs.length/\a.n<=g'.n/\g'.n<=3*g'.i/\min x.q 0-vm (1+3*qP d) j<=g'.q/\g'.q<=x.q)/\n=f.length) c.length _
  ⟨0,c,_,z,[],[],I,.d (.sl []),a,F,_,rfl,.inl W,i,l,rfl,by rw[agL];exact y,.start,⟨by omega,f5,d9,by simp,by simp,by omega⟩,⟨ags _,Yo,ags _,Yq,by simp only[vm];omega,by omega⟩,rfl⟩ W ?_
 clear i l y;rintro am s1 ⟨j,f,td,S,G,R,I,me,J,F,bx,rfl,Xf,i,l,p,g,PC,⟨z1,z2,z3,z4,z5,z6⟩,⟨y1,y2,y3,y4,y5,y6⟩,rfl⟩;have f6:oc td=some f.length:=by
  rcases Xf with rfl|⟨rfl,rfl⟩
  .simp only[oc,bM]
  .rfl
 refine dO [2,121] W<|K_ (aT W W f6)<|dL [] W<|DC.cond W (λh=>?_) (λh=>?_)
 .have q:0<f.length:=by have:=agr h;omega
  clear h;obtain rfl:td=.sl (aB f):=by
   rcases Xf with ac|⟨_,rfl⟩
   .exact ac
   .simp at q
  have f7:=ET hW j (by omega);have f9:=JV d hd;obtain⟨r3,K3,⟨t,g3,rfl,rfl,K⟩,L7⟩:=e9 ht az main 3 (by omega) (by omega) J y2;have P3:=K.lt;have VB:=K.mv.n;have d7:=K.mv.q;have d8:=K.mv.i;have L7:=iE (by rfl) L7 F;have y:=g.call (g':=g3);obtain⟨k,R0⟩:∃a,a=min (t+1) f.length:=⟨_,rfl⟩;have r:1<=k/\k<=3/\k<=f.length:=by omega
  have VO:1+((t:Nat):Int)=((t+1:Nat):Int):=by omega
  obtain⟨r4,K4,⟨P,Q,V,rfl,rfl,Om,NW,ip,w⟩,OQ⟩:=hE S (by omega) z2 (by omega) (f.take k) (by rw[agM];omega) g3 K.mv.le (by omega) (by omega) (by omega) (by omega);have OQ:=iE (by rfl) OQ F;have Yd:=w.q0;have Si:=w.q1;have OO:=w.i;have Qq:=w.n;have SY:=g.call (g':=V);have Mj:(aB f).take k=aB (f.take k):=by simp[aB,ajq]
  have LG:aB f≠[]:=by intro ac;have h2:=bM f;rw[ac]at h2;have h3:(0:Nat)=f.length:=h2;omega
  obtain⟨F1,Y,u⟩:=SY.wj (bU P);obtain⟨F2,C,o⟩:=u.HY (aB Q);obtain⟨_,_,_,O,_⟩:=id SY;obtain⟨_,_,B,_,_⟩:=id u;have mt:(aB (b++R)).length<=300:=by rw[bM,agq];omega
  have m5:(aB Q).length<=50:=by rw[bM];omega
  have m6:(bU G).length<=300:=by rw[eh];omega
  have m7:(bU P).length<=50:=by rw[eh];omega
  refine dO [3,2,127] W<|K_ (aD L7 W W)<|dR [128] W<|K_ (aI W W W (by omega)) ?_;rw[VO];refine dR [2,131] W<|K_ (aT W W W) ?_;rw[bM];refine dL [] W<|DC.md ⟨[(16,.m (.d (.int .i64 ((k:Nat):Int)))),(14,.loc 14 0),(13,.m (.d (.sl (aB f)))),(9,.loc 9 0),(8,.loc 8 0),(3,.m (.d (.int .i64 ((d:Nat):Int)))),(0,.m (.ref 1 0))],bx,GH v az main g3++F⟩ ?_ ?_
  .refine DC.cond W (λh=>?_) (λh=>?_)
   .have Ul:f.length<t+1:=by have:=agr h;omega
    refine dO [2,134] W<|K_ (aT W W W) ?_;rw[bM,show f.length=k by omega];refine dL [] W<|pf W W
   .have Ul:¬f.length<t+1:=by have:=agv h;omega
    refine dC [] W<|pf W (kc (by rw[show k=t+1 by omega];rfl) W)
  refine dC [] W ?_;apply Le fG
  .intro s0 Oo;refine fR 1 W<|bG W W p W W<|fR 2 W<|xA W W W LG r.1 (by rw[bM];exact r.2.2) (bR _) ?_;rw[Mj];refine fR 1 W<|bt OQ W W<|fR 5 W<|TF.nil ⟨by kernel_rfl,rfl⟩
  refine dO [2,146] W<|K_ (aF W W i W)<|dR [148] W<|K_ (lZ O W W W W W (eV P) (by omega) (by omega))<|dR [999] W<|K_ (aC W W i (bQ _ _ _) W W)<|dL [] W ?_;rw[Y];generalize cQ me (GH v az main V++F) (bU P)=Ya at u C o B⊢;refine dO [2,153] W<|K_ (lZ B W W W W W (bR Q) (by omega) (by omega))<|dR [999] W<|K_ (aC W W W (bQ _ _ _) W W)<|dL [] W ?_;rw[C];generalize cQ I (GH v az main V++F1) (aB Q)=Rh at o⊢;apply Le fG
  .intro s0 Oo;refine bG W W p W W<|fR 2 W<|xA W W W LG r.1 (by rw[bM];exact r.2.2) (bR _) ?_;rw[Mj];refine bc (qN S (f.take k) (by omega) (by rw[agM];omega)) W W<|bS W W p W W W<|TF.nil ⟨by kernel_rfl,rfl⟩
  refine dO [2,162] W<|K_ (xz W W W LG (by rw[bM];exact r.2.2) (bR _))<|dL [] W ?_;rw[<-gM,<-g_]at o;have Mg:(f.drop k).length=f.length-k:=by simp
  exact bH (k':=(f.drop k).length) (by omega) ⟨j+1,f.drop k,_,S.more (f.take k),G++P,R++Q,Rh,Ya,V,F2,_,rfl,I4 f k,rfl,l,rfl,by rw[<-ahi];exact o,.step PC k r.1 r.2.1 r.2.2 (by rw[<-VB];exact Om),⟨by simp only[Sc.more,agq,agM];omega,z2,z3,by simp only[agq];omega,by simp only[agq];omega,by omega⟩,⟨by omega,w.le,by omega,w.ox,by simp only[vm];omega,by omega⟩,rfl⟩ W W
 refine DC.exit ?_;have q:f=[]:=by
  have:=agv h;exact ahT.1 (by omega)
 clear h;subst q;refine DC.cZ (Ls:=[.d (.sl (aB (b++R))),.d (.sl (bU G))]) 9 i (gT (g.D7 (bR _)) (gT (g.yz (eV _)) W))<|dO [2,999] W<|K_ (aC W W l W W W)<|dL [] W ?_;have f7:=ET hW j (by omega);have Yu:=JX d;refine DC.ret ⟨_,W,by simp,.d _,nq v az main J,.mk (b++R) G,J,by rw[bT.cells];rfl,rfl,?_,⟨by omega,y2,by omega,y4,by omega,y6⟩⟩;rw[JY];exact⟨b,a.n,S,G,R,TW,by omega,by rw[<-Wf,<-We];exact PC,W⟩
end
section
variable{zs:List Int}{v:D}(ht:Tape zs v)(az:Nat)(main:Bool)
include ht
def blocks(a:az<=10):∀d,d<=3->oT zs v az main d
 |0,h=>rj ht az main 0 h (Bv ht az main 0 h a (λd e=>by omega) 14 (by omega))
 |d+1,h=>rj ht az main (d+1) h (Bv ht az main (d+1) h a (λb e=>by
   have c:b=d:=by omega
   subst c;exact blocks a b (by omega)) 14 (by omega))
def HZ(s:az<=10)(k:Nat)(E:k<=zs.length):DT prog 59 [.ref 1 0,.d (.int .i64 ((az:Nat):Int))] (GH v az main ⟨k,0,14⟩) λr K=>∃(a:Nd) (g':GS),r=.d (.agg a.cells)/\K=GH v az main g'/\GN az a/\k<=g'.i/\g'.i<=zs.length:=by
 have N:=ht.hl;have t:=lx (az+1) az (by omega) (by omega);have O:=gR az;obtain⟨P,Q,⟨C,a,rfl,rfl,F⟩,u⟩:=e9 ht az main 3 (by omega) (by omega) ⟨k,0,14⟩ E;have c:=F.mv;have G:=c.n;have H:=c.q;have I:=c.i;simp only at G H I;rcases ag5 C with w|w
 .skip
  subst w;obtain⟨R,S,⟨e,p,rfl,rfl,J,l⟩,x⟩:=gZ ht az main .int a c.le;obtain⟨d,f,g,h,i,j,y⟩:=e.shape;rw[y]at x;have ac:=l.n;have am:=l.q;have ce:=l.i;have z:aB [⟨⟨#[120]⟩,.int,none,true,e⟩,yV]=[[D.str ⟨#[120]⟩,.int .u8 2,.str ⟨#[]⟩,.sl [],.bool true,.int .u8 d,.int .u8 f,.int .i32 g,.str h,.sl i,.sl j,.int .i64 0,.int .i64 0,.int .i64 0,.int .i64 0],[D.str ⟨#[121]⟩,.int .u8 3,.str lR,.sl [],.bool false,.int .u8 0,.int .u8 0,.int .i32 0,.str ⟨#[]⟩,.sl [],.sl [],.int .i64 0,.int .i64 0,.int .i64 0,.int .i64 0]]:=by simp only[aB,agH,ag1,Va.cells,y];rfl
  obtain⟨T,U,⟨b,q,rfl,rfl,A,m⟩,o⟩:=blocks ht az main s 3 (by omega) ⟨[aV,bV],[],[]⟩ ⟨by simp,by simp,by simp⟩ [⟨⟨#[120]⟩,.int,none,true,e⟩,yV] (by simp) p l.le (by omega) (by omega) (by omega);obtain⟨V,X,B⟩:=b.shape;rw[B,z]at o;have o:=iE (by rfl) o [.row true 15 0 (bf [[D.str ⟨#[120]⟩,.int .u8 2,.str ⟨#[]⟩,.sl [],.bool true,.int .u8 d,.int .u8 f,.int .i32 g,.str h,.sl i,.sl j,.int .i64 0,.int .i64 0,.int .i64 0,.int .i64 0],[D.str ⟨#[121]⟩,.int .u8 3,.str lR,.sl [],.bool false,.int .u8 0,.int .u8 0,.int .i32 0,.str ⟨#[]⟩,.sl [],.sl [],.int .i64 0,.int .i64 0,.int .i64 0,.int .i64 0]])];have Y:=m.i;refine DT.drop 2 (ags _)<|DT.ob func59 W ntmps59 W<|dO [2,2,12] W<|K_ (aL t W W)<|dR [13] W<|K_ (j' W W W (by have:(⟨#[102]⟩:ByteArray).size=1:=rfl;omega))<|dR [2,15] W<|K_ (aL dM W W)<|dR [17] W<|K_ (aL jd W W)<|dR [2,21] W<|K_ (aL dM W W)<|dR [23] W<|K_ (aL jN W W)<|dR [25] W<|K_ (vH W W W W W W)<|dL [] W ?_;have L:=iE (by rfl) u [.row false 15 0 (bf [[D.str ⟨#[120]⟩,.int .u8 2,.str ⟨#[]⟩,.sl [],.bool false,.int .u8 0,.int .u8 0,.int .i32 0,.str ⟨#[]⟩,.sl [],.sl [],.int .i64 0,.int .i64 0,.int .i64 0,.int .i64 0],[D.str ⟨#[121]⟩,.int .u8 3,.str lR,.sl [],.bool false,.int .u8 0,.int .u8 0,.int .i32 0,.str ⟨#[]⟩,.sl [],.sl [],.int .i64 0,.int .i64 0,.int .i64 0,.int .i64 0]])]
  refine dO [2,31] W<|K_ (aD L W W)<|dR [1,2,35] W<|K_ (zB W W W W (by omega) (by decide))<|dR [999] W<|K_ (zC W W W W W W)<|dL [] W ?_;apply Le fG
  .intro Z Oo;refine fR 3 W<|bc dM W W<|bt (iE (by rfl) x [.row false 15 0 (bf [[D.str ⟨#[120]⟩,.int .u8 2,.str ⟨#[]⟩,.sl [],.bool true,.int .u8 0,.int .u8 0,.int .i32 0,.str ⟨#[]⟩,.sl [],.sl [],.int .i64 0,.int .i64 0,.int .i64 0,.int .i64 0],[D.str ⟨#[121]⟩,.int .u8 3,.str lR,.sl [],.bool false,.int .u8 0,.int .u8 0,.int .i32 0,.str ⟨#[]⟩,.sl [],.sl [],.int .i64 0,.int .i64 0,.int .i64 0,.int .i64 0]])]) W W<|mI W W W W (by omega) (by decide)<|fR 1 W<|zD W W W W W W<|TF.nil ⟨by kernel_rfl,rfl⟩
  refine DC.lc 2 W<|LF [(5,.loc 5 0),(4,.loc 4 0),(0,.m (.ref 1 0))] (GH v az main p++[.row true 15 0 (bf [[D.str ⟨#[120]⟩,.int .u8 2,.str ⟨#[]⟩,.sl [],.bool true,.int .u8 d,.int .u8 f,.int .i32 g,.str h,.sl i,.sl j,.int .i64 0,.int .i64 0,.int .i64 0,.int .i64 0],[D.str ⟨#[121]⟩,.int .u8 3,.str lR,.sl [],.bool false,.int .u8 0,.int .u8 0,.int .i32 0,.str ⟨#[]⟩,.sl [],.sl [],.int .i64 0,.int .i64 0,.int .i64 0,.int .i64 0]])]) W W<|DC.cZ (Ls:=[.d (.str (⟨#[102]⟩++dg az)),.d (.sl (aB [aV,bV])),.d (.sl [[D.str ⟨#[120]⟩,.int .u8 2,.str ⟨#[]⟩,.sl [],.bool true,.int .u8 d,.int .u8 f,.int .i32 g,.str h,.sl i,.sl j,.int .i64 0,.int .i64 0,.int .i64 0,.int .i64 0],[D.str ⟨#[121]⟩,.int .u8 3,.str lR,.sl [],.bool false,.int .u8 0,.int .u8 0,.int .i32 0,.str ⟨#[]⟩,.sl [],.sl [],.int .i64 0,.int .i64 0,.int .i64 0,.int .i64 0]]),.d (.sl []),.d (.sl []),.d (.int .i64 0),.d (.int .i64 0)]) 5 W (fQ (fQ (gT (jO (n:=15) (rs:=[[D.str ⟨#[120]⟩,.int .u8 2,.str ⟨#[]⟩,.sl [],.bool true,.int .u8 d,.int .u8 f,.int .i32 g,.str h,.sl i,.sl j,.int .i64 0,.int .i64 0,.int .i64 0,.int .i64 0],[D.str ⟨#[121]⟩,.int .u8 3,.str lR,.sl [],.bool false,.int .u8 0,.int .u8 0,.int .i32 0,.str ⟨#[]⟩,.sl [],.sl [],.int .i64 0,.int .i64 0,.int .i64 0,.int .i64 0]]) W W (by simp) (by simp_all)) W)))<|dO [2,2,51] W<|K_ (aD o W W)<|dL [2] W ?_
  refine DC.ret ⟨_,W,nU W,.d _,nq v az main q,⟨nm 102 az,[aV,bV],[⟨⟨#[120]⟩,.int,none,true,e⟩,yV],b⟩,q,by rw[Nd.cells,z,B];rfl,rfl,⟨rfl,rfl,⟨true,e,.inr ⟨rfl,J⟩,rfl⟩,q.n,(by have:=m.ox;have:=m.le;omega),?_⟩,by omega,m.le⟩;have M:p.n=0:=by omega
  rw[M]at A;exact A
 .skip
  have l:Mv zs a a:=⟨rfl,rfl,ags _,c.le⟩;have h:aB [⟨⟨#[120]⟩,.int,none,false,.nil⟩,yV]=[[D.str ⟨#[120]⟩,.int .u8 2,.str ⟨#[]⟩,.sl [],.bool false,.int .u8 0,.int .u8 0,.int .i32 0,.str ⟨#[]⟩,.sl [],.sl [],.int .i64 0,.int .i64 0,.int .i64 0,.int .i64 0],[D.str ⟨#[121]⟩,.int .u8 3,.str lR,.sl [],.bool false,.int .u8 0,.int .u8 0,.int .i32 0,.str ⟨#[]⟩,.sl [],.sl [],.int .i64 0,.int .i64 0,.int .i64 0,.int .i64 0]]:=by rfl
  obtain⟨p,q,⟨b,g,rfl,rfl,i,d⟩,f⟩:=blocks ht az main s 3 (by omega) ⟨[aV,bV],[],[]⟩ ⟨by simp,by simp,by simp⟩ [⟨⟨#[120]⟩,.int,none,false,.nil⟩,yV] (by simp) a l.le (by omega) (by omega) (by omega);obtain⟨x,y,j⟩:=b.shape;rw[j,h]at f;have f:=iE (by rfl) f [.row true 15 0 (bf [[D.str ⟨#[120]⟩,.int .u8 2,.str ⟨#[]⟩,.sl [],.bool false,.int .u8 0,.int .u8 0,.int .i32 0,.str ⟨#[]⟩,.sl [],.sl [],.int .i64 0,.int .i64 0,.int .i64 0,.int .i64 0],[D.str ⟨#[121]⟩,.int .u8 3,.str lR,.sl [],.bool false,.int .u8 0,.int .u8 0,.int .i32 0,.str ⟨#[]⟩,.sl [],.sl [],.int .i64 0,.int .i64 0,.int .i64 0,.int .i64 0]])];have z:=d.i;refine DT.drop 2 (ags _)<|DT.ob func59 W ntmps59 W<|dO [2,2,12] W<|K_ (aL t W W)<|dR [13] W<|K_ (j' W W W (by have:(⟨#[102]⟩:ByteArray).size=1:=rfl;omega))<|dR [2,15] W<|K_ (aL dM W W)<|dR [17] W<|K_ (aL jd W W)<|dR [2,21] W<|K_ (aL dM W W)<|dR [23] W<|K_ (aL jN W W)<|dR [25] W<|K_ (vH W W W W W W)<|dL [] W ?_;have m:=iE (by rfl) u [.row false 15 0 (bf [[D.str ⟨#[120]⟩,.int .u8 2,.str ⟨#[]⟩,.sl [],.bool false,.int .u8 0,.int .u8 0,.int .i32 0,.str ⟨#[]⟩,.sl [],.sl [],.int .i64 0,.int .i64 0,.int .i64 0,.int .i64 0],[D.str ⟨#[121]⟩,.int .u8 3,.str lR,.sl [],.bool false,.int .u8 0,.int .u8 0,.int .i32 0,.str ⟨#[]⟩,.sl [],.sl [],.int .i64 0,.int .i64 0,.int .i64 0,.int .i64 0]])]
  refine dO [2,31] W<|K_ (aD m W W)<|dR [32] W<|K_ (dW (ahG.2 (by omega)) W W W W)<|dL [0] W<|DC.lc 2 W<|LF [(5,.loc 5 0),(4,.loc 4 0),(0,.m (.ref 1 0))] (GH v az main a++[.row true 15 0 (bf [[D.str ⟨#[120]⟩,.int .u8 2,.str ⟨#[]⟩,.sl [],.bool false,.int .u8 0,.int .u8 0,.int .i32 0,.str ⟨#[]⟩,.sl [],.sl [],.int .i64 0,.int .i64 0,.int .i64 0,.int .i64 0],[D.str ⟨#[121]⟩,.int .u8 3,.str lR,.sl [],.bool false,.int .u8 0,.int .u8 0,.int .i32 0,.str ⟨#[]⟩,.sl [],.sl [],.int .i64 0,.int .i64 0,.int .i64 0,.int .i64 0]])]) W W<|DC.cZ (Ls:=[.d (.str (⟨#[102]⟩++dg az)),.d (.sl (aB [aV,bV])),.d (.sl [[D.str ⟨#[120]⟩,.int .u8 2,.str ⟨#[]⟩,.sl [],.bool false,.int .u8 0,.int .u8 0,.int .i32 0,.str ⟨#[]⟩,.sl [],.sl [],.int .i64 0,.int .i64 0,.int .i64 0,.int .i64 0],[D.str ⟨#[121]⟩,.int .u8 3,.str lR,.sl [],.bool false,.int .u8 0,.int .u8 0,.int .i32 0,.str ⟨#[]⟩,.sl [],.sl [],.int .i64 0,.int .i64 0,.int .i64 0,.int .i64 0]]),.d (.sl []),.d (.sl []),.d (.int .i64 0),.d (.int .i64 0)]) 5 W (fQ (fQ (gT (jO (n:=15) (rs:=[[D.str ⟨#[120]⟩,.int .u8 2,.str ⟨#[]⟩,.sl [],.bool false,.int .u8 0,.int .u8 0,.int .i32 0,.str ⟨#[]⟩,.sl [],.sl [],.int .i64 0,.int .i64 0,.int .i64 0,.int .i64 0],[D.str ⟨#[121]⟩,.int .u8 3,.str lR,.sl [],.bool false,.int .u8 0,.int .u8 0,.int .i32 0,.str ⟨#[]⟩,.sl [],.sl [],.int .i64 0,.int .i64 0,.int .i64 0,.int .i64 0]]) W W (by simp) (by simp_all)) W)))<|dO [2,2,51] W<|K_ (aD f W W)<|dL [2] W ?_
  refine DC.ret ⟨_,W,nU W,.d _,nq v az main g,⟨nm 102 az,[aV,bV],[⟨⟨#[120]⟩,.int,none,false,.nil⟩,yV],b⟩,g,by rw[Nd.cells,h,j];rfl,rfl,⟨rfl,rfl,⟨false,.nil,.inl ⟨rfl,rfl⟩,rfl⟩,g.n,(by have:=d.ox;have:=d.le;omega),?_⟩,by omega,d.le⟩;have o:a.n=0:=by omega
  rw[o]at i;exact i
end
instance:bu prog 59:=dz (by kernel_rfl)
def Bw(n:Nd):n.cells.length=7:=by
 obtain⟨v,q,h⟩:=n.b.shape;rw[Nd.cells,h];rfl
def Ap(l:List Nd):(ku l).length=l.length:=by simp[ku]
def pv(l:List Nd):∀r∈ku l,r.length=7:=by intro r a;obtain⟨_,_,rfl⟩:=agC.1 a;exact Bw _
def H4{l:List D}(h:l.length=7):∃a b c d e f g,l=[a,b,c,d,e,f,g]:=by
 match l,h with
 |[a,b,c,d,e,f,g],_=>exact⟨_,_,_,_,_,_,_,W⟩
section
variable{zs:List Int}{v:D}(ht:Tape zs v)
include ht
def H5(az:Nat)(a:Bool)(t:az<=10)(c:Nat)(u:c<=zs.length)(H:Hp)(k:H[0]?=some (.box (fg v c))):
  ∃(c:Nd) (d:Nat) (f:Nat) (g:Int),GN az c/\d<=zs.length/\CT prog 59 [.ref H.length 0,.d (.int .i64 ((az:Nat):Int))] (H++[.box (jr 0 14 az a)]) λr K=>r=.d (.agg c.cells)/\K=H.set 0 (.box (fg v d))++[.box (jr f g az a)]:=by
 obtain⟨r,K,⟨l,f,rfl,rfl,w,E,x⟩,y⟩:=HZ ht az a t c u;refine⟨l,f.i,f.n,f.q,w,x,?_⟩;have n:0<H.length:=by
  rcases agJ 0 H.length with h|h
  .exact h
  .simp[agD h]at k
 have o:=CT.frame (H:=GH v az a ⟨c,0,14⟩) (K:=H++[.box (jr 0 14 az a)]) (λi=>if i=0 then 0 else H.length) (λi j h p d=>by
   have g:i=0\/i=1:=by have:i<2:=h;omega
   have z:j=0\/j=1:=by have:j<2:=p;omega
   rcases g with rfl|rfl<;>rcases z with rfl|rfl
   .rfl
   .exact absurd (show 0=H.length from d) (by omega)
   .exact absurd (show H.length=0 from d) (by omega)
   .rfl) (λi h d=>by
   have g:i=0\/i=1:=by have F:i<2:=nc d;omega
   rcases g with rfl|rfl
   .simp at d;subst d;rw[agF (by simpa using n)];simpa [cL,hY,du] using k
   .simp at d;subst d;simp[cL,hY,du]) (nq _ _ _ _) (λm d=>by
   simp at d;rcases d with rfl|rfl
   .exact iL W
   .exact .d _) (y.mono λA h ⟨i,b⟩=>(⟨by rw[b];rfl,i,b⟩:h.length=(GH v az a ⟨c,0,14⟩).length/\(A=.d (.agg l.cells)/\h=GH v az a f)))
 have e:hY (λi=>if i=0 then 0 else H.length) [.ref 1 0,.d (.int .i64 ((az:Nat):Int))]=[.ref H.length 0,.d (.int .i64 ((az:Nat):Int))]:=by simp[hY,du]
 rw[e]at o;refine o.mono ?_;rintro r D ⟨G,I,⟨rfl,rfl⟩,_,rfl,B,p,C⟩;refine⟨W,?_⟩;apply ah7;intro j;have q:=p 0 _ W;have s:=p 1 _ W;simp[cL,hY,du]at q s;rcases Nat.lt_trichotomy j H.length with d|d|d
 .rw[agF (by simpa using d)];by_cases z:j=0
  .subst z;rw[q];simp[n]
  .rw[C j (λi g=>by
    have h:i=0\/i=1:=by have:i<2:=g;omega
    rcases h with rfl|rfl
    .simp;omega
    .simp;omega),agF d,ag8 (by omega)]
 .subst d;rw[s,agP (by simp)];simp
 .rw[agD (by simp at B;omega),agD (by simp;omega)]
end
theorem Gg(a:List Int)(v:D)(ht:Tape a v)(k:Nat)(c:0<k)(p:k<=1000)(i:Nat)(g:i<=a.length):DT prog 58 [.ref 0 0,.d (.int .i64 ((k:Nat):Int))] [.box (fg v i)] λr K=>∃(j b:Nat),r=.d (.int .i64 ((j:Nat):Int))/\K=[.box (fg v b)]/\j<k/\b<=a.length:=by
 obtain⟨⟨f,h,l⟩,q⟩:=ht;refine DT.ob func58 W ntmps58 W<|dC [2] W ?_;rcases agJ i a.length with b|b
 rotate_left
 .have d:decide (((i:Nat):Int)>=(a.length:Int))=true:=aha (by omega);refine dC [] W ?_;apply Le fG
  .intro e m;refine fR 8 W<|lG W W f<|lY W W W (r:=.bool true) (by show some (D.bool (decide _))=_;rw[d])<|TF.nil ⟨by kernel_rfl,rfl⟩
  refine dC [1,2] W<|DC.ret ⟨_,W,0,i,W,W,c,g⟩
 .have m:decide (((i:Nat):Int)>=(a.length:Int))=false:=ahc (by omega);obtain rfl:v=.sl (kF .u8 a):=h.resolve_left (by grind);have d:(kF .u8 a)[((i:Nat):Int).toNat]?=some [.int .u8 a[i]]:=xw (ag3 b);have e:=HS (l a[i] (agx b));generalize a[i]=z at d e;obtain⟨z,rfl⟩:=ajb e.1;have n:((i:Nat):Int)+1-1=(i:Int):=by omega
  have o:Int.tmod (z:Int) (k:Int)=((z%k:Nat):Int):=rfl;refine dC [] W ?_;apply Le fG
  .intro s t;refine fR 8 W<|lG W W f<|lY W W W (r:=.bool false) (by show some (D.bool (decide _))=_;rw[m])<|TF.nil ⟨by kernel_rfl,rfl⟩
  refine dO [0,2,23] W<|K_ (aI W W W (by omega))<|dR [999] W<|K_ (c8 W W W W W W)<|dL [] W ?_;apply Le fG
  .intro s t;refine fR 8 W<|fK W W W (by omega) ?_;rw[n];refine bE W W W (ago i) d W<|fR 1 W<|BF W W ?_;rw[IntWalk.i64_in _ ⟨by omega,by omega⟩];refine fR 1 W<|C6 W W W (by simp;omega) ?_;rw[o];refine fR 1 W<|TF.nil ⟨by kernel_rfl,rfl⟩
  exact DC.ret ⟨_,W,z%k,i+1,W,W,aik _ c,b⟩
theorem H6{α:Type}{l:List α}{i:Nat}{x:α}(h:l[i]?=some x):i<l.length:=by grind
theorem Aq{n i:Nat}{rs:List (List D)}{m:M}{H:Hp}(h:Acc n i rs m H)(hi:1<=i)(c:1<=H.length)(rows:List (List D)):
  ∃a,Acc n a (rs++rows) (cQ m H rows) (eg n m H rows)/\1<=a/\(∀j ob,(rs≠[]->j≠i)->H[j]?=some ob->(eg n m H rows)[j]?=some ob)/\H.length<=(eg n m H rows).length:=by
 rcases h with⟨rfl,rfl⟩|⟨d,a,rfl,b⟩
 .cases rows with
  |nil=>exact⟨i,.inl ⟨W,W⟩,hi,λj ob _ h=>h,ags _⟩
  |cons q r=>
   refine⟨H.length,.inr ⟨by simp,0,by simp[cQ,sy],by simp[eg,jf]⟩,c,λj ob _ h=>?_,by simp[eg,jf]⟩;simp only[eg,jf];rw[agF (nc h)];exact h
 .have f:=nc b;have e:eg n (.cy i a rs.length) H rows=H.set i (.row true n (a+1) (bf rs++bf rows)):=by simp only[eg,b]
  rw[e];exact⟨i,.inr ⟨by simp[d],a+1,by simp[cQ],by rw[yA];simp[f]⟩,hi,λj ob a h=>by grind,by simp⟩
def H7(b:List Int)(v:D)(ht:Tape b v):PT prog 17 [v] (λr=>∃l,r=[.agg (HR l)]/\GP l):=by
 obtain⟨r1,K1,⟨j,e,rfl,rfl,hj,p⟩,q⟩:=Gg b v ht 3 (by omega) (by omega) 0 (by omega);have s:1+((j:Nat):Int)=((j+1:Nat):Int):=by omega
 have t:j+1<=3:=by omega
 have u:1<=j+1:=by omega
 have V:(∃a,v=.sl a)\/v=.oa:=by
  have:=ht.iK.1;cases v<;>simp[oc]at this
  .exact .inl ⟨_,W⟩
  .exact .inr W
 have w:= λ(a:Nat) (g:Bool) (e:a<=10) (c:Nat) (f:c<=b.length)=>H5 ht a g e c f
 rcases V with⟨c,rfl⟩|rfl
 .refine Lk (DT.ct ?_);refine DT.ob func17 W ntmps17 W<|dO [2,2,14] W<|K_ (nP W W W)<|dR [2,2,20] W<|K_ (aD q W W)<|dR [21] W<|K_ (aI W W W (by omega)) ?_;rw[s];refine dL [] W ?_;generalize j+1=N at t u⊢;refine dC [2] W<|LF [(6,.m (.d (.int .i64 ((0:Nat):Int)))),(5,.m (.d (.int .i64 ((N:Nat):Int)))),(4,.loc 4 0),(3,.m (.ref 0 0)),(2,.loc 2 0)] [.box (fg (.sl c) e)] W W<|dC [3] W<|NB (λk g=>∃(i:Nat) (l:List Nd) (m:M) (f e:Nat) (H:Hp) (a:List (Nat×List M)),g=⟨[(6,.m (.d (.int .i64 (i:Int)))),(5,.m (.d (.int .i64 ((N:Nat):Int)))),(4,.loc 4 0),(3,.m (.ref 0 0)),(2,.loc 2 0)],a,H⟩/\Go.Mt.get a 4=some [.d (.sl [Cu]),m]/\Go.Mt.get a 2=some [.d (.sl []),.d (.sl [])]/\Acc 7 e (ku l) m H/\1<=e/\H[0]?=some (.box (fg (.sl c) f))/\f<=b.length/\i<=N/\l.length=i/\(∀(k:Nat) (d:Nd),l[k]?=some d->GN k d)/\k=N-i) N _
   ⟨0,[],.d (.sl []),e,1,_,_,rfl,rfl,rfl,.inl ⟨rfl,rfl⟩,by omega,rfl,p,by omega,rfl,by simp,rfl⟩ W ?_
  rintro k s1 ⟨i,l,m,X,U,H,bx,rfl,g,x,y,Z,z,Y,hi,A,B,rfl⟩;refine dC [2] W<|DC.cond W (λn=>?_) (λn=>?_)
  .have Lg:i<N:=by have:=agr n;omega
   obtain⟨o,f,C,E,RP,Oq,F⟩:=w i (((i:Nat):Int)==((N:Nat):Int)-1) (by omega) X Y H z;obtain⟨G,I,J,K,L,O,P,Q⟩:=H4 (Bw o);rw[Q]at F;have R:=nc z;have S:Acc 7 U (ku l) m (H.set 0 (.box (fg (.sl c) f))++[.box (jr C E i (((i:Nat):Int)==((N:Nat):Int)-1))]):=y.other (λa a=>by
    rw[agF (by simpa using nc a),ag8 (by omega)];exact a)
   have ac:(ku l).length<=3:=by rw[Ap];omega
   have L0:ku (l++[o])=ku l++[[G,I,J,K,L,O,P]]:=by rw[<-Q];simp[ku]
   obtain⟨a',T,b2,b3,b4⟩:=Aq S Z (by simp) [[G,I,J,K,L,O,P]];have P8:=b3 0 _ (by omega) (show(H.set 0 (.box (fg (.sl c) f))++[.box (jr C E i (((i:Nat):Int)==((N:Nat):Int)-1))])[0]?=some (.box (fg (.sl c) f)) by rw[agF (by simpa using R)];simp[R]);rw[<-L0]at T;refine dO [3,2,31] W<|K_ (cD W W W (by omega))<|dR [33] W<|K_ (zu W W W W W)<|dR [34] W<|K_ (nP W W W)<|dL [] W ?_;apply Le fG
   .intro a h;refine fR 1 W<|bC W W g W<|fR 2 W<|bt F W W<|fR 1 W<|wH S W W W W W W (by omega) (by omega)<|fR 1 W<|bS W W g (bQ _ _ _) W W<|TF.nil ⟨by kernel_rfl,rfl⟩
   refine dO [2,26] W<|K_ (aI W W W (by omega))<|dL [] W<|bH (k':=N-(i+1)) (by omega) ⟨i+1,l++[o],_,f,a',_,_,rfl,rfl,x,T,b2,P8,Oq,by omega,by simp[A],by
    intro k d a;rcases agJ k l.length with h|h
    .rw[agF h]at a;exact B k d a
    .rw[agP h]at a;obtain rfl:k=l.length:=by have:=H6 a;simp at this;omega
     simp at a;subst a;rw[A];exact RP,W⟩ W W
  .refine DC.exit ?_;have a:i=N:=by have:=agv n;omega
   refine DC.cZ (Ls:=[.d (.sl [Cu]),.d (.sl (ku l))]) 4 g (fQ (gT (y.view (pv l)) W))<|dO [2,999] W<|K_ (aC W W x W W W)<|dL [] W<|DC.ret ⟨_,W,[_],W,l,W,by omega,by omega,B⟩
 .refine Lk (DT.ct ?_);refine DT.ob func17 W ntmps17 W<|dO [2,2,14] W<|K_ (nP W W W)<|dR [2,2,20] W<|K_ (aD q W W)<|dR [21] W<|K_ (aI W W W (by omega)) ?_;rw[s];refine dL [] W ?_;generalize j+1=N at t u⊢;refine dC [2] W<|LF [(6,.m (.d (.int .i64 ((0:Nat):Int)))),(5,.m (.d (.int .i64 ((N:Nat):Int)))),(4,.loc 4 0),(3,.m (.ref 0 0)),(2,.loc 2 0)] [.box (fg .oa e)] W W<|dC [3] W<|NB (λk f=>∃(i:Nat) (l:List Nd) (m:M) (e c:Nat) (H:Hp) (a:List (Nat×List M)),f=⟨[(6,.m (.d (.int .i64 (i:Int)))),(5,.m (.d (.int .i64 ((N:Nat):Int)))),(4,.loc 4 0),(3,.m (.ref 0 0)),(2,.loc 2 0)],a,H⟩/\Go.Mt.get a 4=some [.d (.sl [Cu]),m]/\Go.Mt.get a 2=some [.d (.sl []),.d (.sl [])]/\Acc 7 c (ku l) m H/\1<=c/\H[0]?=some (.box (fg .oa e))/\e<=b.length/\i<=N/\l.length=i/\(∀(k:Nat) (d:Nd),l[k]?=some d->GN k d)/\k=N-i) N _
   ⟨0,[],.d (.sl []),e,1,_,_,rfl,rfl,rfl,.inl ⟨rfl,rfl⟩,by omega,rfl,p,by omega,rfl,by simp,rfl⟩ W ?_
  rintro k s1 ⟨i,l,m,X,U,H,bx,rfl,g,x,y,Z,z,Y,hi,A,B,rfl⟩;refine dC [2] W<|DC.cond W (λn=>?_) (λn=>?_)
  .have Lg:i<N:=by have:=agr n;omega
   obtain⟨o,f,C,E,RP,Oq,F⟩:=w i (((i:Nat):Int)==((N:Nat):Int)-1) (by omega) X Y H z;obtain⟨G,I,J,K,L,O,P,Q⟩:=H4 (Bw o);rw[Q]at F;have R:=nc z;have S:Acc 7 U (ku l) m (H.set 0 (.box (fg .oa f))++[.box (jr C E i (((i:Nat):Int)==((N:Nat):Int)-1))]):=y.other (λa a=>by
    rw[agF (by simpa using nc a),ag8 (by omega)];exact a)
   have ac:(ku l).length<=3:=by rw[Ap];omega
   have L0:ku (l++[o])=ku l++[[G,I,J,K,L,O,P]]:=by rw[<-Q];simp[ku]
   obtain⟨a',T,b2,b3,b4⟩:=Aq S Z (by simp) [[G,I,J,K,L,O,P]];have P8:=b3 0 _ (by omega) (show(H.set 0 (.box (fg .oa f))++[.box (jr C E i (((i:Nat):Int)==((N:Nat):Int)-1))])[0]?=some (.box (fg .oa f)) by rw[agF (by simpa using R)];simp[R]);rw[<-L0]at T;refine dO [3,2,31] W<|K_ (cD W W W (by omega))<|dR [33] W<|K_ (zu W W W W W)<|dR [34] W<|K_ (nP W W W)<|dL [] W ?_;apply Le fG
   .intro a h;refine fR 1 W<|bC W W g W<|fR 2 W<|bt F W W<|fR 1 W<|wH S W W W W W W (by omega) (by omega)<|fR 1 W<|bS W W g (bQ _ _ _) W W<|TF.nil ⟨by kernel_rfl,rfl⟩
   refine dO [2,26] W<|K_ (aI W W W (by omega))<|dL [] W<|bH (k':=N-(i+1)) (by omega) ⟨i+1,l++[o],_,f,a',_,_,rfl,rfl,x,T,b2,P8,Oq,by omega,by simp[A],by
    intro k d a;rcases agJ k l.length with h|h
    .rw[agF h]at a;exact B k d a
    .rw[agP h]at a;obtain rfl:k=l.length:=by have:=H6 a;simp at this;omega
     simp at a;subst a;rw[A];exact RP,W⟩ W W
  .refine DC.exit ?_;have a:i=N:=by have:=agv n;omega
   refine DC.cZ (Ls:=[.d (.sl [Cu]),.d (.sl (ku l))]) 4 g (fQ (gT (y.view (pv l)) W))<|dO [2,999] W<|K_ (aC W W x W W W)<|dL [] W<|DC.ret ⟨_,W,[_],W,l,W,by omega,by omega,B⟩
end Go.Proofs
