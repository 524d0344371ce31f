/- A part of the proof of the last text of this claim, without conditions. -/
import Derived.Test.YtbafhpblecdbbaaGreatDoorE
set_option maxRecDepth 4000
set_option linter.all false
namespace Go.Ps
open Go.Mt Go.Sm
def ti(f:Env)(n:Nat):Prop:=∀x b,f x=some b->b.k7<=n
def ti.set{f:Env}{n:Nat}(h:ti f n)(x:Nm){b:Bd}(d:b.k7<=n):ti (f.set x b) n:=by
 intro y c a;unfold Env.set at a;split at a
 .injection a with a;rw[<-a];exact d
 .exact h y c a
def ni(f:Env)(a:List (Nm×Nm))(m:MS)(x:Nm)(h:ti f a.length):ti (eJ f a m x).1 a.length/\(eJ f a m x).2.1.n<=m.n+1/\(eJ f a m x).2.1.vars.length<=m.vars.length+1/\(eJ f a m x).2.2.length<=1:=by
 unfold eJ;split
 .exact⟨h,by simp,by simp,by simp⟩
 .rename_i b c;split
  .exact⟨h,by simp,by simp,by simp⟩
  .exact⟨h.set x (ah9 _),by simp[MS.fresh],by simp[MS.fresh],by simp⟩
structure eg(s:Sc):Prop where
 v:ti s.vars s.ck.length
 l:ti s.aO s.ck.length
 n:s.ck.length<=1000000
structure bu(r a:R)(k:Nat):Prop where
 ck:a.s.ck=r.s.ck
 sc:eg a.s
 n:a.m.n<=r.m.n+k
 vs:a.m.vars.length<=r.m.vars.length+k
 q:a.q.length<=r.q.length+k
def bu.refl{r:R}(h:eg r.s):bu r r 0:=⟨rfl,h,ah9 _,ah9 _,ah9 _⟩
def bu.trans{a b c:R}{i j:Nat}(h:bu a b i)(g:bu b c j):bu a c (i+j):=⟨g.ck.trans h.ck,g.sc,by have:=h.n;have:=g.n;omega,by have:=h.vs;have:=g.vs;omega,by have:=h.q;have:=g.q;omega⟩
def bu.cM{r:R}(h:eg r.s)(x:Nm):bu r (cM r x) 1:=by
 obtain⟨a,b,c,d⟩:=ni r.s.vars r.s.ck r.m x h.v;rw[nh];exact⟨W,⟨a,h.l,h.n⟩,b,c,by simp;omega⟩
def bu.fm{r:R}(h:eg r.s)(x:Nm):bu r (fm r x) 1:=by
 obtain⟨a,b,c,d⟩:=ni r.s.aO r.s.ck r.m x h.l;rw[lL];exact⟨W,⟨h.v,a,h.n⟩,b,c,by simp;omega⟩
def bu.pV:∀(l:List Nm) {r:R},eg r.s->bu r (l.foldl Go.Ps.cM r) l.length
 |[],r,h=>.refl h
 |x::l,r,h=>by
  have a:=bu.cM h x;have:=a.trans (bu.pV l a.sc);rw[aj5]at this;exact this
def bu.Ep:∀(l:List Nm) {r:R},eg r.s->bu r (l.foldl Go.Ps.fm r) l.length
 |[],r,h=>.refl h
 |x::l,r,h=>by
  have a:=bu.fm h x;have:=a.trans (bu.Ep l a.sc);rw[aj5]at this;exact this
def bu.fZ{r:R}(h:eg r.s)(e:Xp):bu r (cB r e) (bJ e+bJ e):=by
 have b:=bu.pV (hM e []) h;have a:=b.trans (bu.Ep (kZ e []) b.sc);have:=lK e [];have:=pT e [];simp only[List.length_nil,ai8]at*;exact⟨a.ck,a.sc,by have:=a.n;unfold cB;omega,by have:=a.vs;unfold cB;omega,by have:=a.q;unfold cB;omega⟩
def uy:∀(l:List Nm) (r:R),(l.foldl cM r).s.aO=r.s.aO
 |[],r=>rfl
 |x::l,r=>by rw[aii,uy l,nh]
def wG:∀(l:List Nm) (r:R),(l.foldl fm r).s.vars=r.s.vars
 |[],r=>rfl
 |x::l,r=>by rw[aii,wG l,lL]
end Go.Ps
namespace Go.Proofs.Pz
open Go.Mt Go.Sm Go.Ps Go.Proofs
open Tryz
def fA(a b:List aD):cg (a++b)=cg a++cg b:=by simp[cg]
abbrev hY(it im iv il:Nat)(p:Pg)(r:R):List As:=[.ob it bg,ij im p r.m,cN iv r.s.vars,cN il r.s.aO]
def rN(it d iv c:Nat)(p:Pg)(s:Sc)(m:MS)(e:Xp)(u:fG e)(T:eg s)(hn:m.n+bJ e+bJ e<1000000000)(hv:m.vars.length+bJ e+bJ e<=10000000)(C:bJ e<=1000000):
  Dt prog 256 [.ref d 0,mE iv c s.ck,.d (.agg e.cells)] (hY it d iv c p ⟨s,m,[]⟩) λx l=>∃b,x=mI [.d (.agg (cp (cB ⟨s,m,[]⟩ e).s e).cells),b]/\l=.acc 16 (cg (cB ⟨s,m,[]⟩ e).q) b::hY it d iv c p (cB ⟨s,m,[]⟩ e):=by
 intro H F U;have w:=(Wk.start U).nil 16;obtain⟨_,V,o,⟨rfl,rfl⟩,w,h⟩:=Wk.call (a:=[]) w (FG e u C);have D:=lK e [];have E:=pT e [];simp only[List.length_nil,ai8]at D E;obtain⟨A,G⟩:∃A,A=hM e []:=⟨_,rfl⟩;obtain⟨B,v⟩:∃B,B=kZ e []:=⟨_,rfl⟩;unfold cB;rw[<-G]at h D;rw[<-v]at E;rw[<-G,<-v];have X:(aE A).length=A.length:=by simp[aE]
 have ac:(aE B).length=B.length:=by simp[aE]
 have I:= λi=>bu.pV (A.take i) (r:=⟨s,m,[]⟩) T
 rw[e.ah]at h⊢;refine MG func256 W ntmps256 W ?_;refine Mo ?_;apply Mn
 .intro j z;refine gy W W W W<|gZ W W<|cG W W<|aj W W<|TL.nil W
 refine Mo ?_;apply Mn
 .intro j z;refine aj W W<|TL.nil W
 refine Mo ?_;apply Mn
 .intro j z;refine ca W W W<|aA h W W ?_
  (refine aY W W W ?_;rw[X])
  refine TL.au
 refine Mo ?_;refine DC.block<|DC.loop (λk h=>∃(i:Nat) (f:M) (b:List (Nat×List M)) (g:Hp),h=⟨[(16,.m (.d (.int .i64 ((i:Nat):Int)))),(15,.m (.d (.int .i64 ((A.length:Nat):Int)))),(14,.m (.d (.sl (aE A)))),(8,.m f),(6,.loc 6 0),(5,.m (.d (.bM (xC e) 0))),(4,.loc 4 0),(0,.m (.ref d 0))],b,g⟩/\
   Go.Mt.get b 4=some [.mp iv,.mp c,.d (.sl (bA s.ck))]/\Go.Mt.get b 6=some ((bh 0 0 0 ⟨#[]⟩ [] [] (0,0)).map M.d)/\
   Wk F H (.acc 16 (cg ((A.take i).foldl cM ⟨s,m,[]⟩).q) f::hY it d iv c p ((A.take i).foldl cM ⟨s,m,[]⟩)) g/\i<=A.length/\k=A.length-i) A.length _
  ⟨0,.d (.sl []),_,_,rfl,rfl,rfl,w,by omega,rfl⟩ W ?_
 rintro S Y ⟨i,y,Z,H1,rfl,q,t,w,hi,rfl⟩;refine Mx ?_;refine Mo ?_;refine DC.cond W (λg=>?_) (λg=>?_)
 .have J:i<A.length:=by have:=aic g;omega
  have MA:=fF J;have b:=I i;have j:(A.take (i+1)).foldl cM ⟨s,m,[]⟩=cM ((A.take i).foldl cM ⟨s,m,[]⟩) A[i]:=by rw[ah5 J,aiC];rfl
  rw[nh]at j;generalize (A.take i).foldl cM ⟨s,m,[]⟩=r at w b j;generalize A[i]=x at MA j;have Q6:=b.n;have Rw:=b.vs;have K:=b.q;have z:=b.ck;have UP:(A.take i).length<=A.length:=by rw[ait];omega
  dsimp only at Q6 Rw K z
  have S3:=ni r.s.vars r.s.ck r.m x b.sc.v;obtain⟨_,L,o,⟨rfl,rfl⟩,w,k⟩:=Wk.call (a:=[.ob it bg,ij d p r.m,cN iv r.s.vars]) (r:=[_,_]) (w.pick [1,2,3,0,4]) (CM it d p r.m iv c r.s.ck r.s.vars x (by omega) (by omega) b.sc.n (b.sc.v x));rw[z]at k S3;have w:=w.pick [3,0,1,2,4];rw[z]at w j;have Po:(cg r.q).length+(cg (eJ r.s.vars s.ck r.m x).2.2).length<=100000000:=by
   simp only[cg,ah8];simp at K;omega
  refine DC.skip ?_;refine Mo ?_;refine DC.block ?_;refine Mx ?_;refine Mo ?_;apply Mn
  .intro s0 Oo;refine TL.go ?_;refine cT w W W W W W W (dv _) (by omega)<|TL.au
  have w:=w.app (cg (eJ r.s.vars s.ck r.m x).2.2);rw[<-fA]at w;refine Mx ?_;exact bf (k':=A.length-(i+1)) (by omega) ⟨i+1,_,_,_,rfl,q,t,by rw[j];exact w,by omega,rfl⟩ W W
 refine DC.exit ?_;obtain rfl:i=A.length:=by have:=aie g;omega
 have b:=I A.length;rw[aih]at w b;have N:=uy A ⟨s,m,[]⟩;generalize A.foldl cM ⟨s,m,[]⟩=f at w b N⊢;obtain⟨_,V,o,⟨rfl,rfl⟩,w,h⟩:=Wk.call (a:=[]) w (Em e u C);rw[<-v,e.ah]at h;have O:= λi=>bu.Ep (B.take i) (r:=f) b.sc
 have T_:=b.n;have Ua:=b.vs;have P:=b.q;have Q:=b.ck
 dsimp only at T_ Ua P Q N
 refine Mx ?_;refine Mo ?_;refine DC.block<|DC.loop (λk j=>∃(i:Nat) (g:M) (b:List (Nat×List M)) (h:Hp),j=⟨[(30,.m (.d (.int .i64 ((i:Nat):Int)))),(29,.m (.d (.int .i64 ((B.length:Nat):Int)))),(28,.m (.d (.sl (aE B)))),(8,.m g),(6,.loc 6 0),(5,.m (.d (.bM (xC e) 0))),(4,.loc 4 0),(0,.m (.ref d 0))],b,h⟩/\
   Go.Mt.get b 4=some [.mp iv,.mp c,.d (.sl (bA s.ck))]/\Go.Mt.get b 6=some ((bh 0 0 0 ⟨#[]⟩ [] [] (0,0)).map M.d)/\
   Wk F H (.acc 16 (cg ((B.take i).foldl fm f).q) g::hY it d iv c p ((B.take i).foldl fm f)) h/\i<=B.length/\k=B.length-i) B.length _
  ⟨0,y,_,_,rfl,q,t,w,by omega,rfl⟩ W ?_
 rintro S Y ⟨i,y,Z,H1,rfl,q,t,w,hi,rfl⟩;refine Mx ?_;refine Mo ?_;refine DC.cond W (λg=>?_) (λg=>?_)
 .have z:i<B.length:=by have:=aic g;omega
  have K:=fF z;have b:=O i;have j:(B.take (i+1)).foldl fm f=fm ((B.take i).foldl fm f) B[i]:=by rw[ah5 z,aiC];rfl
  rw[lL]at j;generalize (B.take i).foldl fm f=r at w b j;generalize B[i]=x at K j;have Q6:=b.n;have Rw:=b.vs;have PU:=b.q;have J:=b.ck.trans Q;have UP:(B.take i).length<=B.length:=by rw[ait];omega
  have S3:=ni r.s.aO r.s.ck r.m x b.sc.l;obtain⟨_,L,o,⟨rfl,rfl⟩,w,k⟩:=Wk.call (a:=[.ob it bg,ij d p r.m,cN c r.s.aO]) (r:=[_,_]) (w.pick [1,2,4,0,3]) (ux it d p r.m iv c r.s.ck r.s.aO x (by omega) (by omega) b.sc.n (b.sc.l x));rw[J]at k S3;have w:=w.pick [3,0,1,4,2];rw[J]at w j;have Po:(cg r.q).length+(cg (eJ r.s.aO s.ck r.m x).2.2).length<=100000000:=by
   have:f.q.length<=A.length:=by simpa using P
   simp only[cg,ah8];omega
  refine DC.skip ?_;refine Mo ?_;refine DC.block ?_;refine Mx ?_;refine Mo ?_;apply Mn
  .intro s0 Oo;refine TL.go ?_;refine cT w W W W W W W (dv _) (by omega)<|TL.au
  have w:=w.app (cg (eJ r.s.aO s.ck r.m x).2.2);rw[<-fA]at w;refine Mx ?_;exact bf (k':=B.length-(i+1)) (by omega) ⟨i+1,_,_,_,rfl,q,t,by rw[j];exact w,by omega,rfl⟩ W W
 refine DC.exit ?_;obtain rfl:i=B.length:=by have:=aie g;omega
 have R:=O B.length;rw[aih]at w R;generalize B.foldl fm f=n at w R⊢;obtain⟨_,L,o,⟨rfl,rfl⟩,w,k⟩:=Wk.call (a:=[cN iv n.s.vars,cN c n.s.aO]) (r:=[_,_,_]) (w.pick [3,4,0,1,2]) (CN iv c s.ck n.s e u);have w:=w.pick [2,3,4,0,1];rw[e.ah,(cp n.s e).ah]at k;rw[(cp n.s e).ah];refine Mx ?_;exact DC.ret ⟨_,W,_,⟨y,W,W⟩,w⟩
end Go.Proofs.Pz
namespace Go.Ps
open Go.Mt Go.Sm
def bu.val{r:R}(h:eg r.s)(e:Xp)(t:Int×Nm):bu r (gM r e t) (bJ e+bJ e+1):=by
 have a:=bu.fZ h e;exact⟨a.ck,a.sc,by have:=a.n;simp only[gM,MS.fresh];omega,by have:=a.vs;simp only[gM,MS.fresh,ah6,aik];omega,by have:=a.q;simp only[gM,ah6,aik];omega⟩
end Go.Ps
namespace Go.Proofs.Pz
open Go.Mt Go.Sm Go.Ps Go.Proofs
open Tryz
def AG(it b iv d:Nat)(p:Pg)(s:Sc)(m:MS)(e:Xp)(t:Int×Nm)(j:fG e)(f:eg s)(k:m.n+bJ e+bJ e<1000000000)(n:m.vars.length+bJ e+bJ e<=10000000)(o:bJ e<=1000000):
  Dt prog 258 [.ref b 0,mE iv d s.ck,.d (.agg e.cells),.d (.agg (fL t))] (hY it b iv d p ⟨s,m,[]⟩) λx l=>∃c,x=mI [.d (.str (nV (Ps.gM ⟨s,m,[]⟩ e t).m.n)),c]/\l=.acc 16 (cg (Ps.gM ⟨s,m,[]⟩ e t).q) c::hY it b iv d p (Ps.gM ⟨s,m,[]⟩ e t):=by
 intro H F q;obtain⟨_,D,u,⟨C,rfl,rfl⟩,w,g⟩:=Wk.call (r:=[]) (Wk.start q) (rN it b iv d p s m e j f k n o);have c:=bu.fZ (r:=⟨s,m,[]⟩) f e;unfold Ps.gM;generalize cB ⟨s,m,[]⟩ e=r at w g c⊢;have v:=c.n;have y:=c.vs;have h:=c.q;have i:=c.ck
 dsimp only at v y h i
 obtain⟨_,E,u,⟨rfl,rfl⟩,w,z⟩:=Wk.call (a:=[.ob it bg,ij b p r.m]) (r:=[_,_,_]) (w.pick [1,2,0,3,4]) (rM it b p r.m (by omega) (by omega) t r.s.ck c.sc.n);have w:=w.pick [2,0,1,3,4];have A:=o8 (nV (r.m.n+1)) (cp r.s e) e.ps;rw[eb,(cp r.s e).ah]at A;rw[(cp r.s e).ah,e.ah]at g;rw[i]at z;rw[e.ah];refine MG func258 W ntmps258 W ?_;refine Mo ?_;apply Mn
 .intro G I;refine TL.al
 refine Mo ?_;apply Mn
 .intro G I;refine TL.au
 refine Mo ?_;apply Mn
 .intro G I;refine TL.au
 refine Mo ?_;apply Mn
 .intro G I;refine TL.go ?_;refine cT w W W W W W W (by exact bS W) (by simp[cg]at h⊢;omega)<|TL.au
 have w:=w.app [eW 1 [nV (r.m.n+1)] ⟨#[]⟩ [] false (xC (cp r.s e)) [] e.ps];have B:cg (r.q++[gY (nV (r.m.n+1)) (cp r.s e) e.ps])=cg r.q++[eW 1 [nV (r.m.n+1)] ⟨#[]⟩ [] false (xC (cp r.s e)) [] e.ps]:=by
  rw[fA];show cg r.q++[(gY (nV (r.m.n+1)) (cp r.s e) e.ps).cells]=_;rw[eb]
 rw[<-B]at w;exact DC.ret ⟨_,W,_,⟨_,W,W⟩,w⟩
end Go.Proofs.Pz
namespace Go.Ps
open Go.Mt Go.Sm
def bu.last{r:R}(h:eg r.s)(v:Va)(a:Nm):bu r (iO r v a) 1:=by
 unfold iO;split
 .exact⟨W,⟨h.v,h.l.set _ (ah9 _),h.n⟩,by simp[MS.fresh],by simp[MS.fresh],by simp⟩
 .exact⟨W,h,ajR _,ajR _,ajR _⟩
def Iy(a b:List (Nm×Nm)):bA (a++b)=bA a++bA b:=by simp[bA]
end Go.Ps
namespace Go.Proofs.Pz
open Go.Mt Go.Sm Go.Ps Go.Proofs
open Tryz
def uz(a b:List (Nm×Nm))(h:a.length+b.length<=1000000):PT prog 208 [.sl [[.sl (bA a)],[.sl (bA b)]]] (·=[.sl (bA (a++b))]):=by
 have c:=CH [bA a,bA b] (by
  intro l d r e;simp only[aib,aip,aiJ]at d;rcases d with rfl|rfl<;>exact jp _ r e) (by simp) (by simp[bA];omega)
 have f:[bA a,bA b].flatten=bA (a++b):=by rw[Iy];simp
 rw[f]at c;exact c
def CO(it c iv d:Nat)(p:Pg)(s:Sc)(m:MS)(v:Va)(b:Nm)(E:eg s)(k:m.n<1000000000)(n:m.vars.length<=10000000)(e:s.ck.length+v.clock.length<=1000000):
  Dt prog 162 [.ref c 0,mE iv d s.ck,.d (.agg v.cells),.d (.str b)] (hY it c iv d p ⟨s,m,[]⟩) λx l=>x=.d (.sl (cg (iO ⟨s,m,[]⟩ v b).q))/\l=hY it c iv d p (iO ⟨s,m,[]⟩ v b):=by
 intro H F o;have w:=Wk.start o;rw[v.ah];unfold iO;cases G:v.last with
 |false=>
  simp only[ai2,aju];refine MG func162 W ntmps162 W ?_;refine O0 ?_;refine Mx ?_;refine Mo ?_;refine MM W ?_;refine Mx ?_;exact DC.ret ⟨_,W,_,⟨W,W⟩,w⟩
 |true=>
  simp only[ajL];obtain⟨q,f⟩:∃b,b=s.ck++v.clock.map λo=>(o.1,s.vars.nm o.2):=⟨_,rfl⟩
  have g:=uz s.ck (v.clock.map λo=>(o.1,s.vars.nm o.2)) (by rw[ah8];exact e);rw[<-f]at g⊢;obtain⟨_,I,t,⟨rfl,rfl⟩,w,u⟩:=Wk.call (a:=[cN iv s.vars]) (r:=[_,_,_]) (w.pick [2,0,1,3]) (GY (.ref c 0) iv d s.ck s.vars v.clock (by omega));obtain⟨_,J,t,⟨rfl,rfl⟩,w,y⟩:=Wk.call (a:=[.ob it bg,ij c p m]) (r:=[_,_]) (w.pick [1,2,0,3]) (rM it c p m k n (v.tk,v.tn) q (by rw[f,ah6,ah8];exact e));have w:=w.pick [3,0,1,2];obtain⟨z,h,w⟩:=cN.open w;have C:(bA s.ck).length=s.ck.length:=by simp[bA]
  have A:=fE b;rw[(aZ b).ah]at A;have j:(jS v.first (aZ b)).cells=bh 9 0 0 ⟨#[]⟩ [] [xC v.first,xC (aZ b)] (0,0):=by
   rw[Xp.ah];show bh 9 0 0 _ [] [v.first.cells,(aZ b).cells] _=_;rw[v.first.ah,(aZ b).ah];rfl
  have i:(gY (nV (m.n+1)) (jS v.first (aZ b)) v.ps).cells=eW 1 [nV (m.n+1)] ⟨#[]⟩ [] false (bh 9 0 0 ⟨#[]⟩ [] [xC v.first,xC (aZ b)] (0,0)) [] v.ps:=by rw[aD.cells,j];rfl
  have B:=o8 (nV (m.n+1)) (jS v.first (aZ b)) v.ps;rw[i,j]at B;refine MG func162 W ntmps162 W ?_;refine Mo ?_;apply Mn
  .intro K L;refine gy W W W W<|gZ W W<|aj W W<|TL.nil W
  refine Mo ?_;apply Mn
  .intro K L;refine aG W W<|aI W W W<|kg W W<|TL.nil W
  refine Mo ?_;refine Mw W<|DC.skip ?_;refine Mo ?_;apply Mz mixed
  .intro K L;refine cF W W<|cO W W W W<|bG W W<|gW W W W W W<|cm W W<|di W W W<|bB u W W<|cr W W W W W W W W<|bm g W W<|mY W W<|TF.nil ⟨by kernel_rfl,rfl⟩
  refine Mo ?_;apply Mn
  .intro K L;refine aq W W<|aG W W<|eh W W W<|aq W W<|aA y W W<|aj W W<|TL.nil W
  refine Mo ?_;apply Mn
  .intro K L;refine aF W W<|aJ W W W W<|aG W W<|aI W W W<|aq W W<|aF W W<|aJ W W W W ?_
   (refine aY W W W ?_;rw[C])
   refine TL.go ?_;refine eU W W W w.ob h.k<|TL.nil W
  refine Mo ?_;apply Mz mixed
  .intro K L;refine TF.au
  refine DC.ret ⟨_,W,_,⟨?_,W⟩,(Ng (h.set v.name ⟨nV (m.n+1),s.ck.length,v.tk,v.tn⟩) (w.set (.map (dK v.name (.d (.agg (oa ⟨nV (m.n+1),s.ck.length,v.tk,v.tn⟩))) z)))).pick [1,2,3,0]⟩;show _=M.d (D.sl [(gY (nV (m.n+1)) (jS v.first (aZ b)) v.ps).cells]);rw[i];rfl
end Go.Proofs.Pz
namespace Go.Ps
open Go.Mt Go.Sm
variable{es OT:List (D×M)}{bs seen:List Nat}
def Ll(es:List (D×M))(bs seen:List Nat)(a:List (D×M))(ns:List Nat):Prop:=ns.Nodup/\seen.map some=ns.map (bs[·]?)/\a.map some=ns.map (es[·]?)
def Seen(es:List (D×M))(bs seen:List Nat)(a:List (D×M)):Prop:=∃b,Ll es bs seen a b
def Seen.nil(es:List (D×M))(bs:List Nat):Seen es bs [] []:=⟨[],by simp,rfl,rfl⟩
def Seen.step{es:List (D×M)}{bs seen:List Nat}{a:List (D×M)}(h:Seen es bs seen a){n b:Nat}{e:D×M}(d:es[n]?=some e)(g:bs[n]?=some b)(m:b∉seen)(o:(es.map Prod.fst).Nodup):
  Seen es bs (seen++[b]) (a++[e])/\e.1∉a.map Prod.fst:=by
 obtain⟨f,p,i,j⟩:=h;have l:n∉f:=by
  intro h;have:some b∈f.map (bs[·]?):=aij.2 ⟨n,h,g⟩;rw[<-i,aij]at this;obtain⟨c,k,e⟩:=this;injection e with e;subst e;exact m k
 refine⟨⟨f++[n],?_,?_,?_⟩,?_⟩
 .rw[ajP];exact⟨p,by simp,by intro r q c k;rw[aiR]at k;subst k;exactλe=>l (e▸q)⟩
 .rw[aio,aio,i];simp[g]
 .rw[aio,aio,j];simp[d]
 .intro k;rw[aij]at k;obtain⟨c,q,r⟩:=k;have:some c∈a.map some:=aij.2 ⟨c,q,rfl⟩;rw[j,aij]at this;obtain⟨s,t,u⟩:=this;apply l;have v:n<(es.map Prod.fst).length:=by rw[ah8];exact(aiX.1 d).1
  have:n=s:=by
   refine(List.getElem?_inj v o).1 ?_;rw[aiZ,aiZ,d,u];simp[r]
  rw[this];exact t
def Seen.all(h:Seen es bs seen OT)(i:∀b∈bs,b∈seen)(j:bs.Nodup)(q:bs.length=es.length):OT.Perm es:=by
 obtain⟨f,k,l,g⟩:=h;have m:f.Perm (List.range es.length):=by
  rw[List.perm_ext_iff_of_nodup k List.nodup_range];intro n;rw[ajI];constructor
  .intro d;have:(es[n]?)∈f.map (es[·]?):=aij.2 ⟨n,d,rfl⟩;rw[<-g,aij]at this;obtain⟨c,_,o⟩:=this;exact(aiX.1 o.symm).1
  .intro r;have d:n<bs.length:=by omega
   have:some bs[n]∈seen.map some:=aij.2 ⟨_,(i _ (aif d)),rfl⟩;rw[l,aij]at this;obtain⟨o,e,p⟩:=this;have:n=o:=by
    refine(List.getElem?_inj d j).1 ?_;rw[p];simp[d]
   rw[this];exact e
 have e:(OT.map some).Perm (es.map some):=by
  have d:es.map some=(List.range es.length).map (es[·]?):=by
   refine akl (by simp) λn a o=>?_
   simp at a;simp[a]
  rw[g,d];exact m.map _
 have a:=e.filterMap id;simpa using a
def lM(bs seen:List Nat):Nat:=(bs.filter λc=>decide (c∉seen)).length
def G0(bs seen:List Nat)(b:Nat):lM bs (seen++[b])<=lM bs seen:=by
 unfold lM
 induction bs with
 |nil=>simp
 |cons c l a=>
  simp only[akS];by_cases d:c∈seen
  .simp[d]at a⊢;exact a
  .by_cases e:c=b
   .subst e;simp[d]at a⊢;omega
   .simp[d,e]at a⊢;exact a
def vK{b:Nat}(d:b∈bs)(f:b∉seen):lM bs (seen++[b])<lM bs seen:=by
 induction bs with
 |nil=>simp at d
 |cons c l g=>
  by_cases a:c=b
  .subst a;have:=G0 l seen c;unfold lM at this⊢;simp only[akS];simp[f]at this⊢;omega
  .have i:b∈l:=by rcases aib.1 d with h|h;exact absurd h.symm a;exact h
   have:=g i;unfold lM at this⊢;simp only[akS];by_cases e:c∈seen
   .simp[e]at this⊢;exact this
   .simp[e,a]at this⊢;exact this
def vL(k:Nm)(v:M):∀{es:List (D×M)},strKeys es=true->D.str k∉es.map Prod.fst->dK k v es=es++[(.str k,v)]
 |[],_,_=>rfl
 |(d,m)::r,h,a=>by
  cases d with
  |str s=>
   simp only[aiq,aib,alh]at a;rw[nG,aid (λe=>a.1 (by rw[e])),vL k v (es:=r) (by simpa [strKeys] using h) a.2];rfl
  |_=>simp[strKeys]at h
def yF(a:OT.Perm es)(b:strKeys es=true)(c:(es.map Prod.fst).Nodup):∀a,dT a OT->dT a es:=by
 intro d h;refine .inr ⟨?_,cC.1 b,c⟩;rcases h with rfl|⟨h,_⟩
 .exact a
 .exact h.trans a
def dT.vM{a:List (D×M)}(h:dT a es):a.Perm es:=by
 rcases h with rfl|⟨h,_⟩
 .exact .refl _
 .exact h
end Go.Ps
namespace Go.Ps
open Go.Mt Go.Sm
variable{m n:Nat}{f:Env}{F:Nat->Prop}{H:Hp}
def vN{x:Nm}{m:M} :∀{es:List (D×M)},strKeys es=true->(es.map Prod.fst).Nodup->(D.str x,m)∈es->ek x es=some m
 |[],_,_,h=>by simp at h
 |(d,g)::r,c,a,h=>by
  cases d with
  |str s=>
   rw[aiq,ajk]at a;rw[iw];rcases aib.1 h with h|h
   .injection h with b f;injection b with b;subst b;subst f;rw[air W]
   .rw[aid (λe=>a.1 (by rw[e];exact aij.2 ⟨_,h,W⟩))];exact vN (by simpa [strKeys] using c) a.2 h
  |_=>simp[strKeys]at c
def i_.JU{es:List (D×M)}(h:i_ es f){e:D×M}(a:e∈es):∃x b,e=(.str x,M.d (.agg (oa b))):=by
 obtain⟨x,c⟩:=cC.1 h.k e a;obtain⟨d,m⟩:=e;simp only at c;subst c;have:=vN h.k h.nd a;rw[h.l]at this;cases g:f x with
 |none=>rw[g]at this;cases this
 |some b=>rw[g]at this;injection this with this;exact⟨x,b,by rw[<-this]⟩
def Lm{K:Hp}{l:List As}{iv c:Nat}{a b:Ob}(g:∀i,F i->i=iv\/i=c)(w:Wk F H l K)(h:K[iv]?=H[iv]?)(j:K[c]?=H[c]?)(k:K[H.length]?=some a)(d:K[H.length+1]?=some b):
  H.length+2<=K.length/\K.take (H.length+2)=H++[a,b]:=by
 obtain⟨_,_,m⟩:=w;have n:=(aiX.1 d).1;refine⟨n,ajQ λi=>?_⟩;rw[ajz];by_cases e:i<H.length
 .rw[air (by omega),aim e];by_cases f:F i
  .rcases g i f with rfl|rfl
   .exact h
   .exact j
  .exact m.iW i e f
 .by_cases f:i=H.length
  .subst f;rw[air (by omega),k,aix (ah9 _)];simp
  .by_cases o:i=H.length+1
   .subst o;rw[air (by omega),d,aix (by omega)];simp
   .rw[aid (by omega),ail (by simp;omega)]
def MB.le(c:n<=m){x:M}(h:MB n x):MB m x:=by
 induction h with
 |d x=>exact .d x
 |ref i a h=>exact .ref i a (by omega)
 |bZ i a b h=>exact .bZ i a b (by omega)
 |cz i a b h=>exact .cz i a b (by omega)
 |mp i h=>exact .mp i (by omega)
 |it i h=>exact .it i (by omega)
 |agg a h b=>exact .agg a b
 |fn f a h b=>exact .fn f a b
 |c_ a h b=>exact .c_ a b
 |undef=>exact .undef
def Bu.le(a:n<=m){ob:Ob}(h:Bu n ob):Bu m ob:=by
 cases ob with
 |box b=>exactλx b=>MB.le a (h x b)
 |row e c d b=>exactλx b=>MB.le a (h x b)
 |map b=>exactλx b=>MB.le a (h x b)
 |iter x=>exact MB.le a h
 |dead=>trivial
 |free=>trivial
def cN.Iz{i:Nat}(h:(cN i f).p H F):∀j,F j->j=i:=by
 obtain⟨k,l,m,⟨n,a⟩,⟨o,p,⟨_,b⟩,c,_,d⟩,_,e⟩:=h;intro j g;rcases(e j).1 g with h|h
 .exact(a j).1 h
 .rcases(d j).1 h with h|h
  .exact absurd h (b j)
  .exact absurd h (c j)
end Go.Ps
namespace Go.Proofs.Pz
open Go.Mt Go.Sm Go.Ps Go.Proofs
open Tryz
def G1{F:Nat->Prop}{H:Hp}{iv j:Nat}{k t:List (D×M)}{f g:Env}(w:Wk F H [.ob iv (.map k),.ob j (.map t)] H)(Y:i_ k f)(Z:i_ t g)(hF:∀i,F i->i=iv\/i=j)(L:List (Nm×Nm))(mk:M)(Zk:fr mk=some [mk]):
  CT prog 259 [mE iv j L,mk] H λr K=>r=.agg [.mp H.length,.mp (H.length+1),mk]/\H.length+2<=K.length/\K.take (H.length+2)=H++[.map k,.map t]:=by
 have Xu:=w.ob;have ac:=(w.pick [1,0]).ob;refine My func259 W ntmps259 W λs0 Oo=>?_
 refine TC.sL ?_;have w:=(w.new (.map [])).new (.map []);have R_:(H++[Ob.map []]).length=H.length+1:=by simp
 refine Ms ?_;refine TC.region<|TL.go ?_;refine m_ (cs:=[.mp H.length,.mp (H++[Ob.map []]).length,mk]) W W W (by simp only[jW];rw[Zk];rfl)<|cG W W<|aK W W W (fx _) W W<|TL.nil ?_;rw[R_]at w⊢;have w:=w.pick [2,1,0,3];have a:=Y;have C:=w.ob;refine Ms ?_;refine TC.region<|TL.go ?_
 (refine vr W W W W C a.k ?_;intro o c i d l u N)
 refine TL.nil ?_;have m:∃J,J=(H++[Ob.map []]++[Ob.map []]).length:=⟨_,rfl⟩;obtain⟨J,m⟩:=m;rw[<-m];have w:=(w.set (.map (fl i o c))).new (.iter (jX iv i []));rw[akx,<-m]at w;have w:=w.pick [1,0,2,3,4];have O:=(((dT.vM d).map Prod.fst).nodup_iff).2 a.nd;have P:=d.strs a.k;refine Ms ?_;refine TC.block<|M9 (λl s=>∃(h:List Nat) (d:List (D×M)) (a:List (Nat×List M)) (k:Hp),s=⟨[(16,.m (.it J)),(5,.loc 5 0),(4,.loc 4 0),(2,.loc 2 0)],a,k⟩/\
   Go.Mt.get a 2=some [.mp iv,.mp j,.d (.sl (bA L))]/\Go.Mt.get a 4=some [.d .jA,.d .jA,.d (.sl [])]/\Go.Mt.get a 5=some [.mp H.length,.mp (H.length+1),mk]/\
   Seen o c h d/\strKeys d=true/\
   Wk F H (.ob iv (.map (fl i o c)):: .ob J (.iter (jX iv i h)):: .ob H.length (.map d):: [.ob (H.length+1) (.map []),.ob j (.map t)]) k/\l=lM c h) (lM c []) _
  ⟨[],[],_,_,rfl,rfl,rfl,rfl,Seen.nil _ _,rfl,w,rfl⟩ W ?_
 rintro U V ⟨z,v,bx,S,rfl,E,G,I,x,p,w,rfl⟩;have n:=w.ob;have q:=(w.pick [1,0,2,3,4]).ob;refine Ms ?_;refine TC.region<|yu W W q n l N (λQ=>?_) (λX e b h s y=>?_);rotate_left
 .obtain⟨A,R,rfl⟩:=a.JU (d.mem.1 (aiv h));refine MX ?_;refine Ms ?_;refine MZ W<|TC.skip ?_;have w:=(w.pick [1,0,2,3,4]).set (.iter (jX iv i (z++[b])));have q:=w.ob;have w:=w.pick [1,0,2,3,4];have n:=w.ob;have w:=w.pick [2,0,1,3,4];have hC:=w.ob;obtain⟨Tb,PX⟩:=x.step h s y O;refine Ms ?_;refine TC.block ?_;refine Ms ?_;refine TC.region<|vt W W q n l u h s<|MX ?_;refine Ms ?_;refine TC.region<|TL.go ?_;refine eU W W W hC p<|TL.nil ?_;have w:=w.set (.map (dK A (.d (.agg (oa R))) v));have T:=vL A (.d (.agg (oa R))) p PX;have Wi:strKeys (dK A (.d (.agg (oa R))) v)=true:=by
   rw[T,cC];intro e h;rcases ain.1 h with B|B
   .exact cC.1 p e B
   .rw[aiR]at B;subst B;exact⟨A,W⟩
  exact again (vK (aiv s) y) ⟨z++[b],_,_,_,W,E,G,I,by rw[T];exact Tb,Wi,w.pick [1,2,0,3,4],W⟩ W W
 refine MX ?_;refine Ms ?_;refine MJ W<|TC.exit<|TC.ud n l P d ?_;have w:=w.set (.map k);have w:=w.pick [2,0,1,3,4];refine TC.perm w.ob (yF ((x.all Q u l).trans (dT.vM d)) a.k a.nd) ?_;have w:=w.set (.map k);have w:=(w.pick [2,4,3,0,1]).drop;have a:=Z;have C:=w.ob;generalize am:(S.set iv (.map k)).set H.length (.map k)=HH at w C⊢;refine Ms ?_;refine TC.region<|TL.go ?_
 (refine vr W W W W C a.k ?_;intro o c i d l u N)
 refine TL.nil ?_;have m:∃J,J=HH.length:=⟨_,rfl⟩;obtain⟨J,m⟩:=m;rw[<-m];have w:=(w.set (.map (fl i o c))).new (.iter (jX j i []));rw[akx,<-m]at w;have w:=w.pick [1,0,2,3,4];have O:=(((dT.vM d).map Prod.fst).nodup_iff).2 a.nd;have P:=d.strs a.k;refine Ms ?_;refine TC.block<|M9 (λm s=>∃(h:List Nat) (d:List (D×M)) (a:List (Nat×List M)) (l:Hp),s=⟨[(28,.m (.it J)),(5,.loc 5 0),(4,.loc 4 0),(2,.loc 2 0)],a,l⟩/\
   Go.Mt.get a 2=some [.mp iv,.mp j,.d (.sl (bA L))]/\Go.Mt.get a 4=some [.d .jA,.d .jA,.d (.sl [])]/\Go.Mt.get a 5=some [.mp H.length,.mp (H.length+1),mk]/\
   Seen o c h d/\strKeys d=true/\
   Wk F H (.ob j (.map (fl i o c)):: .ob J (.iter (jX j i h)):: .ob (H.length+1) (.map d):: [.ob H.length (.map k),.ob iv (.map k)]) l/\m=lM c h) (lM c []) _
  ⟨[],[],_,_,rfl,E,G,I,Seen.nil _ _,rfl,w,rfl⟩ W ?_
 rintro U V ⟨z,v,bx,S,rfl,E,G,I,x,p,w,rfl⟩;have n:=w.ob;have q:=(w.pick [1,0,2,3,4]).ob;refine Ms ?_;refine TC.region<|yu W W q n l N (λQ=>?_) (λX e b h s y=>?_);rotate_left
 .obtain⟨A,R,rfl⟩:=a.JU (d.mem.1 (aiv h));refine MX ?_;refine Ms ?_;refine MZ W<|TC.skip ?_;have w:=(w.pick [1,0,2,3,4]).set (.iter (jX j i (z++[b])));have q:=w.ob;have w:=w.pick [1,0,2,3,4];have n:=w.ob;have w:=w.pick [2,0,1,3,4];have hC:=w.ob;obtain⟨Tb,PX⟩:=x.step h s y O;refine Ms ?_;refine TC.block ?_;refine Ms ?_;refine TC.region<|vt W W q n l u h s<|MX ?_;refine Ms ?_;refine TC.region<|TL.go ?_;refine eU W W W hC p<|TL.nil ?_;have w:=w.set (.map (dK A (.d (.agg (oa R))) v));have T:=vL A (.d (.agg (oa R))) p PX;have Wi:strKeys (dK A (.d (.agg (oa R))) v)=true:=by
   rw[T,cC];intro e h;rcases ain.1 h with B|B
   .exact cC.1 p e B
   .rw[aiR]at B;subst B;exact⟨A,W⟩
  exact again (vK (aiv s) y) ⟨z++[b],_,_,_,W,E,G,I,by rw[T];exact Tb,Wi,w.pick [1,2,0,3,4],W⟩ W W
 refine MX ?_;refine Ms ?_;refine MJ W<|TC.exit<|TC.ud n l P d ?_;have w:=w.set (.map t);have w:=w.pick [2,0,1,3,4];refine TC.perm w.ob (yF ((x.all Q u l).trans (dT.vM d)) a.k a.nd) ?_;have w:=w.set (.map t);refine Ms ?_;refine TC.region<|TL.go ?_;refine TL.nil<|TC.ret ⟨_,W,W,Lm hF w (((w.pick [3,4,0,1,2]).pick [1,0,2,3,4]).ob.trans Xu.symm) ((w.pick [1,0,2,3,4]).ob.trans ac.symm) ((w.pick [3,0,1,2,4]).ob) w.ob⟩
def AH(iv a:Nat)(f g:Env)(o:List (Nm×Nm))(mk:M)(t:fr mk=some [mk]):
  Dt prog 259 [mE iv a o,mk] [cN iv f,cN a g] λx l=>∃b c,x=.agg [.mp b,.mp c,mk]/\l=[cN iv f,cN a g,cN b f,cN c g]:=by
 intro H F p;have u:∀i,F i->i=iv\/i=a:=by
  obtain⟨s,v,c,⟨y,z,k,m,_,n⟩,_,q⟩:=p;intro i r;rcases(q i).1 r with h|h
  .exact .inl (cN.Iz c i h)
  .rcases(n i).1 h with h|h
   .exact .inr (cN.Iz k i h)
   .exact absurd h (m i)
 have w:=Wk.start p;obtain⟨b,d,w⟩:=cN.open w;have w:=w.pick [1,0];obtain⟨e,j,w⟩:=cN.open w;have w:=w.pick [1,0];refine⟨.agg [.mp H.length,.mp (H.length+1),mk],H++[.map b,.map e],⟨_,⟨H.length,H.length+1,W,W⟩,?_⟩,?_⟩
 .have c:=(w.new (.map b)).new (.map e);have h:(H++[Ob.map b]).length=H.length+1:=by simp
  rw[h,ai0]at c;have i:=Ng j ((Ng d (c.pick [2,3,1,0])).pick [1,2,3,0]);have k:=Ng j ((Ng d (i.pick [1,2,3,0])).pick [1,2,3,0]);exact k.pick [1,2,3,0]
 .intro s v i r k m;have n:HB H.length H:=by rw[<-k];exact r.hb
  have y:MB H.length mk:=by
   have c:1<i.size:=by have:=m.1;simp at this;omega
   have:=(m.2 1 mk i[1] W (by simp[c])).mb;rw[k]at this;exact this
  refine CT.drop (post:= λa c=>a=.agg [.mp H.length,.mp (H.length+1),mk]/\c=H++[Ob.map b,Ob.map e]) (H.length+2) (by omega) ((G1 w d j u o mk t).mono ?_) s v i r k m;rintro B C ⟨rfl,c,q⟩;refine⟨c,.agg _ ?_,?_,W,q⟩
  .intro x h;simp only[aib,aip,aiJ]at h;rcases h with rfl|rfl|rfl
   .exact .mp _ (by omega)
   .exact .mp _ (by omega)
   .exact MB.le (by omega) y
  .rw[q];intro z A;rcases ain.1 A with h|h
   .exact Bu.le (by omega) (n z h)
   .simp only[aib,aip,aiJ]at h;rcases h with rfl|rfl
    .exact Bu.le (by omega) (n _ (aiv w.ob))
    .exact Bu.le (by omega) (n _ (aiv ((w.pick [1,0]).ob)))
end Go.Proofs.Pz
namespace Go.Ps
open Go.Mt Go.Sm
variable{es OT:List (D×M)}{f:Env}
def oL.mono{en:List En}{f:Nm->Int×Nm}{p q:Nm->Prop}(b:∀x,p x->q x){e:Xp}(h:oL en f p e):oL en f q e:=by
 induction h with
 |mk g c h d=>
  refine .mk d c ?_;rcases h with h|h|h|⟨h,a⟩|⟨h,a⟩|h|h|h|h
  .exact .inl h
  .exact .inr (.inl h)
  .exact .inr (.inr (.inl h))
  .exact .inr (.inr (.inr (.inl ⟨h,b _ a⟩)))
  .exact .inr (.inr (.inr (.inr (.inl ⟨h,b _ a⟩))))
  .exact .inr (.inr (.inr (.inr (.inr (.inl h)))))
  .exact .inr (.inr (.inr (.inr (.inr (.inr (.inl h))))))
  .exact .inr (.inr (.inr (.inr (.inr (.inr (.inr (.inl h)))))))
  .exact .inr (.inr (.inr (.inr (.inr (.inr (.inr (.inr h)))))))
def vO{α:Type}[DecidableEq α]:∀{k l:List α},k.Nodup->(∀x∈k,x∈l)->k.length<=l.length
 |[],l,_,_=>by simp
 |b::k,l,a,c=>by
  rw[ajk]at a;have d:=c b (by simp);have:=vO (l:=l.erase b) a.2 λx b=>(List.mem_erase_of_ne (λe=>a.1 (by rw[<-e];exact b))).2 (c x (by simp[b]))
  rw[List.length_erase_of_mem d]at this;have:=akW d;simp only[aia];omega
def CP(f:Env)(n:Nat):Prop:=∃l:List Nm,l.length<=n/\∀x,(f x).isSome->x∈l
def FH(e:Nm×Bd):D×M:=(.str e.1,.d (.agg (oa e.2)))
def wH(e:Nm×Bd):Va:=⟨e.1,e.2.tk,e.2.tn,[],false,bR,(0,0)⟩
def i_.mem(h:i_ es f){e:Nm×Bd} :FH e∈es↔f e.1=some e.2:=by
 constructor
 .intro c;have:=vN h.k h.nd c;rw[h.l]at this;cases a:f e.1 with
  |none=>rw[a]at this;cases this
  |some b=>
   rw[a]at this;injection this with this
   injection this with this;injection this with this
   obtain⟨x,g⟩:=e;obtain⟨i,j,k,l⟩:=b;obtain⟨n,o,p,q⟩:=g;simp only[oa,List.cons.injEq,D.str.injEq,D.int.injEq,Int.natCast_inj,true_and,ajV]at this;obtain⟨rfl,rfl,rfl,rfl⟩:=this;rfl
 .intro j;have c:=h.l e.1;rw[j]at c;have k:∀{l:List (D×M)} {m:M},ek e.1 l=some m->(D.str e.1,m)∈l:=by
   intro l m
   induction l with
   |nil=>intro h;simp[ek]at h
   |cons i r g=>
    intro h;obtain⟨d,n⟩:=i;cases d with
    |str s=>
     rw[iw]at h;by_cases a:s=e.1
     .rw[air a]at h;injection h with h;subst h;subst a;exact ajf
     .rw[aid a]at h;exact ajb _ (g h)
    |_=>exact ajb _ (g (by simpa [ek] using h))
  exact k c
def i_.len(h:i_ es f){n:Nat}(c:CP f n):es.length<=n:=by
 obtain⟨l,p,k⟩:=c;obtain⟨g,d⟩:∃a:List Nm,es.map Prod.fst=a.map D.str:=by
  have:∀l:List (D×M),(∀e∈l,∃s,e.1=.str s)->∃a:List Nm,l.map Prod.fst=a.map D.str:=by
   intro l
   induction l with
   |nil=>exactλ_=>⟨[],rfl⟩
   |cons i r m=>
    intro h;obtain⟨s,c⟩:=h i (by simp);obtain⟨g,o⟩:=m λe a=>h e (by simp[a])
    exact⟨s::g,by simp[c,o]⟩
  exact this es (cC.1 h.k)
 have j:=h.nd;rw[d]at j;have q:=vO (l:=l) (List.Pairwise.of_map D.str (λa b h e=>h (by rw[e])) j) (by
  intro x m;have:D.str x∈es.map Prod.fst:=by rw[d];exact aiN m
  rw[aij]at this;obtain⟨e,i,a⟩:=this;obtain⟨y,b,rfl⟩:=h.JU i;injection a with a;subst a
  have:=(h.mem (e:=(y,b))).1 i;exact k y (by rw[this];rfl))
 have a:=ajj List.length d;simp only[ah8]at a;omega
def JV(h:i_ es f)(c:OT.Perm es){l:List (Nm×Bd)}(d:OT=l.map FH):yD (l.map wH) f.ty/\∀x,(f x).isSome->GW (l.map wH) x:=by
 constructor
 .intro v a;rw[aij]at a;obtain⟨e,g,rfl⟩:=a;have i:=c.mem_iff.1 (by rw[d];exact aiN g);have j:=h.mem.1 i;simp only[wH,Env.ty,j]
 .intro x j;obtain⟨b,k⟩:=Option.isSome_iff_exists.1 j;have g:FH (x,b)∈OT:=c.mem_iff.2 (h.mem.2 k);rw[d,aij]at g;obtain⟨e,i,a⟩:=g;injection a with a _;injection a with a
  exact⟨wH e,aiN i,a⟩
def IA{F:Nat->Prop}{H K:Hp}{l:List As}{iv:Nat}(d:∀i,F i->i=iv)(w:Wk F H l K)(e:K[iv]?=H[iv]?):H.length<=K.length/\K.take H.length=H:=by
 obtain⟨_,_,b⟩:=w;refine⟨b.len,ajQ λi=>?_⟩;rw[ajz];by_cases a:i<H.length
 .rw[air a];by_cases c:F i
  .have:=d i c;subst this;exact e
  .exact b.iW i a c
 .rw[aid a,ail (by omega)]
def Seen.len{bs seen:List Nat}(h:Seen es bs seen OT)(k:bs.length=es.length):OT.length<=es.length:=by
 obtain⟨a,d,l,b⟩:=h;have e:∀n∈a,n∈List.range es.length:=by
  intro n f;have:(es[n]?)∈a.map (es[·]?):=aij.2 ⟨n,f,rfl⟩;rw[<-b,aij]at this;obtain⟨c,_,g⟩:=this;exact ajI.2 (aiX.1 g.symm).1
 have i:=vO d e;have j:=ajj List.length b;simp only[ah8,aj0]at i j;omega
end Go.Ps
namespace Go.Proofs.Pz
open Go.Mt Go.Sm Go.Ps Go.Proofs
open Tryz
def CQ(e:Nm×Bd):(wH e).cells=[.str e.1,.int .u8 e.2.tk,.str e.2.tn,.sl [],.bool false,.int .u8 0,.int .u8 0,.int .i32 0,.str ⟨#[]⟩,.sl [],.sl [],.int .i64 0,.int .i64 0,.int .i64 0,.int .i64 0]:=by rw[Va.ah];rfl
def JW{F:Nat->Prop}{H:Hp}{iv v a:Nat}{k:List (D×M)}{f:Env}{p:Pg}{mv y:M}(w:Wk F H [.ob iv (.map k)] H)(d:i_ k f)(z:∀i,F i->i=iv)(m:H[a]?=some (.box [.d (.sl (p.aB.map En.cells)),.d (.sl (p.nodes.map Nd.cells)),mv,y]))
  (A:List (Nm×Nm)) (O:k8 p.aB) (P:CP f 10000000) (e:Xp) (Q:oL p.aB f.ty (λx=>(f x).isSome=true) e):
  CT prog 292 [.ref a 0,mE iv v A,.d (.agg e.cells)] H λr K=>r=.d (.agg (fL (dG p.aB f.ty e)))/\H.length<=K.length/\K.take H.length=H:=by
 have B:=w.ob;have R:a≠iv:=by rintro rfl;rw[B]at m;cases m
 rw[e.ah];refine My func292 W ntmps292 W λs0 Oo=>?_
 refine Ms ?_;refine TC.region<|gy W W W W<|gZ W W<|cG W W<|TL.nil ?_;refine Ms ?_;refine TC.region<|aj W W<|TL.nil ?_;refine Ms ?_;refine TC.region<|aF W W<|aJ W W W W ?_
 (refine vr W W W W w.ob d.k ?_;intro n h j g i C S)
 refine TL.nil ?_;obtain⟨J,q⟩:∃J,J=H.length:=⟨_,rfl⟩;rw[<-q];have w:=(w.set (.map (fl j n h))).new (.iter (jX iv j []));rw[akx,<-q]at w;have w:=(w.nil 15).pick [2,1,0];have Re:n.length<=10000000:=by rw[g.len];exact(d.len P)
 refine Ms ?_;refine TC.block<|M9 (λk s=>∃(d:List Nat) (l:List (Nm×Bd)) (g:M) (c:List (Nat×List M)) (i:Hp),s=⟨[(14,.m (.it J)),(7,.m g),(6,.loc 6 0),(5,.m (.d (.bM (xC e) 0))),(4,.loc 4 0),(0,.m (.ref a 0))],c,i⟩/\
   Go.Mt.get c 4=some [.mp iv,.mp v,.d (.sl (bA A))]/\Go.Mt.get c 6=some [.d (.int .u8 0),.d (.str ⟨#[]⟩)]/\
   Seen n h d (l.map FH)/\l.length<=10000000/\
   Wk F H [.ob iv (.map (fl j n h)),.ob J (.iter (jX iv j d)),.acc 15 (ax (l.map wH)) g] i/\k=lM h d) (lM h []) _
  ⟨[],[],.d (.sl []),_,_,rfl,rfl,rfl,Seen.nil _ _,by simp,w,rfl⟩ W ?_
 rintro ce co ⟨N,l,mc,bx,T,rfl,U,V,E,X,w,rfl⟩;have o:=w.ob;have s:=(w.pick [1,0,2]).ob;refine Ms ?_;refine TC.region<|yu W W s o i S (λY=>?_) (λd5 e1 b t u G=>?_);rotate_left
 .obtain⟨x,c,rfl⟩:=d.JU (g.mem.1 (aiv t));refine MX ?_;refine Ms ?_;refine MZ W<|TC.skip ?_;have w:=(w.pick [1,0,2]).set (.iter (jX iv j (N++[b])));have s:=w.ob;have w:=w.pick [1,0,2];have o:=w.ob;have w:=w.pick [2,0,1];obtain⟨I,PX⟩:=E.step t u G ((((dT.vM g).map Prod.fst).nodup_iff).2 d.nd);have Z:(l++[(x,c)]).length<=10000000:=by
   have:=I.len i;simp only[ah6,ah8,aik]at this⊢;omega
  refine Ms ?_;refine TC.block ?_;refine Ms ?_;refine TC.region<|vt W W s o i C t u<|MX ?_;refine Ms ?_;refine TC.region<|TL.go ?_;refine cT w W W W W W W (by exact bS W) (by simp[ax];omega)<|MX ?_;have w:=w.app [[.str x,.int .u8 c.tk,.str c.tn,.sl [],.bool false,.int .u8 0,.int .u8 0,.int .i32 0,.str ⟨#[]⟩,.sl [],.sl [],.int .i64 0,.int .i64 0,.int .i64 0,.int .i64 0]];have Qa:ax ((l++[(x,c)]).map wH)=ax (l.map wH)++[[.str x,.int .u8 c.tk,.str c.tn,.sl [],.bool false,.int .u8 0,.int .u8 0,.int .i32 0,.str ⟨#[]⟩,.sl [],.sl [],.int .i64 0,.int .i64 0,.int .i64 0,.int .i64 0]]:=by
   simp only[ax,aio,aiq,aiL,CQ]
  rw[<-Qa]at w;exact again (vK (aiv u) G) ⟨N++[b],l++[(x,c)],_,_,_,W,U,V,by rw[aio];exact I,Z,w.pick [1,2,0],W⟩ W W
 refine MX ?_;refine Ms ?_;refine MJ W<|TC.exit<|TC.ud o i (g.strs d.k) g ?_;have w:=w.set (.map k);obtain⟨ac,am⟩:=JV d ((E.all Y C i).trans (dT.vM g)) W;refine TC.aR 7 W ((w.pick [2,0,1]).view (bD _)) ?_;have L:=zY O ac (by rw[ah8];exact X) e (Q.mono am);rw[e.ah]at L;have N_:(T.set iv (.map k))[a]?=some (.box [.d (.sl (p.aB.map En.cells)),.d (.sl (p.nodes.map Nd.cells)),mv,y]):=by
  obtain⟨_,_,c⟩:=w;rw[c.iW a (aiX.1 m).1 (λh=>R (z a h))];exact m
 refine Ms ?_;refine OP mixed<|TF.go ?_;refine iq W W N_ W W<|TF.go ?_;refine fD (CT.Li L) W W<|TF.Lg ?_;refine MD ?_;subst q;exact TC.ret ⟨_,W,W,IA z w (w.ob.trans B.symm)⟩
def xv(iv n a:Nat)(f:Env)(p:Pg)(m:MS)(d:List (Nm×Nm))(o:k8 p.aB)(q:CP f 10000000)(e:Xp)(s:oL p.aB f.ty (λx=>(f x).isSome=true) e):
  Dt prog 292 [.ref a 0,mE iv n d,.d (.agg e.cells)] [cN iv f,ij a p m] λr l=>r=.d (.agg (fL (dG p.aB f.ty e)))/\l=[cN iv f,ij a p m]:=by
 intro H F b;refine⟨_,H,⟨_,⟨W,W⟩,Wk.start b⟩,?_⟩;have w:=Wk.start b;obtain⟨A,w⟩:=ij.open (w.pick [1,0]);obtain⟨B,C,g,D,E,G⟩:=b;have c:=Wk.start (qH g);obtain⟨I,t,c⟩:=cN.open c;intro k u v j h x;refine CT.drop (post:= λa b=>a=.d (.agg (fL (dG p.aB f.ty e)))/\b=H) H.length (ah9 _) ((JW c t (cN.Iz g) w.ob d o q e s).mono ?_) k u v j h x;rintro r z ⟨rfl,y,i⟩;exact⟨y,.d _,by rw[i];exact(by rw[<-h];exact j.hb),W,i⟩
end Go.Proofs.Pz
namespace Go.Ps
open Go.Mt Go.Sm
abbrev mF(v:Va):List Nm:=v.clock.map λo=>o.2
end Go.Ps
namespace Go.Proofs.Pz
open Go.Mt Go.Sm Go.Ps Go.Proofs
open Tryz
def Er(b:bF)(t:b.vars.length<=1000000)(f:∀v∈b.vars,v.clock.length<=1000):
  Dt prog 213 [.d (.agg b.cells)] [] λr l=>r=.d (.sl (aE (b.vars.flatMap mF)))/\l=[]:=by
 intro H F u;have w:=(Wk.start u).nil 1;have E:(ax b.vars).length=b.vars.length:=by simp[ax]
 rw[b.ah];generalize b.vars=a at t f E⊢;have x:∀i,((a.take i).flatMap mF).length<=i*1000:=by
  intro i
  induction i with
  |zero=>simp
  |succ i c=>
   by_cases h:i<a.length
   .rw[ah5 h,ajT,ah6];have:=f _ (aif h);have:([a[i]].flatMap mF).length<=1000:=by simpa [mF] using this
    omega
   .rw[aje (by omega)]at c⊢;omega
 refine MG func213 W ntmps213 W ?_
 repeat refine Mx ?_
 refine Mo ?_;refine DC.block<|DC.loop (λm e=>∃(i:Nat) (c:M) (f:List (Nat×List M)) (d:Hp),e=⟨[(11,.m (.d (.int .i64 ((i:Nat):Int)))),(10,.m (.d (.int .i64 ((a.length:Nat):Int)))),(9,.m (.d (.sl (ax a)))),(3,.m c)],f,d⟩/\
   Wk F H [.acc 1 (aE ((a.take i).flatMap mF)) c] d/\i<=a.length/\m=a.length-i) a.length _
  ⟨0,.d (.sl []),_,_,rfl,w,by omega,rfl⟩ W ?_
 rintro m y ⟨i,k,z,A,rfl,w,G,rfl⟩;refine Mx ?_;refine Mo ?_;refine DC.cond W (λd=>?_) (λd=>?_)
 .have g:i<a.length:=by have:=aic d;omega
  have n:=k_ g;have B:=x i;have e:(a.take (i+1)).flatMap mF=(a.take i).flatMap mF++mF a[i]:=by rw[ah5 g,ajT];simp
  have o:=f _ (aif g);generalize a[i]=v at n e o;generalize (a.take i).flatMap mF=h at e w B;rw[v.ah]at n;have C:(bA v.clock).length=v.clock.length:=by simp[bA]
  refine DC.skip ?_;refine Mo ?_;refine DC.block ?_
  repeat refine Mx ?_
  unfold mF at e;generalize v.clock=c at C e o;refine Mo ?_;refine DC.block<|DC.loop (λm f=>∃(j:Nat) (d:M) (g:List (Nat×List M)) (e:Hp),f=⟨[(18,.m (.d (.int .i64 ((j:Nat):Int)))),(17,.m (.d (.int .i64 ((c.length:Nat):Int)))),(16,.m (.d (.sl (bA c)))),(11,.m (.d (.int .i64 ((i:Nat):Int)))),(10,.m (.d (.int .i64 ((a.length:Nat):Int)))),(9,.m (.d (.sl (ax a)))),(3,.m d)],g,e⟩/\
    Wk F H [.acc 1 (aE (h++(c.take j).map λo=>o.2)) d] e/\j<=c.length/\m=c.length-j) c.length _
   ⟨0,k,_,_,rfl,by simpa using w,by omega,rfl⟩ W ?_
  rintro m y ⟨j,k,z,A,rfl,w,I,rfl⟩;refine Mx ?_;refine Mo ?_;refine DC.cond W (λd=>?_) (λd=>?_)
  .have p:j<c.length:=by have:=aic d;omega
   have D:=uw p;have q:aE (h++(c.take (j+1)).map λo=>o.2)=aE (h++(c.take j).map λo=>o.2)++[[.str c[j].2]]:=by rw[qQ _ _ _ _ _ p];simp[aE]
   generalize c[j]=s at D q;refine DC.skip ?_;refine Mo ?_;refine DC.block ?_;refine Mx ?_;refine Mo ?_;apply Mn
   .intro J K;refine TL.go ?_;refine cT w W W W W W W (by exact bS W) (by simp[aE];omega)<|TL.au
   have w:=w.app [[.str s.2]];refine Mx ?_;exact bf (k':=c.length-(j+1)) (by omega) ⟨j+1,_,_,_,rfl,by rw[q];exact w,by omega,rfl⟩ W W
  .refine DC.exit ?_;obtain rfl:j=c.length:=by have:=aie d;omega
   rw[aih]at w;refine Mx ?_;exact bf (k':=a.length-(i+1)) (by omega) ⟨i+1,_,_,_,rfl,by rw[e];exact w,by omega,rfl⟩ W W
 .refine DC.exit ?_;obtain rfl:i=a.length:=by have:=aie d;omega
  rw[aih]at w;refine Mx ?_;refine DC.aR 2 W (w.view (cU _))<|DC.ret ⟨_,W,_,⟨W,W⟩,w.drop⟩
def G2(it c iv b:Nat)(p:Pg)(en:List En)(s:Sc)(m:MS)(q:aD)(d:q.kd=1)(k:fG q.ex)(g:eg s)(n:m.n+bJ q.ex+bJ q.ex<1000000000)(o:m.vars.length+bJ q.ex+bJ q.ex<=10000000)(t:bJ q.ex<=1000000)(u:q.lhs.length<=1000000):
  Dt prog 215 [.ref c 0,mE iv b s.ck,.d (.agg q.cells)] (hY it c iv b p ⟨s,m,[]⟩) λx l=>x=.d (.sl (cg (iP en q ⟨s,m,[]⟩).q))/\l=hY it c iv b p (iP en q ⟨s,m,[]⟩):=by
 intro H F v;have y:iP en q ⟨s,m,[]⟩=⟨(cB ⟨s,m,[]⟩ q.ex).s,(cB ⟨s,m,[]⟩ q.ex).m,(cB ⟨s,m,[]⟩ q.ex).q++[.mk 1 (q.lhs.map (cB ⟨s,m,[]⟩ q.ex).s.vars.nm) ⟨#[]⟩ [] false (cp (cB ⟨s,m,[]⟩ q.ex).s q.ex) [] q.ps]⟩:=by
  cases q with|mk B K C M L e D p=>
  rw[iP];simp only[aD.kd]at d;rw[air d];rfl
 rw[y];obtain⟨_,E,z,⟨G,rfl,rfl⟩,w,h⟩:=Wk.call (r:=[]) (Wk.start v) (rN it c iv b p s m q.ex k g n o t);have i:=bu.fZ (r:=⟨s,m,[]⟩) g q.ex;generalize cB ⟨s,m,[]⟩ q.ex=r at w h i⊢;have j:=i.q
 dsimp only at j
 obtain⟨_,I,z,⟨rfl,rfl⟩,w,J⟩:=Wk.call (a:=[cN iv r.s.vars]) (r:=[_,_,_,_]) (w.pick [3,0,1,2,4]) (AF iv b s.ck r.s.vars q.lhs u);have w:=w.pick [1,2,3,0,4];rw[(cp r.s q.ex).ah,q.ex.ah]at h;rw[q.ah,q.ex.ah,d];have A:cg (r.q++[.mk 1 (q.lhs.map r.s.vars.nm) ⟨#[]⟩ [] false (cp r.s q.ex) [] q.ps])=cg r.q++[eW 1 (q.lhs.map r.s.vars.nm) ⟨#[]⟩ [] false (xC (cp r.s q.ex)) [] q.ps]:=by
  rw[fA];show cg r.q++[(aD.mk 1 (q.lhs.map r.s.vars.nm) ⟨#[]⟩ [] false (cp r.s q.ex) [] q.ps).cells]=_;rw[aD.cells,(cp r.s q.ex).ah];rfl
 have f:=w.app [eW 1 (q.lhs.map r.s.vars.nm) ⟨#[]⟩ [] false (xC (cp r.s q.ex)) [] q.ps];rw[<-A]at f;refine MG func215 W ntmps215 W ?_;refine Mo ?_;apply Mn
 .intro B C;refine TL.al
 refine Mo ?_;apply Mn
 .intro B C;refine TL.au
 refine Mo ?_;refine DC.block ?_;refine Mo ?_;apply Mn
 .intro B C;refine TL.au
 refine Mo ?_;refine MM W ?_;refine Mo ?_;apply Mn
 .intro B C;refine TL.au
 refine Mo ?_;apply Mz mixed
 .intro B C;refine TF.go ?_;refine eV w W W W W W W W (by simp[cg]at j⊢;omega)<|TF.au
 refine DC.aR 6 W (f.view (dv _))<|DC.ret ⟨_,W,_,⟨W,W⟩,f.drop⟩
end Go.Proofs.Pz
namespace Go.Ps
open Go.Mt Go.Sm
def R.pre(q:List aD)(r:R):R:=⟨r.s,r.m,q++r.q⟩
def Es(q:List aD)(r:R)(x:Nm):cM (r.pre q) x=(cM r x).pre q:=by
 rw[nh,nh];simp[R.pre]
def yG(q:List aD)(r:R)(x:Nm):fm (r.pre q) x=(fm r x).pre q:=by
 rw[lL,lL];simp[R.pre]
def yH(q:List aD):∀(l:List Nm) (r:R),l.foldl cM (r.pre q)=(l.foldl cM r).pre q
 |[],r=>rfl
 |x::l,r=>by rw[aii,aii,Es,yH q l]
def yI(q:List aD):∀(l:List Nm) (r:R),l.foldl fm (r.pre q)=(l.foldl fm r).pre q
 |[],r=>rfl
 |x::l,r=>by rw[aii,aii,yG,yI q l]
def lN(q:List aD)(r:R)(e:Xp):cB (r.pre q) e=(cB r e).pre q:=by
 unfold cB;rw[yH,yI]
def AI(q:List aD)(r:R)(e:Xp)(t:Int×Nm):gM (r.pre q) e t=(gM r e t).pre q:=by
 unfold gM;rw[lN];simp[R.pre]
def R.pre_nil(r:R):R.pre r.q ⟨r.s,r.m,[]⟩=r:=by simp[R.pre]
def bu.arg{r:R}(h:eg r.s)(xs:List Xp)(e:Xp):bu r (fe (r,xs) e).1 (bJ e+bJ e):=bu.fZ h e
def bu.args:∀(l:List Xp) {r:R} (xs:List Xp),eg r.s->bu r (l.foldl fe (r,xs)).1 (aP l+aP l)/\(l.foldl fe (r,xs)).2.length=xs.length+l.length
 |[],r,xs,h=>⟨bu.refl h,rfl⟩
 |e::l,r,xs,h=>by
  have a:=bu.arg h xs e;have b:(fe (r,xs) e).2.length=xs.length+1:=by simp[fe]
  rw[aii];generalize fe (r,xs) e=c at a b⊢;obtain⟨d,g⟩:=c;have a:=a;obtain⟨f,i⟩:=bu.args l (r:=d) g a.sc;have:=a.trans f;simp only[aP,aia]
  dsimp only at b
  exact⟨⟨this.ck,this.sc,by have:=this.n;omega,by have:=this.vs;omega,by have:=this.q;omega⟩,by omega⟩
def G3{l:List Xp}{i:Nat}(h:i<l.length):aP (l.take i)+bJ l[i]<=aP l:=by
 have a:aP l=aP (l.take (i+1))+aP (l.drop (i+1)):=by rw[<-kD,ai3]
 rw[ah5 h,kD]at a;simp only[aP]at a;omega
end Go.Ps
namespace Go.Proofs.Pz
open Go.Mt Go.Sm Go.Ps Go.Proofs
open Tryz
def FI{X:cQ}{ops:Array Oper}{rest:List Oper}{sl:List (Nat×V)}{bx:List (Nat×List M)}{H:Hp}{h:List Ef->St->Prop}{d ty:Nat}{pos:String}{af:Array Edge}{u:Nat->Prop}{H0:Hp}{r:List As}{T e n i:Nat}{x y:Operand}{m:M}{rs rows:List (List D)}{z:D}[ht:aU X.P T e][E:bQ X.P e n][F:jD X.P e i][G:fk X.P e z](w:Wk u H0 (.acc n rs m::r) H)(a:Nat.blt d X.n=true)(b:aS sl x=some (.m m))(c:aS sl y=some (.m (.d (.sl rows))))
  (v:Nat.blt 0 n=true) (j:(bz z).length=n) (l:Nat.ble i 1000=true) (o:∀r∈rows,r.length=n) (p:rs.length+rows.length<=100000000000)
  (k:TF X ops rest ⟨(d,.m (cJ m H rows))::sl,bx,ef n m H rows⟩ λa b=>h (⟨some d,.m (cJ m H rows),[],[],none,true,some (ef n m H rows)⟩::a) b):TF X ops (⟨some d,.call ⟨.builtin .append,#[x,y],#[T,T]⟩,ty,pos,af,none⟩::rest) ⟨sl,bx,H⟩ h:=by
 by_cases q:rows=[]
 .subst q;have I:=ajA p (aiy l);obtain⟨C,A⟩:=w.Aq;rcases A with⟨rfl,rfl⟩|⟨J,K,rfl,s⟩
  .refine TF.cons (e:=⟨some d,.m (.d (.sl [])),[],[],none,true,some H⟩) (js.ye W W (bj a) λB f=>?_) W k;have t:=f.H W;simp only at t;have:=tY (X:=X) (st:=B) (dst:=some d) (ty:=ty) (pos:=pos) (af:=af) (g:=none) (T:=T) ((f.ev (x:=x) (by simp[Op.operands,Call.operands])).trans b) ((f.ev (x:=y) (by simp[Op.operands,Call.operands])).trans c);rw[<-t];exact this
  .refine lD a b c s j o (by simp only[List.length_nil]at*;omega) (by simp only[List.length_nil]at*;omega) ?_;simp only[cJ,ef,s]at k;exact k
 .exact FC w a b c v j l q o p k
abbrev Ln(lhs:List Nm)(f:Nm)(ma:M)(has:Bool)(e:List D)(p:Int×Int):List M:=[.d (.int .u8 2),.d (.sl (aE lhs)),.d (.str f),ma,.d (.bool has)]++e.map M.d++[.d (.sl []),.d (.int .i64 p.1),.d (.int .i64 p.2)]
def Et(it g iv f:Nat)(p:Pg)(en:List En)(s:Sc)(m:MS)(q:aD)(t:q.kd=2)(Q:∀e∈q.args,fG e)(S:fG q.ex)(T:eg s)(hn:m.n+aP q.args+aP q.args+bJ q.ex+bJ q.ex<1000000000)(hv:m.vars.length+aP q.args+aP q.args+bJ q.ex+bJ q.ex<=10000000)(Pf:bJ q.ex<=400000)(Pl:aP q.args<=400000)(U:q.lhs.length<=1000000)(N5:q.args.length<=1000000):
  Dt prog 215 [.ref g 0,mE iv f s.ck,.d (.agg q.cells)] (hY it g iv f p ⟨s,m,[]⟩) λx l=>x=.d (.sl (cg (iP en q ⟨s,m,[]⟩).q))/\l=hY it g iv f p (iP en q ⟨s,m,[]⟩):=by
 intro N O V;have X:iP en q ⟨s,m,[]⟩=if q.has then⟨(cB (q.args.foldl fe (⟨s,m,[]⟩,[])).1 q.ex).s,(cB (q.args.foldl fe (⟨s,m,[]⟩,[])).1 q.ex).m,(cB (q.args.foldl fe (⟨s,m,[]⟩,[])).1 q.ex).q++[.mk 2 (q.lhs.map s.vars.nm) q.f (q.args.foldl fe (⟨s,m,[]⟩,[])).2 true (cp (cB (q.args.foldl fe (⟨s,m,[]⟩,[])).1 q.ex).s q.ex) [] q.ps]⟩
   else⟨(q.args.foldl fe (⟨s,m,[]⟩,[])).1.s,(q.args.foldl fe (⟨s,m,[]⟩,[])).1.m,(q.args.foldl fe (⟨s,m,[]⟩,[])).1.q++[.mk 2 (q.lhs.map s.vars.nm) q.f (q.args.foldl fe (⟨s,m,[]⟩,[])).2 false bR [] q.ps]⟩:=by
  cases q with|mk P o d E y e h p=>
  rw[iP];simp only[aD.kd]at t;rw[aid (by omega),air t];rfl
 rw[X];obtain⟨_,K2,G,⟨rfl,rfl⟩,w,Y⟩:=Wk.call (a:=[cN iv s.vars]) (r:=[_,_,_]) ((Wk.start V).pick [2,0,1,3]) (AF iv f s.ck s.vars q.lhs U);have w:=w.pick [1,2,0,3];have w:=((w.nil 8).pick [0,1,2,3,4]|>.nil 16);rw[q.ah,q.ex.ah,t];have am:(q.args.map Xp.cells).length=q.args.length:=by simp
 have H:= λi=>bu.args (q.args.take i) (r:=⟨s,m,[]⟩) [] T
 refine MG func215 W ntmps215 W ?_;refine Mo ?_;apply Mn
 .intro d h;refine gy W W W W<|gZ W W<|aj W W<|TL.nil W
 refine Mo ?_;apply Mn
 .intro d h;refine aG W W<|aI W W W<|TL.nil W
 refine Mo ?_;refine DC.block ?_;refine Mo ?_;apply Mn
 .intro d h;refine ay W W W (r:=.bool false) W<|aj W W<|TL.nil W
 refine Mo ?_;refine Mw W ?_;refine Mo ?_;apply Mn
 .intro d h;refine ay W W W (r:=.bool true) W<|aj W W<|TL.nil W
 refine Mo ?_;refine MM W ?_;refine Mo ?_;apply Mn
 .intro d h;refine aj W W<|TL.nil W
 refine Mo ?_;apply Mz mixed
 .intro d h;refine gW W W W W W<|cm W W<|di W W W<|bB Y W W<|cm W W<|di W W W<|cm W W<|di W W W<|cm W W<|jL W W W<|tV W W W W W<|nF W<|cv W W W W W W<|TF.nil ⟨by kernel_rfl,rfl⟩
 refine Mo ?_;apply Mn
 .intro d h;refine aG W W<|aI W W W ?_
  (refine aY W W W ?_;rw[am])
  refine aq W W<|TL.nil W
 refine Mo ?_;refine DC.block<|DC.loop (λk j=>∃(i:Nat) (c d:M) (b:List (Nat×List M)) (h:Hp),j=⟨[(59,.m (.d (.int .i64 ((i:Nat):Int)))),(58,.m (.d (.int .i64 ((q.args.length:Nat):Int)))),(57,.m (.d (.sl (q.args.map Xp.cells)))),(10,.loc 10 0),(9,.m c),(5,.m (.d (.bM (eW 2 q.lhs q.f (q.args.map Xp.cells) q.has (xC q.ex) (q.ai.map aH.cells) q.ps) 0))),(4,.loc 4 0),(0,.m (.ref g 0))],b,h⟩/\
   Go.Mt.get b 4=some [.mp iv,.mp f,.d (.sl (bA s.ck))]/\Go.Mt.get b 10=some (Ln (q.lhs.map s.vars.nm) q.f d q.has (bh 0 0 0 ⟨#[]⟩ [] [] (0,0)) q.ps)/\
   Wk O N (.acc 16 (cg ((q.args.take i).foldl fe (⟨s,m,[]⟩,[])).1.q) c:: .acc 8 (((q.args.take i).foldl fe (⟨s,m,[]⟩,[])).2.map Xp.cells) d::hY it g iv f p ((q.args.take i).foldl fe (⟨s,m,[]⟩,[])).1) h/\i<=q.args.length/\k=q.args.length-i) q.args.length _
  ⟨0,.d (.sl []),.d (.sl []),_,_,rfl,rfl,rfl,w,by omega,rfl⟩ W ?_
 rintro P s1 ⟨i,me,ma,bx,H1,rfl,u,j,w,hi,rfl⟩;refine Mo ?_;apply Mn
 .intro d h;refine ay W W W W<|TL.nil W
 refine Mo ?_;refine DC.cond W (λv=>?_) (λv=>?_)
 .have o:i<q.args.length:=by have:=aic v;omega
  have y:(q.args.map Xp.cells)[((i:Nat):Int).toNat]?=some q.args[i].cells:=by simp[o]
  have ac:=G3 o;have h:(q.args.take (i+1)).foldl fe (⟨s,m,[]⟩,[])=fe ((q.args.take i).foldl fe (⟨s,m,[]⟩,[])) q.args[i]:=by rw[ah5 o,aiC];rfl
  obtain⟨b,k⟩:=H i;have I:=Q _ (aif o);have UP:(q.args.take i).length<=q.args.length:=by rw[ait];omega
  generalize (q.args.take i).foldl fe (⟨s,m,[]⟩,[])=z at w b k h;obtain⟨r,c⟩:=z;generalize q.args[i]=e at y h I ac;have A:=b.n;have B:=b.vs;have C:=b.q;have D:=b.ck;have n:=b.sc
  dsimp only[List.length_nil]at A B C k w
  obtain⟨_,K3,G,⟨mq,rfl,rfl⟩,w,E⟩:=Wk.call (a:=hY it g iv f p ⟨r.s,r.m,[]⟩) (r:=[_,_]) (w.pick [2,3,4,5,0,1]) (rN it g iv f p r.s r.m e I n (by omega) (by omega) (by omega));have J:=bu.fZ (r:=⟨r.s,r.m,[]⟩) n e;have Z:cB r e=(cB ⟨r.s,r.m,[]⟩ e).pre r.q:=by rw[<-lN,R.pre_nil]
  simp only[fe,Z]at h;generalize cB ⟨r.s,r.m,[]⟩ e=d at w E J h;have RD:=J.q
  dsimp only[List.length_nil]at RD
  have Zn:=w.view (dv _);have w:=(w.drop).pick [4,5,0,1,2,3];rw[D,e.ah,(cp d.s e).ah]at E;rw[e.ah]at y;have w2:=w.app (cg d.q);have K:=w2.pick [1,0,2,3,4,5];refine DC.skip ?_;refine Mo ?_;refine DC.block ?_;refine Mo ?_;apply Mn
  .intro s0 Oo;refine bH W W W (ah7 i) y W<|ca W W W<|cG W W<|aK W W W W W W<|TL.nil W
  refine Mo ?_;apply Mn
  .intro s0 Oo;refine aq W W<|cx W W u W W<|bp W W W W W<|aA E W W<|aq W W<|gH W W W<|gH W W W<|cG W W<|aK W W W W W W<|aj W W<|TL.nil W
  refine DC.aR 14 W Zn ?_;refine Mo ?_;apply Mz mixed
  .intro s0 Oo;refine bG W W<|bG W W<|FI w W W W W W W (dv _) (by simp only[cg,ah8];omega)<|cF W W<|cO W W j W<|cY W W W W W<|cr W W W W W W W W<|eV K W W W W W W W (by rw[ah8];omega)<|mY W W<|cF W W<|cv W W j (aN _ _ _) W W<|TF.nil ⟨by kernel_rfl,rfl⟩
  have F:=K.app [xC (cp d.s e)];rw[<-fA]at F;have Wn:(c++[cp d.s e]).map Xp.cells=c.map Xp.cells++[xC (cp d.s e)]:=by rw[aio];simp[(cp d.s e).ah]
  rw[<-Wn]at F;refine Mo ?_;apply Mn
  .intro s0 Oo;refine bc W W W (by omega)<|aq W W<|TL.nil W
  exact bf (k':=q.args.length-(i+1)) (by omega) ⟨i+1,_,_,_,_,rfl,u,rfl,by rw[h];exact F.pick [1,0,2,3,4,5],by omega,rfl⟩ W W
 refine DC.exit ?_;obtain rfl:i=q.args.length:=by have:=aie v;omega
 obtain⟨b,k⟩:=H q.args.length;rw[aih]at w b k;generalize q.args.foldl fe (⟨s,m,[]⟩,[])=z at w b k⊢;obtain⟨r,c⟩:=z;have A:=b.n;have B:=b.vs;have C:=b.q;have D:=b.ck;have n:=b.sc
 dsimp only[List.length_nil]at A B C k w⊢
 cases L:q.has with
 |false=>
  simp only[ai2,aju];rw[L]at j;have h:=(w.pick [1,0,2,3,4,5]).view (jq _);refine Mo ?_;apply Mn
  .intro E F;refine aG W W<|aI W W W<|TL.nil W
  refine Mo ?_;refine Mw W<|DC.skip<|DC.cA (MP:=(eW 2 (q.lhs.map s.vars.nm) q.f (c.map Xp.cells) false (bh 0 0 0 ⟨#[]⟩ [] [] (0,0)) [] q.ps).map M.d) 10 j (bY (bY (bY (lJ h (bY (bY (bY (bY (bY (bY (bY (bY (bY (bY (bY (bY (o7 _))))))))))))))))) ?_;refine Mo ?_;apply Mn
  .intro E F;refine aq W W<|bp W W W W W<|dF W W W W W W W W<|cT w W W W W W W (by exact bS W) (by simp only[cg,ah8,ah6,aik];omega)<|aj W W<|TL.nil W
  have d:=w.app [eW 2 (q.lhs.map s.vars.nm) q.f (c.map Xp.cells) false (bh 0 0 0 ⟨#[]⟩ [] [] (0,0)) [] q.ps];have o:cg (r.q++[.mk 2 (q.lhs.map s.vars.nm) q.f c false bR [] q.ps])=cg (r.q)++[eW 2 (q.lhs.map s.vars.nm) q.f (c.map Xp.cells) false (bh 0 0 0 ⟨#[]⟩ [] [] (0,0)) [] q.ps]:=by
   rw[fA];show cg (r.q)++[(aD.mk 2 (q.lhs.map s.vars.nm) q.f c false bR [] q.ps).cells]=_;rw[aD.cells,(bR).ah];rfl
  rw[<-o]at d;have y:=d.view (dv _);refine DC.aR 6 W y<|DC.ret ⟨_,W,_,⟨W,W⟩,(d.drop).pick [0,1,2,3,4]|>.drop⟩
 |true=>
  simp only[ajL];rw[L]at j;obtain⟨_,K3,G,⟨mq,rfl,rfl⟩,w,o⟩:=Wk.call (a:=hY it g iv f p ⟨r.s,r.m,[]⟩) (r:=[_,_]) (w.pick [2,3,4,5,0,1]) (rN it g iv f p r.s r.m q.ex S n (by omega) (by omega) (by omega));have y:=bu.fZ (r:=⟨r.s,r.m,[]⟩) n q.ex;have E:cB r q.ex=(cB ⟨r.s,r.m,[]⟩ q.ex).pre r.q:=by rw[<-lN,R.pre_nil]
  rw[E];generalize cB ⟨r.s,r.m,[]⟩ q.ex=d at w o y⊢
  dsimp only[R.pre]
  have F:=y.q
  dsimp only[List.length_nil]at F
  have I:=w.view (dv _);have w:=(w.drop).pick [4,5,0,1,2,3];rw[D,q.ex.ah,(cp d.s q.ex).ah]at o;have h:=w.app (cg d.q);have J:=(h.pick [1,0,2,3,4,5]).view (jq _);refine Mo ?_;apply Mn
  .intro s0 Oo;refine aG W W<|aI W W W<|TL.nil W
  refine Mo ?_;refine MM W ?_;refine Mo ?_;apply Mn
  .intro s0 Oo;refine aq W W<|cx W W u W W<|aG W W<|eh W W W<|aA o W W<|aq W W<|gH W W W<|gH W W W<|cG W W<|aK W W W W W W<|aj W W<|TL.nil W
  refine DC.aR 16 W I ?_;refine Mo ?_;apply Mz mixed
  .intro s0 Oo;refine bG W W<|bG W W<|FI w W W W W W W (dv _) (by simp only[cg,ah8];omega)<|cY W W W W W<|mY W W<|cF W W<|cv W W j W W W<|TF.nil ⟨by kernel_rfl,rfl⟩
  rw[<-fA]at h;have w:=h;refine DC.cA (MP:=(eW 2 (q.lhs.map s.vars.nm) q.f (c.map Xp.cells) true (xC (cp d.s q.ex)) [] q.ps).map M.d) 10 W (bY (bY (bY (lJ J (bY (bY (bY (bY (bY (bY (bY (bY (bY (bY (bY (bY (o7 _))))))))))))))))) ?_;refine Mo ?_;apply Mn
  .intro s0 Oo;refine aq W W<|bp W W W W W<|dF W W W W W W W W<|cT w W W W W W W (by exact bS W) (by simp only[cg,ah8,ah6,aik];omega)<|aj W W<|TL.nil W
  have h:=w.app [eW 2 (q.lhs.map s.vars.nm) q.f (c.map Xp.cells) true (xC (cp d.s q.ex)) [] q.ps];have K:cg (r.q++d.q++[.mk 2 (q.lhs.map s.vars.nm) q.f c true (cp d.s q.ex) [] q.ps])=cg (r.q++d.q)++[eW 2 (q.lhs.map s.vars.nm) q.f (c.map Xp.cells) true (xC (cp d.s q.ex)) [] q.ps]:=by
   rw[fA];show cg (r.q++d.q)++[(aD.mk 2 (q.lhs.map s.vars.nm) q.f c true (cp d.s q.ex) [] q.ps).cells]=_;rw[aD.cells,(cp d.s q.ex).ah];rfl
  rw[<-K]at h;have Z:=h.view (dv _);refine DC.aR 6 W Z<|DC.ret ⟨_,W,_,⟨W,W⟩,(h.drop).pick [0,1,2,3,4]|>.drop⟩
def G4(en:List En)(n:Nm)(b:bF)(u w:List Tr)(p:Int×Int)(a:List aH)(s:Sc)(m:MS):zQ en (.mk n b u w p::a) s m=iF en false b s m:=by rw[zQ.eq_def]
def vP(it a:Nat)(p:Pg)(en:List En)(c:Bool)(b:bF)(s:Sc)(m:MS):Prop:=∀d e,Dt prog 163 [.ref a 0,mE d e s.ck,.d (.agg b.cells),.d (.bool c)] (hY it a d e p ⟨s,m,[]⟩) λx l=>x=.d (.sl (cg (iF en c b s m).2))/\l=[.ob it bg,ij a p (iF en c b s m).1]
def CR(it b iv c:Nat)(p:Pg)(en:List En)(s:Sc)(m:MS)(q:aD)(a:aH)(y:List aH)(g:q.kd=5)(h:q.ai=a::y)(A:fG q.ex)(k:eg s)(B:m.n+bJ q.ex+bJ q.ex<1000000000)(C:m.vars.length+bJ q.ex+bJ q.ex<=10000000)(D:bJ q.ex<=1000000)
  (n:vP it b p en false a.aT (Ps.gM ⟨s,m,[]⟩ q.ex (1,⟨#[]⟩)).s (Ps.gM ⟨s,m,[]⟩ q.ex (1,⟨#[]⟩)).m):
  Dt prog 215 [.ref b 0,mE iv c s.ck,.d (.agg q.cells)] (hY it b iv c p ⟨s,m,[]⟩) λx l=>x=.d (.sl (cg (iP en q ⟨s,m,[]⟩).q))/\l=hY it b iv c p (iP en q ⟨s,m,[]⟩):=by
 intro K L E;have F:iP en q ⟨s,m,[]⟩=⟨(Ps.gM ⟨s,m,[]⟩ q.ex (1,⟨#[]⟩)).s,(iF en false a.aT (Ps.gM ⟨s,m,[]⟩ q.ex (1,⟨#[]⟩)).s (Ps.gM ⟨s,m,[]⟩ q.ex (1,⟨#[]⟩)).m).1,(Ps.gM ⟨s,m,[]⟩ q.ex (1,⟨#[]⟩)).q++[.mk 5 [] ⟨#[]⟩ [] false (aZ (nV (Ps.gM ⟨s,m,[]⟩ q.ex (1,⟨#[]⟩)).m.n)) [.mk ⟨#[]⟩ (.mk [] (iF en false a.aT (Ps.gM ⟨s,m,[]⟩ q.ex (1,⟨#[]⟩)).s (Ps.gM ⟨s,m,[]⟩ q.ex (1,⟨#[]⟩)).m).2) [] [] (0,0)] q.ps]⟩:=by
  cases q with|mk M ac N ce am e O p=>
  rw[iP];simp only[aD.kd]at g;simp only[aD.ai]at h;subst h;rw[aid (by omega),aid (by omega),air g];cases a with|mk P Q R S T=>
  simp only[G4];rfl
 rw[F];obtain⟨_,U,o,⟨V,rfl,rfl⟩,w,t⟩:=Wk.call (r:=[]) (Wk.start E) (AG it b iv c p s m q.ex (1,⟨#[]⟩) A k B C D);have i:=bu.val (r:=⟨s,m,[]⟩) k q.ex (1,⟨#[]⟩);generalize Ps.gM ⟨s,m,[]⟩ q.ex (1,⟨#[]⟩)=r at w t i n⊢;have G:=i.q
 dsimp only[List.length_nil]at G
 obtain⟨_,X,o,⟨u,v,rfl,rfl⟩,w,Y⟩:=Wk.call (a:=[cN iv r.s.vars,cN c r.s.aO]) (r:=[_,_,_]) (w.pick [3,4,0,1,2]) (AH iv c r.s.vars r.s.aO s.ck (.d (.sl (bA s.ck))) W);obtain⟨_,Z,o,⟨rfl,rfl⟩,w,d⟩:=Wk.call (a:=hY it b u v p ⟨r.s,r.m,[]⟩) (r:=[_,_,_]) (w.pick [5,6,2,3,0,1,4]) (n u v);rw[i.ck]at d;generalize iF en false a.aT r.s r.m=z at w d⊢;obtain⟨m2,f⟩:=z
 dsimp only at w d⊢
 have w:=w.pick [4,0,1,2,3];have H:(q.ai.map aH.cells)[((0:Nat):Int).toNat]?=some a.cells:=by rw[h];rfl
 rw[a.ah]at H;rw[a.aT.ah]at d;rw[q.ex.ah]at t;rw[q.ah,q.ex.ah,g];have I:=fE (nV r.m.n);rw[(aZ (nV r.m.n)).ah]at I;have j:=w.app [eW 5 [] ⟨#[]⟩ [] false (bh 4 0 0 (nV r.m.n) [] [] (0,0)) [[.str ⟨#[]⟩,.sl [],.sl (cg f),.sl [],.sl [],.int .i64 0,.int .i64 0]] q.ps];have J:cg (r.q++[.mk 5 [] ⟨#[]⟩ [] false (aZ (nV r.m.n)) [.mk ⟨#[]⟩ (.mk [] f) [] [] (0,0)] q.ps])=cg r.q++[eW 5 [] ⟨#[]⟩ [] false (bh 4 0 0 (nV r.m.n) [] [] (0,0)) [[.str ⟨#[]⟩,.sl [],.sl (cg f),.sl [],.sl [],.int .i64 0,.int .i64 0]] q.ps]:=by
  rw[fA];show cg r.q++[(aD.mk 5 [] ⟨#[]⟩ [] false (aZ (nV r.m.n)) [.mk ⟨#[]⟩ (.mk [] f) [] [] (0,0)] q.ps).cells]=_;rw[aD.cells,(aZ (nV r.m.n)).ah,jF,aiq,aiL,aH.ah];rfl
 rw[<-J]at j;refine MG func215 W ntmps215 W ?_;refine Mo ?_;apply Mn
 .intro M N;refine TL.al
 refine Mo ?_;apply Mn
 .intro M N;refine TL.au
 refine Mo ?_;refine DC.block ?_;refine Mo ?_;apply Mn
 .intro M N;refine TL.au
 refine Mo ?_;refine Mw W ?_;refine Mo ?_;apply Mn
 .intro M N;refine TL.au
 refine Mo ?_;refine Mw W ?_;refine Mo ?_;apply Mn
 .intro M N;refine TL.au
 refine Mo ?_;refine MM W ?_;refine Mo ?_;apply Mn
 .intro M N;refine TL.au
 refine Mo ?_;apply Mz mixed
 .intro M N;refine TF.au
 refine Mo ?_;apply Mz mixed
 .intro M N;refine TF.go ?_;refine eV w W W W W W W W (by simp only[cg,ah8];omega)<|TF.au
 refine DC.aR 6 W (j.view (dv _))<|DC.ret ⟨_,W,_,⟨W,W⟩,j.drop⟩
end Go.Proofs.Pz
namespace Go.Ps
open Go.Mt Go.Sm
def G5(q:List aD)(r:R)(xs:List Xp)(e:Xp):fe (r.pre q,xs) e=((fe (r,xs) e).1.pre q,(fe (r,xs) e).2):=by
 simp only[fe,lN];rfl
def yJ(q:List aD):∀(l:List Xp) (r:R) (xs:List Xp),l.foldl fe (r.pre q,xs)=((l.foldl fe (r,xs)).1.pre q,(l.foldl fe (r,xs)).2)
 |[],r,xs=>rfl
 |e::l,r,xs=>by
  rw[aii,aii,G5];exact yJ q l _ _
def G6(q:List aD)(s:Sc)(r:R)(x:Nm):et s (r.pre q) x=(et s r x).pre q:=rfl
def wI(q:List aD)(s:Sc):∀(l:List Nm) (r:R),l.foldl (et s) (r.pre q)=(l.foldl (et s) r).pre q
 |[],r=>rfl
 |x::l,r=>by rw[aii,aii,G6,wI q s l]
def G7(q:List aD)(p:Int×Int)(r:R)(x:Nm):fv p (r.pre q) x=(fv p r x).pre q:=by
 unfold fv;rw[yG];simp[R.pre]
def wJ(q:List aD)(p:Int×Int):∀(l:List Nm) (r:R),l.foldl (fv p) (r.pre q)=(l.foldl (fv p) r).pre q
 |[],r=>rfl
 |x::l,r=>by rw[aii,aii,G7,wJ q p l]
def kE(en:List En)(c:Nm)(all:List Nm)(r:R)(a:List (List Nm)):c7 en c all [] r a=(r,a):=by rw[c7.eq_def]
def kp(en:List En)(c:Nm)(all:List Nm)(n:Nm)(b:bF)(u w:List Tr)(p:Int×Int)(l:List aH)(r:R)(d:List (List Nm)):c7 en c all (.mk n b u w p::l) r d=
  (let e:R:=all.foldl (et r.s) ⟨⟨r.s.vars,r.s.aO,r.s.ck++[(n,c)]⟩,r.m,r.q⟩
  let a:R:=(all.filter λx=> !(cW (cy b) x)).foldl (fv p) e
  c7 en c all l ⟨r.s,(iF en false b a.s a.m).1,a.q++(iF en false b a.s a.m).2⟩ (d++[all.map e.s.vars.nm])):=by rw[c7.eq_def]
def AJ(en:List En)(c:Nm)(all:List Nm)(q:List aD):∀(l:List aH) (r:R) (a:List (List Nm)),c7 en c all l (r.pre q) a=((c7 en c all l r a).1.pre q,(c7 en c all l r a).2)
 |[],r,a=>by rw[kE,kE]
 |.mk n b u w p::l,r,g=>by
  rw[kp,kp]
  dsimp only
  have d:all.foldl (et (r.pre q).s) ⟨⟨(r.pre q).s.vars,(r.pre q).s.aO,(r.pre q).s.ck++[(n,c)]⟩,(r.pre q).m,(r.pre q).q⟩=(all.foldl (et r.s) ⟨⟨r.s.vars,r.s.aO,r.s.ck++[(n,c)]⟩,r.m,r.q⟩).pre q:=
   wI q r.s all ⟨⟨r.s.vars,r.s.aO,r.s.ck++[(n,c)]⟩,r.m,r.q⟩
  rw[d,wJ];generalize all.foldl (et r.s) ⟨⟨r.s.vars,r.s.aO,r.s.ck++[(n,c)]⟩,r.m,r.q⟩=e;generalize (all.filter λx=> !(cW (cy b) x)).foldl (fv p) e=a;have f:(⟨(r.pre q).s,(iF en false b (a.pre q).s (a.pre q).m).1,(a.pre q).q++(iF en false b (a.pre q).s (a.pre q).m).2⟩:R)=R.pre q ⟨r.s,(iF en false b a.s a.m).1,a.q++(iF en false b a.s a.m).2⟩:=by
   simp[R.pre]
  rw[f];exact AJ en c all q l _ _
def IB(en:List En)(e:aD)(r:R)(q:List aD):iP en e (r.pre q)=(iP en e r).pre q:=by
 cases e with|mk k j h l g e i p=>
 rw[iP,iP];by_cases a:k=1
 .simp only[air a,lN];simp[R.pre]
 rw[aid a,aid a];by_cases b:k=2
 .simp only[air b,yJ];cases g with
  |true=>simp only[ajL,lN];simp[R.pre]
  |false=>simp[R.pre]
 rw[aid b,aid b];by_cases c:k=5
 .simp only[air c,AI];simp[R.pre]
 rw[aid c,aid c];have d:(r.pre q).s=r.s:=rfl;simp only[d,AI];have f:∀x:R,(⟨(x.pre q).s,(x.pre q).m,(x.pre q).q⟩:R)=R.pre q ⟨x.s,x.m,x.q⟩:= λ_=>rfl
 rw[f,AJ];simp[R.pre]
def AK(en:List En):∀(a b:List aD) (r:R),gD en (a++b) r=gD en b (gD en a r)
 |[],b,r=>by rw[gD.eq_def en []];rfl
 |e::a,b,r=>by rw[aiA,gD.eq_def en (e::_),gD.eq_def en (e::a)];exact AK en a b _
end Go.Ps
namespace Go.Proofs.Pz
open Go.Mt Go.Sm Go.Ps Go.Proofs
open Tryz
variable{f:Env}{es:List (D×M)}
def Eu(h:M)(iv c:Nat)(d:List (Nm×Nm))(j:i_ es f)(a:List (Nm×Nm))(q:a.length<=1000000):
  Dt prog 209 [h,mE iv c d,.d (.sl (bA a))] [.ob iv (.map es)] λr l=>r=.d (.sl (bA (a.map λo=>(o.1,f.nm o.2))))/\l=[.ob iv (.map es)]:=by
 intro H F k;have w:=Wk.start k;have w:=w.nil 2;have A:(bA a).length=a.length:=by simp[bA]
 refine MG func209 W ntmps209 W ?_;refine O0 ?_
 repeat refine Mx ?_
 refine Mo ?_;refine DC.block<|DC.loop (λm h=>∃(i:Nat) (b:M) (e:List (Nat×List M)) (g:Hp),h=⟨[(12,.m (.d (.int .i64 ((i:Nat):Int)))),(11,.m (.d (.int .i64 ((a.length:Nat):Int)))),(10,.m (.d (.sl (bA a)))),(7,.m b),(4,.loc 4 0)],e,g⟩/\
   Go.Mt.get e 4=some [.mp iv,.mp c,.d (.sl (bA d))]/\
   Wk F H [.acc 2 (bA ((a.take i).map λo=>(o.1,f.nm o.2))) b,.ob iv (.map es)] g/\i<=a.length/\m=a.length-i) a.length _
  ⟨0,.d (.sl []),_,_,rfl,rfl,w,by omega,rfl⟩ W ?_
 rintro m s ⟨i,t,u,v,rfl,n,w,x,rfl⟩;refine Mx ?_;refine Mo ?_;refine DC.cond W (λb=>?_) (λb=>?_)
 .have e:i<a.length:=by have:=aic b;omega
  have p:=uw e;have g:bA ((a.take (i+1)).map λo=>(o.1,f.nm o.2))=bA ((a.take i).map λo=>(o.1,f.nm o.2))++[[.str a[i].1,.str (f.nm a[i].2)]]:=by rw[qQ _ _ _ _ _ e];simp[bA]
  generalize a[i]=o at p g;refine DC.skip ?_;refine Mo ?_;refine DC.block ?_;refine Mx ?_;refine Mo ?_;apply Mn
  .intro y z;refine TL.go ?_;refine lb j ((w.pick [1,0]).ob) W W W<|TL.go ?_;refine cT w W W W W W W (by exact bS W) (by simp[bA];omega)<|TL.au
  have w:=w.app [[.str o.1,.str (f.nm o.2)]];refine Mx ?_;exact bf (k':=a.length-(i+1)) (by omega) ⟨i+1,_,_,_,rfl,n,by rw[g];exact w,by omega,rfl⟩ W W
 .refine DC.exit ?_;obtain rfl:i=a.length:=by have:=aie b;omega
  rw[aih]at w;refine Mx ?_;refine DC.aR 6 W (w.view (jp _))<|DC.ret ⟨_,W,_,⟨W,W⟩,w.drop⟩
def G8{H:Hp}(c:M)(iv d:Nat)(e:List (Nm×Nm))(l:i_ es f)(g:H[iv]?=some (.map es))(a:List (Nm×Nm))(m:a.length<=1000000):
  CT prog 209 [c,mE iv d e,.d (.sl (bA a))] H λr K=>r=.d (.sl (bA (a.map λo=>(o.1,f.nm o.2))))/\K=H:=by
 obtain⟨r,K,⟨u,⟨rfl,rfl⟩,h⟩,n⟩:=Eu c iv d e l a m H (λi=>i=iv) (qH ⟨g,λj=>aj2⟩);have b:=IA (F:= λi=>i=iv) (iv:=iv) (λi h=>h) h (h.ob.trans g.symm);intro k p q j i s;refine CT.drop (post:= λb c=>b=.d (.sl (bA (a.map λo=>(o.1,f.nm o.2))))/\c=H) H.length (ah9 _) (n.mono ?_) k p q j i s;rintro r t ⟨rfl,rfl⟩;exact⟨b.1,.d _,by rw[b.2];exact(by rw[<-i];exact j.hb),W,b.2⟩
end Go.Proofs.Pz
namespace Go.Ps
open Go.Mt Go.Sm
def bu.bind{r:R}(a:Bool)(h:eg r.s)(v:Va):bu r (dt a r v) 1:=
 ⟨rfl,⟨h.v.set _ (ah9 _),h.l,h.n⟩,ah9 _,ajR _,ajR _⟩
def bu.binds(a:Bool):∀(l:List Va) {r:R},eg r.s->bu r (l.foldl (dt a) r) l.length
 |[],r,h=>.refl h
 |v::l,r,h=>by
  have b:=bu.bind a h v;have:=b.trans (bu.binds a l b.sc);rw[aj5]at this;exact this
def wK(a:Bool):∀(l:List Va) (r:R),(l.foldl (dt a) r).m.vars=r.m.vars/\(l.foldl (dt a) r).q=r.q
 |[],r=>⟨rfl,rfl⟩
 |v::l,r=>by rw[aii];exact wK a l _
def yK(q:List aD)(r:R)(v:Va)(n:Nm):iO (r.pre q) v n=(iO r v n).pre q:=by
 unfold iO;split<;>simp[R.pre]
def bu.decl{r:R}(h:eg r.s)(v:Va):bu r (dU r v) 2:=by
 have a:=bu.last (r:=⟨r.s,⟨r.m.n,r.m.vars++[⟨r.s.vars.nm v.name,v.tk,v.tn,r.s.ck++v.clock.map λo=>(o.1,r.s.vars.nm o.2),false,bR,v.ps⟩]⟩,r.q⟩) h v (r.s.vars.nm v.name);exact⟨a.ck,a.sc,by have:=a.n;unfold dU;simp only at this;omega,by have:=a.vs;unfold dU;simp only[ah6,aik]at this;omega,by have:=a.q;unfold dU;simp only at this;omega⟩
def bu.decls:∀(l:List Va) {r:R},eg r.s->bu r (l.foldl dU r) (l.length+l.length)
 |[],r,h=>.refl h
 |v::l,r,h=>by
  have a:=bu.decl h v;have:=a.trans (bu.decls l a.sc);simp only[aii,aia];exact⟨this.ck,this.sc,by have:=this.n;omega,by have:=this.vs;omega,by have:=this.q;omega⟩
end Go.Ps
namespace Go.Proofs.Pz
open Go.Mt Go.Sm Go.Ps Go.Proofs
open Tryz
def FJ(it a:Nat)(p:Pg)(en:List En)(q:aD)(r:R):Prop:=∀b c,Dt prog 215 [.ref a 0,mE b c r.s.ck,.d (.agg q.cells)] (hY it a b c p ⟨r.s,r.m,[]⟩) λx l=>x=.d (.sl (cg (iP en q ⟨r.s,r.m,[]⟩).q))/\l=hY it a b c p (iP en q ⟨r.s,r.m,[]⟩)
def rO(it d iv f:Nat)(p:Pg)(en:List En)(e:Bool)(b:bF)(s:Sc)(m:MS)(hs:eg s)(NR:s.ck.length<=100000)(PS:b.vars.length<=100000)(S:∀v∈b.vars,v.clock.length<=1000)(hn:m.n+3*b.vars.length+(b.vars.flatMap mF).length<100000000)(hv:m.vars.length+4*b.vars.length+(b.vars.flatMap mF).length<=10000000)(Re:b.eqs.length<=1000000)
  (u:∀(i:Nat) (h:i<b.eqs.length),(gD en (b.eqs.take i) (b.vars.foldl dU ((b.vars.flatMap mF).foldl cM (b.vars.foldl (dt e) ⟨s,m,[]⟩)))).s.ck=s.ck/\FJ it d p en b.eqs[i] (gD en (b.eqs.take i) (b.vars.foldl dU ((b.vars.flatMap mF).foldl cM (b.vars.foldl (dt e) ⟨s,m,[]⟩))))/\
   (iP en b.eqs[i] (gD en (b.eqs.take i) (b.vars.foldl dU ((b.vars.flatMap mF).foldl cM (b.vars.foldl (dt e) ⟨s,m,[]⟩))))).q.length<=100000000):
  Dt prog 163 [.ref d 0,mE iv f s.ck,.d (.agg b.cells),.d (.bool e)] (hY it d iv f p ⟨s,m,[]⟩) λx l=>x=.d (.sl (cg (iF en e b s m).2))/\l=[.ob it bg,ij d p (iF en e b s m).1]:=by
 intro H F hw;have w:=(Wk.start hw).nil 16;have ce:(ax b.vars).length=b.vars.length:=by simp[ax]
 rw[b.ah];have T:= λi=>bu.binds e (b.vars.take i) (r:=⟨s,m,[]⟩) hs
 refine MG func163 W ntmps163 W ?_;refine Mo ?_;apply Mn
 .intro k z;refine gy W W W W<|gZ W W<|aj W W<|TL.nil W
 refine Mo ?_;apply Mn
 .intro k z;refine aj W W<|TL.nil W
 refine Mo ?_;apply Mn
 .intro k z;refine aG W W<|aI W W W ?_
  (refine aY W W W ?_;rw[ce])
  refine TL.au
 refine Mo ?_;refine DC.block<|DC.loop (λk h=>∃(i:Nat) (c:List (Nat×List M)) (g:Hp),h=⟨[(23,.m (.d (.int .i64 ((i:Nat):Int)))),(22,.m (.d (.int .i64 ((b.vars.length:Nat):Int)))),(21,.m (.d (.sl (ax b.vars)))),(9,.m (.d (.sl []))),(6,.m (.d (.bM [.sl (ax b.vars),.sl (b.eqs.map aD.cells)] 0))),(5,.loc 5 0),(3,.m (.d (.bool e))),(0,.m (.ref d 0))],c,g⟩/\
   Go.Mt.get c 5=some [.mp iv,.mp f,.d (.sl (bA s.ck))]/\
   Wk F H (.acc 16 [] (.d (.sl []))::hY it d iv f p ((b.vars.take i).foldl (dt e) ⟨s,m,[]⟩)) g/\i<=b.vars.length/\k=b.vars.length-i) b.vars.length _
  ⟨0,_,_,rfl,rfl,w,by omega,rfl⟩ W ?_
 rintro G I ⟨i,J,y,rfl,h,w,K,rfl⟩;refine Mx ?_;refine Mo ?_;refine DC.cond W (λg=>?_) (λg=>?_)
 .have z:i<b.vars.length:=by have:=aic g;omega
  have C:=k_ z;have c:=T i;have k:(b.vars.take (i+1)).foldl (dt e) ⟨s,m,[]⟩=dt e ((b.vars.take i).foldl (dt e) ⟨s,m,[]⟩) b.vars[i]:=by rw[ah5 z,aiC];rfl
  have UP:(b.vars.take i).length<=b.vars.length:=by rw[ait];omega
  generalize (b.vars.take i).foldl (dt e) ⟨s,m,[]⟩=r at w c k;generalize b.vars[i]=v at C k;rw[v.ah]at C;have U:=c.n;have E:=c.ck
  dsimp only at U
  have L:(bA s.ck).length=s.ck.length:=by simp[bA]
  have w:=w.pick [2,1,3,4,0];obtain⟨V,w⟩:=ij.open w;have N:=w.ob;have hk:((r.m.n:Nat):Int)+1=((r.m.n+1:Nat):Int):=by omega
  have O:r.m.n+1<=1000000000:=by omega
  have w:=w.set (.box [.d (.sl (p.aB.map En.cells)),.d (.sl (p.nodes.map Nd.cells)),V,.d (.int .i64 ((r.m.n+1:Nat):Int))]);have ac:=w.ob;have w:Wk F H (ij d p ⟨r.m.n+1,r.m.vars⟩:: [.ob it bg,cN iv r.s.vars,cN f r.s.aO,.acc 16 [] (.d (.sl []))]) _:=ij.close w;have w:=w.pick [1,0,2,3,4];have Xo:=qO O w.ob;refine DC.skip ?_;refine Mo ?_;refine DC.block ?_;refine Mx ?_;refine Mo ?_;apply Mn
  .intro P Oo;refine aq W W<|iX W W W<|dh W W<|bK W W N W ?_
   (refine bc W W W (by omega) ?_;rw[hk])
   refine TL.au
  have N:=ac;refine Mx ?_;cases e with
  |true=>
   have w:=w.pick [2,0,1,3,4];obtain⟨es,P,w⟩:=cN.open w;have hH:=w.ob;refine Mx ?_;refine Mo ?_;refine Mw W<|DC.skip ?_;refine Mo ?_;apply Mn
   .intro s0 Oo;refine aF W W<|aJ W W h W<|aF W W<|aJ W W W W<|aq W W<|aF W W<|aJ W W h W ?_
    (refine aY W W W ?_;rw[L])
    refine TL.go ?_;refine eU W W W hH P.k<|TL.nil W
   refine Mx ?_;have w2:=Ng (P.set v.name ⟨v.name,s.ck.length,v.tk,v.tn⟩) (w.set (.map (dK v.name (.d (.agg (oa ⟨v.name,s.ck.length,v.tk,v.tn⟩))) es)));exact bf (k':=b.vars.length-(i+1)) (by omega) ⟨i+1,_,_,rfl,h,by rw[k];unfold dt;rw[E];exact w2.pick [4,1,2,0,3],by omega,rfl⟩ W W
  |false=>
   have w:=w.pick [2,0,1,3,4];obtain⟨es,P,w⟩:=cN.open w;have hH:=w.ob;refine Mx ?_;refine Mo ?_;refine MM W ?_;refine Mo ?_;apply Mn
   .intro s0 Oo;refine TL.go ?_;refine jE W W W W (aiz (hU (r.m.n+1) O) (by omega:21<=4000000000))<|TL.au
   refine Mo ?_;apply Mn
   .intro s0 Oo;refine aF W W<|aJ W W h W<|aF W W<|aJ W W W W<|aq W W<|aF W W<|aJ W W h W ?_
    (refine aY W W W ?_;rw[L])
    refine TL.go ?_;refine eU W W W hH P.k<|TL.nil W
   refine Mx ?_;have w2:=Ng (P.set v.name ⟨nV (r.m.n+1),s.ck.length,v.tk,v.tn⟩) (w.set (.map (dK v.name (.d (.agg (oa ⟨nV (r.m.n+1),s.ck.length,v.tk,v.tn⟩))) es)));exact bf (k':=b.vars.length-(i+1)) (by omega) ⟨i+1,_,_,rfl,h,by rw[k];unfold dt;rw[E];exact w2.pick [4,1,2,0,3],by omega,rfl⟩ W W
 refine DC.exit ?_;obtain rfl:i=b.vars.length:=by have:=aie g;omega
 have c:=T b.vars.length;rw[aih]at w c;have D:=(wK e b.vars ⟨s,m,[]⟩).2;have P6:iF en e b s m=((gD en b.eqs (b.vars.foldl dU ((b.vars.flatMap mF).foldl cM (b.vars.foldl (dt e) ⟨s,m,[]⟩)))).m,(gD en b.eqs (b.vars.foldl dU ((b.vars.flatMap mF).foldl cM (b.vars.foldl (dt e) ⟨s,m,[]⟩)))).q):=by
  cases b;rw[iF];rfl
 rw[P6];generalize b.vars.foldl (dt e) ⟨s,m,[]⟩=j at w c D u⊢;have w:Wk F H (.acc 16 (cg j.q) (.d (.sl []))::hY it d iv f p j) y:=by rw[D];exact w
 obtain⟨_,K1,Q,⟨rfl,rfl⟩,w,X⟩:=Wk.call (a:=[]) w (Er b (by omega) S);rw[b.ah]at X;have T_:=c.n;have Ua:=c.vs;have Y:j.s.ck=s.ck:=c.ck
 dsimp only at T_ Ua
 obtain⟨A,hA⟩:∃A,A=b.vars.flatMap mF:=⟨_,rfl⟩;rw[<-hA]at X hn hv u⊢;have Vh:(aE A).length=A.length:=by simp[aE]
 have Z:= λi=>bu.pV (A.take i) (r:=j) c.sc
 refine Mx ?_;refine Mo ?_;refine DC.block<|DC.loop (λk n=>∃(i:Nat) (h:M) (c:List (Nat×List M)) (g:Hp),n=⟨[(59,.m (.d (.int .i64 ((i:Nat):Int)))),(58,.m (.d (.int .i64 ((A.length:Nat):Int)))),(57,.m (.d (.sl (aE A)))),(9,.m h),(6,.m (.d (.bM [.sl (ax b.vars),.sl (b.eqs.map aD.cells)] 0))),(5,.loc 5 0),(3,.m (.d (.bool e))),(0,.m (.ref d 0))],c,g⟩/\
   Go.Mt.get c 5=some [.mp iv,.mp f,.d (.sl (bA s.ck))]/\
   Wk F H (.acc 16 (cg ((A.take i).foldl cM j).q) h::hY it d iv f p ((A.take i).foldl cM j)) g/\i<=A.length/\k=A.length-i) A.length _
  ⟨0,.d (.sl []),_,_,rfl,h,w,by omega,rfl⟩ W ?_
 rintro G I ⟨i,B,J,y,rfl,h,w,K,rfl⟩;refine Mx ?_;refine Mo ?_;refine DC.cond W (λg=>?_) (λg=>?_)
 .have z:i<A.length:=by have:=aic g;omega
  have L:=fF z;have c:=Z i;have k:(A.take (i+1)).foldl cM j=cM ((A.take i).foldl cM j) A[i]:=by rw[ah5 z,aiC];rfl
  rw[nh]at k;generalize (A.take i).foldl cM j=r at w c k;generalize A[i]=x at L k;have Q6:=c.n;have Rw:=c.vs;have E:=c.q;have C:=c.ck.trans Y;have V:(A.take i).length<=A.length:=by rw[ait];omega
  rw[D]at E;have N:=ni r.s.vars r.s.ck r.m x c.sc.v;obtain⟨_,K2,Q,⟨rfl,rfl⟩,w,O⟩:=Wk.call (a:=[.ob it bg,ij d p r.m,cN iv r.s.vars]) (r:=[_,_]) (w.pick [1,2,3,0,4]) (CM it d p r.m iv f r.s.ck r.s.vars x (by omega) (by omega) c.sc.n (c.sc.v x));rw[C]at O N;have w:=w.pick [3,0,1,2,4];rw[C]at w k;have Po:(cg r.q).length+(cg (eJ r.s.vars s.ck r.m x).2.2).length<=100000000:=by
   simp only[cg,ah8];simp only[List.length_nil]at E;omega
  refine DC.skip ?_;refine Mo ?_;refine DC.block ?_;refine Mx ?_;refine Mo ?_;apply Mn
  .intro P U;refine TL.go ?_;refine cT w W W W W W W (dv _) (by omega)<|TL.au
  have w:=w.app (cg (eJ r.s.vars s.ck r.m x).2.2);rw[<-fA]at w;refine Mx ?_;exact bf (k':=A.length-(i+1)) (by omega) ⟨i+1,_,_,_,rfl,h,by rw[k];exact w,by omega,rfl⟩ W W
 refine DC.exit ?_;obtain rfl:i=A.length:=by have:=aie g;omega
 have n:=Z A.length;rw[aih]at w n;generalize A.foldl cM j=o at w n u⊢;have co:=n.n;have d5:=n.vs;have am:=n.q;rw[D,List.length_nil]at am;have Wp:= λi=>bu.decls (b.vars.take i) (r:=o) n.sc
 refine Mx ?_;refine Mo ?_;refine DC.block<|DC.loop (λk h=>∃(i:Nat) (g:M) (c:List (Nat×List M)) (e:Hp),h=⟨[(73,.m (.d (.int .i64 ((i:Nat):Int)))),(72,.m (.d (.int .i64 ((b.vars.length:Nat):Int)))),(71,.m (.d (.sl (ax b.vars)))),(9,.m g),(6,.m (.d (.bM [.sl (ax b.vars),.sl (b.eqs.map aD.cells)] 0))),(5,.loc 5 0),(0,.m (.ref d 0))],c,e⟩/\
   Go.Mt.get c 5=some [.mp iv,.mp f,.d (.sl (bA s.ck))]/\
   Wk F H (.acc 16 (cg ((b.vars.take i).foldl dU o).q) g::hY it d iv f p ((b.vars.take i).foldl dU o)) e/\i<=b.vars.length/\k=b.vars.length-i) b.vars.length _
  ⟨0,B,_,_,rfl,h,w,by omega,rfl⟩ W ?_
 rintro G I ⟨i,B,J,y,rfl,h,w,K,rfl⟩;refine Mx ?_;refine Mo ?_;refine DC.cond W (λg=>?_) (λg=>?_)
 .have L:i<b.vars.length:=by have:=aic g;omega
  have U:=k_ L;have c:=Wp i;have z:(b.vars.take (i+1)).foldl dU o=dU ((b.vars.take i).foldl dU o) b.vars[i]:=by rw[ah5 L,aiC];rfl
  have Rm:=S _ (aif L);have UP:(b.vars.take i).length+1<=b.vars.length:=by rw[ait];omega
  generalize (b.vars.take i).foldl dU o=r at w c z;generalize b.vars[i]=v at U z Rm;have Q6:=c.n;have Rw:=c.vs;have PU:=c.q;have N:=c.ck.trans (n.ck.trans Y);have PM:=c.sc;have w:=w.pick [3,0,1,2,4];obtain⟨es,O,w⟩:=cN.open w;have V:=w.ob;obtain⟨E,NM⟩:∃c,c=s.ck++v.clock.map λo=>(o.1,r.s.vars.nm o.2):=⟨_,rfl⟩
  have Rl:=uz s.ck (v.clock.map λo=>(o.1,r.s.vars.nm o.2)) (by rw[ah8];omega);rw[<-NM]at Rl;have w:=w.pick [3,0,1,2,4];obtain⟨mv,w⟩:=ij.open w;have N_:=w.ob;have w:=w.pick [1,0,2,3,4,5];rw[v.ah]at U;refine DC.skip ?_;refine Mo ?_;refine DC.block ?_;refine Mx ?_;refine Mo ?_;apply Mn
  .intro s0 Oo;refine TL.go ?_;refine lb O V W W W<|TL.au
  have P:=w.app [[.str (r.s.vars.nm v.name),.int .u8 v.tk,.str v.tn,.sl (bA E),.bool false,.int .u8 0,.int .u8 0,.int .i32 0,.str ⟨#[]⟩,.sl [],.sl [],.int .i64 0,.int .i64 0,.int .i64 v.ps.1,.int .i64 v.ps.2]];refine Mo ?_;apply Mz mixed
  .intro s0 Oo;refine TF.go ?_;refine fD (G8 (.ref d 0) iv f s.ck O V v.clock (by omega)) W W<|TF.go ?_;refine eV w W W W W W W W (by simp only[ax,ah8];omega)<|TF.go ?_;refine fC W W ((P.pick [1,0,2,3,4,5]).ob) (aN _ _ _) W W<|TF.au
  obtain⟨k,Vi⟩:∃c:Va,c=⟨r.s.vars.nm v.name,v.tk,v.tn,E,false,bR,v.ps⟩:=⟨_,rfl⟩;have Qa:ax (r.m.vars++[k])=ax r.m.vars++[[.str (r.s.vars.nm v.name),.int .u8 v.tk,.str v.tn,.sl (bA E),.bool false,.int .u8 0,.int .u8 0,.int .i32 0,.str ⟨#[]⟩,.sl [],.sl [],.int .i64 0,.int .i64 0,.int .i64 v.ps.1,.int .i64 v.ps.2]]:=by
   rw[Vi];simp only[ax,aio,aiq,aiL];rw[Va.ah];rfl
  rw[<-Qa]at P;have w3:Wk F H (ij d p ⟨r.m.n,r.m.vars++[k]⟩:: [.ob iv (.map es),.acc 16 (cg r.q) B,.ob it bg,cN f r.s.aO]) _:=ij.close ((P.pick [1,0,2,3,4,5]).set (.box [.d (.sl (p.aB.map En.cells)),.d (.sl (p.nodes.map Nd.cells)),cJ mv y [[.str (r.s.vars.nm v.name),.int .u8 v.tk,.str v.tn,.sl (bA E),.bool false,.int .u8 0,.int .u8 0,.int .i32 0,.str ⟨#[]⟩,.sl [],.sl [],.int .i64 0,.int .i64 0,.int .i64 v.ps.1,.int .i64 v.ps.2]],.d (.int .i64 ((r.m.n:Nat):Int))]));have w4:=Ng O (w3.pick [1,0,2,3,4]);obtain⟨_,K5,Q,⟨rfl,rfl⟩,C,OK⟩:=Wk.call (a:=hY it d iv f p ⟨r.s,⟨r.m.n,r.m.vars++[k]⟩,[]⟩) (r:=[_]) (w4.pick [3,1,0,4,2]) (CO it d iv f p r.s ⟨r.m.n,r.m.vars++[k]⟩ v (r.s.vars.nm v.name) PM (by simp only;omega) (by simp only[ah6,aik];omega) (by rw[N];omega));have Wq:dU r v=(iO ⟨r.s,⟨r.m.n,r.m.vars++[k]⟩,[]⟩ v (r.s.vars.nm v.name)).pre r.q:=by
   rw[<-yK];unfold dU;rw[Vi,NM,<-N];simp[R.pre]
  rw[Wq]at z;have Zo:(iO ⟨r.s,⟨r.m.n,r.m.vars++[k]⟩,[]⟩ v (r.s.vars.nm v.name)).q.length<=1:=by
   have:=(bu.last (r:=⟨r.s,⟨r.m.n,r.m.vars++[k]⟩,[]⟩) PM v (r.s.vars.nm v.name)).q;simpa using this
  generalize iO ⟨r.s,⟨r.m.n,r.m.vars++[k]⟩,[]⟩ v (r.s.vars.nm v.name)=r5 at C OK z Zo;rw[N,v.ah]at OK;have C:=C.pick [4,0,1,2,3];refine Mo ?_;apply Mn
  .intro s0 Oo;refine TL.go ?_;refine cT C W W W W W W (dv _) (by simp only[cg,ah8];omega)<|TL.au
  have w6:=C.app (cg r5.q);rw[<-fA]at w6;refine Mx ?_;exact bf (k':=b.vars.length-(i+1)) (by omega) ⟨i+1,_,_,_,rfl,h,by rw[z];exact w6,by omega,rfl⟩ W W
 refine DC.exit ?_;obtain rfl:i=b.vars.length:=by have:=aie g;omega
 rw[aih]at w;clear Wp g;generalize b.vars.foldl dU o=t at w u⊢;have d6:(b.eqs.map aD.cells).length=b.eqs.length:=by simp
 refine Mx ?_;refine Mo ?_;refine DC.block<|DC.loop (λk h=>∃(i:Nat) (g:M) (c:List (Nat×List M)) (e:Hp),h=⟨[(118,.m (.d (.int .i64 ((i:Nat):Int)))),(117,.m (.d (.int .i64 ((b.eqs.length:Nat):Int)))),(116,.m (.d (.sl (b.eqs.map aD.cells)))),(9,.m g),(5,.loc 5 0),(0,.m (.ref d 0))],c,e⟩/\
   Go.Mt.get c 5=some [.mp iv,.mp f,.d (.sl (bA s.ck))]/\
   Wk F H (.acc 16 (cg (gD en (b.eqs.take i) t).q) g::hY it d iv f p (gD en (b.eqs.take i) t)) e/\i<=b.eqs.length/\k=b.eqs.length-i) b.eqs.length _
  ⟨0,B,_,_,rfl,h,by rw[aiD,gD.eq_def];exact w,by omega,rfl⟩ W ?_
 clear w h;rintro G I ⟨i,B,J,y,rfl,h,w,K,rfl⟩;refine Mx ?_;refine Mo ?_;refine DC.cond W (λg=>?_) (λg=>?_)
 .have E:i<b.eqs.length:=by have:=aic g;omega
  clear g;have N:(b.eqs.map aD.cells)[((i:Nat):Int).toNat]?=some b.eqs[i].cells:=by simp[E]
  obtain⟨O,L,C⟩:=u i E;have k:gD en (b.eqs.take (i+1)) t=iP en b.eqs[i] (gD en (b.eqs.take i) t):=by rw[ah5 E,AK,gD.eq_def];simp only;rw[gD.eq_def]
  generalize gD en (b.eqs.take i) t=r at w O L C k;generalize b.eqs[i]=q at N L C k;obtain⟨_,K5,Q,⟨rfl,rfl⟩,z,P⟩:=Wk.call (a:=hY it d iv f p ⟨r.s,r.m,[]⟩) (r:=[_]) (w.pick [1,2,3,4,0]) (L iv f);have V:iP en q r=(iP en q ⟨r.s,r.m,[]⟩).pre r.q:=by rw[<-IB,R.pre_nil]
  rw[V]at k C;generalize iP en q ⟨r.s,r.m,[]⟩=r5 at z P k C;rw[O,q.ah,q.ex.ah]at P;rw[q.ah,q.ex.ah]at N;have z:=z.pick [4,0,1,2,3];refine DC.skip ?_;refine Mo ?_;refine DC.block ?_;refine Mx ?_;refine Mo ?_;apply Mn
  .intro s0 Oo;refine TL.go ?_;refine cT z W W W W W W (dv _) (by simp only[R.pre,ah6]at C;simp only[cg,ah8];omega)<|TL.au
  have U:=z.app (cg r5.q);rw[<-fA]at U;refine Mx ?_;exact bf (k':=b.eqs.length-(i+1)) (by omega) ⟨i+1,_,_,_,rfl,h,by rw[k];exact U,by omega,rfl⟩ W W
 refine DC.exit ?_;obtain rfl:i=b.eqs.length:=by have:=aie g;omega
 rw[aih]at w;generalize gD en b.eqs t=r4 at w⊢;refine Mx ?_;refine DC.aR 8 W (w.view (dv _))<|DC.ret ⟨_,W,_,⟨W,W⟩,((w.pick [0,3,4,1,2]).drop.drop).drop⟩
def BX(it a iv b:Nat)(p:Pg)(s:Sc)(m:MS)(q:aD)(c:q.kd=3)(z:R)
  (d:Dt prog 260 [.ref a 0,mE iv b s.ck,.d (.agg q.cells)] (hY it a iv b p ⟨s,m,[]⟩) λx l=>x=.d (.sl (cg z.q))/\l=hY it a iv b p z):
  Dt prog 215 [.ref a 0,mE iv b s.ck,.d (.agg q.cells)] (hY it a iv b p ⟨s,m,[]⟩) λx l=>x=.d (.sl (cg z.q))/\l=hY it a iv b p z:=by
 intro H F e;obtain⟨_,g,h,⟨rfl,rfl⟩,w,f⟩:=Wk.call (r:=[]) (Wk.start e) d;rw[q.ah,q.ex.ah,c]at f⊢;refine MG func215 W ntmps215 W ?_;refine O0 ?_;refine Mx ?_;refine Mo ?_;refine DC.block ?_;refine Mx ?_;refine Mo ?_;refine Mw W ?_;refine Mx ?_;refine Mo ?_;refine Mw W ?_;refine Mx ?_;refine Mo ?_;refine Mw W<|DC.skip ?_;refine Mx ?_;exact DC.ret ⟨_,W,_,⟨W,W⟩,w⟩
def G9(l:List Nd):∀r∈l.map Nd.cells,r.length=7:=by intro r a;obtain⟨_,_,rfl⟩:=aij.1 a;rfl
def zZ(it:Nat)(p:Pg)(o:p.nodes.length<=1000000)
  (j:∀d∈p.nodes,Dt prog 110 [.d (.agg p.cells),.d (.agg d.cells)] [.ob it bg] λx l=>x=.d (.agg (n_ p.aB d).cells)/\l=[.ob it bg]):
  Dt prog 56 [.d (.agg p.cells)] [.ob it bg] λx l=>x=.d (.agg (s_ p).cells)/\l=[.ob it bg]:=by
 intro H F k;have w:=(Wk.start k).nil 7;have C:(p.nodes.map Nd.cells).length=p.nodes.length:=by simp
 refine MG func56 W ntmps56 W ?_
 repeat refine Mx ?_
 refine Mo ?_;refine DC.block<|DC.loop (λm f=>∃(i:Nat) (c:M) (b:List (Nat×List M)) (e:Hp),f=⟨[(12,.m (.d (.int .i64 ((i:Nat):Int)))),(11,.m (.d (.int .i64 ((p.nodes.length:Nat):Int)))),(10,.m (.d (.sl (p.nodes.map Nd.cells)))),(3,.loc 3 0),(2,.loc 2 0),(1,.m (.d (.bM [.sl (p.aB.map En.cells),.sl (p.nodes.map Nd.cells)] 0)))],b,e⟩/\
   Go.Mt.get b 3=some [.d (.sl (p.aB.map En.cells)),c]/\Go.Mt.get b 2=some [.d (.sl []),.d (.sl [])]/\
   Wk F H [.acc 7 (((p.nodes.take i).map (n_ p.aB)).map Nd.cells) c,.ob it bg] e/\i<=p.nodes.length/\m=p.nodes.length-i) p.nodes.length _
  ⟨0,.d (.sl []),_,_,rfl,rfl,rfl,w,by omega,rfl⟩ W ?_
 rintro m q ⟨i,s,t,u,rfl,f,n,w,v,rfl⟩;refine Mx ?_;refine Mo ?_;refine DC.cond W (λb=>?_) (λb=>?_)
 .have c:i<p.nodes.length:=by have:=aic b;omega
  have g:(p.nodes.map Nd.cells)[((i:Nat):Int).toNat]?=some p.nodes[i].cells:=by simp[c]
  have h:((p.nodes.take (i+1)).map (n_ p.aB)).map Nd.cells=((p.nodes.take i).map (n_ p.aB)).map Nd.cells++[(n_ p.aB p.nodes[i]).cells]:=by rw[qQ _ _ _ _ _ c,aio];rfl
  obtain⟨_,y,z,⟨rfl,rfl⟩,w,e⟩:=Wk.call (a:=[_]) (r:=[_]) (w.pick [1,0]) (j _ (aif c));have w:=w.pick [1,0];generalize p.nodes[i]=d at g h e;unfold Nd.cells at g;rw[show(d.cells:List D)=Nd.cells d from rfl]at e;unfold Nd.cells at e;refine DC.skip ?_;refine Mo ?_;refine DC.block ?_;refine Mx ?_;refine Mo ?_;apply Mz mixed
  .intro A B;refine TF.go ?_;refine eV w W W W W W W W (by simp only[ah8,ait];omega)<|cF W W<|cv W W f (aN _ _ _) W W<|TF.au
  have w:=w.app [(n_ p.aB d).cells];refine Mx ?_;exact bf (k':=p.nodes.length-(i+1)) (by omega) ⟨i+1,_,_,_,rfl,rfl,n,by rw[h];exact w,by omega,rfl⟩ W W
 .refine DC.exit ?_;obtain rfl:i=p.nodes.length:=by have:=aie b;omega
  rw[aih]at w;refine DC.cA (MP:=[.d (.sl (p.aB.map En.cells)),.d (.sl ((p.nodes.map (n_ p.aB)).map Nd.cells))]) 3 f (bY (lJ (w.view (G9 _)) (o7 _))) ?_;refine Mx ?_;exact DC.ret ⟨_,W,_,⟨W,W⟩,w.drop⟩
end Go.Proofs.Pz
namespace Go.Ps
open Go.Mt Go.Sm
def bu.IC{r:R}(h:eg r.s)(v:Va):bu r (fp r v) 1:=
 let a:=bu.last (r:=⟨{r.s with vars:=r.s.vars.set v.name ⟨v.name,0,v.tk,v.tn⟩},r.m,r.q⟩) ⟨h.v.set _ (aja _),h.l,h.n⟩ v v.name
 ⟨a.ck,a.sc,a.n,a.vs,a.q⟩
def bu.qg:∀(l:List Va) {r:R},eg r.s->bu r (l.foldl fp r) l.length
 |[],r,h=>.refl h
 |v::l,r,h=>by
  have a:=bu.IC h v;have:=a.trans (bu.qg l a.sc);rw[aj5]at this;exact this
abbrev mS:R:=⟨⟨λ_=>none,λ_=>none,[]⟩,⟨0,[]⟩,[]⟩
def xw:eg mS.s:=⟨(λx b h=>nomatch h),(λx b h=>nomatch h),by simp⟩
end Go.Ps
namespace Go.Proofs.Pz
open Go.Mt Go.Sm Go.Ps Go.Proofs
open Tryz
def BY(a b:List Va)(h:a.length+b.length<=1000000):PT prog 61 [.sl [[.sl (ax a)],[.sl (ax b)]]] (·=[.sl (ax (a++b))]):=by
 have c:=wB [ax a,ax b] (by
  intro l d r e;simp only[aib,aip,aiJ]at d;rcases d with rfl|rfl<;>exact bD _ r e) (by simp) (by simp[ax];omega)
 have f:[ax a,ax b].flatten=ax (a++b):=by simp[ax]
 rw[f]at c;exact c
abbrev wL(v:Va):Va:=⟨v.name,v.tk,v.tn,v.clock,false,bR,v.ps⟩
def CS(v:Va):(wL v).cells=[.str v.name,.int .u8 v.tk,.str v.tn,.sl (bA v.clock),.bool false,.int .u8 0,.int .u8 0,.int .i32 0,.str ⟨#[]⟩,.sl [],.sl [],.int .i64 0,.int .i64 0,.int .i64 v.ps.1,.int .i64 v.ps.2]:=by rw[Va.ah];rfl
def Ev(it:Nat)(p:Pg)(d:Nd)(S:d.ins.length+d.outs.length<=1000)(C:∀v∈d.ins++d.outs,v.clock.length<=1000)
  (u:∀b,vP it b p p.aB true d.b ((d.ins++d.outs).foldl fp mS).s ((d.ins++d.outs).foldl fp mS).m) (m:(iF p.aB true d.b ((d.ins++d.outs).foldl fp mS).s ((d.ins++d.outs).foldl fp mS).m).2.length<=100000000):
  Dt prog 110 [.d (.agg p.cells),.d (.agg d.cells)] [.ob it bg] λx l=>x=.d (.agg (n_ p.aB d).cells)/\l=[.ob it bg]:=by
 intro H F T;have w:=Wk.start T;have U:d.cells=[.str d.name,.sl (ax d.ins),.sl (ax d.outs),.sl (ax d.b.vars),.sl (d.b.eqs.map aD.cells),.int .i64 d.ps.1,.int .i64 d.ps.2]:=by unfold Nd.cells;rfl
 rw[U];have V:(n_ p.aB d).cells=[.str d.name,.sl (ax d.ins),.sl (ax (d.outs.map wL)),.sl (ax (iF p.aB true d.b ((d.ins++d.outs).foldl fp mS).s ((d.ins++d.outs).foldl fp mS).m).1.vars),.sl (cg (((d.ins++d.outs).foldl fp mS).q++(iF p.aB true d.b ((d.ins++d.outs).foldl fp mS).s ((d.ins++d.outs).foldl fp mS).m).2)),.int .i64 d.ps.1,.int .i64 d.ps.2]:=by
  unfold n_ Nd.cells;rfl
 rw[V];refine MG func110 W ntmps110 W ?_;refine Mx ?_;refine Mo ?_;apply Mn
 .intro h k;refine ca W W W<|g_ W W W W W<|oi W W W<|aj W W<|TL.nil W
 have w:=w.new (.box [.d (.sl (p.aB.map En.cells)),.d (.sl (p.nodes.map Nd.cells)),.d (.sl []),.d (.int .i64 0)]);have g:(H++[Ob.box [.d (.sl (p.aB.map En.cells)),.d (.sl (p.nodes.map Nd.cells)),.d (.sl []),.d (.int .i64 0)]]).length=H.length+1:=by simp
 generalize ac:H++[Ob.box [.d (.sl (p.aB.map En.cells)),.d (.sl (p.nodes.map Nd.cells)),.d (.sl []),.d (.int .i64 0)]]=y at w g⊢;generalize H.length=b at w g⊢;have w:=(w.new (.map [])).new (.map []);have D:(y++[Ob.map []]).length=b+2:=by simp[g]
 rw[g,D]at w;refine Mo ?_;apply Mn
 .intro h k;refine TL.go ?_;refine m_ (cs:=[.mp y.length,.mp (y++[Ob.map []]).length,.d (.sl [])]) W W W W<|cG W W<|aK W W W (fx _) W W<|TL.nil W
 rw[g,D];have X:(ax (d.ins++d.outs)).length=(d.ins++d.outs).length:=by simp[ax]
 refine Mx ?_;refine Mo ?_;apply Mn
 .intro h k;refine TL.go ?_;refine aX (BY d.ins d.outs (by omega)) W W ?_
  (refine aY W W W ?_;rw[X])
  refine TL.au
 have Y:(d.ins++d.outs).length<=1000:=by rw[ah6];exact S
 generalize d.ins++d.outs=L at C u m Y⊢;have w:=Ng i_.nil (w.pick [1,0,2,3]);have w:=Ng i_.nil (w.pick [1,0,2,3]);have w:=(w.nil 15).pick [3,0,1,2,4];have w:Wk F H (ij b p mS.m:: [cN (b+2) mS.s.aO,cN (b+1) mS.s.vars,.ob it bg]) _:=ij.close w;have w:=(w.pick [3,0,2,1]).nil 16;have E:= λi=>bu.qg (L.take i) xw
 refine Mo ?_;refine DC.block<|DC.loop (λk g=>∃(i:Nat) (e:M) (c:List (Nat×List M)) (f:Hp),g=⟨[(26,.m (.d (.int .i64 ((i:Nat):Int)))),(25,.m (.d (.int .i64 ((L.length:Nat):Int)))),(24,.m (.d (.sl (ax L)))),(7,.m e),(6,.loc 6 0),(5,.m (.ref b 0)),(4,.loc 4 0),(3,.m (.d (.bM [.str d.name,.sl (ax d.ins),.sl (ax d.outs),.sl (ax d.b.vars),.sl (d.b.eqs.map aD.cells),.int .i64 d.ps.1,.int .i64 d.ps.2] 0)))],c,f⟩/\
   Go.Mt.get c 6=some [.mp (b+1),.mp (b+2),.d (.sl [])]/\Go.Mt.get c 4=some [.d (.str ⟨#[]⟩),.d (.sl []),.d (.sl []),.d (.sl []),.d (.sl []),.d (.int .i64 0),.d (.int .i64 0)]/\
   Wk F H (.acc 16 (cg ((L.take i).foldl fp mS).q) e::hY it b (b+1) (b+2) p ((L.take i).foldl fp mS)) f/\i<=L.length/\k=L.length-i) L.length _
  ⟨0,.d (.sl []),_,_,rfl,rfl,rfl,w,by omega,rfl⟩ W ?_
 rintro P Z ⟨i,G,bx,H1,rfl,n,o,w,hi,rfl⟩;refine Mx ?_;refine Mo ?_;refine DC.cond W (λe=>?_) (λe=>?_)
 .have z:i<L.length:=by have:=aic e;omega
  have I:=k_ z;have c:=E i;have h:(L.take (i+1)).foldl fp mS=fp ((L.take i).foldl fp mS) L[i]:=by rw[ah5 z,aiC];rfl
  have Rm:=C _ (aif z);have UP:(L.take i).length+1<=L.length:=by rw[ait];omega
  generalize (L.take i).foldl fp mS=r at w c h;generalize L[i]=v at I h Rm;have Q6:=c.n;have Rw:=c.vs;have A:=c.q;have q:=c.ck;have B:=c.sc
  dsimp only[List.length_nil]at Q6 Rw A
  have w:=w.pick [3,0,1,2,4];obtain⟨es,J,w⟩:=cN.open w;have j:=Ng (J.set v.name ⟨v.name,0,v.tk,v.tn⟩) (w.set (.map (dK v.name (.d (.agg (oa ⟨v.name,0,v.tk,v.tn⟩))) es)));obtain⟨r',Xg⟩:∃b:R,b=⟨{r.s with vars:=r.s.vars.set v.name ⟨v.name,0,v.tk,v.tn⟩},r.m,[]⟩:=⟨_,rfl⟩;have K:eg (⟨r.s.vars.set v.name ⟨v.name,0,v.tk,v.tn⟩,r.s.aO,r.s.ck⟩:Sc):=⟨B.v.set _ (aja _),B.l,B.n⟩;obtain⟨_,K5,l',⟨rfl,rfl⟩,k,f⟩:=Wk.call (a:=hY it b (b+1) (b+2) p ⟨⟨r.s.vars.set v.name ⟨v.name,0,v.tk,v.tn⟩,r.s.aO,r.s.ck⟩,r.m,[]⟩) (r:=[_]) (j.pick [2,3,0,4,1]) (CO it b (b+1) (b+2) p ⟨r.s.vars.set v.name ⟨v.name,0,v.tk,v.tn⟩,r.s.aO,r.s.ck⟩ r.m v v.name K (by omega) (by omega) (by rw[q];simp only[List.length_nil];omega));have Wq:fp r v=(iO ⟨⟨r.s.vars.set v.name ⟨v.name,0,v.tk,v.tn⟩,r.s.aO,r.s.ck⟩,r.m,[]⟩ v v.name).pre r.q:=by
   rw[<-yK];unfold fp;simp[R.pre]
  rw[Wq]at h;have Zo:(iO ⟨⟨r.s.vars.set v.name ⟨v.name,0,v.tk,v.tn⟩,r.s.aO,r.s.ck⟩,r.m,[]⟩ v v.name).q.length<=1:=by
   have:=(bu.last (r:=⟨⟨r.s.vars.set v.name ⟨v.name,0,v.tk,v.tn⟩,r.s.aO,r.s.ck⟩,r.m,[]⟩) K v v.name).q;simpa using this
  generalize iO ⟨⟨r.s.vars.set v.name ⟨v.name,0,v.tk,v.tn⟩,r.s.aO,r.s.ck⟩,r.m,[]⟩ v v.name=r5 at k f h Zo
  dsimp only at f
  rw[q,v.ah]at f;rw[v.ah]at I;have k:=k.pick [4,0,1,2,3];refine DC.skip ?_;refine Mo ?_;refine DC.block ?_;refine Mx ?_;refine Mo ?_;apply Mn
  .intro s0 Oo;refine TL.go ?_;refine eU W W W w.ob J.k<|TL.nil W
  refine Mo ?_;apply Mn
  .intro s0 Oo;refine TL.go ?_;refine cT k W W W W W W (dv _) (by simp only[cg,ah8];omega)<|TL.au
  have N:=k.app (cg r5.q);rw[<-fA]at N;refine Mx ?_;exact bf (k':=L.length-(i+1)) (by omega) ⟨i+1,_,_,_,rfl,n,o,by rw[h];exact N,by omega,rfl⟩ W W
 refine DC.exit ?_;obtain rfl:i=L.length:=by have:=aie e;omega
 have c:=E L.length;rw[aih]at w c;generalize L.foldl fp mS=r at w c u m⊢;have A:=c.q;have q:=c.ck
 dsimp only[List.length_nil]at A
 have hO:(ax d.outs).length=d.outs.length:=by simp[ax]
 repeat refine Mx ?_
 have w:=w.nil 15;refine Mo ?_;refine DC.block<|DC.loop (λk g=>∃(i:Nat) (f:M) (c:List (Nat×List M)) (e:Hp),g=⟨[(58,.m (.d (.int .i64 ((i:Nat):Int)))),(57,.m (.d (.int .i64 ((d.outs.length:Nat):Int)))),(56,.m (.d (.sl (ax d.outs)))),(10,.loc 10 0),(7,.m G),(6,.loc 6 0),(5,.m (.ref b 0)),(4,.loc 4 0),(3,.m (.d (.bM [.str d.name,.sl (ax d.ins),.sl (ax d.outs),.sl (ax d.b.vars),.sl (d.b.eqs.map aD.cells),.int .i64 d.ps.1,.int .i64 d.ps.2] 0)))],c,e⟩/\
   Go.Mt.get c 6=some [.mp (b+1),.mp (b+2),.d (.sl [])]/\Go.Mt.get c 4=some [.d (.str ⟨#[]⟩),.d (.sl []),.d (.sl []),.d (.sl []),.d (.sl []),.d (.int .i64 0),.d (.int .i64 0)]/\
   Go.Mt.get c 10=some [.d (.str d.name),.d (.sl (ax d.ins)),f,.d (.sl []),.d (.sl []),.d (.int .i64 d.ps.1),.d (.int .i64 d.ps.2)]/\
   Wk F H (.acc 15 (ax ((d.outs.take i).map wL)) f:: .acc 16 (cg r.q) G::hY it b (b+1) (b+2) p r) e/\i<=d.outs.length/\k=d.outs.length-i) d.outs.length _
  ⟨0,.d (.sl []),_,_,rfl,n,o,rfl,w,by omega,rfl⟩ W ?_
 rintro P Z ⟨i,mo,bx,H1,rfl,n,o,O,w,hi,rfl⟩;refine Mx ?_;refine Mo ?_;refine DC.cond W (λe=>?_) (λe=>?_)
 .have k:i<d.outs.length:=by have:=aic e;omega
  have z:=k_ k;have h:ax ((d.outs.take (i+1)).map wL)=ax ((d.outs.take i).map wL)++[(wL d.outs[i]).cells]:=by rw[qQ _ _ _ _ _ k];simp[ax]
  generalize d.outs[i]=v at z h;rw[CS]at h;rw[v.ah]at z;refine DC.skip ?_;refine Mo ?_;refine DC.block ?_
  repeat refine Mx ?_
  refine Mo ?_;apply Mn
  .intro B I;refine TL.go ?_;refine cT w W W W W W W (by exact bS W) (by simp only[ax,ah8,ait,aik];omega)<|aF W W<|aK W W O (aN _ _ _) W W<|TL.nil W
  have w:=w.app [[.str v.name,.int .u8 v.tk,.str v.tn,.sl (bA v.clock),.bool false,.int .u8 0,.int .u8 0,.int .i32 0,.str ⟨#[]⟩,.sl [],.sl [],.int .i64 0,.int .i64 0,.int .i64 v.ps.1,.int .i64 v.ps.2]];refine Mx ?_;exact bf (k':=d.outs.length-(i+1)) (by omega) ⟨i+1,_,_,_,rfl,n,o,rfl,by rw[h];exact w,by omega,rfl⟩ W W
 refine DC.exit ?_;obtain rfl:i=d.outs.length:=by have:=aie e;omega
 rw[aih]at w;refine DC.cA (MP:=[.d (.str d.name),.d (.sl (ax d.ins)),.d (.sl (ax (d.outs.map wL))),.d (.sl []),.d (.sl []),.d (.int .i64 d.ps.1),.d (.int .i64 d.ps.2)]) 10 O (bY (bY (lJ (w.view (bD _)) (bY (bY (bY (bY (o7 _)))))))) ?_;have w:=w.drop;obtain⟨_,K5,l',⟨rfl,rfl⟩,w,f⟩:=Wk.call (a:=hY it b (b+1) (b+2) p ⟨r.s,r.m,[]⟩) (r:=[_]) (w.pick [1,2,3,4,0]) (u b (b+1) (b+2));rw[q,d.b.ah]at f;generalize iF p.aB true d.b r.s r.m=Q at w f m⊢;obtain⟨m2,s⟩:=Q
 dsimp only at w f m⊢
 have w:=w.pick [2,1,0];have Q5:(cg r.q).length+(cg s).length<=200000000:=by simp only[cg,ah8];omega
 refine Mo ?_;apply Mn
 .intro h k;refine TL.go ?_;refine cT w W W W W W W (dv _) (by omega)<|TL.au
 have j:=w.app (cg s);rw[<-fA]at j;obtain⟨mv,t⟩:=ij.open (j.pick [1,0,2]);refine DC.aR 7 W (j.view (dv _)) ?_;have Qs:=t.ob;refine Mo ?_;apply Mn
 .intro h k;refine TL.go ?_;refine m_ (cs:=[mv,.d (.sl (cg (r.q++s)))]) W W W (by simp only[jW];rw[(t.pick [1,0,2,3]).AA];rfl)<|aF W W<|aK W W W (fx _) W W<|TL.nil W
 refine DC.cA (MP:=[.d (.str d.name),.d (.sl (ax d.ins)),.d (.sl (ax (d.outs.map wL))),.d (.sl (ax m2.vars)),.d (.sl (cg (r.q++s))),.d (.int .i64 d.ps.1),.d (.int .i64 d.ps.2)]) 10 W (bY (bY (bY (lJ ((t.pick [1,0,2,3]).view (bD _)) (bY (bY (bY (o7 _)))))))) ?_;refine Mx ?_;exact DC.ret ⟨_,W,_,⟨W,W⟩,((t.drop).drop).drop⟩
end Go.Proofs.Pz
namespace Go.Ps
open Go.Mt Go.Sm
variable{r:R}{s:Sc}{n:Nat}{x:Nm}
abbrev TE:=Nm->Option (Int×Nm)
variable{T:TE}
def TE.ty(T:TE)(x:Nm):Int×Nm:=match T x with|some t=>t|none=>(0,⟨#[]⟩)
def TE.add(T:TE)(v:Va):TE:= λy=>if y=v.name then some (v.tk,v.tn)else T y
def dN(s:Sc)(T:TE):Prop:=∀x,(s.vars x).map (λb=>(b.tk,b.tn))=T x
def lc(T:TE)(n:Nat):Prop:=∃l:List Nm,l.length<=n/\∀x,(T x).isSome->x∈l
def lc.add(h:lc T n)(v:Va):lc (T.add v) (n+1):=by
 obtain⟨l,c,b⟩:=h;refine⟨v.name::l,by simp;omega,λx a=>?_⟩;unfold TE.add at a;split at a
 .rename_i e;rw[e];simp
 .exact ajb _ (b x a)
def lc.wM:∀(l:List Va) {T:TE} {n:Nat},lc T n->lc (l.foldl TE.add T) (n+l.length)
 |[],T,n,h=>h
 |v::l,T,n,h=>by
  have:=lc.wM l (h.add v);rw[aii,aia];have e:n+(l.length+1)=n+1+l.length:=by omega
  rw[e];exact this
def dN.ty(h:dN s T):s.vars.ty=T.ty:=by
 funext x
 have:=h x;unfold Env.ty TE.ty;rw[<-this];cases s.vars x<;>rfl
def dN.some(h:dN s T)(x:Nm):(s.vars x).isSome=(T x).isSome:=by
 rw[<-h x];cases s.vars x<;>rfl
def dN.LP(h:dN s T)(a:lc T n):CP s.vars n:=by
 obtain⟨l,b,c⟩:=a;exact⟨l,b,λx a=>c x (by rw[<-h.some];exact a)⟩
def dN.set(h:dN s T){b:Bd}(a:T x=Option.some (b.tk,b.tn)):dN {s with vars:=s.vars.set x b} T:=by
 intro y;show((Env.set s.vars x b) y).map _=_;unfold Env.set;by_cases e:y=x
 .rw[air e,e,a];rfl
 .rw[aid e];exact h y
def dN.cM(h:dN r.s T)(x:Nm):dN (cM r x).s T:=by
 unfold Go.Ps.cM;split
 .exact h
 .rename_i b a;split
  .exact h
  .exact h.set (by rw[<-h x,a];rfl)
def dN.pV:∀(l:List Nm) {r:R},dN r.s T->dN (l.foldl Go.Ps.cM r).s T
 |[],r,h=>h
 |x::l,r,h=>by rw[aii];exact dN.pV l (h.cM x)
def dN.vars{a:Sc}(h:dN s T)(e:a.vars=s.vars):dN a T:=by intro x;rw[e];exact h x
def dN.fZ(h:dN r.s T)(e:Xp):dN (cB r e).s T:=by
 unfold cB;exact(dN.pV _ h).vars (wG _ _)
def dN.val(h:dN r.s T)(e:Xp)(t:Int×Nm):dN (gM r e t).s T:=h.fZ e
def dN.arg:∀(l:List Xp) {r:R} {xs:List Xp} {T:TE},dN r.s T->dN (l.foldl fe (r,xs)).1.s T
 |[],r,xs,T,h=>h
 |e::l,r,xs,T,h=>by
  rw[aii];exact dN.arg l (r:=(fe (r,xs) e).1) (xs:=(fe (r,xs) e).2) (h.fZ e)
def dN.et(b:dN s T)(h:dN r.s T)(a:(T x).isSome):dN (et s r x).s T:=by
 unfold Go.Ps.et;refine h.set ?_;rw[b.ty];unfold TE.ty;cases e:T x with
 |none=>rw[e]at a;cases a
 |some t=>rfl
def dN.oM(a:dN s T):∀(l:List Nm) {r:R},(∀x∈l,(T x).isSome)->dN r.s T->dN (l.foldl (Go.Ps.et s) r).s T
 |[],r,_,h=>h
 |x::l,r,b,h=>by rw[aii];exact dN.oM a l (λy a=>b y (by simp[a])) (a.et h (b x (by simp)))
def Ew(p:Int×Int)(r:R)(x:Nm):(fv p r x).s.vars=r.s.vars:=by unfold fv;rw[lL]
def qU(p:Int×Int):∀(l:List Nm) (r:R),(l.foldl (fv p) r).s.vars=r.s.vars
 |[],r=>rfl
 |x::l,r=>by rw[aii,qU p l,Ew]
def dN.bind(a:Bool)(h:dN r.s T)(v:Va):dN (dt a r v).s (T.add v):=by
 intro y;show((Env.set r.s.vars v.name _) y).map _=_;unfold Env.set TE.add;by_cases e:y=v.name
 .rw[air e,air e];rfl
 .rw[aid e,aid e];exact h y
def dN.binds(a:Bool):∀(l:List Va) {r:R} {T:TE},dN r.s T->dN (l.foldl (dt a) r).s (l.foldl TE.add T)
 |[],r,T,h=>h
 |v::l,r,T,h=>by rw[aii,aii];exact dN.binds a l (h.bind a v)
def wN(r:R)(v:Va)(n:Nm):(iO r v n).s.vars=r.s.vars:=by unfold iO;split<;>rfl
def CU(r:R)(v:Va):(dU r v).s.vars=r.s.vars:=by unfold dU;rw[wN]
def wO:∀(l:List Va) (r:R),(l.foldl dU r).s.vars=r.s.vars
 |[],r=>rfl
 |x::l,r=>by rw[aii,wO l,CU]
def dN.open(b:Bool)(h:dN r.s T)(a:List Va):dN (je b r a).s (a.foldl TE.add T):=
 (dN.pV _ (h.binds b a)).vars (wO _ _)
def bu.gL{a:R}{i j:Nat}(h:bu r a i)(b:i<=j):bu r a j:=⟨h.ck,h.sc,by have:=h.n;omega,by have:=h.vs;omega,by have:=h.q;omega⟩
def bu.et(h:eg r.s)(s:Sc)(x:Nm):bu r (et s r x) 1:=
 ⟨rfl,⟨h.v.set x (ah9 _),h.l,h.n⟩,ah9 _,by simp[Go.Ps.et,MS.fresh],ajR _⟩
def bu.oM(s:Sc):∀(l:List Nm) {r:R},eg r.s->bu r (l.foldl (Go.Ps.et s) r) l.length
 |[],r,h=>.refl h
 |x::l,r,h=>by
  have a:=bu.et h s x;have:=a.trans (bu.oM s l a.sc);rw[aj5]at this;exact this
def bu.fv(h:eg r.s)(p:Int×Int)(x:Nm):bu r (fv p r x) 2:=by
 have a:=bu.fm h x;exact⟨a.ck,a.sc,by have:=a.n;unfold Go.Ps.fv;dsimp only;omega,by have:=a.vs;unfold Go.Ps.fv;dsimp only;omega,by have:=a.q;unfold Go.Ps.fv;simp only[ah6,aik];omega⟩
def bu.Ey(p:Int×Int):∀(l:List Nm) {r:R},eg r.s->bu r (l.foldl (Go.Ps.fv p) r) (l.length+l.length)
 |[],r,h=>.refl h
 |x::l,r,h=>by
  have a:=bu.fv h p x;have:=a.trans (bu.Ey p l a.sc);rw[aii,aia];exact this.gL (by omega)
def bu.open(h:eg r.s)(c:Bool)(a:List Va):bu r (je c r a) (3*a.length+(a.flatMap mF).length):=by
 have b:=bu.binds c a h;have c:=bu.pV (a.flatMap mF) b.sc;exact((b.trans c).trans (bu.decls a c.sc)).gL (by omega)
abbrev eu(c:Nm)(all:List Nm)(n:Nm)(r:R):R:=all.foldl (et r.s) ⟨⟨r.s.vars,r.s.aO,r.s.ck++[(n,c)]⟩,r.m,r.q⟩
abbrev eZ(all:List Nm)(b:bF)(p:Int×Int)(i0:R):R:=(all.filter λx=> !(cW (cy b) x)).foldl (fv p) i0
def eg.more(h:eg s)(o:Nm×Nm)(a:s.ck.length<1000000):eg ⟨s.vars,s.aO,s.ck++[o]⟩:=
 ⟨λx b a=>by have:=h.v x b a;simp;omega,λx b a=>by have:=h.l x b a;simp;omega,by simp;omega⟩
def bu.kq(h:eg r.s)(d:r.s.ck.length<1000000)(c:Nm)(all:List Nm)(n:Nm)(b:bF)(p:Int×Int):
  bu ⟨⟨r.s.vars,r.s.aO,r.s.ck++[(n,c)]⟩,r.m,r.q⟩ (eZ all b p (eu c all n r)) (3*all.length):=by
 have a:=bu.oM r.s all (r:=⟨⟨r.s.vars,r.s.aO,r.s.ck++[(n,c)]⟩,r.m,r.q⟩) (h.more _ d);have d:=ajY (λx=> !(cW (cy b) x)) all;exact(a.trans (bu.Ey p (all.filter λx=> !(cW (cy b) x)) a.sc)).gL (by omega)
mutual
def iG:bF->Nat
 |.mk a b=>4*a.length+(a.flatMap mF).length+gj b
def gj:List aD->Nat
 |[]=>0
 |q::l=>mG q+gj l
def mG:aD->Nat
 |.mk _ b _ c _ e a _=>2+2*bJ e+2*aP c+b.length+c.length+(aQ b a).length+fP (aQ b a).length a
def fP(n:Nat):List aH->Nat
 |[]=>0
 |.mk _ b _ _ _::l=>1+3*n+iG b+fP n l
end
mutual
def ju:bF->Nat
 |.mk _ a=>eM a
def eM:List aD->Nat
 |[]=>0
 |q::l=>max (nO q) (eM l)
def nO:aD->Nat
 |.mk _ _ _ _ _ _ a _=>dP a
def dP:List aH->Nat
 |[]=>0
 |.mk _ b _ _ _::l=>max (1+ju b) (dP l)
end
section
variable(en:List En)
mutual
def z7(T:TE):bF->Prop
 |.mk a b=>(∀v∈a,v.clock.length<=1000)/\a.length<=100000/\b.length<=1000000/\lk (a.foldl TE.add T) b
def lk(T:TE):List aD->Prop
 |[]=>True
 |q::l=>CV T q/\lk T l
def CV(T:TE):aD->Prop
 |.mk k b _ c _ e a _=>fG e/\(∀a∈c,fG a)/\(bJ e<=400000/\aP c<=400000/\b.length<=400000/\c.length<=400000)/\(k=1\/k=2\/(k=5/\a≠[])\/(k=3/\oL en T.ty (λx=>(T x).isSome=true) e/\(∀x∈aQ b a,(T x).isSome=true)/\a.length<=1000/\(∀b∈a,zP b.aT)/\b.length+kn a<=1000000/\b.Nodup))/\kF T a
def kF(T:TE):List aH->Prop
 |[]=>True
 |.mk _ b _ _ _::l=>z7 T b/\kF T l
end
structure Mg(a:Bool)(b:bF)(s:Sc)(m:MS):Prop where
 n:(iF en a b s m).1.n<=m.n+iG b
 vs:(iF en a b s m).1.vars.length<=m.vars.length+iG b
 q:(iF en a b s m).2.length<=iG b
mutual
def xx:∀(b:bF) (a:Bool) (s:Sc) (m:MS) (T:TE),eg s->dN s T->z7 en T b->s.ck.length+ju b<=100000->Mg en a b s m
 |.mk a o,d,s,m,T,h,i,e,f=>by
  rw[z7]at e;rw[ju]at f;have c:=bu.open (r:=⟨s,m,[]⟩) h d a;obtain⟨j,_⟩:=yL o (je d ⟨s,m,[]⟩ a) (a.foldl TE.add T) c.sc (dN.open (r:=⟨s,m,[]⟩) d i a) e.2.2.2 (by rw[c.ck];exact f);have g:=c.trans j;have k:=g.n;have l:=g.vs;have n:=g.q
  dsimp only[List.length_nil]at k l n
  constructor<;>rw[iF,iG]<;>dsimp only<;>omega
def yL:∀(l:List aD) (r:R) (T:TE),eg r.s->dN r.s T->lk en T l->r.s.ck.length+eM l<=100000->bu r (gD en l r) (gj l)/\dN (gD en l r).s T
 |[],r,T,a,b,c,d=>by rw[gD,gj];exact⟨.refl a,b⟩
 |q::l,r,T,c,d,a,e=>by
  rw[lk]at a;rw[eM]at e;rw[gD,gj];obtain⟨b,f⟩:=FK q r T c d a.1 (by omega);obtain⟨g,h⟩:=yL l (iP en q r) T b.sc f a.2 (by rw[b.ck];omega);exact⟨b.trans g,h⟩
def FK:∀(q:aD) (r:R) (T:TE),eg r.s->dN r.s T->CV en T q->r.s.ck.length+nO q<=100000->bu r (iP en q r) (mG q)/\dN (iP en q r).s T
 |.mk k d z s y e a A,r,T,f,i,p,l=>by
  rw[CV]at p;rw[nO]at l;rw[iP,mG];obtain⟨B,C,_,u,q⟩:=p;by_cases m:k=1
  .rw[air m]
   dsimp only
   have g:=bu.fZ f e;exact⟨⟨g.ck,g.sc,by have:=g.n;dsimp only;omega,by have:=g.vs;dsimp only;omega,by have:=g.q;simp only[ah6,aik];omega⟩,i.fZ e⟩
  rw[aid m];by_cases n:k=2
  .rw[air n]
   dsimp only
   obtain⟨g,D⟩:=bu.args s (r:=r) [] f;have h:=dN.arg s (xs:=[]) i;cases y with
   |true=>
    simp only[ajL];have b:=g.trans (bu.fZ g.sc e);exact⟨⟨b.ck,b.sc,by have:=b.n;dsimp only;omega,by have:=b.vs;dsimp only;omega,by have:=b.q;simp only[ah6,aik];omega⟩,h.fZ e⟩
   |false=>
    simp only[ai2,aju];exact⟨⟨g.ck,g.sc,by have:=g.n;dsimp only;omega,by have:=g.vs;dsimp only;omega,by have:=g.q;simp only[ah6,aik];omega⟩,h⟩
  rw[aid n];by_cases o:k=5
  .rw[air o]
   dsimp only
   have g:=bu.val f e (1,⟨#[]⟩);have t:=i.val e (1,⟨#[]⟩);have b:=JX a (gM r e (1,⟨#[]⟩)).s (gM r e (1,⟨#[]⟩)).m T g.sc t q (by rw[g.ck];exact l) (aQ d a).length;exact⟨⟨g.ck,g.sc,by have:=g.n;have:=b.1;dsimp only;omega,by have:=g.vs;have:=b.2;dsimp only;omega,by have:=g.q;simp only[ah6,aik];omega⟩,t⟩
  rw[aid o];obtain⟨_,_,v,_⟩:k=3/\oL en T.ty (λx=>(T x).isSome=true) e/\(∀x∈aQ d a,(T x).isSome=true)/\a.length<=1000/\(∀b∈a,zP b.aT)/\d.length+kn a<=1000000/\d.Nodup:=by
   rcases u with h|h|⟨h,_⟩|h
   .exact absurd h m
   .exact absurd h n
   .exact absurd h o
   .exact h
  dsimp only
  have g:=bu.val f e (dG en r.s.vars.ty e);have t:=i.val e (dG en r.s.vars.ty e);generalize gM r e (dG en r.s.vars.ty e)=j at g t⊢;obtain⟨w,x⟩:=qV a (nV j.m.n) (aQ d a) ⟨j.s,j.m,j.q⟩ [] T g.sc t v q (by dsimp only;rw[g.ck];exact l);have c:=g.trans w;refine⟨⟨c.ck,c.sc,by have:=c.n;dsimp only;omega,by have:=c.vs;dsimp only;omega,by have:=c.q;simp only[ah6,ah8,aj0];omega⟩,?_⟩;rw[x];exact t
def JX:∀(l:List aH) (s:Sc) (m:MS) (T:TE),eg s->dN s T->kF en T l->s.ck.length+dP l<=100000->∀n,(zQ en l s m).1.n<=m.n+fP n l/\(zQ en l s m).1.vars.length<=m.vars.length+fP n l
 |[],s,m,T,a,c,d,e,n=>by rw[zQ.eq_def,fP];exact⟨ah9 _,ah9 _⟩
 |.mk f b u w p::l,s,m,T,c,d,a,e,n=>by
  rw[kF]at a;rw[dP]at e;have g:=xx b false s m T c d a.1 (by omega);rw[zQ.eq_def,fP];have:=g.n;have:=g.vs
  dsimp only
  constructor<;>omega
def qV:∀(l:List aH) (c:Nm) (all:List Nm) (r:R) (a:List (List Nm)) (T:TE),eg r.s->dN r.s T->(∀x∈all,(T x).isSome=true)->kF en T l->r.s.ck.length+dP l<=100000->
  bu r (c7 en c all l r a).1 (fP all.length l)/\(c7 en c all l r a).1.s=r.s
 |[],c,all,r,d,T,a,e,f,g,h=>by rw[kE,fP];exact⟨.refl a,W⟩
 |.mk n b z A p::l,c,all,r,o,T,j,f,k,g,q=>by
  rw[kF]at g;rw[dP]at q;rw[kp,fP]
  dsimp only
  have a:=bu.kq (r:=r) j (by omega) c all n b p;have h:dN (eZ all b p (eu c all n r)).s T:=(dN.oM f all (r:=⟨⟨r.s.vars,r.s.aO,r.s.ck++[(n,c)]⟩,r.m,r.q⟩) k (f.vars W)).vars (qU _ _ _)
  dsimp only[eu,eZ]at a h
  generalize (all.filter λx=> !(cW (cy b) x)).foldl (fv p) (all.foldl (et r.s) ⟨⟨r.s.vars,r.s.aO,r.s.ck++[(n,c)]⟩,r.m,r.q⟩)=d at a h⊢;have i:=xx b false d.s d.m T a.sc h g.1 (by rw[a.ck];simp only[ah6,aik];omega);have s:=a.n;have t:=a.vs;have u:=a.q;have B:=i.n;have C:=i.vs;have D:=i.q
  dsimp only at s t u
  obtain⟨e,v⟩:=qV l c all ⟨r.s,(iF en false b d.s d.m).1,d.q++(iF en false b d.s d.m).2⟩ (o++[all.map (all.foldl (et r.s) ⟨⟨r.s.vars,r.s.aO,r.s.ck++[(n,c)]⟩,r.m,r.q⟩).s.vars.nm]) T j f k g.2 (by dsimp only;omega);have w:=e.n;have y:=e.vs;have m:=e.q
  dsimp only at w y m
  rw[ah6]at m;exact⟨⟨e.ck,e.sc,by omega,by omega,by omega⟩,v⟩
end
end
end Go.Ps
namespace Go.Ps
open Go.Mt Go.Sm
variable{n i:Nat}{B:List M}
abbrev Mr:=(List Nm×List Nm)×(M×M)
variable{x:Mr}{l a b:List Mr}
def jz(c:Nm)(p:Int×Int)(x:Mr):List M:=[.d (.int .u8 13),.d (.int .u8 0),.d (.int .i32 0),.d (.str c),x.2.1,x.2.2,.d (.int .i64 p.1),.d (.int .i64 p.2)]
def eS(l:List Nm):List (List D):=l.map λv=>(aZ v).cells
def li(x:Mr):List As:=[.acc 1 (aE x.1.1) x.2.1,.own 8 (eS x.1.2) x.2.2]
def ew(c:Nm)(p:Int×Int)(l:List Mr):List M:=l.flatMap (jz c p)
def oc(i:Nat)(c:Nm)(p:Int×Int)(l:List Mr):As:=Sep (.ob i (.row false 8 0 (ew c p l))::l.flatMap li)
def qW(c:Nm)(p:Int×Int)(l:List Mr):(ew c p l).length=l.length*8:=by
 induction l with
 |nil=>rfl
 |cons x l a=>simp only[ew,ajS,ah6,aia]at a⊢;rw[a];simp[jz];omega
def o_(c:Nm)(p:Int×Int)(a b:List Mr):ew c p (a++b)=ew c p a++ew c p b:=by simp[ew]
def CW(c:Nm)(p:Int×Int)(a b:List Mr)(x:Mr){k:Nat}(d:k<8):(ew c p (a++x::b))[a.length*8+k]?=(jz c p x)[k]?:=by
 have e:ew c p (x::b)=jz c p x++ew c p b:=by simp[ew]
 rw[o_,e,aix (by rw[qW];omega),qW,aim (by simp[jz];omega)]
 congr 1;omega
def xy{a b new iW:List M}{off:Nat}(c:off=a.length)(d:new.length=iW.length):dH (a++iW++b) off new=some (a++new++b):=by
 subst c;unfold dH;rw[aiF (by simp;omega),aiP,d];simp
def pa(c:Nm)(p:Int×Int)(x:Mr)(b:List Mr):ew c p (x::b)=jz c p x++ew c p b:=by simp[ew]
def ID(c:Nm)(p:Int×Int)(a b:List Mr)(x:Mr)(y:List Nm×List Nm)(m:M):dH (ew c p (a++x::b)) (a.length*8+4) [m]=some (ew c p (a++(y,(m,x.2.2))::b)):=by
 rw[o_,o_,pa,pa];have d:ew c p a++(jz c p x++ew c p b)=(ew c p a++[.d (.int .u8 13),.d (.int .u8 0),.d (.int .i32 0),.d (.str c)])++[x.2.1]++([x.2.2,.d (.int .i64 p.1),.d (.int .i64 p.2)]++ew c p b):=by simp[jz]
 have e:ew c p a++(jz c p (y,(m,x.2.2))++ew c p b)=(ew c p a++[.d (.int .u8 13),.d (.int .u8 0),.d (.int .i32 0),.d (.str c)])++[m]++([x.2.2,.d (.int .i64 p.1),.d (.int .i64 p.2)]++ew c p b):=by simp[jz]
 rw[d,e];exact xy (by simp[qW]) W
def CX(c:Nm)(p:Int×Int)(a b:List Mr)(x:Mr)(y:List Nm×List Nm)(m:M):dH (ew c p (a++x::b)) (a.length*8+5) [m]=some (ew c p (a++(y,(x.2.1,m))::b)):=by
 rw[o_,o_,pa,pa];have d:ew c p a++(jz c p x++ew c p b)=(ew c p a++[.d (.int .u8 13),.d (.int .u8 0),.d (.int .i32 0),.d (.str c),x.2.1])++[x.2.2]++([.d (.int .i64 p.1),.d (.int .i64 p.2)]++ew c p b):=by simp[jz]
 have e:ew c p a++(jz c p (y,(x.2.1,m))++ew c p b)=(ew c p a++[.d (.int .u8 13),.d (.int .u8 0),.d (.int .i32 0),.d (.str c),x.2.1])++[m]++([.d (.int .i64 p.1),.d (.int .i64 p.2)]++ew c p b):=by simp[jz]
 rw[d,e];exact xy (by simp[qW]) W
section
variable{F0:Nat->Prop}{H0 H:Hp}{r:List As}{i:Nat}{c:Nm}{p:Int×Int}
def oc.open(w:Wk F0 H0 (oc i c p (a++x::b)::r) H):
  Wk F0 H0 (.ob i (.row false 8 0 (ew c p (a++x::b))):: .acc 1 (aE x.1.1) x.2.1:: .own 8 (eS x.1.2) x.2.2::Sep (a.flatMap li++b.flatMap li)::r) H:=by
 have d:((As.ob i (.row false 8 0 (ew c p (a++x::b)))::(a++x::b).flatMap li)++r).Perm ((a.flatMap li++b.flatMap li)++(.ob i (.row false 8 0 (ew c p (a++x::b))):: .acc 1 (aE x.1.1) x.2.1:: .own 8 (eS x.1.2) x.2.2::r)):=by
  rw[ajT,ajS];have e:li x=[.acc 1 (aE x.1.1) x.2.1,.own 8 (eS x.1.2) x.2.2]:=rfl;rw[e];simp only[aiA,ai0,aiK];refine(aiW).symm.trans<|ak7 _ ?_;have d:∀(u v w:As) (l:List As),(u::v::w::(l++r)).Perm (l++u::v::w::r):=by
   intro u v w l;refine(List.Perm.cons u (List.Perm.cons v (aiW).symm)).trans<|(List.Perm.cons u (aiW).symm).trans<|(aiW).symm
  exact d _ _ _ _
 have f:=(Wk.split (a:=.ob i (.row false 8 0 (ew c p (a++x::b)))::(a++x::b).flatMap li) w).perm d;exact(Oa (a:=a.flatMap li++b.flatMap li) f).perm (by
  refine(List.Perm.swap _ _ _).trans<|List.Perm.cons _<|(List.Perm.swap _ _ _).trans<|List.Perm.cons _<|List.Perm.swap _ _ _)
def oc.close(w:Wk F0 H0 (.ob i (.row false 8 0 (ew c p (a++x::b))):: .acc 1 (aE x.1.1) x.2.1:: .own 8 (eS x.1.2) x.2.2::Sep (a.flatMap li++b.flatMap li)::r) H):
  Wk F0 H0 (oc i c p (a++x::b)::r) H:=by
 have d:=w.perm (by
  refine(List.Perm.cons _ (List.Perm.cons _ (List.Perm.swap _ _ _))).trans<|(List.Perm.cons _ (List.Perm.swap _ _ _)).trans<|List.Perm.swap _ _ _)
 refine Oa (a:=.ob i (.row false 8 0 (ew c p (a++x::b)))::(a++x::b).flatMap li) ((Wk.split d).perm ?_);rw[ajT,ajS];have e:li x=[.acc 1 (aE x.1.1) x.2.1,.own 8 (eS x.1.2) x.2.2]:=rfl;rw[e];simp only[aiA,ai0,aiK];refine List.Perm.symm<|(aiW).symm.trans<|ak7 _ ?_;have d:∀(u v w:As) (l:List As),(u::v::w::(l++r)).Perm (l++u::v::w::r):=by
  intro u v w l;refine(List.Perm.cons u (List.Perm.cons v (aiW).symm)).trans<|(List.Perm.cons u (aiW).symm).trans<|(aiW).symm
 exact d _ _ _ _
abbrev qX:Mr:=(([],[]),(.d (.sl []),.d (.sl [])))
def oc.init(n:Nat)(w:Wk F0 H0 (.ob i (.row false 8 0 (ew c p (List.replicate n qX)))::r) H):Wk F0 H0 (oc i c p (List.replicate n qX)::r) H:=by
 have d:∀(n:Nat) {l:List As},Wk F0 H0 l H->Wk F0 H0 ((List.replicate n qX).flatMap li++l) H:=by
  intro n
  induction n with
  |zero=>intro l w;exact w
  |succ n b=>
   intro l w;rw[List.replicate_succ,ajS];exact((b w).LI 8).nil 1
 refine Oa (a:=.ob i (.row false 8 0 (ew c p (List.replicate n qX)))::(List.replicate n qX).flatMap li) ((d n w).perm ?_);exact aiW
end
def CY{z:List D}(c:z.length=n)(g:0<n):∀len,fQ n len z=aM (List.replicate len z):=by
 intro len
 induction len with
 |zero=>simp[fQ,aM]
 |succ k d=>
  have f:aM (List.replicate (k+1) z)=aM (List.replicate k z)++z.map M.d:=by
   rw[List.replicate_succ'];simp[aM]
  rw[f,<-d];unfold fQ;rw[ajt,List.range_add,aio]
  congr 1
  rw[akA];apply akl
  .simp[c]
  .intro i a b;simp only[ah8,aj0]at a;simp only[aj6,List.getElem_range,Function.comp]
   congr 1
   have e:(k*n+i)%z.length=i:=by rw[c,aj5,Nat.add_mul_mod_self_right,Nat.mod_eq_of_lt a]
   rw[e];simp[List.getD_eq_getElem?_getD,c,a]
def IE{α β:Type}{G a:List α}{l:List (α×β)}(b:l.map Prod.fst=a.take i++G.drop i)(c:a.length=G.length)(hi:i<G.length):
  ∃b y c,l=b++(G[i],y)::c/\b.length=i/\∀d,(b++(a[i]'(by omega),d)::c).map Prod.fst=a.take (i+1)++G.drop (i+1):=by
 have c:l.length=G.length:=by
  have:=ajj List.length b;simp only[ah8,ah6,ait,akp]at this;omega
 have c:i<l.length:=by omega
 have d:l=l.take i++l[i]::l.drop (i+1):=by rw[akX c,ai3]
 have e:l[i].1=G[i]:=by
  have:(l.map Prod.fst)[i]?=(a.take i++G.drop i)[i]?:=by rw[b]
  rw[aix (by rw[ait];omega),ait,ajw (by omega),ajy]at this;simp[c,hi]at this;exact this
 have c:l.map Prod.fst=(l.take i).map Prod.fst++l[i].1::(l.drop (i+1)).map Prod.fst:=by
  have:=ajj (List.map Prod.fst) d;rw[aio,aiq]at this;exact this
 have c:(l.take i).map Prod.fst=a.take i:=by
  have:=ajj (List.take i) b;rw[<-ala,aks (by rw[ait];omega),List.take_take,Nat.min_self]at this;exact this
 have a:(l.drop (i+1)).map Prod.fst=G.drop (i+1):=by
  have:=ajj (List.drop (i+1)) b;rw[<-List.map_drop,akO,ait,ajw (by omega)]at this;rw[this,akU (by rw[ait];omega),aiK,List.drop_drop]
  congr 1;omega
 refine⟨l.take i,l[i].2,l.drop (i+1),?_,by rw[ait];omega,λb=>?_⟩
 .rw[<-e];exact d
 .rw[aio,aiq,c,a,ah5 (by omega),ai0];rfl
def uA(s:Sc)(y:Nm):∀(l:List Nm) (r:R),y∉l->(l.foldl (et s) r).s.vars y=r.s.vars y
 |[],r,_=>rfl
 |x::l,r,h=>by
  rw[aii,uA s y l _ (λe=>h (by simp[e]))];show(Env.set r.s.vars x _) y=_;unfold Env.set;rw[aid (λe=>h (by simp[e]))]
def CZ(s:Sc):∀(l:List Nm) (r:R),(l.foldl (et s) r).m.n=r.m.n+l.length
 |[],r=>rfl
 |x::l,r=>by rw[aii,CZ s l];simp[et,MS.fresh];omega
def AL(s:Sc):∀(l:List Nm) (r:R) (i:Nat) (h:i<l.length),l.Nodup->(l.foldl (et s) r).s.vars.nm l[i]=nV (r.m.n+i+1)
 |[],r,i,h,_=>by simp at h
 |x::l,r,0,h,a=>by
  rw[ajk]at a;rw[aii];unfold Env.nm;rw[ajv,uA s x l _ a.1];show(match(Env.set r.s.vars x _) x with|some b=>b.name|none=>_)=_;unfold Env.set;rw[air W]
 |x::l,r,i+1,h,a=>by
  rw[ajk]at a;rw[aii,ajg,AL s l _ i (by simpa using h) a.2];have:(et s r x).m.n=r.m.n+1:=rfl;rw[this];have e:r.m.n+1+i+1=r.m.n+(i+1)+1:=by omega
  rw[e]
def Ez(s:Sc)(l:List Nm)(r:R)(c:l.Nodup):l.map (l.foldl (et s) r).s.vars.nm=(List.range l.length).map λi=>nV (r.m.n+i+1):=by
 apply akl
 .simp
 .intro i a b;simp only[ah8]at a;rw[aj6,AL s l r i a c,aj6,List.getElem_range]
def C0{l:List Nm}(h:l.Nodup)(x:Nm):(bt l x).Nodup:=by
 unfold bt;split
 .exact h
 .rename_i d;rw[ajP];refine⟨h,by simp,λc e b a=>?_⟩;rw[aiR]at a;rintro rfl;apply d;rw[cW,ajr];exact⟨c,e,by simp[a]⟩
def oy:∀(r:List Nm) {l:List Nm},l.Nodup->(r.foldl bt l).Nodup
 |[],l,h=>h
 |x::r,l,h=>by rw[aii];exact oy r (C0 h x)
def sv:∀(ai:List aH) {l:List Nm},l.Nodup->(aQ l ai).Nodup
 |[],l,h=>by rw[aQ];exact h
 |a::ai,l,h=>by rw[aQ];exact sv ai (oy _ h)
abbrev zX:List D:=[.int .u8 0,.int .u8 0,.int .i32 0,.str ⟨#[]⟩,.sl [],.sl [],.int .i64 0,.int .i64 0]
def IF(c:Nm)(p:Int×Int)(hi:i<n):dH (ew c p (List.replicate i qX)++aM (List.replicate (n-i) zX)) (i*8) (jz c p qX)=some (ew c p (List.replicate (i+1) qX)++aM (List.replicate (n-(i+1)) zX)):=by
 have a:n-i=(n-(i+1))+1:=by omega
 have b:aM (List.replicate (n-i) zX)=zX.map M.d++aM (List.replicate (n-(i+1)) zX):=by rw[a,List.replicate_succ];simp[aM]
 have a:ew c p (List.replicate (i+1) qX)=ew c p (List.replicate i qX)++jz c p qX:=by rw[List.replicate_succ',o_];simp[ew]
 rw[b,a,<-ai0];exact xy (by simp[qW]) W
def z8(i:Nat)(c:Nm)(p:Int×Int)(k:Nat)(l:List Mr):As:=.ex λA:List M=>Sep (.fact (A.length=k*8):: .ob i (.row false 8 0 (A++ew c p l))::l.flatMap li)
section
variable{F0:Nat->Prop}{H0 H:Hp}{r:List As}{i k:Nat}{c:Nm}{p:Int×Int}
def z8.start(w:Wk F0 H0 (oc i c p l::r) H):Wk F0 H0 (z8 i c p 0 l::r) H:=by
 refine OH (φ:= λA:List M=>Sep (.fact (A.length=0*8):: .ob i (.row false 8 0 (A++ew c p l))::l.flatMap li)) ([]:List M)<|Oa (a:=.fact (([]:List M).length=0*8):: .ob i (.row false 8 0 ([]++ew c p l))::l.flatMap li) ((Wk.split (a:=.ob i (.row false 8 0 (ew c p l))::l.flatMap li) w).Ar W)
def z8.open(w:Wk F0 H0 (z8 i c p k (x::l)::r) H):∃A:List M,A.length=k*8/\
  Wk F0 H0 (.ob i (.row false 8 0 (A++(jz c p x++ew c p l))):: .acc 1 (aE x.1.1) x.2.1:: .own 8 (eS x.1.2) x.2.2::Sep (l.flatMap li)::r) H:=by
 obtain⟨A,w⟩:=Wk.open w;have w:=Wk.split w;refine⟨A,w.Cu,?_⟩;have w:=w.drop;rw[pa]at w;have e:(x::l).flatMap li=.acc 1 (aE x.1.1) x.2.1:: .own 8 (eS x.1.2) x.2.2::l.flatMap li:=by simp[li]
 rw[e]at w;have a:Wk F0 H0 (l.flatMap li++(.ob i (.row false 8 0 (A++(jz c p x++ew c p l))):: .acc 1 (aE x.1.1) x.2.1:: .own 8 (eS x.1.2) x.2.2::r)) H:=by
  refine w.perm ?_;have b:∀(u v w:As) (l:List As),((u::v::w::l)++r).Perm (l++u::v::w::r):=by
   intro u v w l;simp only[aiA];refine(List.Perm.cons u (List.Perm.cons v (aiW).symm)).trans<|(List.Perm.cons u (aiW).symm).trans<|(aiW).symm
  exact b _ _ _ _
 exact(Oa a).perm ((List.Perm.swap _ _ _).trans (List.Perm.cons _ ((List.Perm.swap _ _ _).trans (List.Perm.cons _ (List.Perm.swap _ _ _)))))
def z8.close(b:B.length=k*8)(w:Wk F0 H0 (.ob i (.row false 8 0 (B++ew c p l))::Sep (l.flatMap li)::r) H):Wk F0 H0 (z8 i c p k l::r) H:=by
 refine OH (φ:= λA:List M=>Sep (.fact (A.length=k*8):: .ob i (.row false 8 0 (A++ew c p l))::l.flatMap li)) B<|Oa (a:=.fact (B.length=k*8):: .ob i (.row false 8 0 (B++ew c p l))::l.flatMap li) (Wk.Ar b ?_);exact(Wk.split (w.perm (List.Perm.swap _ _ _))).perm aiW
end
def IG{H:Hp}{c:Nm}{p:Int×Int}{A:List M}{a b:List (List D)}(f:ep H x.2.1=some (.sl a))(i:ep H x.2.2=some (.sl b)):
  (A++(jz c p (x.1,(.d (.sl a),.d (.sl b)))++B)).length=(A++(jz c p x++B)).length/\∀(k:Nat) e,(A++(jz c p (x.1,(.d (.sl a),.d (.sl b)))++B))[k]?=some e->(A++(jz c p x++B))[k]?=some e\/∃m d,(A++(jz c p x++B))[k]?=some m/\ep H m=some d/\e=.d d:=by
 refine⟨by simp[jz],λk l e=>?_⟩;rcases ais k A.length with h|h
 .rw[aim h]at e⊢;exact .inl e
 .rw[aix h]at e⊢;generalize k-A.length=j at e;rcases ais j 8 with g|g
  .rw[aim (by simpa [jz] using g)]at e⊢
   match j,g with
   |0,_=>exact .inl e
   |1,_=>exact .inl e
   |2,_=>exact .inl e
   |3,_=>exact .inl e
   |4,_=>exact .inr ⟨x.2.1,.sl a,W,f,by simpa [jz] using e.symm⟩
   |5,_=>exact .inr ⟨x.2.2,.sl b,W,i,by simpa [jz] using e.symm⟩
   |6,_=>exact .inl e
   |7,_=>exact .inl e
  .rw[aix (by simpa [jz] using g)]at e⊢;exact .inl e
end Go.Ps
