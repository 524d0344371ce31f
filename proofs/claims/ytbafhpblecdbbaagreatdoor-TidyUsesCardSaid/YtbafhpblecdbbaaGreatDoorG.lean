/- A part of the proof of the last text of this claim, without conditions. -/
import Derived.Test.YtbafhpblecdbbaaGreatDoorF
set_option maxRecDepth 4000
set_option linter.all false
namespace Go.Ps
open Go.Mt Go.Sm
def AM(en:List En)(c:Nm)(all:List Nm):∀(a b:List aH) (r:R) (d:List (List Nm)),c7 en c all (a++b) r d=c7 en c all b (c7 en c all a r d).1 (c7 en c all a r d).2
 |[],b,r,d=>by rw[kE];rfl
 |.mk n e u w p::a,b,r,d=>by rw[aiA,kp,kp];exact AM en c all a b _ _
def EA(en:List En)(c:Nm)(all:List Nm)(l:List aH)(a:aH)(r:R)(d:List (List Nm)):c7 en c all (l++[a]) r d=
  (⟨(c7 en c all l r d).1.s,(iF en false a.aT (eZ all a.aT a.ps (eu c all a.name (c7 en c all l r d).1)).s (eZ all a.aT a.ps (eu c all a.name (c7 en c all l r d).1)).m).1,
   (eZ all a.aT a.ps (eu c all a.name (c7 en c all l r d).1)).q++(iF en false a.aT (eZ all a.aT a.ps (eu c all a.name (c7 en c all l r d).1)).s (eZ all a.aT a.ps (eu c all a.name (c7 en c all l r d).1)).m).2⟩,
  (c7 en c all l r d).2++[all.map (eu c all a.name (c7 en c all l r d).1).s.vars.nm]):=by
 rw[AM];cases a with|mk n b u w p=>
 rw[kp,kE];rfl
def yM(en:List En)(c:Nm)(all:List Nm):∀(l:List aH) (r:R) (a:List (List Nm)),(c7 en c all l r a).2.length=a.length+l.length
 |[],r,a=>by rw[kE];rfl
 |.mk n b u w p::l,r,a=>by rw[kp,yM en c all l];simp;omega
def EB(l:List Nm):∀r∈eS l,r.length=8:=by intro r a;simp only[eS,aij]at a;obtain⟨v,_,rfl⟩:=a;rw[Xp.ah];rfl
def yN(n:Nat)(ns:List Nm)(a:List (List Nm)):List (List Nm×List Nm):=(List.range n).map λj=>(ns,a.map λv=>v[j]?.getD ⟨#[]⟩)
def uB(n:Nat)(ns:List Nm)(a:List (List Nm)):(yN n ns a).length=n:=by simp[yN]
def yO(n:Nat)(ns:List Nm)(a:List (List Nm)){j:Nat}(h:j<(yN n ns a).length):(yN n ns a)[j]=(ns,a.map λv=>v[j]?.getD ⟨#[]⟩):=by simp[yN]
def yP(s:Sc):∀(l:List Nm) (r:R),(l.foldl (et s) r).q=r.q/\(l.foldl (et s) r).s.aO=r.s.aO/\(l.foldl (et s) r).s.ck=r.s.ck
 |[],r=>⟨rfl,rfl,rfl⟩
 |x::l,r=>by rw[aii];exact yP s l _
end Go.Ps
namespace Go.Proofs.Pz
open Go.Mt Go.Sm Go.Ps Go.Proofs
open Tryz
def pW(it f iv t:Nat)(p:Pg)(Nw:k8 p.aB)(s:Sc)(m:MS)(q:aD)(h3:q.kd=3)(hs:eg s)(NL:fG q.ex)(Ny:oL p.aB s.vars.ty (λx=>(s.vars x).isSome=true) q.ex)(R':CP s.vars 10000000)
  (N5:q.ai.length<=1000) (NE:∀a∈q.ai,zP a.aT) (Ws:qe q<=1000000) (Qo:(bX q).Nodup) (NF:(bX q).length<=1000000) (NR:s.ck.length<100000)
  (Pf:bJ q.ex<=400000) (hn:m.n+bJ q.ex+bJ q.ex+1<=9000000) (hv:m.vars.length+bJ q.ex+bJ q.ex+1<=9000000)
  (r1:R) (Ox:r1=Ps.gM ⟨s,m,[]⟩ q.ex (dG p.aB s.vars.ty q.ex))
  (hR:∀(k:Nat) (h:k<q.ai.length),(c7 p.aB (nV r1.m.n) (bX q) (q.ai.take k) r1 []).1.s=r1.s/\(c7 p.aB (nV r1.m.n) (bX q) (q.ai.take k) r1 []).1.m.n+3*(bX q).length<=9000000/\
   (c7 p.aB (nV r1.m.n) (bX q) (q.ai.take k) r1 []).1.m.vars.length+3*(bX q).length<=9000000/\(c7 p.aB (nV r1.m.n) (bX q) (q.ai.take k) r1 []).1.q.length<=100000000/\(c7 p.aB (nV r1.m.n) (bX q) (q.ai.take (k+1)) r1 []).1.q.length<=100000000/\
   vP it f p p.aB false q.ai[k].aT (eZ (bX q) q.ai[k].aT q.ai[k].ps (eu (nV r1.m.n) (bX q) q.ai[k].name (c7 p.aB (nV r1.m.n) (bX q) (q.ai.take k) r1 []).1)).s (eZ (bX q) q.ai[k].aT q.ai[k].ps (eu (nV r1.m.n) (bX q) q.ai[k].name (c7 p.aB (nV r1.m.n) (bX q) (q.ai.take k) r1 []).1)).m)
  (hZ:(c7 p.aB (nV r1.m.n) (bX q) q.ai r1 []).1.s=r1.s/\(c7 p.aB (nV r1.m.n) (bX q) q.ai r1 []).1.q.length<=100000000):
  Dt prog 260 [.ref f 0,mE iv t s.ck,.d (.agg q.cells)] (hY it f iv t p ⟨s,m,[]⟩) λx l=>x=.d (.sl (cg (iP p.aB q ⟨s,m,[]⟩).q))/\l=hY it f iv t p (iP p.aB q ⟨s,m,[]⟩):=by
 intro O P hw;have P6:iP p.aB q ⟨s,m,[]⟩=⟨(c7 p.aB (nV r1.m.n) (bX q) q.ai r1 []).1.s,(c7 p.aB (nV r1.m.n) (bX q) q.ai r1 []).1.m,(c7 p.aB (nV r1.m.n) (bX q) q.ai r1 []).1.q++(List.range (bX q).length).map λi=>gY ((c7 p.aB (nV r1.m.n) (bX q) q.ai r1 []).1.s.vars.nm ((bX q)[i]?.getD ⟨#[]⟩)) (.mk 13 0 0 (nV r1.m.n) (q.ai.map aH.name) ((c7 p.aB (nV r1.m.n) (bX q) q.ai r1 []).2.map λd=>aZ (d[i]?.getD ⟨#[]⟩)) q.ps) q.ps⟩:=by
  rw[Ox];cases q with|mk k D g G E e C ps=>
  rw[iP];simp only[aD.kd]at h3;rw[aid (by omega),aid (by omega),aid (by omega)];simp only[bX];rfl
 rw[P6];clear P6;obtain⟨_,K1,l',⟨rfl,rfl⟩,w,NN⟩:=Wk.call (a:=[cN iv s.vars,ij f p m]) (r:=[_,_]) ((Wk.start hw).pick [2,1,0,3]) (xv iv t f s.vars p m s.ck Nw R' q.ex Ny);have w:Wk P O (hY it f iv t p ⟨s,m,[]⟩) K1:=w.pick [2,1,0,3];obtain⟨_,K2,l',⟨u,rfl,rfl⟩,w,MT⟩:=Wk.call (r:=[]) w (AG it f iv t p s m q.ex (dG p.aB s.vars.ty q.ex) NL hs (by omega) (by omega) (by omega));have N:=bu.val (r:=⟨s,m,[]⟩) hs q.ex (dG p.aB s.vars.ty q.ex);rw[<-Ox]at N w MT;clear Ox;have PU:=N.q;have O1:r1.s.ck=s.ck:=N.ck;have f5:=N.sc
 dsimp only[List.length_nil]at PU
 have N3:=It q N5 NE Ws;obtain⟨d,PW⟩:∃d,d=bX q:=⟨_,rfl⟩;obtain⟨c,QP⟩:∃c,c=nV r1.m.n:=⟨_,rfl⟩;rw[<-QP]at hR hZ MT;rw[<-PW]at hR hZ N3 Qo NF;rw[<-QP,<-PW];clear QP PW hn hv Ny R' N;obtain⟨o,RK⟩:∃d,d=K2.length:=⟨_,rfl⟩;have Ou:(aE d).length=d.length:=by simp[aE]
 have Vh:(q.ai.map aH.cells).length=q.ai.length:=by simp
 rw[q.ex.ah]at NN MT;rw[q.ah,q.ex.ah,h3]at N3⊢;refine MG func260 W ntmps260 W ?_
 repeat refine DC.seq ?_
 apply Mn
 .intro g C
  first|refine gZ W W ?_|refine gy W W W W ?_
  first|refine gZ W W ?_|refine gy W W W W ?_
  refine aj W W ?_;exact TL.nil W
 repeat refine DC.seq ?_
 apply Mn
 .intro g C;refine aq W W ?_
  first|refine ca W W W ?_|refine eh W W W ?_|refine bp W W W W W ?_|refine cK W W W W W ?_|refine bp W W h W W ?_|refine cK W W Uk W W ?_|refine cx W W W W W ?_|refine cx W W h W W ?_
  first|refine aG W W ?_|refine aF W W ?_|refine dh W W ?_|refine gE W W ?_
  first|refine ca W W W ?_|refine eh W W W ?_|refine bp W W W W W ?_|refine cK W W W W W ?_|refine bp W W N2 W W ?_|refine cK W W Qs W W ?_|refine cx W W W W W ?_|refine cx W W N2 W W ?_
  refine aA NN W W ?_;refine cG W W ?_
  first|refine aK W W W W W W ?_|refine aK W W W (aN _ _ _) W W ?_|refine aK W W QQ W W W ?_|refine aK W W QQ (aN _ _ _) W W ?_|refine cd W W Xs W W W ?_|refine cd W W Xs (aN _ _ _) W W ?_
  exact TL.nil W
 repeat refine DC.seq ?_
 apply Mn
 .intro g C;refine aq W W ?_
  first|refine ca W W W ?_|refine eh W W W ?_|refine bp W W W W W ?_|refine cK W W W W W ?_|refine bp W W h W W ?_|refine cK W W Uk W W ?_|refine cx W W W W W ?_|refine cx W W h W W ?_
  first|refine aG W W ?_|refine aF W W ?_|refine dh W W ?_|refine gE W W ?_
  first|refine ca W W W ?_|refine eh W W W ?_|refine bp W W W W W ?_|refine cK W W W W W ?_|refine bp W W N2 W W ?_|refine cK W W Qs W W ?_|refine cx W W W W W ?_|refine cx W W N2 W W ?_
  first|refine ca W W W ?_|refine eh W W W ?_|refine bp W W W W W ?_|refine cK W W W W W ?_|refine bp W W QQ W W ?_|refine cK W W Xs W W ?_|refine cx W W W W W ?_|refine cx W W QQ W W ?_
  refine aA MT W W ?_;refine aq W W ?_;refine gH W W W ?_;refine gH W W W ?_;refine aj W W ?_;refine aj W W ?_;exact TL.nil W
 repeat refine DC.seq ?_
 apply Mn
 .intro g C
  first|refine ca W W W ?_|refine eh W W W ?_|refine bp W W W W W ?_|refine cK W W W W W ?_|refine bp W W N2 W W ?_|refine cK W W Qs W W ?_|refine cx W W W W W ?_|refine cx W W N2 W W ?_
  refine aX N3 W W ?_;refine aj W W ?_;exact TL.nil W
 repeat refine DC.seq ?_
 apply Mn
 .intro g C;refine aq W W ?_
  (refine aY W W W ?_;rw[Ou])
  refine Bt (len:=d.length) W W W W (by rfl) (by omega) (by omega) ?_;refine aj W W ?_;exact TL.nil W
 repeat refine DC.seq ?_
 apply Mn
 .intro g C;refine aq W W ?_
  (refine aY W W W ?_;rw[Ou])
  refine aq W W ?_;exact TL.nil W
 have w:=w.new (.row false 8 0 (ew c q.ps (List.replicate 0 qX)++aM (List.replicate (d.length-0) zX)));rw[<-RK]at w;refine Nq [(45,.m (.d (.int .i64 ((0:Nat):Int)))),(44,.m (.d (.int .i64 ((d.length:Nat):Int)))),(11,.m (.bZ o 0 d.length)),(10,.m (.d (.sl (aE d)))),(9,.m u),(8,.m (.d (.str c))),(5,.m (.d (.bM (eW 3 q.lhs q.f (q.args.map Xp.cells) q.has (xC q.ex) (q.ai.map aH.cells) q.ps) 0))),(4,.loc 4 0),(0,.m (.ref f 0))] _ (K2++[.row false 8 0 (ew c q.ps (List.replicate 0 qX)++aM (List.replicate (d.length-0) zX))]) (by rw[RK];rfl) (λ_=>rfl) (by
  show K2++[Ob.row false 8 0 (fQ 8 d.length zX)]=_;rw[CY (n:=8) (z:=zX) W (by omega)];rfl) ?_
 repeat refine DC.seq ?_
 refine DC.block ?_;refine DC.loop (λk j=>∃(i:Nat) (g:List (Nat×List M)) (h:Hp),j=⟨[(45,.m (.d (.int .i64 ((i:Nat):Int)))),(44,.m (.d (.int .i64 ((d.length:Nat):Int)))),(11,.m (.bZ o 0 d.length)),(10,.m (.d (.sl (aE d)))),(9,.m u),(8,.m (.d (.str c))),(5,.m (.d (.bM (eW 3 q.lhs q.f (q.args.map Xp.cells) q.has (xC q.ex) (q.ai.map aH.cells) q.ps) 0))),(4,.loc 4 0),(0,.m (.ref f 0))],g,h⟩/\
   Go.Mt.get g 4=some [.mp iv,.mp t,.d (.sl (bA s.ck))]/\
   Wk P O (.ob o (.row false 8 0 (ew c q.ps (List.replicate i qX)++aM (List.replicate (d.length-i) zX))):: .acc 16 (cg r1.q) u::hY it f iv t p r1) h/\i<=d.length/\k=d.length-i) d.length _
  ⟨0,_,_,rfl,rfl,w,by omega,rfl⟩ W ?_
 clear w NN MT;rintro k s1 ⟨i,bx,H1,rfl,h,w,hi,rfl⟩
 repeat refine DC.seq ?_
 apply Mn
 .intro g C
  first|refine ay W W W (r:=.bool true) W ?_|refine ay W W W (r:=.bool false) W ?_|refine ay W W W W ?_
  exact TL.nil W
 repeat refine DC.seq ?_
 refine DC.cond W (λj=>?_) (λj=>?_)
 .have C:i<d.length:=by have:=aic j;omega
  clear j;have g:=w.ob;have E:=IF c q.ps C;refine DC.skip ?_
  repeat refine DC.seq ?_
  refine DC.block ?_
  repeat refine DC.seq ?_
  apply Mn
  .intro G H;refine aq W W ?_;refine aj W W ?_;exact TL.nil W
  repeat refine DC.seq ?_
  apply Mn
  .intro G H;refine aq W W ?_;refine aq W W ?_;refine aq W W ?_
   first|refine aG W W ?_|refine aF W W ?_|refine dh W W ?_|refine gE W W ?_
   first|refine ca W W W ?_|refine eh W W W ?_|refine bp W W W W W ?_|refine cK W W W W W ?_|refine bp W W N2 W W ?_|refine cK W W Qs W W ?_|refine cx W W W W W ?_|refine cx W W N2 W W ?_
   refine g_ W W W W W ?_;refine vj W W W g (ah7 i) (by omega) ?_;refine Ak W W g W W E ?_;exact TL.nil W
  have D:=w.set (.row false 8 0 (ew c q.ps (List.replicate (i+1) qX)++aM (List.replicate (d.length-(i+1)) zX)))
  repeat refine DC.seq ?_
  apply Mn
  .intro G H;refine bc W W W (by omega) ?_;refine aq W W ?_;exact TL.nil W
  exact bf (k':=d.length-(i+1)) (by omega) ⟨i+1,_,_,rfl,h,D,by omega,rfl⟩ W W
 refine DC.exit ?_;obtain rfl:i=d.length:=by have:=aie j;omega
 rw[akY,List.replicate_zero,show aM []=[]from rfl,aiu]at w;have w:=w.perm (List.Perm.refl _);have w:=oc.init d.length w;clear j;have w:Wk P O (.acc 16 (cg (c7 p.aB c d (q.ai.take 0) r1 []).1.q) u::oc o c q.ps (List.replicate d.length qX)::hY it f iv t p (c7 p.aB c d (q.ai.take 0) r1 []).1) H1:=by
  rw[aiD,kE];exact w.pick [1,0,2,3,4,5]
 have Ts:(List.replicate d.length qX).map Prod.fst=yN d.length ((q.ai.take 0).map aH.name) (c7 p.aB c d (q.ai.take 0) r1 []).2:=by
  rw[aiD,kE];simp[yN,List.map_const']
 repeat refine DC.seq ?_
 apply Mn
 .intro g C
  first|refine aG W W ?_|refine aF W W ?_|refine dh W W ?_|refine gE W W ?_
  first|refine aI W W W ?_|refine aJ W W W W ?_|refine bK W W W W ?_|refine aJ W W N2 W ?_|refine bK W W Qs W ?_
  (refine aY W W W ?_;rw[Vh])
  refine aq W W ?_;exact TL.nil W
 refine Nq [(59,.m (.d (.int .i64 ((0:Nat):Int)))),(58,.m (.d (.int .i64 ((q.ai.length:Nat):Int)))),(57,.m (.d (.sl (q.ai.map aH.cells)))),(11,.m (.bZ o 0 d.length)),(10,.m (.d (.sl (aE d)))),(9,.m u),(8,.m (.d (.str c))),(5,.m (.d (.bM (eW 3 q.lhs q.f (q.args.map Xp.cells) q.has (xC q.ex) (q.ai.map aH.cells) q.ps) 0))),(4,.loc 4 0),(0,.m (.ref f 0))] _ _ W (λ_=>rfl) W ?_
 repeat refine DC.seq ?_
 refine DC.block ?_;refine DC.loop (λu j=>∃(k:Nat) (g:M) (l:List Mr) (h:List (Nat×List M)) (i:Hp),j=⟨[(59,.m (.d (.int .i64 ((k:Nat):Int)))),(58,.m (.d (.int .i64 ((q.ai.length:Nat):Int)))),(57,.m (.d (.sl (q.ai.map aH.cells)))),(11,.m (.bZ o 0 d.length)),(10,.m (.d (.sl (aE d)))),(9,.m g),(8,.m (.d (.str c))),(5,.m (.d (.bM (eW 3 q.lhs q.f (q.args.map Xp.cells) q.has (xC q.ex) (q.ai.map aH.cells) q.ps) 0))),(4,.loc 4 0),(0,.m (.ref f 0))],h,i⟩/\Go.Mt.get h 4=some [.mp iv,.mp t,.d (.sl (bA s.ck))]/\
   l.map Prod.fst=yN d.length ((q.ai.take k).map aH.name) (c7 p.aB c d (q.ai.take k) r1 []).2/\
   Wk P O (.acc 16 (cg (c7 p.aB c d (q.ai.take k) r1 []).1.q) g::oc o c q.ps l::hY it f iv t p (c7 p.aB c d (q.ai.take k) r1 []).1) i/\k<=q.ai.length/\u=q.ai.length-k) q.ai.length _
  ⟨0,u,_,_,_,rfl,h,Ts,w,by omega,rfl⟩ W ?_
 clear w h Ts;rintro kk s1 ⟨k,u,l,bx,H1,rfl,h,F,w,hk,rfl⟩
 repeat refine DC.seq ?_
 apply Mn
 .intro g C
  first|refine ay W W W (r:=.bool true) W ?_|refine ay W W W (r:=.bool false) W ?_|refine ay W W W W ?_
  exact TL.nil W
 repeat refine DC.seq ?_
 refine DC.cond W (λj=>?_) (λj=>?_)
 .have MC:k<q.ai.length:=by have:=aic j;omega
  clear j;have MA:(q.ai.map aH.cells)[((k:Nat):Int).toNat]?=some q.ai[k].cells:=by simp[MC]
  have Ye:=NE _ (aif MC);have f6:=vI (aif MC);obtain⟨Wt,Tw,am,Yf,Y,Ul⟩:=hR k MC;have U:=EA p.aB c d (q.ai.take k) q.ai[k] r1 [];rw[<-ah5 MC]at U;rw[U]at Y;have T5:(q.ai.take (k+1)).map aH.name=(q.ai.take k).map aH.name++[q.ai[k].name]:=by rw[ah5 MC,aio];rfl
  have f8:((q.ai.take k).map aH.name).length<=1000:=by rw[ah8,ait];omega
  have Wu:(c7 p.aB c d (q.ai.take k) r1 []).2.length<=1000:=by rw[yM,ait,List.length_nil];omega
  generalize (q.ai.take k).map aH.name=D at F T5 f8;generalize c7 p.aB c d (q.ai.take k) r1 []=z at w F Wt Tw am Yf Y Ul U Wu;obtain⟨r,vs⟩:=z;generalize q.ai[k]=a at MA Ye f6 Y Ul U T5
  dsimp only at w F Wt Tw am Yf Y Ul U Wu
  have f9:eg r.s:=by rw[Wt];exact f5
  have Wv:r.s.ck=s.ck:=by rw[Wt];exact O1
  clear hR;rw[a.ah]at MA;obtain⟨G,Ra⟩:∃d:R,d=⟨⟨r.s.vars,r.s.aO,s.ck++[(a.name,c)]⟩,r.m,r.q⟩:=⟨_,rfl⟩;have RC:eu c d a.name r=d.foldl (et r.s) G:=by
   rw[Ra];show d.foldl (et r.s) ⟨⟨_,_,r.s.ck++_⟩,_,_⟩=_;rw[Wv]
  rw[RC]at Y Ul U;clear RC;obtain⟨mc,K3,l',rfl,w,MT⟩:=Wk.call (a:=[]) w (pP s.ck (by omega));have w:Wk P O (.acc 2 (bA s.ck) mc:: .acc 16 (cg r.q) u::oc o c q.ps l::hY it f iv t p r) K3:=w;have w2:=w.app [[.str a.name,.str c]];have Ww:bA s.ck++[[.str a.name,.str c]]=bA (s.ck++[(a.name,c)]):=by simp[bA]
  rw[Ww]at w2;obtain⟨_,K4,l',⟨Q,S,rfl,rfl⟩,w4,M0⟩:=Wk.call (a:=[cN iv r.s.vars,cN t r.s.aO]) (r:=[_,_,_,_,_]) (w2.pick [5,6,0,1,2,3,4]) (AH iv t r.s.vars r.s.aO s.ck (cJ mc K3 [[.str a.name,.str c]]) (aN _ _ _));have Rc:=(w4.pick [4,0,1,2,3,5,6,7,8]).view (jp _);have w4:Wk P O [.acc 16 (cg r.q) u,oc o c q.ps l,.ob it bg,ij f p r.m,cN iv r.s.vars,cN t r.s.aO,cN Q r.s.vars,cN S r.s.aO] K4:=(w4.pick [4,5,6,7,8,0,1,2,3]).drop;have MR:(bA s.ck).length=s.ck.length:=by simp[bA]
  refine DC.skip ?_
  repeat refine DC.seq ?_
  refine DC.block ?_
  repeat refine DC.seq ?_
  apply Mn
  .intro g H;refine bH W W W (ah7 k) MA W ?_
   first|refine ca W W W ?_|refine eh W W W ?_|refine bp W W W W W ?_|refine cK W W W W W ?_|refine bp W W abi W W ?_|refine cK W W afm W W ?_|refine cx W W W W W ?_|refine cx W W abi W W ?_
   refine cG W W ?_
   first|refine aK W W W W W W ?_|refine aK W W W (aN _ _ _) W W ?_|refine aK W W I W W W ?_|refine aK W W I (aN _ _ _) W W ?_|refine cd W W RY W W W ?_|refine cd W W RY (aN _ _ _) W W ?_
   exact TL.nil W
  repeat refine DC.seq ?_
  apply Mn
  .intro g H
   first|refine aG W W ?_|refine aF W W ?_|refine dh W W ?_|refine gE W W ?_
   first|refine aI W W W ?_|refine aJ W W W W ?_|refine bK W W W W ?_|refine aJ W W I W ?_|refine bK W W RY W ?_
   refine aq W W ?_;refine g_ W W W W W ?_;refine cG W W ?_
   first|refine aK W W W W W W ?_|refine aK W W W (aN _ _ _) W W ?_|refine aK W W Wx W W W ?_|refine aK W W Wx (aN _ _ _) W W ?_|refine cd W W Yg W W W ?_|refine cd W W Yg (aN _ _ _) W W ?_
   exact TL.nil W
  repeat refine DC.seq ?_
  apply Mz mixed
  .intro g H
   first|refine dY W W W ?_|refine jL W W W ?_|refine cY W W W W W ?_|refine iq W W W W W ?_|refine cY W W h W W ?_|refine iq W W Uk W W ?_|refine gW W W W W W ?_|refine gW W W h W W ?_
   first|refine cm W W ?_|refine cF W W ?_|refine bW W W ?_|refine gA W W ?_
   first|refine di W W W ?_|refine cO W W W W ?_|refine dj W W W W ?_|refine cO W W h W ?_|refine dj W W Uk W ?_
   refine bB MT W W ?_
   first|refine dY W W W ?_|refine jL W W W ?_|refine cY W W W W W ?_|refine iq W W W W W ?_|refine cY W W Wx W W ?_|refine iq W W Yg W W ?_|refine gW W W W W W ?_|refine gW W W Wx W W ?_
   refine cr W W W W W W W W ?_;refine eV w W W W W W W W (by omega) ?_;refine bB M0 W W ?_;refine nF W ?_
   first|refine cv W W W W W W ?_|refine cv W W W (aN _ _ _) W W ?_|refine cv W W K W W W ?_|refine cv W W K (aN _ _ _) W W ?_|refine fC W W RZ W W W ?_|refine fC W W RZ (aN _ _ _) W W ?_
   exact TF.nil ⟨by kernel_rfl,rfl⟩
  obtain⟨J,Um⟩:∃d,d=s.ck++[(a.name,c)]:=⟨_,rfl⟩;rw[<-Um]at Rc Ra;refine DC.vv 16 (MP:=[.mp Q,.mp S,.d (.sl (bA J))]) W W (Lc Rc) ?_;have Ui:(bA J).length=J.length:=by simp[bA]
  have lw:J.length=s.ck.length+1:=by rw[Um];simp
  have ip:eg G.s:=by
   have:=f9.more (a.name,c) (by rw[Wv];omega);rw[Wv,<-Um]at this;rw[Ra];exact this
  have mt:G.m.n=r.m.n:=by rw[Ra]
  have m5:G.m.vars.length=r.m.vars.length:=by rw[Ra]
  have Yh:G.q=r.q:=by rw[Ra]
  have i6:G.s.aO=r.s.aO:=by rw[Ra]
  have Yi:G.s.ck=J:=by rw[Ra]
  have w4:Wk P O [.acc 16 (cg r.q) u,oc o c q.ps l,.ob it bg,ij f p G.m,cN iv r.s.vars,cN t r.s.aO,cN Q G.s.vars,cN S r.s.aO] K4:=by rw[Ra];exact w4
  clear Ra w2 w MT M0 Rc;have hP:= λi=>bu.oM r.s (d.take i) ip
  have hQ:= λi=>yP r.s (d.take i) G
  have hN:= λi=>CZ r.s (d.take i) G
  have Yj:=Ez r.s d G Qo;have Yk:(d.foldl (et r.s) G).q=r.q:=(yP r.s d G).1.trans Yh;obtain⟨ac,hG⟩:∃G,G=yN d.length D vs:=⟨_,rfl⟩;obtain⟨G',Xw⟩:∃f,f=yN d.length (D++[a.name]) (vs++[d.map (d.foldl (et r.s) G).s.vars.nm]):=⟨_,rfl⟩;have Xx:ac.length=d.length:=by rw[hG,uB]
  have Wy:G'.length=d.length:=by rw[Xw,uB]
  rw[<-hG]at F
  repeat refine DC.seq ?_
  apply Mn
  .intro g H;refine aq W W ?_
   (refine aY W W W ?_;rw[Ou])
   refine aq W W ?_;exact TL.nil W
  refine Nq [(77,.m (.d (.int .i64 ((0:Nat):Int)))),(76,.m (.d (.int .i64 ((d.length:Nat):Int)))),(75,.m (.d (.sl (aE d)))),(16,.loc 16 0),(14,.loc 14 0),(59,.m (.d (.int .i64 ((k:Nat):Int)))),(58,.m (.d (.int .i64 ((q.ai.length:Nat):Int)))),(57,.m (.d (.sl (q.ai.map aH.cells)))),(11,.m (.bZ o 0 d.length)),(10,.m (.d (.sl (aE d)))),(9,.m u),(8,.m (.d (.str c))),(5,.m (.d (.bM (eW 3 q.lhs q.f (q.args.map Xp.cells) q.has (xC q.ex) (q.ai.map aH.cells) q.ps) 0))),(4,.loc 4 0),(0,.m (.ref f 0))] _ _ W (λ_=>rfl) W ?_
  repeat refine DC.seq ?_
  refine DC.block ?_;refine DC.loop (λw j=>∃(i:Nat) (l:List Mr) (g:List (Nat×List M)) (h:Hp),j=⟨[(77,.m (.d (.int .i64 ((i:Nat):Int)))),(76,.m (.d (.int .i64 ((d.length:Nat):Int)))),(75,.m (.d (.sl (aE d)))),(16,.loc 16 0),(14,.loc 14 0),(59,.m (.d (.int .i64 ((k:Nat):Int)))),(58,.m (.d (.int .i64 ((q.ai.length:Nat):Int)))),(57,.m (.d (.sl (q.ai.map aH.cells)))),(11,.m (.bZ o 0 d.length)),(10,.m (.d (.sl (aE d)))),(9,.m u),(8,.m (.d (.str c))),(5,.m (.d (.bM (eW 3 q.lhs q.f (q.args.map Xp.cells) q.has (xC q.ex) (q.ai.map aH.cells) q.ps) 0))),(4,.loc 4 0),(0,.m (.ref f 0))],g,h⟩/\Go.Mt.get g 4=some [.mp iv,.mp t,.d (.sl (bA s.ck))]/\Go.Mt.get g 16=some [.mp Q,.mp S,.d (.sl (bA J))]/\Go.Mt.get g 14=some ([.str a.name,.sl (ax a.aT.vars),.sl (a.aT.eqs.map aD.cells),.sl (eL a.eQ),.sl (eL a.eB),.int .i64 a.ps.1,.int .i64 a.ps.2].map M.d)/\
    l.map Prod.fst=G'.take i++ac.drop i/\
    Wk P O [.acc 16 (cg r.q) u,oc o c q.ps l,.ob it bg,ij f p ((d.take i).foldl (et r.s) G).m,cN iv r.s.vars,cN t r.s.aO,cN Q ((d.take i).foldl (et r.s) G).s.vars,cN S r.s.aO] h/\i<=d.length/\w=d.length-i) d.length _
   ⟨0,l,_,_,rfl,h,rfl,rfl,by rw[aiD,aiK,akC];exact F,w4,by omega,rfl⟩ W ?_
  clear w4 F h;rintro ii s1 ⟨i,l,bx,H1,rfl,h,K,I,F,w,hi,rfl⟩
  repeat refine DC.seq ?_
  apply Mn
  .intro g H
   first|refine ay W W W (r:=.bool true) W ?_|refine ay W W W (r:=.bool false) W ?_|refine ay W W W W ?_
   exact TL.nil W
  repeat refine DC.seq ?_
  refine DC.cond W (λj=>?_) (λj=>?_)
  .have M0:i<d.length:=by have:=aic j;omega
   clear j;have Oy:=fF M0;have N:=hP i;have jc:=hN i;have ce:=hQ i;have Py:(d.take (i+1)).foldl (et r.s) G=et r.s ((d.take i).foldl (et r.s) G) d[i]:=by rw[ah5 M0,aiC];rfl
   rw[ait,ajw (by omega)]at jc;have O9:=N.vs;rw[ait,ajw (by omega)]at O9;generalize (d.take i).foldl (et r.s) G=e at w N jc ce Py O9;obtain⟨H,⟨ya,yb⟩,Z,rfl,OR,Qv⟩:=IE F (by rw[Xx,Wy]) (by rw[Xx];exact M0);clear F;obtain⟨g,QZ⟩:∃d,d=vs.map λv=>v[i]?.getD ⟨#[]⟩:=⟨_,rfl⟩
   have e1:ac[i]'(by rw[Xx];exact M0)=(D,g):=by simp only[hG,QZ,yO]
   have e2:G'[i]'(by rw[Wy];exact M0)=(D++[a.name],g++[nV (e.m.n+1)]):=by
    simp only[Xw,QZ,yO,aio,aiq,aiL,Yj];simp[M0,jc]
   rw[e1]at w;rw[e2]at Qv;have OX:g.length<=1000:=by rw[QZ,ah8];exact Wu
   clear e1 e2 QZ;generalize d[i]=x at Oy Py;subst OR;have w:=w.pick [4,0,1,2,3,5,6,7];obtain⟨ev,PG,w⟩:=cN.open w;have Xy:=w.ob;obtain⟨_,K5,l',⟨rfl,rfl⟩,E,OK⟩:=Wk.call (a:=[.ob it bg,ij f p e.m]) (r:=[_,_,_,_,_,_]) (w.pick [3,4,0,1,2,5,6,7]) (rM it f p e.m (by omega) (by omega) (r.s.vars.ty x) J (by omega));have E:=E.pick [6,0,1,2,3,4,5,7];obtain⟨ej,Wz,E⟩:=cN.open E;have Vj:=E.ob;have Yl:=(E.pick [3,0,1,2,4,5,6,7]).ob;refine DC.skip ?_
   repeat refine DC.seq ?_
   refine DC.block ?_
   repeat refine DC.seq ?_
   apply Mn
   .intro s0 Oo;refine aq W W ?_;refine bH W W W (ah7 H.length) Oy W ?_
    first|refine aI W W W ?_|refine aJ W W W W ?_|refine bK W W W W ?_|refine aJ W W afp W ?_|refine bK W W afq W ?_
    refine aj W W ?_;refine aj W W ?_;exact TL.nil W
   repeat refine DC.seq ?_
   apply Mn
   .intro s0 Oo;refine aq W W ?_
    first|refine aG W W ?_|refine aF W W ?_|refine dh W W ?_|refine gE W W ?_
    first|refine aI W W W ?_|refine aJ W W W W ?_|refine bK W W W W ?_|refine aJ W W h W ?_|refine bK W W Uk W ?_
    refine aq W W ?_;refine lb PG Xy W W W ?_
    first|refine BE W W W W ?_|refine H8 W W W W W ?_
    first|refine aG W W ?_|refine aF W W ?_|refine dh W W ?_|refine gE W W ?_
    first|refine aI W W W ?_|refine aJ W W W W ?_|refine bK W W W W ?_|refine aJ W W K W ?_|refine bK W W RZ W ?_
    refine aA OK W W ?_;refine aj W W ?_;exact TL.nil W
   repeat refine DC.seq ?_
   apply Mn
   .intro s0 Oo
    first|refine aG W W ?_|refine aF W W ?_|refine dh W W ?_|refine gE W W ?_
    first|refine aI W W W ?_|refine aJ W W W W ?_|refine bK W W W W ?_|refine aJ W W K W ?_|refine bK W W RZ W ?_
    refine aq W W ?_;refine aq W W ?_
    first|refine aG W W ?_|refine aF W W ?_|refine dh W W ?_|refine gE W W ?_
    first|refine aI W W W ?_|refine aJ W W W W ?_|refine bK W W W W ?_|refine aJ W W K W ?_|refine bK W W RZ W ?_
    (refine aY W W W ?_;rw[Ui])
    first|refine aG W W ?_|refine aF W W ?_|refine dh W W ?_|refine gE W W ?_
    first|refine aI W W W ?_|refine aJ W W W W ?_|refine bK W W W W ?_|refine aJ W W h W ?_|refine bK W W Uk W ?_
    refine aq W W ?_;refine lb PG Yl W W W ?_
    first|refine BE W W W W ?_|refine H8 W W W W W ?_
    refine g_ W W W W W ?_;refine eU W W W Vj Wz.k ?_;exact TL.nil W
   have L:=Ng (Wz.set x ⟨nV (e.m.n+1),J.length,(r.s.vars.ty x).1,(r.s.vars.ty x).2⟩) (E.set (.map (dK x (.d (.agg (oa ⟨nV (e.m.n+1),J.length,(r.s.vars.ty x).1,(r.s.vars.ty x).2⟩))) ej)));have L:=L.pick [3,0,1,2,4,5,6,7];have L:=Ng PG L;have L:=L.pick [5,0,1,2,3,4,6,7];generalize K5.set Q (.map (dK x (.d (.agg (oa ⟨nV (e.m.n+1),J.length,(r.s.vars.ty x).1,(r.s.vars.ty x).2⟩))) ej))=K6 at L⊢;clear E Vj Yl OK w Xy;have L:=oc.open L;have Q7:=L.ob;have co:(ew c q.ps (H++((D,g),(ya,yb))::Z))[H.length*8+4]?=some ya:=CW c q.ps H Z ((D,g),(ya,yb)) (by omega);have Xz:=ID c q.ps H Z ((D,g),(ya,yb)) (D++[a.name],g) (cJ ya K6 [[.str a.name]]);have w7:=L.pick [1,0,2,3,4,5,6,7,8,9,10];have X:=w7.app [[.str a.name]];have SF:=(X.pick [1,0,2,3,4,5,6,7,8,9,10]).ob
   repeat refine DC.seq ?_
   apply Mz mixed
   .intro s0 Oo;refine bG W W ?_;refine bG W W ?_;refine bG W W ?_;refine bG W W ?_;refine mZ W W W Q7 (ah7 _) (by omega) ?_
    first|refine cm W W ?_|refine cF W W ?_|refine bW W W ?_|refine gA W W ?_
    refine vi W W Q7 co ?_
    first|refine cm W W ?_|refine cF W W ?_|refine bW W W ?_|refine gA W W ?_
    first|refine di W W W ?_|refine cO W W W W ?_|refine dj W W W W ?_|refine cO W W I W ?_|refine dj W W RY W ?_
    refine cr W W W W W W W W ?_;refine eV w7 W W W W W W W (by simp only[aE,ah8];omega) ?_;refine mZ W W W SF (ah7 _) (by omega) ?_
    first|refine cm W W ?_|refine cF W W ?_|refine bW W W ?_|refine gA W W ?_
    refine Al W W SF (aN _ _ _) W Xz ?_;exact TF.nil ⟨by kernel_rfl,rfl⟩
   have X:=(X.pick [1,0,2,3,4,5,6,7,8,9,10]).set (.row false 8 0 (ew c q.ps (H++((D++[a.name],g),(cJ ya K6 [[.str a.name]],yb))::Z)));have SG:aE D++[[.str a.name]]=aE (D++[a.name]):=by simp[aE]
   dsimp only at X
   rw[SG]at X;obtain⟨y1,SV⟩:∃d,d=cJ ya K6 [[.str a.name]]:=⟨_,rfl⟩;obtain⟨K7,d5⟩:∃d,d=(ef 1 ya K6 [[.str a.name]]).set o (.row false 8 0 (ew c q.ps (H++((D++[a.name],g),(cJ ya K6 [[.str a.name]],yb))::Z))):=⟨_,rfl⟩;rw[<-d5,<-SV]at X;refine Nq [(19,.m (.d (.str (nV (e.m.n+1))))),(17,.m (.d (.int .i64 ((H.length:Nat):Int)))),(77,.m (.d (.int .i64 ((H.length:Nat):Int)))),(76,.m (.d (.int .i64 ((d.length:Nat):Int)))),(75,.m (.d (.sl (aE d)))),(16,.loc 16 0),(14,.loc 14 0),(59,.m (.d (.int .i64 ((k:Nat):Int)))),(58,.m (.d (.int .i64 ((q.ai.length:Nat):Int)))),(57,.m (.d (.sl (q.ai.map aH.cells)))),(11,.m (.bZ o 0 d.length)),(10,.m (.d (.sl (aE d)))),(9,.m u),(8,.m (.d (.str c))),(5,.m (.d (.bM (eW 3 q.lhs q.f (q.args.map Xp.cells) q.has (xC q.ex) (q.ai.map aH.cells) q.ps) 0))),(4,.loc 4 0),(0,.m (.ref f 0))] _ K7 W (λ_=>rfl) d5.symm ?_;clear Q7 SF co Xz w7 L SG;have Q7:=X.ob;have d6:(ew c q.ps (H++((D++[a.name],g),(y1,yb))::Z))[H.length*8+5]?=some yb:=CW c q.ps H Z ((D++[a.name],g),(y1,yb)) (by omega);have N6:=fE (nV (e.m.n+1));rw[(aZ (nV (e.m.n+1))).ah]at N6;have OI:e.s.ck=J:=ce.2.2.trans Yi;have X:=X.pick [2,0,1,3,4,5,6,7,8,9,10];by_cases d7:g=[]
   .subst d7;have Tv:=X.KC;subst Tv;have w9:=(X.drop).new (.row false 8 0 (aM [zX]));have Zp:=w9.ob;have SF:=(w9.pick [1,0,2,3,4,5,6,7,8,9,10]).ob;have RS:eS [nV (e.m.n+1)]=[xC (aZ (nV (e.m.n+1)))]:=by simp[eS,Xp.ah]
    have Zq:=w9.set (.row false 8 0 (aM (eS [nV (e.m.n+1)])));have M7:K7.length≠o:=by have:=(aiX.1 Q7).1;omega
    have Zr:dH (aM [zX]) 0 ((xC (aZ (nV (e.m.n+1)))).map M.d)=some (aM (eS [nV (e.m.n+1)])):=by rw[RS];rfl
    have Zs:=CX c q.ps H Z ((D++[a.name],[]),(y1,.d (.sl []))) (D++[a.name],[nV (e.m.n+1)]) (.bZ K7.length 0 1)
    repeat refine DC.seq ?_
    apply DC.Aw 10 mixed
    case ip=>rfl
    case hd=>rfl
    case h1=>
     intro s0 Oo;refine bG W W ?_;refine bG W W ?_;refine mZ W W W Q7 (ah7 _) (by omega) ?_
     first|refine cm W W ?_|refine cF W W ?_|refine bW W W ?_|refine gA W W ?_
     refine vi W W Q7 d6 ?_;refine bG W W ?_;refine bm N6 W W ?_;refine lY W W W ?_;refine cr W W W W W W W W ?_;refine nI false W W W W (by rfl) (by simp) (by exact bS W) (by decide) ?_;exact TF.nil ⟨by kernel_rfl,rfl⟩
    case Sv=>kernel_rfl
    case hg=>kernel_rfl
    case t1=>exact inferInstance
    case t2=>exact inferInstance
    case t3=>exact inferInstance
    case t4=>exact inferInstance
    case t5=>exact inferInstance
    case t6=>exact inferInstance
    case t7=>exact inferInstance
    case Rh=>rfl
    case SV=>rfl
    case hj=>exact Zp
    case Y'=>exact ah7 _
    case OR=>decide
    case Pf=>rfl
    case MT=>rfl
    case Sh=>rfl
    case UL=>exact Zr
    case Tu=>rfl
    case Tv=>rfl
    case RK=>exact SF
    case Za=>exact ah7 _
    case Oh=>omega
    case Pl=>rfl
    case M0=>rfl
    case NQ=>rfl
    case RL=>exact Zs
    case M7=>exact M7
    case PL=>simp
    case x=>decide
    case Qz=>rfl
    case Su=>rfl
    case SW=>rfl
    have Zt:=(Zq.pick [1,0,2,3,4,5,6,7,8,9,10]).set (.row false 8 0 (ew c q.ps (H++((D++[a.name],[nV (e.m.n+1)]),(y1,.bZ K7.length 0 1))::Z)));have XA:=Wk.KF (rs:=eS [nV (e.m.n+1)]) (Zt.pick [1,0,2,3,4,5,6,7,8,9,10]) (by simp[eS]);have Zu:=oc.close (x:=((D++[a.name],[nV (e.m.n+1)]),(y1,.bZ K7.length 0 1))) (XA.pick [1,2,0,3,4,5,6,7,8,9,10]);have Zv:=Zu.pick [5,0,3,4,1,6,2,7]
    repeat refine DC.seq ?_
    apply Mn
    .intro s0 Oo;refine bc W W W (by omega) ?_;refine aq W W ?_;exact TL.nil W
    exact bf (k':=d.length-(H.length+1)) (by omega) ⟨H.length+1,_,_,_,rfl,h,K,I,Qv _,by
     rw[Py];show Wk P O [.acc 16 (cg r.q) u,oc o c q.ps _,.ob it bg,ij f p (e.m.fresh (r.s.vars.ty x) e.s.ck),cN iv r.s.vars,cN t r.s.aO,cN Q (e.s.vars.set x ⟨nV (e.m.n+1),e.s.ck.length,(r.s.vars.ty x).1,(r.s.vars.ty x).2⟩),cN S r.s.aO] _;rw[OI];exact Zv,by omega,rfl⟩ W W
   .obtain⟨C,MF,Tv,w9⟩:=X.KD (by intro d9;apply d7;simpa [eS] using d9);subst Tv;have Vj:=w9.ob;have WA:(eS g).length=g.length:=by simp[eS]
    have w9:=w9.set (.row false 8 (MF+1) (aM (eS g)++aM [zX]));have Zp:=w9.ob;have SF:=(w9.pick [1,0,2,3,4,5,6,7,8,9,10]).ob;have M7:=w9.ne;have RS:eS (g++[nV (e.m.n+1)])=eS g++[xC (aZ (nV (e.m.n+1)))]:=by simp[eS,Xp.ah]
    have i7:(eS (g++[nV (e.m.n+1)])).length=(eS g).length+1:=by simp[eS]
    have Zr:dH (aM (eS g)++aM [zX]) (((((eS g).length:Nat):Int)).toNat*8) ((xC (aZ (nV (e.m.n+1)))).map M.d)=some (aM (eS (g++[nV (e.m.n+1)]))):=by
     rw[RS];have h1:=xy (a:=aM (eS g)) (b:=[]) (new:=(xC (aZ (nV (e.m.n+1)))).map M.d) (iW:=aM [zX]) (off:=(eS g).length*8) (by rw[oH (n:=8)];intro r hr;simp only[eS,aij]at hr;obtain⟨v,_,rfl⟩:=hr;rw[Xp.ah];rfl) W;rw[aiu,aiu]at h1;rw[akK,h1];simp[aM]
    have Zq:=w9.set (.row false 8 (MF+1) (aM (eS (g++[nV (e.m.n+1)]))));have Zs:=CX c q.ps H Z ((D++[a.name],g),(y1,.bZ C MF (eS g).length)) (D++[a.name],g++[nV (e.m.n+1)]) (.bZ C (MF+1) ((eS g).length+1))
    repeat refine DC.seq ?_
    apply DC.Aw 10 mixed
    case ip=>rfl
    case hd=>rfl
    case h1=>
     intro s0 Oo;refine bG W W ?_;refine bG W W ?_;refine mZ W W W Q7 (ah7 _) (by omega) ?_
     first|refine cm W W ?_|refine cF W W ?_|refine bW W W ?_|refine gA W W ?_
     refine vi W W Q7 d6 ?_;refine bG W W ?_;refine bm N6 W W ?_;refine JB W W ?_;refine cr W W W W W W W W ?_;refine lD W W W Vj (by rfl) (by exact bS W) (by rw[WA];simp only[aik];omega) (by rw[WA];simp only[aik];omega) ?_;exact TF.nil ⟨by kernel_rfl,rfl⟩
    case Sv=>kernel_rfl
    case hg=>kernel_rfl
    case t1=>exact inferInstance
    case t2=>exact inferInstance
    case t3=>exact inferInstance
    case t4=>exact inferInstance
    case t5=>exact inferInstance
    case t6=>exact inferInstance
    case t7=>exact inferInstance
    case Rh=>rfl
    case SV=>rfl
    case hj=>exact Zp
    case Y'=>exact ah7 _
    case OR=>exact Int.ofNat_lt.2 (ajU _)
    case Pf=>rfl
    case MT=>rfl
    case Sh=>rfl
    case UL=>exact Zr
    case Tu=>rfl
    case Tv=>rfl
    case RK=>exact SF
    case Za=>exact ah7 _
    case Oh=>omega
    case Pl=>rfl
    case M0=>rfl
    case NQ=>rfl
    case RL=>exact Zs
    case M7=>exact M7
    case PL=>simp
    case x=>decide
    case Qz=>rfl
    case Su=>rfl
    case SW=>rfl
    have Zt:=(Zq.pick [1,0,2,3,4,5,6,7,8,9,10]).set (.row false 8 0 (ew c q.ps (H++((D++[a.name],g++[nV (e.m.n+1)]),(y1,.bZ C (MF+1) ((eS g).length+1)))::Z)));have XA:=Wk.KF (rs:=eS (g++[nV (e.m.n+1)])) (Zt.pick [1,0,2,3,4,5,6,7,8,9,10]) (by simp[eS]);rw[i7]at XA;have Zu:=oc.close (x:=((D++[a.name],g++[nV (e.m.n+1)]),(y1,.bZ C (MF+1) ((eS g).length+1)))) (XA.pick [1,2,0,3,4,5,6,7,8,9,10]);have Zv:=Zu.pick [5,0,3,4,1,6,2,7]
    repeat refine DC.seq ?_
    apply Mn
    .intro s0 Oo;refine bc W W W (by omega) ?_;refine aq W W ?_;exact TL.nil W
    exact bf (k':=d.length-(H.length+1)) (by omega) ⟨H.length+1,_,_,_,rfl,h,K,I,Qv _,by
     rw[Py];show Wk P O [.acc 16 (cg r.q) u,oc o c q.ps _,.ob it bg,ij f p (e.m.fresh (r.s.vars.ty x) e.s.ck),cN iv r.s.vars,cN t r.s.aO,cN Q (e.s.vars.set x ⟨nV (e.m.n+1),e.s.ck.length,(r.s.vars.ty x).1,(r.s.vars.ty x).2⟩),cN S r.s.aO] _;rw[OI];exact Zv,by omega,rfl⟩ W W
  refine DC.exit ?_;obtain rfl:i=d.length:=by have:=aie j;omega
  clear j;have N:=hP d.length;have Ta:=(hQ d.length).2.1.trans i6;have U1:=(hQ d.length).2.2.trans Yi;rw[aih]at w N Ta U1;rw[aje (by omega),akZ (by omega),aiu]at F;clear hP hQ hN Yj hG Xx Wy;have T_:=N.n;have Ua:=N.vs;have RD:=N.q;rw[Yh]at RD;have Ym:=N.sc;generalize d.foldl (et r.s) G=T at Yk w N Ta U1 Xw Y Ul U T_ Ua RD Ym;obtain⟨gl,Rz⟩:∃d:List Mr,d=l:=⟨_,rfl⟩;rw[<-Rz]at w F;clear Rz l;have hL:= λj=>bu.Ey a.ps ((d.take j).filter λx=> !(cW (cy a.aT) x)) Ym
  have Qk:= λj=>ajY (λx=> !(cW (cy a.aT) x)) (d.take j)
  have w:Wk P O [.acc 16 (cg T.q) u,oc o c q.ps gl,.ob it bg,ij f p T.m,cN iv r.s.vars,cN t r.s.aO,cN Q T.s.vars,cN S T.s.aO] H1:=by
   rw[Ta,show T.q=r.q from Yk];exact w
  repeat refine DC.seq ?_
  apply Mn
  .intro g H;refine aq W W ?_
   (refine aY W W W ?_;rw[Ou])
   refine aq W W ?_;exact TL.nil W
  refine Nq [(133,.m (.d (.int .i64 ((0:Nat):Int)))),(132,.m (.d (.int .i64 ((d.length:Nat):Int)))),(131,.m (.d (.sl (aE d)))),(16,.loc 16 0),(14,.loc 14 0),(59,.m (.d (.int .i64 ((k:Nat):Int)))),(58,.m (.d (.int .i64 ((q.ai.length:Nat):Int)))),(57,.m (.d (.sl (q.ai.map aH.cells)))),(11,.m (.bZ o 0 d.length)),(10,.m (.d (.sl (aE d)))),(9,.m u),(8,.m (.d (.str c))),(5,.m (.d (.bM (eW 3 q.lhs q.f (q.args.map Xp.cells) q.has (xC q.ex) (q.ai.map aH.cells) q.ps) 0))),(4,.loc 4 0),(0,.m (.ref f 0))] _ _ W (λ_=>rfl) W ?_
  repeat refine DC.seq ?_
  refine DC.block ?_;refine DC.loop (λw u=>∃(j:Nat) (h:M) (g:List (Nat×List M)) (i:Hp),u=⟨[(133,.m (.d (.int .i64 ((j:Nat):Int)))),(132,.m (.d (.int .i64 ((d.length:Nat):Int)))),(131,.m (.d (.sl (aE d)))),(16,.loc 16 0),(14,.loc 14 0),(59,.m (.d (.int .i64 ((k:Nat):Int)))),(58,.m (.d (.int .i64 ((q.ai.length:Nat):Int)))),(57,.m (.d (.sl (q.ai.map aH.cells)))),(11,.m (.bZ o 0 d.length)),(10,.m (.d (.sl (aE d)))),(9,.m h),(8,.m (.d (.str c))),(5,.m (.d (.bM (eW 3 q.lhs q.f (q.args.map Xp.cells) q.has (xC q.ex) (q.ai.map aH.cells) q.ps) 0))),(4,.loc 4 0),(0,.m (.ref f 0))],g,i⟩/\Go.Mt.get g 4=some [.mp iv,.mp t,.d (.sl (bA s.ck))]/\Go.Mt.get g 16=some [.mp Q,.mp S,.d (.sl (bA J))]/\Go.Mt.get g 14=some ([.str a.name,.sl (ax a.aT.vars),.sl (a.aT.eqs.map aD.cells),.sl (eL a.eQ),.sl (eL a.eB),.int .i64 a.ps.1,.int .i64 a.ps.2].map M.d)/\
    Wk P O [.acc 16 (cg (((d.take j).filter λx=> !(cW (cy a.aT) x)).foldl (fv a.ps) T).q) h,oc o c q.ps gl,.ob it bg,ij f p (((d.take j).filter λx=> !(cW (cy a.aT) x)).foldl (fv a.ps) T).m,cN iv r.s.vars,cN t r.s.aO,cN Q (((d.take j).filter λx=> !(cW (cy a.aT) x)).foldl (fv a.ps) T).s.vars,cN S (((d.take j).filter λx=> !(cW (cy a.aT) x)).foldl (fv a.ps) T).s.aO] i/\j<=d.length/\w=d.length-j) d.length _
   ⟨0,u,_,_,rfl,h,K,I,w,by omega,rfl⟩ W ?_
  clear w h K I;rintro ii s1 ⟨C,u,bx,H1,rfl,h,K,I,w,hj,rfl⟩
  repeat refine DC.seq ?_
  apply Mn
  .intro g H
   first|refine ay W W W (r:=.bool true) W ?_|refine ay W W W (r:=.bool false) W ?_|refine ay W W W W ?_
   exact TL.nil W
  repeat refine DC.seq ?_
  refine DC.cond W (λj=>?_) (λj=>?_)
  .have M0:C<d.length:=by have:=aic j;omega
   clear j;have Oy:=fF M0;have V:=hL C;have WB:=Qk C;rw[ait,ajw (by omega)]at WB;have H:((d.take (C+1)).filter λx=> !(cW (cy a.aT) x)).foldl (fv a.ps) T=if(!(cW (cy a.aT) d[C]))=true then fv a.ps (((d.take C).filter λx=> !(cW (cy a.aT) x)).foldl (fv a.ps) T) d[C]else((d.take C).filter λx=> !(cW (cy a.aT) x)).foldl (fv a.ps) T:=by
    rw[ah5 M0,List.filter_append,aiC];by_cases Z:(!(cW (cy a.aT) d[C]))=true
    .rw[air Z,akQ (p:= λx=> !(cW (cy a.aT) x)) Z];rfl
    .rw[aid Z,akR (p:= λx=> !(cW (cy a.aT) x)) Z];rfl
   have WC:=V.n;have WD:=V.vs;have WE:=V.q;have OI:=V.ck.trans U1;have SH:=V.sc;generalize ((d.take C).filter λx=> !(cW (cy a.aT) x)).foldl (fv a.ps) T=e at w V H WC WD WE OI SH;generalize d[C]=x at Oy H;have Wl:=CK a.aT Ye (by omega);rw[a.aT.ah]at Wl;have QP:=jg (cy a.aT) x (by have:=tg a.aT;omega);refine DC.skip ?_
   repeat refine DC.seq ?_
   refine DC.block ?_
   repeat refine DC.seq ?_
   apply Mn
   .intro g X;refine bH W W W (ah7 C) Oy W ?_
    first|refine aI W W W ?_|refine aJ W W W W ?_|refine bK W W W W ?_|refine aJ W W adA W ?_|refine bK W W adB W ?_
    refine aj W W ?_;exact TL.nil W
   cases Z:cW (cy a.aT) x with
   |true=>
    rw[Z]at QP H
    repeat refine DC.seq ?_
    apply Mn
    .intro g X
     first|refine aG W W ?_|refine aF W W ?_|refine dh W W ?_|refine gE W W ?_
     first|refine ca W W W ?_|refine eh W W W ?_|refine bp W W W W W ?_|refine cK W W W W W ?_|refine bp W W I W W ?_|refine cK W W RY W W ?_|refine cx W W W W W ?_|refine cx W W I W W ?_
     refine aX Wl W W ?_;refine aq W W ?_;refine aX QP W W ?_;refine kg W W ?_;exact TL.nil W
    repeat refine DC.seq ?_
    refine Mw W ?_;refine DC.skip ?_
    repeat refine DC.seq ?_
    apply Mn
    .intro g X;refine bc W W W (by omega) ?_;refine aq W W ?_;exact TL.nil W
    exact bf (k':=d.length-(C+1)) (by omega) ⟨C+1,_,_,_,rfl,h,K,I,by rw[H];exact w,by omega,rfl⟩ W W
   |false=>
    rw[Z]at QP H;simp only[Bool.not_false,ajL]at H;have RF:fv a.ps e x=⟨⟨e.s.vars,(eJ e.s.aO J e.m x).1,e.s.ck⟩,(eJ e.s.aO J e.m x).2.1,e.q++(eJ e.s.aO J e.m x).2.2++[gY (e.s.vars.nm x) (aZ ((eJ e.s.aO J e.m x).1.nm x)) a.ps]⟩:=by
     unfold fv;rw[lL];dsimp only;rw[OI]
    rw[RF]at H;have S3:=ni e.s.aO e.s.ck e.m x SH.l;rw[OI]at S3;have Sv:∀b,e.s.aO x=some b->b.k7<=J.length:= λb d=>by rw[<-OI];exact SH.l x b d
    obtain⟨_,K5,l',⟨rfl,rfl⟩,E,OK⟩:=Wk.call (a:=[.ob it bg,ij f p e.m,cN S e.s.aO]) (r:=[_,_,_,_,_]) (w.pick [2,3,7,0,1,4,5,6]) (ux it f p e.m Q S J e.s.aO x (by omega) (by omega) (by omega) Sv);generalize eJ e.s.aO J e.m x=sf at E OK H S3;obtain⟨X,mf,qf⟩:=sf
    dsimp only at E OK H S3
    have E:=E.pick [3,0,1,2,4,5,6,7];have L:=E.app (cg qf);rw[<-fA]at L;have g:=L.pick [7,0,1,2,3,4,5,6];obtain⟨ej,Wz,g⟩:=cN.open g;have Vj:=g.ob;have g:=g.pick [4,0,1,2,3,5,6,7];obtain⟨el,Uc,g⟩:=cN.open g;have UR:=g.ob;have g:=g.pick [2,0,1,3,4,5,6,7];have N6:=fE (X.nm x);rw[(aZ (X.nm x)).ah]at N6;have N3:=o8 (e.s.vars.nm x) (aZ (X.nm x)) a.ps;rw[eb,(aZ (X.nm x)).ah]at N3;have ce:(cg qf).length<=1:=by have:=S3.2.2.2;simpa [cg] using this
    have co:(cg e.q).length<=200000000:=by simp only[cg,ah8];omega
    have d5:(cg (e.q++qf)).length<=300000000:=by rw[fA,ah6];omega
    repeat refine DC.seq ?_
    apply Mn
    .intro s0 Oo
     first|refine aG W W ?_|refine aF W W ?_|refine dh W W ?_|refine gE W W ?_
     first|refine ca W W W ?_|refine eh W W W ?_|refine bp W W W W W ?_|refine cK W W W W W ?_|refine bp W W I W W ?_|refine cK W W RY W W ?_|refine cx W W W W W ?_|refine cx W W I W W ?_
     refine aX Wl W W ?_;refine aq W W ?_;refine aX QP W W ?_;refine kg W W ?_;exact TL.nil W
    repeat refine DC.seq ?_
    refine MM W ?_
    repeat refine DC.seq ?_
    apply Mn
    .intro s0 Oo;refine aq W W ?_;refine aq W W ?_
     first|refine ca W W W ?_|refine eh W W W ?_|refine bp W W W W W ?_|refine cK W W W W W ?_|refine bp W W K W W ?_|refine cK W W RZ W W ?_|refine cx W W W W W ?_|refine cx W W K W W ?_
     refine aq W W ?_;refine aA OK W W ?_;refine cT E W W W W W W (dv _) (by omega) ?_;refine aj W W ?_;exact TL.nil W
    repeat refine DC.seq ?_
    apply Mz mixed
    .intro s0 Oo;refine bG W W ?_
     first|refine cm W W ?_|refine cF W W ?_|refine bW W W ?_|refine gA W W ?_
     first|refine di W W W ?_|refine cO W W W W ?_|refine dj W W W W ?_|refine cO W W K W ?_|refine dj W W RZ W ?_
     refine bG W W ?_;refine uv Wz Vj W W W ?_
     first|refine BF W W W W ?_|refine IH W W W W W ?_
     first|refine cm W W ?_|refine cF W W ?_|refine bW W W ?_|refine gA W W ?_
     first|refine di W W W ?_|refine cO W W W W ?_|refine dj W W W W ?_|refine cO W W K W ?_|refine dj W W RZ W ?_
     refine bG W W ?_;refine uv Uc UR W W W ?_
     first|refine BF W W W W ?_|refine IH W W W W W ?_
     refine bm N6 W W ?_
     first|refine cm W W ?_|refine cF W W ?_|refine bW W W ?_|refine gA W W ?_
     first|refine dY W W W ?_|refine jL W W W ?_|refine cY W W W W W ?_|refine iq W W W W W ?_|refine cY W W I W W ?_|refine iq W W RY W W ?_|refine gW W W W W W ?_|refine gW W W I W W ?_
     refine bm N3 W W ?_;refine cr W W W W W W W W ?_;refine eV g W W W W W W W (by omega) ?_;refine mY W W ?_;exact TF.nil ⟨by kernel_rfl,rfl⟩
    have w8:=g.app [eW 1 [e.s.vars.nm x] ⟨#[]⟩ [] false (xC (aZ (X.nm x))) [] a.ps];have U':cg (e.q++qf)++[eW 1 [e.s.vars.nm x] ⟨#[]⟩ [] false (xC (aZ (X.nm x))) [] a.ps]=cg (e.q++qf++[gY (e.s.vars.nm x) (aZ (X.nm x)) a.ps]):=by
     rw[fA (e.q++qf)];show _=cg (e.q++qf)++[(gY (e.s.vars.nm x) (aZ (X.nm x)) a.ps).cells];rw[eb]
    rw[U']at w8;have w8:=Ng Uc (w8.pick [1,0,2,3,4,5,6,7]);have w8:=Ng Wz (w8.pick [2,0,1,3,4,5,6,7])
    repeat refine DC.seq ?_
    apply Mn
    .intro s0 Oo;refine bc W W W (by omega) ?_;refine aq W W ?_;exact TL.nil W
    exact bf (k':=d.length-(C+1)) (by omega) ⟨C+1,_,_,_,rfl,h,K,I,by rw[H];exact w8.pick [2,5,3,4,6,7,0,1],by omega,rfl⟩ W W
  refine DC.exit ?_;obtain rfl:C=d.length:=by have:=aie j;omega
  clear j;have V:=hL d.length;have WB:=Qk d.length;rw[aih]at w V WB;clear hL Qk
  dsimp only[eZ]at Ul Y U
  have WC:=V.n;have WD:=V.vs;have WE:=V.q;have OI:=V.ck.trans U1;generalize (d.filter λx=> !(cW (cy a.aT) x)).foldl (fv a.ps) T=i1 at w V Ul Y U WC WD WE OI;obtain⟨_,K5,l',⟨rfl,rfl⟩,E,OK⟩:=Wk.call (a:=hY it f Q S p ⟨i1.s,i1.m,[]⟩) (r:=[_,_,_,_]) (w.pick [2,3,6,7,0,1,4,5]) (Ul Q S);rw[OI,a.aT.ah]at OK;generalize iF p.aB false a.aT i1.s i1.m=zb at E OK Y U;obtain⟨mb,qb⟩:=zb
  dsimp only at E OK Y U
  have E:Wk P O (.acc 16 (cg i1.q) u::oc o c q.ps gl::hY it f iv t p ⟨r.s,mb,[]⟩) K5:=E.pick [2,3,0,1,4,5];have L:=E.app (cg qb);rw[<-fA]at L;have m6:(cg i1.q).length+(cg qb).length<=100000000:=by rw[ah6]at Y;simp only[cg,ah8];omega
  repeat refine DC.seq ?_
  apply Mn
  .intro g H;refine aq W W ?_;refine aq W W ?_
   first|refine ca W W W ?_|refine eh W W W ?_|refine bp W W W W W ?_|refine cK W W W W W ?_|refine bp W W K W W ?_|refine cK W W RZ W W ?_|refine cx W W W W W ?_|refine cx W W K W W ?_
   first|refine aG W W ?_|refine aF W W ?_|refine dh W W ?_|refine gE W W ?_
   first|refine ca W W W ?_|refine eh W W W ?_|refine bp W W W W W ?_|refine cK W W W W W ?_|refine bp W W I W W ?_|refine cK W W RY W W ?_|refine cx W W W W W ?_|refine cx W W I W W ?_
   refine aA OK W W ?_;refine cT E W W W W W W (dv _) (by omega) ?_;refine aj W W ?_;exact TL.nil W
  repeat refine DC.seq ?_
  apply Mn
  .intro g H;refine bc W W W (by omega) ?_;refine aq W W ?_;exact TL.nil W
  exact bf (k':=q.ai.length-(k+1)) (by omega) ⟨k+1,_,gl,_,_,rfl,h,by rw[F,Xw,T5,U],by rw[U];exact L,by omega,rfl⟩ W W
 refine DC.exit ?_;obtain rfl:k=q.ai.length:=by have:=aie j;omega
 clear j hR;rw[aih]at w F;have d8:(c7 p.aB c d q.ai r1 []).2.length<=1000:=by rw[yM,List.length_nil];omega
 generalize c7 p.aB c d q.ai r1 []=zz at w F hZ d8⊢;obtain⟨z,y⟩:=zz
 dsimp only at w F hZ d8⊢
 have w:=z8.start (w.pick [1,0,2,3,4,5]);have i8:l.length=d.length:=by have:=ajj List.length F;rw[ah8,uB]at this;exact this
 repeat refine DC.seq ?_
 apply Mn
 .intro g C;refine aq W W ?_
  (refine aY W W W ?_;rw[Ou])
  refine aq W W ?_;exact TL.nil W
 refine Nq [(177,.m (.d (.int .i64 ((0:Nat):Int)))),(176,.m (.d (.int .i64 ((d.length:Nat):Int)))),(175,.m (.d (.sl (aE d)))),(11,.m (.bZ o 0 d.length)),(9,.m u),(8,.m (.d (.str c))),(5,.m (.d (.bM (eW 3 q.lhs q.f (q.args.map Xp.cells) q.has (xC q.ex) (q.ai.map aH.cells) q.ps) 0))),(4,.loc 4 0)] _ _ W (λ_=>rfl) W ?_
 repeat refine DC.seq ?_
 refine DC.block ?_;refine DC.loop (λw u=>∃(i:Nat) (g:M) (l:List Mr) (h:List (Nat×List M)) (j:Hp),u=⟨[(177,.m (.d (.int .i64 ((i:Nat):Int)))),(176,.m (.d (.int .i64 ((d.length:Nat):Int)))),(175,.m (.d (.sl (aE d)))),(11,.m (.bZ o 0 d.length)),(9,.m g),(8,.m (.d (.str c))),(5,.m (.d (.bM (eW 3 q.lhs q.f (q.args.map Xp.cells) q.has (xC q.ex) (q.ai.map aH.cells) q.ps) 0))),(4,.loc 4 0)],h,j⟩/\Go.Mt.get h 4=some [.mp iv,.mp t,.d (.sl (bA s.ck))]/\
   l.map Prod.fst=(yN d.length (q.ai.map aH.name) y).drop i/\
   Wk P O (z8 o c q.ps i l:: .acc 16 (cg (z.q++(List.range i).map λi=>gY (z.s.vars.nm (d[i]?.getD ⟨#[]⟩)) (.mk 13 0 0 c (q.ai.map aH.name) (y.map λd=>aZ (d[i]?.getD ⟨#[]⟩)) q.ps) q.ps)) g::hY it f iv t p ⟨z.s,z.m,[]⟩) j/\i<=d.length/\w=d.length-i) d.length _
  ⟨0,u,l,_,_,rfl,h,F,by rw[List.range_zero,aiL,aiu];exact w,by omega,rfl⟩ W ?_
 clear w h F i8;rintro ii s1 ⟨i,u,l,bx,H1,rfl,h,F,w,hi,rfl⟩
 repeat refine DC.seq ?_
 apply Mn
 .intro g C
  first|refine ay W W W (r:=.bool true) W ?_|refine ay W W W (r:=.bool false) W ?_|refine ay W W W W ?_
  exact TL.nil W
 repeat refine DC.seq ?_
 refine DC.cond W (λj=>?_) (λj=>?_)
 .have M0:i<d.length:=by have:=aic j;omega
  clear j;have S:=fF M0;have ac:=uB d.length (q.ai.map aH.name) y;rw[<-akX (by rw[ac];exact M0),yO]at F;obtain⟨Q,g,rfl,I,Oh⟩:=List.map_eq_cons_iff.1 F;obtain⟨y1,T,U⟩:=Q
  dsimp only at I
  subst I;obtain⟨A,G,w⟩:=z8.open w
  dsimp only at w
  have w:=w.pick [2,0,1,3,4,5,6,7,8];obtain⟨Z,w,J⟩:=w.Ie;have K:=w.view (EB _);have L:=(w.pick [2,0,1,3,4,5,6,7,8]).view (cU _);have w:=(w.drop).pick [1,0,2,3,4,5,6,7];have w:=w.drop;have D:=w.ob;have C:=IG (c:=c) (p:=q.ps) (x:=((q.ai.map aH.name,y.map λv=>v[i]?.getD ⟨#[]⟩),(T,U))) (A:=A) (B:=ew c q.ps g) L K;refine J (DC.vu D C.1 C.2 ?_);have w:=w.set (.row false 8 0 (A++(jz c q.ps ((q.ai.map aH.name,y.map λv=>v[i]?.getD ⟨#[]⟩),(.d (.sl (aE (q.ai.map aH.name))),.d (.sl (eS (y.map λv=>v[i]?.getD ⟨#[]⟩)))))++ew c q.ps g)));generalize Z.set o (.row false 8 0 (A++(jz c q.ps ((q.ai.map aH.name,y.map λv=>v[i]?.getD ⟨#[]⟩),(.d (.sl (aE (q.ai.map aH.name))),.d (.sl (eS (y.map λv=>v[i]?.getD ⟨#[]⟩)))))++ew c q.ps g)))=H3 at w⊢;clear D C L K J;have D:=w.ob;have w:=w.pick [5,0,1,2,3,4,6];obtain⟨ev,C,w⟩:=cN.open w;have V:=w.ob;have w:=w.pick [3,0,1,2,4,5,6];have N3:=o8 (z.s.vars.nm d[i]) (.mk 13 0 0 c (q.ai.map aH.name) (y.map λv=>aZ (v[i]?.getD ⟨#[]⟩)) q.ps) q.ps;have X:eS (y.map λv=>v[i]?.getD ⟨#[]⟩)=(y.map λv=>aZ (v[i]?.getD ⟨#[]⟩)).map Xp.cells:=by simp[eS]
  rw[eb,Xp.ah]at N3;rw[X]at w D;have am:((A++(jz c q.ps ((q.ai.map aH.name,y.map λv=>v[i]?.getD ⟨#[]⟩),(.d (.sl (aE (q.ai.map aH.name))),.d (.sl ((y.map λv=>aZ (v[i]?.getD ⟨#[]⟩)).map Xp.cells))))++ew c q.ps g)).drop ((((i:Nat):Int)).toNat*8)).take 8=jz c q.ps ((q.ai.map aH.name,y.map λv=>v[i]?.getD ⟨#[]⟩),(.d (.sl (aE (q.ai.map aH.name))),.d (.sl ((y.map λv=>aZ (v[i]?.getD ⟨#[]⟩)).map Xp.cells)))):=by
   rw[akK,akO,G,akY,akZ (by omega),aiK,akC];rw[aks (by simp[jz])];rfl
  have ce:(((i:Nat):Int)).toNat*8+8<=(A++(jz c q.ps ((q.ai.map aH.name,y.map λv=>v[i]?.getD ⟨#[]⟩),(.d (.sl (aE (q.ai.map aH.name))),.d (.sl ((y.map λv=>aZ (v[i]?.getD ⟨#[]⟩)).map Xp.cells))))++ew c q.ps g)).length:=by
   rw[akK,ah6,ah6,G];simp[jz];try omega
  have co:(cg (z.q++(List.range i).map λi=>gY (z.s.vars.nm (d[i]?.getD ⟨#[]⟩)) (.mk 13 0 0 c (q.ai.map aH.name) (y.map λd=>aZ (d[i]?.getD ⟨#[]⟩)) q.ps) q.ps)).length<=200000000:=by
   simp only[cg,ah8,ah6,aj0];omega
  refine DC.skip ?_
  repeat refine DC.seq ?_
  refine DC.block ?_
  repeat refine DC.seq ?_
  apply Mn
  .intro s0 Oo;refine aq W W ?_;refine bH W W W (ah7 i) S W ?_
   first|refine aI W W W ?_|refine aJ W W W W ?_|refine bK W W W W ?_|refine aJ W W adG W ?_|refine bK W W adH W ?_
   refine aj W W ?_;refine aj W W ?_;exact TL.nil W
  repeat refine DC.seq ?_
  apply Mz mixed
  .intro s0 Oo;refine bG W W ?_
   first|refine cm W W ?_|refine cF W W ?_|refine bW W W ?_|refine gA W W ?_
   first|refine di W W W ?_|refine cO W W W W ?_|refine dj W W W W ?_|refine cO W W h W ?_|refine dj W W Uk W ?_
   refine bG W W ?_;refine uv C V W W W ?_
   first|refine BF W W W W ?_|refine IH W W W W W ?_
   refine bG W W ?_;refine bG W W ?_;refine mZ W W W D (ah7 _) (by omega) ?_;refine Gj W W D am ce W ?_
   first|refine cm W W ?_|refine cF W W ?_|refine bW W W ?_|refine gA W W ?_
   first|refine dY W W W ?_|refine jL W W W ?_|refine cY W W W W W ?_|refine iq W W W W W ?_|refine cY W W N2 W W ?_|refine iq W W Qs W W ?_|refine gW W W W W W ?_|refine gW W W N2 W W ?_
   refine bm N3 W W ?_;refine cr W W W W W W W W ?_;refine eV w W W W W W W W (by omega) ?_;refine mY W W ?_;exact TF.nil ⟨by kernel_rfl,rfl⟩
  have H:=w.app [eW 1 [z.s.vars.nm d[i]] ⟨#[]⟩ [] false (xC (.mk 13 0 0 c (q.ai.map aH.name) (y.map λv=>aZ (v[i]?.getD ⟨#[]⟩)) q.ps)) [] q.ps];have Y:cg (z.q++(List.range i).map λi=>gY (z.s.vars.nm (d[i]?.getD ⟨#[]⟩)) (.mk 13 0 0 c (q.ai.map aH.name) (y.map λd=>aZ (d[i]?.getD ⟨#[]⟩)) q.ps) q.ps)++[eW 1 [z.s.vars.nm d[i]] ⟨#[]⟩ [] false (xC (.mk 13 0 0 c (q.ai.map aH.name) (y.map λv=>aZ (v[i]?.getD ⟨#[]⟩)) q.ps)) [] q.ps]=cg (z.q++(List.range (i+1)).map λi=>gY (z.s.vars.nm (d[i]?.getD ⟨#[]⟩)) (.mk 13 0 0 c (q.ai.map aH.name) (y.map λd=>aZ (d[i]?.getD ⟨#[]⟩)) q.ps) q.ps):=by
   rw[List.range_succ,aio,<-ai0,fA (z.q++_)];show _=cg _++[(gY (z.s.vars.nm (d[i]?.getD ⟨#[]⟩)) (.mk 13 0 0 c (q.ai.map aH.name) (y.map λd=>aZ (d[i]?.getD ⟨#[]⟩)) q.ps) q.ps).cells];rw[eb,show d[i]?.getD ⟨#[]⟩=d[i] by simp[M0]]
  rw[Y]at H
  repeat refine DC.seq ?_
  apply Mn
  .intro s0 Oo;refine bc W W W (by omega) ?_;refine aq W W ?_;exact TL.nil W
  have E:=Ng C (H.pick [1,0,2,3,4,5,6]);have E:=E.pick [2,3,1,4,5,0,6];rw[<-ai0]at E;have E:=z8.close (k:=i+1) (by rw[ah6,G];simp[jz];try omega) E;exact bf (k':=d.length-(i+1)) (by omega) ⟨i+1,_,g,_,_,rfl,h,Oh,E,by omega,rfl⟩ W W
 refine DC.exit ?_;obtain rfl:i=d.length:=by have:=aie j;omega
 have w:=w.drop;have RB:=w.view (dv _)
 repeat refine DC.seq ?_
 apply Mn
 .intro g C;refine aq W W ?_;refine aj W W ?_;exact TL.nil W
 refine DC.aR 6 W RB ?_;exact DC.ret ⟨_,W,_,⟨W,W⟩,w.drop⟩
end Go.Proofs.Pz
namespace Go.Ps
open Go.Mt Go.Sm
section
variable{en:List En}{T:TE}
def lk.get:∀{l:List aD},lk en T l->∀q∈l,CV en T q
 |[],_,q,h=>by simp at h
 |b::l,a,q,h=>by
  rw[lk]at a;rcases aib.1 h with rfl|h
  .exact a.1
  .exact lk.get a.2 q h
def lk.take:∀{l:List aD} (i:Nat),lk en T l->lk en T (l.take i)
 |l,0,_=>by rw[aiD,lk];trivial
 |[],i+1,h=>by rw[akr];exact h
 |b::l,i+1,a=>by
  rw[lk]at a;rw[aiU,lk];exact⟨a.1,lk.take i a.2⟩
def kF.get:∀{l:List aH},kF en T l->∀a∈l,z7 en T a.aT
 |[],_,q,h=>by simp at h
 |.mk n b u w p::l,c,q,h=>by
  rw[kF]at c;rcases aib.1 h with rfl|h
  .exact c.1
  .exact kF.get c.2 q h
def kF.take:∀{l:List aH} (i:Nat),kF en T l->kF en T (l.take i)
 |l,0,_=>by rw[aiD,kF];trivial
 |[],i+1,h=>by rw[akr];exact h
 |.mk n b u w p::l,i+1,a=>by
  rw[kF]at a;rw[aiU,kF];exact⟨a.1,kF.take i a.2⟩
end
def yQ:∀{l:List aD} {i:Nat} (h:i<l.length),gj (l.take i)+mG l[i]<=gj l
 |[],i,h=>by simp at h
 |a::l,0,h=>by rw[aiD,gj,gj,ajv];omega
 |a::l,i+1,h=>by
  have:=yQ (l:=l) (i:=i) (by simpa using h);rw[aiU,gj,gj,ajg];omega
def yR:∀(l:List aD) (i:Nat),eM (l.take i)<=eM l
 |l,0=>by rw[aiD,eM];omega
 |[],i+1=>by rw[akr];omega
 |a::l,i+1=>by have:=yR l i;rw[aiU,eM,eM];omega
def AN:∀{l:List aD} {q:aD},q∈l->nO q<=eM l
 |[],q,h=>by simp at h
 |a::l,q,h=>by
  rw[eM];rcases aib.1 h with rfl|h
  .omega
  .have:=AN h;omega
def tj(n:Nat):∀{l:List aH} {i:Nat} (h:i<l.length),fP n (l.take i)+(1+3*n+iG l[i].aT)<=fP n l
 |[],i,h=>by simp at h
 |.mk _ b _ _ _::l,0,h=>by rw[aiD,fP,fP,ajv];simp only[aH.aT];omega
 |.mk _ b _ _ _::l,i+1,h=>by
  have:=tj n (l:=l) (i:=i) (by simpa using h);rw[aiU,fP,fP,ajg];omega
def C1(n:Nat):∀(l:List aH) (i:Nat),fP n (l.take i)<=fP n l
 |l,0=>by rw[aiD,fP];omega
 |[],i+1=>by rw[akr];omega
 |.mk _ b _ _ _::l,i+1=>by have:=C1 n l i;rw[aiU,fP,fP];omega
def tm:∀(l:List aH) (i:Nat),dP (l.take i)<=dP l
 |l,0=>by rw[aiD,dP];omega
 |[],i+1=>by rw[akr];omega
 |.mk _ b _ _ _::l,i+1=>by have:=tm l i;rw[aiU,dP,dP];omega
def kG:∀{l:List aH} {a:aH},a∈l->1+ju a.aT<=dP l
 |[],q,h=>by simp at h
 |.mk _ b _ _ _::l,q,h=>by
  rw[dP];rcases aib.1 h with rfl|h
  .simp only[aH.aT];omega
  .have:=kG h;omega
end Go.Ps
namespace Go.Proofs.Pz
open Go.Mt Go.Sm Go.Ps Go.Proofs
section
variable(it im:Nat)(p:Pg)(Nw:k8 p.aB)
include Nw
mutual
def FL:∀(b:bF) (a:Bool) (s:Sc) (m:MS) (T:TE) (N:Nat),z7 p.aB T b->eg s->dN s T->lc T N->N+iG b<=9000000->s.ck.length+ju b<=90000->m.n+iG b<=8000000->m.vars.length+iG b<=8000000->vP it im p p.aB a b s m
 |.mk c a,d,s,m,T,N,l,n,q,t,u,v,w,x=>by
  rw[z7]at l;rw[iG]at u w x;rw[ju]at v;obtain⟨y,z,A,h⟩:=l;intro B C;refine rO it im B C p p.aB d (.mk c a) s m n (by omega) z y (by simp only[bF.vars];omega) (by simp only[bF.vars];omega) A ?_;intro i D;have j:=bu.open (r:=⟨s,m,[]⟩) n d c;have E:=dN.open (r:=⟨s,m,[]⟩) d q c;have e:i<a.length:=D;show(gD p.aB (a.take i) (je d ⟨s,m,[]⟩ c)).s.ck=s.ck/\FJ it im p p.aB a[i] (gD p.aB (a.take i) (je d ⟨s,m,[]⟩ c))/\(iP p.aB a[i] (gD p.aB (a.take i) (je d ⟨s,m,[]⟩ c))).q.length<=100000000;have K:=yQ e;have L:=yR a i;have M:=AN (aif e);obtain⟨k,o⟩:=yL p.aB (a.take i) (je d ⟨s,m,[]⟩ c) _ j.sc E (h.take i) (by rw[j.ck];dsimp only;omega);have f:=j.trans k;have g:=f.ck;have F:=f.n;have I:=f.vs;have G:=f.q
  dsimp only[List.length_nil]at g F I G
  obtain⟨H,_⟩:=FK p.aB a[i] _ _ k.sc o (h.get _ (aif e)) (by rw[g];omega);have J:=H.q;refine⟨g,FM a a[i] (aif e) _ _ (N+c.length) (h.get _ (aif e)) k.sc o (t.wM c) (by omega) (by rw[g];omega) (by omega) (by omega),?_⟩;exact aiz J (by omega)
def FM:∀(l:List aD) (q:aD),q∈l->∀(r:Ps.R) (T:TE) (N:Nat),CV p.aB T q->eg r.s->dN r.s T->lc T N->N+mG q<=9000000->r.s.ck.length+nO q<=90000->r.m.n+mG q<=8000000->r.m.vars.length+mG q<=8000000->FJ it im p p.aB q r
 |[],q,h=>by simp at h
 |a::l,q,h=>by
  rcases aib.1 h with h|h
  .rw[h];exact Lo a
  .exact FM l q h
def Lo:∀(q:aD) (r:Ps.R) (T:TE) (N:Nat),CV p.aB T q->eg r.s->dN r.s T->lc T N->N+mG q<=9000000->r.s.ck.length+nO q<=90000->r.m.n+mG q<=8000000->r.m.vars.length+mG q<=8000000->FJ it im p p.aB q r
 |.mk k b g l j e a h,r,T,N,D,m,o,C,P,Q,S,U=>by
  rw[CV]at D;rw[mG]at P S U;rw[nO]at Q;obtain⟨x,V,⟨E,X,ce,co⟩,Y,q⟩:=D;intro s t;rcases Y with d|d|⟨d,Z⟩|⟨d,Ny,y,N5,NE,F,Qo⟩
  .exact G2 it im s t p p.aB r.s r.m (.mk k b g l j e a h) d x m (by simp only[aD.ex];omega) (by simp only[aD.ex];omega) (by simp only[aD.ex];omega) (by simp only[aD.lhs];omega)
  .exact Et it im s t p p.aB r.s r.m (.mk k b g l j e a h) d V x m (by simp only[aD.ex,aD.args];omega) (by simp only[aD.ex,aD.args];omega) E X (by simp only[aD.lhs];omega) (by simp only[aD.args];omega)
  .have f:=bu.val (r:=⟨r.s,r.m,[]⟩) m e (1,⟨#[]⟩);have w:=dN.val (r:=⟨r.s,r.m,[]⟩) o e (1,⟨#[]⟩);have v:=f.ck;have z:=f.n;have A:=f.vs
   dsimp only at v z A
   obtain⟨c,n,i⟩:∃b c,a=b::c:=by
    cases B:a with
    |nil=>exact absurd B Z
    |cons c n=>exact⟨c,n,W⟩
   have u:c∈a:=by rw[i];simp
   have G:=kG u;have H:1+3*(aQ b a).length+iG c.aT<=fP (aQ b a).length a:=by
    have B:0<a.length:=by rw[i];simp
    have:=tj (aQ b a).length B;have e:a[0]=c:=by simp[i]
    rw[e,aiD,fP]at this;omega
   exact CR it im s t p p.aB r.s r.m (.mk k b g l j e a h) c n d i x m (by simp only[aD.ex];omega) (by simp only[aD.ex];omega) (by simp only[aD.ex];omega)
    (yS a c u _ _ T N (q.get c u) f.sc w C (by omega) (by simp only[aD.ex];rw[v];omega) (by simp only[aD.ex];omega) (by simp only[aD.ex];omega))
  .have O2:=o.ty;have f:=bu.val (r:=⟨r.s,r.m,[]⟩) m e (dG p.aB r.s.vars.ty e);have u:=dN.val (r:=⟨r.s,r.m,[]⟩) o e (dG p.aB r.s.vars.ty e);have ac:oL p.aB r.s.vars.ty (λx=>(r.s.vars x).isSome=true) e:=by
    rw[O2];exact Ny.mono λx a=>by rw[o.some];exact a
   obtain⟨c,G⟩:∃a,a=Ps.gM ⟨r.s,r.m,[]⟩ e (dG p.aB r.s.vars.ty e):=⟨_,rfl⟩;rw[<-G]at f u;have v:=f.ck;have Qz:=f.n;have Nr:=f.vs;have SZ:=f.q
   dsimp only[List.length_nil]at v Qz Nr SZ
   have NF:=aiz (qT b a) F;refine BX it im s t p r.s r.m (.mk k b g l j e a h) d _ (pW it im s t p Nw r.s r.m (.mk k b g l j e a h) d m x ac (by obtain⟨O,q1,q2⟩:=(o.LP C);exact⟨O,by omega,q2⟩) N5 NE (by rw[qe];exact F) (by rw[bX];exact sv a Qo) (by rw[bX];omega) (by omega)
    E (by simp only[aD.ex];omega) (by simp only[aD.ex];omega) c G ?_ ?_)
   .rw[show bX (.mk k b g l j e a h)=aQ b a by rw[bX]];intro i hi;have A:i<a.length:=hi;show(c7 p.aB (nV c.m.n) (aQ b a) (a.take i) c []).1.s=c.s/\(c7 p.aB (nV c.m.n) (aQ b a) (a.take i) c []).1.m.n+3*(aQ b a).length<=9000000/\(c7 p.aB (nV c.m.n) (aQ b a) (a.take i) c []).1.m.vars.length+3*(aQ b a).length<=9000000/\
     (c7 p.aB (nV c.m.n) (aQ b a) (a.take i) c []).1.q.length<=100000000/\(c7 p.aB (nV c.m.n) (aQ b a) (a.take (i+1)) c []).1.q.length<=100000000/\
     vP it im p p.aB false a[i].aT (eZ (aQ b a) a[i].aT a[i].ps (eu (nV c.m.n) (aQ b a) a[i].name (c7 p.aB (nV c.m.n) (aQ b a) (a.take i) c []).1)).s (eZ (aQ b a) a[i].aT a[i].ps (eu (nV c.m.n) (aQ b a) a[i].name (c7 p.aB (nV c.m.n) (aQ b a) (a.take i) c []).1)).m
    have w1:=tj (aQ b a).length A;have w2:=C1 (aQ b a).length a (i+1);have d1:=tm a i;have d2:=tm a (i+1);have d3:=kG (aif A);obtain⟨n,w⟩:=qV p.aB (a.take i) (nV c.m.n) (aQ b a) c [] T f.sc u y (q.take i) (by rw[v];omega);obtain⟨z3,_⟩:=qV p.aB (a.take (i+1)) (nV c.m.n) (aQ b a) c [] T f.sc u y (q.take (i+1)) (by rw[v];omega);have H:=n.n;have I:=n.vs;have J:=n.q;have d5:=z3.q;generalize c7 p.aB (nV c.m.n) (aQ b a) (a.take i) c []=z at n w H I J⊢;obtain⟨z,vz⟩:=z
    dsimp only at n w H I J⊢
    have K:z.s.ck=r.s.ck:=by rw[w,v]
    have L:dN z.s T:=by rw[w];exact u
    have B:=bu.kq (r:=z) n.sc (by rw[K];omega) (nV c.m.n) (aQ b a) a[i].name a[i].aT a[i].ps;have M:=B.ck;have gn:=B.n;have gv:=B.vs
    dsimp only at M gn gv
    have am:=ajj List.length M;rw[ah6,aik,K]at am;exact⟨w,by omega,by omega,by omega,by omega,yS a a[i] (aif A) _ _ T N (q.get _ (aif A)) B.sc ((dN.oM L (aQ b a) (r:=⟨⟨z.s.vars,z.s.aO,z.s.ck++[(a[i].name,nV c.m.n)]⟩,z.m,z.q⟩) y (L.vars W)).vars (qU _ _ _)) C (by omega) (by omega) (by omega) (by omega)⟩
   .rw[show bX (.mk k b g l j e a h)=aQ b a by rw[bX]];obtain⟨i,n⟩:=qV p.aB a (nV c.m.n) (aQ b a) c [] T f.sc u y q (by rw[v];omega);exact⟨n,by have:=i.q;simp only[aD.ai];omega⟩
def yS:∀(l:List aH) (a:aH),a∈l->∀(s:Sc) (m:MS) (T:TE) (N:Nat),z7 p.aB T a.aT->eg s->dN s T->lc T N->N+iG a.aT<=9000000->s.ck.length+ju a.aT<=90000->m.n+iG a.aT<=8000000->m.vars.length+iG a.aT<=8000000->vP it im p p.aB false a.aT s m
 |[],a,h=>by simp at h
 |.mk n b u w c::l,a,h=>by
  rcases aib.1 h with rfl|h
  .exact FL b false
  .exact yS l a h
end
end
end Go.Proofs.Pz
namespace Go.Ps
open Go.Mt Go.Sm
def dN.IC{r:R}{T:TE}(h:dN r.s T)(v:Va):dN (fp r v).s (T.add v):=by
 unfold fp;refine dN.vars (s:={r.s with vars:=r.s.vars.set v.name ⟨v.name,0,v.tk,v.tn⟩}) ?_ (wN _ _ _);intro y;show((Env.set r.s.vars v.name _) y).map _=_;unfold Env.set TE.add;by_cases e:y=v.name
 .rw[air e,air e];rfl
 .rw[aid e,aid e];exact h y
def dN.qg:∀(l:List Va) {r:R} {T:TE},dN r.s T->dN (l.foldl fp r).s (l.foldl TE.add T)
 |[],r,T,h=>h
 |v::l,r,T,h=>by rw[aii,aii];exact dN.qg l (h.IC v)
abbrev T0:TE:= λ_=>none
def II:lc T0 0:=⟨[],by simp,λx h=>by simp at h⟩
structure KI(en:List En)(d:Nd):Prop where
 l:d.ins.length+d.outs.length<=1000
 cl:∀v∈d.ins++d.outs,v.clock.length<=1000
 wf:z7 en ((d.ins++d.outs).foldl TE.add T0) d.b
 wt:iG d.b<=7000000
 dp:ju d.b<=80000
structure KJ(p:Pg):Prop where
 e:k8 p.aB
 n:p.nodes.length<=1000000
 d:∀d∈p.nodes,KI p.aB d
end Go.Ps
namespace Go.Proofs.Pz
open Go.Mt Go.Sm Go.Ps Go.Proofs
def JY(it:Nat)(p:Pg)(a:KJ p):Dt Tryz.prog 56 [.d (.agg p.cells)] [.ob it bg] λx l=>x=.d (.agg (s_ p).cells)/\l=[.ob it bg]:=by
 refine zZ it p a.n λd b=>?_
 have h:=a.d d b;have b:(d.ins++d.outs).length<=1000:=by rw[ah6];exact h.l
 have g:=bu.qg (d.ins++d.outs) xw;have t:=dN.qg (d.ins++d.outs) (r:=mS) (T:=T0) (λ_=>rfl);have c:=g.n;have e:=g.vs;have b:=g.ck
 dsimp only[List.length_nil]at c e b
 have c:=h.wt;have c:=h.dp;exact Ev it p d h.l h.cl (λc=>FL it c p a.e d.b true _ _ _ _ h.wf g.sc t (lc.wM (d.ins++d.outs) II) (by omega) (by rw[b];simp only[List.length_nil];omega) (by omega) (by omega))
  (aiz (xx p.aB d.b true _ _ _ g.sc t h.wf (by rw[b];simp only[List.length_nil];omega)).q (by omega))
end Go.Proofs.Pz
namespace Go.Mt
variable{P:Program}{f:Nat}{ms:List M}{x:D}
def CT.pb{H K:Hp}{x:M}{d:D}(h:CT P f ms H λr a=>r=x/\a=K)(g:ep K x=some d):CT P f ms H λr a=>r=.d d/\a=K:=by
 intro c i j t k l;refine(h c i j t k l).mono ?_;rintro e u ⟨v,r,m,n,o,⟨rfl,a⟩,b,p,q,s⟩;exact⟨v,_,m,n,o,⟨W,a⟩,b,p.view b (by rw[a];exact g),q,s⟩
def Dt.pb{n:Nat}{a:List As}{rs:List (List D)}(h:Dt P f ms a λr l=>l=[.acc n rs r])(b:∀r∈rs,r.length=n):Dt P f ms a λr l=>r=.d (.sl rs)/\l=[]:=by
 intro H F c;obtain⟨x,K,⟨l,rfl,w⟩,d⟩:=h H F c;exact⟨_,K,⟨[],⟨W,W⟩,w.drop⟩,d.pb (w.view b)⟩
def Dt.ro(h:Dt P f ms [] λr l=>r=.d x/\l=[])(H:Hp):CT P f ms H λr K=>r=.d x/\K=H:=by
 obtain⟨_,K,⟨n,⟨rfl,rfl⟩,w⟩,j⟩:=h H (λ_=>False) (λ_ h=>h);obtain⟨_,_,b⟩:=w;have c:K.take H.length=H:=by
  refine ajQ λi=>?_
  rw[ajz];by_cases a:i<H.length
  .rw[air a];exact b.iW i a id
  .rw[aid a,ail (by omega)]
 intro g k l e d m;refine CT.drop (post:= λa b=>a=.d x/\b=H) H.length (ah9 _) (j.mono ?_) g k l e d m;rintro r o ⟨rfl,rfl⟩;exact⟨b.len,.d _,by rw[c];exact(by rw[<-d];exact e.hb),W,c⟩
def PT.ro{ds:List D}(h:Dt P f (ds.map M.d) [] λr l=>r=.d x/\l=[]):PT P f ds (·=[x]):=
 ML ((h.ro []).mono λr K ⟨a,b⟩=>⟨[x],by rw[a];rfl,rfl⟩)
end Go.Mt
namespace Go.Ps
open Go.Mt Go.Sm
variable{F0:Nat->Prop}{H0 H:Hp}{r:List As}{f:o5}{i im ic:Nat}{es:List (D×M)}{p:Pg}{ins outs:List Va}{u:US}
structure qY(es:List (D×M))(f:o5):Prop where
 k:strKeys es=true
 l:∀x,(match ek x es with|some m=>m|none=>M.d (.sl []))=.d (.sl (bA (f x)))
def pc(i:Nat)(f:o5):As:=.ex λa:List (D×M)=>Sep [.ob i (.map a),.fact (qY a f)]
def pc.close(h:qY es f)(w:Wk F0 H0 (.ob i (.map es)::r) H):Wk F0 H0 (pc i f::r) H:=
 OH (φ:= λes:List (D×M)=>Sep [.ob i (.map es),.fact (qY es f)]) es (Oa (a:=[_,_]) ((Wk.Ar h w).perm (List.Perm.swap _ _ _)))
def pc.open(w:Wk F0 H0 (pc i f::r) H):∃es,qY es f/\Wk F0 H0 (.ob i (.map es)::r) H:=by
 obtain⟨es,w⟩:=w.open;have w:=Wk.split (a:=[_,_]) w;have w:=w.perm (List.Perm.swap _ _ _);exact⟨es,w.Cu,w.drop⟩
def qY.nil:qY [] (λ_=>[]):=⟨rfl,λ_=>rfl⟩
def qY.set(h:qY es f)(x:Nm)(c:List (Nm×Nm)):qY (dK x (.d (.sl (bA c))) es) (λy=>if y=x then c else f y):=by
 have d:=cC.1 h.k;have g:strKeys (dK x (.d (.sl (bA c))) es)=true:=by
  rcases lz (k:=x) (v:=.d (.sl (bA c))) d with a|⟨a,m⟩
  .refine cC.2 λe b=>?_
   have:e.1∈es.map Prod.fst:=a▸aiN b;rw[aij]at this;obtain⟨i,j,l⟩:=this;rw[<-l];exact d i j
  .refine cC.2 λe i=>?_
   have:e.1∈es.map Prod.fst++[.str x]:=a▸aiN i;rw[ain,aiR]at this;rcases this with b|b
   .rw[aij]at b;obtain⟨j,b,l⟩:=b;rw[<-l];exact d j b
   .exact⟨x,b⟩
 refine⟨g,λy=>?_⟩;rw[pU x y _ h.k];by_cases a:y=x
 .rw[air a,air a]
 .rw[aid a,aid a];exact h.l y
def ff(l:List Fq):List (List D):=l.map Fq.cells
abbrev kP(kd:Int)(lhs:List Nm)(f:Nm)(first e:List D)(args:List (List D))(ck:List (Nm×Nm))(rs:List Nm):List D:=[.int .u8 kd,.sl (aE lhs),.str f]++first++e++[.sl args,.sl (bA ck),.sl (aE rs)]
def Fq.ah(q:Fq):q.cells=kP q.kd q.lhs q.f q.first.cells q.e.cells (q.args.map Xp.cells) q.ck q.rs:=rfl
def yT(l:List Fq):∀r∈ff l,r.length=22:=by intro r a;obtain⟨q,_,rfl⟩:=aij.1 a;rw[q.ah,q.first.ah,q.e.ah];rfl
def jO(a b:Nat)(p:Pg)(c:Nm)(d e:List Va)(u:Ps.US):As:=.ex λx:M×M=>Sep [.ob a (.box [.d (.sl (p.aB.map En.cells)),.d (.sl (p.nodes.map Nd.cells)),.d (.str c),.d (.sl (ax d)),.d (.sl (ax e)),x.1,x.2,.mp b,.d (.int .i64 ((u.n:Nat):Int))]),.acc 15 (ax u.vars) x.1,.acc 22 (ff u.eqs) x.2]
def Pc{b:Nm}{mv me:M}(w:Wk F0 H0 (.ob im (.box [.d (.sl (p.aB.map En.cells)),.d (.sl (p.nodes.map Nd.cells)),.d (.str b),.d (.sl (ax ins)),.d (.sl (ax outs)),mv,me,.mp ic,.d (.int .i64 ((u.n:Nat):Int))]):: .acc 15 (ax u.vars) mv:: .acc 22 (ff u.eqs) me::r) H):Wk F0 H0 (jO im ic p b ins outs u::r) H:=
 OH (φ:= λx:M×M=>Sep [.ob im (.box [.d (.sl (p.aB.map En.cells)),.d (.sl (p.nodes.map Nd.cells)),.d (.str b),.d (.sl (ax ins)),.d (.sl (ax outs)),x.1,x.2,.mp ic,.d (.int .i64 ((u.n:Nat):Int))]),.acc 15 (ax u.vars) x.1,.acc 22 (ff u.eqs) x.2]) (mv,me) (Oa (a:=[_,_,_]) w)
def jO.open{a:Nm}(w:Wk F0 H0 (jO im ic p a ins outs u::r) H):∃mv me,Wk F0 H0 (.ob im (.box [.d (.sl (p.aB.map En.cells)),.d (.sl (p.nodes.map Nd.cells)),.d (.str a),.d (.sl (ax ins)),.d (.sl (ax outs)),mv,me,.mp ic,.d (.int .i64 ((u.n:Nat):Int))]):: .acc 15 (ax u.vars) mv:: .acc 22 (ff u.eqs) me::r) H:=by
 obtain⟨⟨mv,me⟩,w⟩:=w.open;exact⟨mv,me,w.split⟩
end Go.Ps
namespace Go.Proofs.Pz
open Go.Mt Go.Sm Go.Ps Go.Proofs
open Tryz
section
variable{X:cQ}{ops:Array Oper}{rest:List Oper}{post:St->Prop}{MU:List Ef->St->Prop}{sl:List (Nat×V)}{bx:List (Nat×List M)}{H:Hp}{d ty:Nat}{pos:String}{af:Array Edge}
def IJ{T e:Nat}{x y:Operand}{i:Nat}{a:Nm}{es:List (D×M)}{f:o5}[ht:ie X.P T e][l:fk X.P e (.sl [])](b:qY es f)(c:H[i]?=some (.map es))(g:Nat.blt d X.n=true)(h:aS sl x=some (.m (.mp i)))(j:aS sl y=some (.m (.d (.str a))))
  (k:TF X ops rest ⟨(d,.m (.d (.sl (bA (f a)))))::sl,bx,H⟩ λes b=>MU (⟨some d,.m (.d (.sl (bA (f a)))),[],[],none,true,none⟩::es) b):TF X ops (⟨some d,.lookup T x y false,ty,pos,af,none⟩::rest) ⟨sl,bx,H⟩ MU:=
 s4 g h j c b.k (by rw[<-b.l]at k;exact k)
end
def yU(l:List Nm)(a:l.length<=1000000):PT prog 206 [.sl (aE l)] (·=[.sl (aE l)]):=
 PT.ro (ds:=[_]) ((te l (by omega)).pb (cU l))
def EC(l:List Va)(a:l.length<=30000000):PT prog 60 [.sl (ax l)] (·=[.sl (ax l)]):=
 PT.ro (ds:=[_]) ((pO l (by omega)).pb (bD l))
def qZ(b a:Nat)(p:Pg)(d:Nm)(f g:List Va)(u:Ps.US)(c:o5)(lhs:List Nm):
  Dt prog 205 [.ref b 0,.d (.sl (aE lhs))] [jO b a p d f g u,pc a c] λr l=>r=.d (.sl (bA (mL c lhs)))/\l=[jO b a p d f g u,pc a c]:=by
 intro H F e;refine⟨_,H,⟨_,⟨W,W⟩,Wk.start e⟩,?_⟩;have w:=Wk.start e;obtain⟨k,m,w⟩:=jO.open w;have n:=w.ob;obtain⟨o,h,w⟩:=pc.open (w.pick [3,0,1,2]);have j:(aE lhs).length=lhs.length:=by simp[aE]
 refine My func205 W ntmps205 W λq s=>?_
 refine MD ?_;cases lhs with
 |nil=>
  refine MD ?_;refine Ms ?_;refine MZ W ?_;refine Ms ?_;refine TC.region<|aj W W<|TL.nil<|TC.ret ⟨_,W,W,W⟩
 |cons x r=>
  have i:((((x::r).length:Nat):Int)==0)=false:=by simp;omega
  refine Ms ?_;refine TC.region<|aq W W ?_
  (refine aY W W W ?_;rw[j])
  (refine ay W W W (r:=.bool false) (by show some (D.bool ((((x::r).length:Nat):Int)==0))=_;rw[i]) ?_)
  refine TL.nil ?_;refine Ms ?_;refine MJ W<|TC.skip ?_;refine Ms ?_;refine OP mixed<|TF.go ?_;refine IJ h w.ob W W W<|TF.Lg ?_;exact TC.ret ⟨_,W,W,W⟩
def wP(it g b:Nat)(p:Pg)(c:Nm)(d f:List Va)(u:Ps.US)(e:Xp)(t:Int×Nm)(a:List (Nm×Nm))(rs:List Nm)(J:u.n<1000000000)(K:u.vars.length<=100000000)(L:u.eqs.length<=100000000)(B:rs.length<=1000000):
  Dt prog 252 [.ref g 0,.d (.agg e.cells),.d (.agg (fL t)),.d (.sl (bA a)),.d (.sl (aE rs))] [.ob it bg,jO g b p c d f u] λr l=>r=.d (.str (nE (u.n+1)))/\l=[.ob it bg,jO g b p c d f (jf u e t a rs)]:=by
 intro H F C;have w:=Wk.start C;have w:=w.pick [1,0];obtain⟨mv,me,w⟩:=jO.open w;have i:=w.ob;have v:((u.n:Nat):Int)+1=((u.n+1:Nat):Int):=by omega
 have n:u.n+1<=1000000000:=by omega
 unfold jf;generalize M:u.n+1=k at v n⊢;rw[e.ah];refine MG func252 W ntmps252 W ?_;refine Mx ?_;refine Mo ?_;apply Mn
 .intro N O;refine aq W W<|iX W W W<|dh W W<|bK W W i W ?_
  (refine bc W W W (by omega) ?_;rw[v])
  refine TL.au
 have w:=w.set (.box [.d (.sl (p.aB.map En.cells)),.d (.sl (p.nodes.map Nd.cells)),.d (.str c),.d (.sl (ax d)),.d (.sl (ax f)),mv,me,.mp b,.d (.int .i64 ((k:Nat):Int))]);generalize H.set g (.box [.d (.sl (p.aB.map En.cells)),.d (.sl (p.nodes.map Nd.cells)),.d (.str c),.d (.sl (ax d)),.d (.sl (ax f)),mv,me,.mp b,.d (.int .i64 ((k:Nat):Int))])=j at w⊢;have i:=w.ob;have w:=w.pick [3,1,0,2];have P:=qO n w.ob;refine Mo ?_;apply Mz mixed
 .intro N O;refine TF.go ?_;refine th W W W W (aiz (hU k n) (by omega:21<=4000000000))<|TF.au
 have w:=w.pick [1,2,3,0];obtain⟨row,o⟩:∃row:List D,row=[.str (nE k),.int .u8 t.1,.str t.2,.sl (bA a),.bool false,.int .u8 0,.int .u8 0,.int .i32 0,.str ⟨#[]⟩,.sl [],.sl [],.int .i64 0,.int .i64 0,.int .i64 0,.int .i64 0]:=⟨_,rfl⟩;have x:ax (u.vars++[⟨nE k,t.1,t.2,a,false,bR,(0,0)⟩])=ax u.vars++[row]:=by
  rw[o];simp only[ax,aio,aiq,aiL];rw[Va.ah];rfl
 have m:=w.app [row];have y:=(m.pick [1,0,2,3]).ob;rw[o]at m y;refine Mo ?_;apply Mz mixed
 .intro N O;refine bG W W<|bG W W<|dJ W W W<|bW W W<|bW W W<|dj W W i W<|cY W W W W W<|cr W W W W W W W W<|eV w W W W W W W W (by simp only[ax,ah8];omega)<|dJ W W W<|bW W W<|bW W W<|fC W W y (aN _ _ _) W W<|TF.nil ⟨by kernel_rfl,rfl⟩
 rw[o]at x;rw[<-x]at m;have h:=(m.pick [1,0,2,3]).set (.box [.d (.sl (p.aB.map En.cells)),.d (.sl (p.nodes.map Nd.cells)),.d (.str c),.d (.sl (ax d)),.d (.sl (ax f)),cJ mv j [[.str (nE k),.int .u8 t.1,.str t.2,.sl (bA a),.bool false,.int .u8 0,.int .u8 0,.int .i32 0,.str ⟨#[]⟩,.sl [],.sl [],.int .i64 0,.int .i64 0,.int .i64 0,.int .i64 0]],me,.mp b,.d (.int .i64 ((k:Nat):Int))]);obtain⟨z,E⟩:∃b,b=cJ mv j [[.str (nE k),.int .u8 t.1,.str t.2,.sl (bA a),.bool false,.int .u8 0,.int .u8 0,.int .i32 0,.str ⟨#[]⟩,.sl [],.sl [],.int .i64 0,.int .i64 0,.int .i64 0,.int .i64 0]]:=⟨_,rfl⟩;obtain⟨q,A⟩:∃h,h=(ef 15 mv j [[.str (nE k),.int .u8 t.1,.str t.2,.sl (bA a),.bool false,.int .u8 0,.int .u8 0,.int .i32 0,.str ⟨#[]⟩,.sl [],.sl [],.int .i64 0,.int .i64 0,.int .i64 0,.int .i64 0]]).set g (.box [.d (.sl (p.aB.map En.cells)),.d (.sl (p.nodes.map Nd.cells)),.d (.str c),.d (.sl (ax d)),.d (.sl (ax f)),cJ mv j [[.str (nE k),.int .u8 t.1,.str t.2,.sl (bA a),.bool false,.int .u8 0,.int .u8 0,.int .i32 0,.str ⟨#[]⟩,.sl [],.sl [],.int .i64 0,.int .i64 0,.int .i64 0,.int .i64 0]],me,.mp b,.d (.int .i64 ((k:Nat):Int))]):=⟨_,rfl⟩;rw[<-A,<-E]at h;have i:=h.ob;have h:=h.pick [2,0,1,3];have s:=h.app [kP 1 [nE k] ⟨#[]⟩ (bh 0 0 0 ⟨#[]⟩ [] [] (0,0)) (xC e) [] a rs];have G:ff (u.eqs++[⟨1,[nE k],⟨#[]⟩,bR,e,[],a,rs⟩])=ff u.eqs++[kP 1 [nE k] ⟨#[]⟩ (bh 0 0 0 ⟨#[]⟩ [] [] (0,0)) (xC e) [] a rs]:=by
  simp only[ff,aio,aiq,aiL];rw[Fq.ah,bR.ah,e.ah];rfl
 refine Nq [(11,.loc 11 0),(6,.m (.d (.bM (xC e) 0))),(4,.m (.d (.sl (aE rs)))),(3,.m (.d (.sl (bA a)))),(0,.m (.ref g 0))] _ q W (λ_=>rfl) A.symm ?_;refine Mo ?_;apply Mz mixed
 .intro N O;refine TF.go ?_;refine bm (yU rs B) W W<|TF.go ?_;refine eV h W W W W W W W (by simp only[ff,ah8];omega)<|TF.go ?_;refine fC W W ((s.pick [1,0,2,3]).ob) (aN _ _ _) W W<|TF.au
 rw[<-G]at s;have I:Wk F H (jO g b p c d f ⟨k,u.vars++[⟨nE k,t.1,t.2,a,false,bR,(0,0)⟩],u.eqs++[⟨1,[nE k],⟨#[]⟩,bR,e,[],a,rs⟩]⟩:: [.ob it bg]) _:=
  Pc (me:=cJ me q [kP 1 [nE k] ⟨#[]⟩ (bh 0 0 0 ⟨#[]⟩ [] [] (0,0)) (xC e) [] a rs]) (mv:=z) ((s.pick [1,2,0,3]).set (.box [.d (.sl (p.aB.map En.cells)),.d (.sl (p.nodes.map Nd.cells)),.d (.str c),.d (.sl (ax d)),.d (.sl (ax f)),z,cJ me q [kP 1 [nE k] ⟨#[]⟩ (bh 0 0 0 ⟨#[]⟩ [] [] (0,0)) (xC e) [] a rs],.mp b,.d (.int .i64 ((k:Nat):Int))]))
 refine Mx ?_;exact DC.ret ⟨_,W,_,⟨W,W⟩,I.pick [1,0]⟩
end Go.Proofs.Pz
namespace Go.Ps
open Go.Mt Go.Sm
def IK(l:List Xp):qN.CC l=l.all qN:=by
 induction l with
 |nil=>rw[qN.CC];rfl
 |cons b l a=>rw[qN.CC,List.all_cons,a]
def JZ(e:Xp):qN e=(!(decide (e.kd=9\/e.kd=10\/e.kd=11))&&e.kids.all qN):=by
 cases e;rw[qN,IK];rfl
end Go.Ps
namespace Go.Proofs.Pz
open Go.Mt Go.Sm Go.Ps Go.Proofs
open Tryz
theorem qk(l:List Xp)(a:Nat)[aW prog a](Nh:List D)(p:Xp->Bool)(q:l.length<=10000000)(j:∀c∈l,PT prog a (.agg c.cells::Nh) (·=[.bool (p c)])):PT prog 124 [.sl (l.map Xp.cells),.fn a Nh] (·=[.int .i64 (lh (l.findIdx? p))]):=by
 refine ML (My func124 W ntmps124 W λr t=>?_);refine MD ?_;refine Ms ?_;refine TC.region<|aq W W ?_
 (refine aY W W W ?_;rw[ah8])
 refine MX ?_;refine Ms ?_;refine TC.block<|M9 (λk s=>∃i:Nat,s=⟨[(8,.m (.d (.int .i64 i))),(7,.m (.d (.int .i64 (l.length:Nat)))),(0,.m (.d (.sl (l.map Xp.cells)))),(1,.m (.d (.fn a Nh)))],[],[]⟩/\i<=l.length/\k=l.length-i/\(∀(j:Nat) (a:j<l.length),j<i->p l[j]=false)) l.length _
  ⟨0,rfl,by omega,rfl,by grind⟩ W ?_
 rintro n s ⟨i,rfl,v,rfl,e⟩;refine MD ?_;refine Ms ?_;refine TC.cond W (λk=>?_) (λk=>?_)
 .have c:i<l.length:=by grind
  have m:(l.map Xp.cells)[((i:Nat):Int).toNat]?=some l[i].cells:=by simp[c]
  have d:=j _ (aif c);obtain⟨b,f⟩:∃b,b=p l[i]:=⟨_,rfl⟩;rw[<-f]at d;rw[Xp.ah]at m d;refine TC.skip ?_;refine Ms ?_;refine TC.block ?_;refine MD ?_;refine Ms ?_;refine TC.region<|TL.go ?_;refine tS d W W W<|TL.nil ?_;refine Ms ?_;refine TC.cond W (λg=>?_) (λg=>?_)
  .refine Ms ?_;refine TC.region<|TL.go ?_;refine TL.nil<|TC.ret ⟨_,W,[_],W,by rw[o9 c (f.symm.trans g) (λj a h=>e j a h)]⟩
  .refine TC.skip ?_;refine Ms ?_;refine TC.region<|TL.go ?_;refine TL.nil<|again (k':=l.length-(i+1)) (by omega) ⟨i+1,rfl,by omega,rfl,?_⟩ W (kc (by simp;rfl)<|kc (rfl)<|kc (rfl)<|kc (rfl)<|rfl);intro o u h;rcases aji.1 h with w|rfl
   .grind
   .grind
 .refine TC.exit ?_;have c:i=l.length:=by grind
  refine Ms ?_;refine TC.region<|aj W W<|TL.nil<|TC.ret ⟨_,W,[_],W,by rw[ng (λj a=>e j a (by omega))]⟩
def z_(l:List Xp)(a:Nat)[aW prog a](p:Xp->Bool)(g:l.length<=1000000)(c:∀b∈l,PT prog a [.agg b.cells] (·=[.bool (p b)])):PT prog 64 [.sl (l.map Xp.cells),.fn a []] (·=[.bool (l.any p)]):=by
 have d:decide ((0:Int)<=lh (l.findIdx? p))=l.any p:=by
  cases b:l.findIdx? p with
  |none=>
   rw[ajn]at b;have:l.any p=false:=by simp_all
   rw[this];rfl
  |some i=>
   have:l.any p=true:=by
    rw[aiV]at b;obtain⟨e,f,_⟩:=b;exact ajr.2 ⟨_,aif e,f⟩
   rw[this];exact aiS (by simp only[lh];omega)
 refine ML (My func64 W ntmps64 W λh j=>?_);refine MD ?_;refine Ms ?_;refine TC.region<|TL.go ?_;refine aX (qk l a [] p (by omega) c) W W ?_
 (refine ay W W W (r:=.bool (l.any p)) (by show some (D.bool (decide ((0:Int)<=lh (l.findIdx? p))))=_;rw[d]) ?_)
 refine aj W W<|TL.nil<|TC.ret ⟨_,W,[_],W,W⟩
theorem sx(e:Xp)(a:fG e):PT prog 251 [.agg e.cells] (·=[.bool (qN e)]):=by
 have g:∀k∈e.kids,PT prog 288 [.agg k.cells] (·=[.bool (!(qN k))]):=by
  intro k b;have:=Od b;have h:=sx k (by cases a with|mk _ _ _ i=>exact i k b);rw[k.ah]at h⊢;refine ML (My func288 W ntmps288 W λj l=>?_);refine MD ?_;refine Ms ?_;refine TC.region<|TL.go ?_;refine TL.nil<|TC.ret ⟨_,W,[_],W,W⟩
 rw[JZ,e.ah];refine ML (My func251 W ntmps251 W λj l=>?_);refine MD ?_;by_cases c:e.kd=9
 .rw[c];refine MD ?_;refine Ms ?_;refine MZ W ?_;refine Ms ?_;refine TC.region<|aj W W<|TL.nil<|TC.ret ⟨_,W,[_],W,W⟩
 by_cases d:e.kd=10
 .rw[d];refine Ms ?_;refine TC.region<|aG W W<|aI W W W<|ay W W W (r:=.bool false) W<|aq W W<|az W ?_;refine aG W W ?_;refine az W ?_;refine aI W W W ?_;refine az W ?_;refine ay W W W (r:=.bool true) W ?_;refine MX ?_;refine Ms ?_;refine MZ W ?_;refine Ms ?_;refine TC.region<|aj W W<|TL.nil<|TC.ret ⟨_,W,[_],W,W⟩
 by_cases f:e.kd=11
 .rw[f];refine Ms ?_;refine TC.region<|aG W W<|aI W W W<|ay W W W (r:=.bool false) W<|aq W W<|az W ?_;refine aG W W ?_;refine az W ?_;refine aI W W W ?_;refine az W ?_;refine ay W W W (r:=.bool false) W ?_;refine gR W W W<|aq W W<|az W ?_;refine aG W W ?_;refine az W ?_;refine aI W W W ?_;refine az W ?_;refine ay W W W (r:=.bool true) W ?_;refine MX ?_;refine Ms ?_;refine MZ W ?_;refine Ms ?_;refine TC.region<|aj W W<|TL.nil<|TC.ret ⟨_,W,[_],W,W⟩
 have m:(e.kd==9)=false:=by simp[c]
 have p:(e.kd==10)=false:=by simp[d]
 have q:(e.kd==11)=false:=by simp[f]
 have n:(!(decide (e.kd=9\/e.kd=10\/e.kd=11))&&e.kids.all qN)= !(e.kids.any λk=> !(qN k)):=by
  grind
 rw[n];refine Ms ?_;refine TC.region<|aG W W<|aI W W W ?_
 (refine ay W W W (r:=.bool false) (by show some (D.bool (e.kd==9))=_;rw[m]) ?_)
 refine aq W W<|az W ?_;refine aG W W ?_;refine az W ?_;refine aI W W W ?_;refine az W ?_;refine ay W W W (r:=.bool false) (by show some (D.bool (e.kd==10))=_;rw[p]) ?_;refine gR W W W<|aq W W<|az W ?_;refine aG W W ?_;refine az W ?_;refine aI W W W ?_;refine az W ?_;refine ay W W W (r:=.bool false) (by show some (D.bool (e.kd==11))=_;rw[q]) ?_;refine MX ?_;refine Ms ?_;refine MJ W<|TC.skip ?_;refine Ms ?_;refine TC.region<|TL.go ?_;refine aX (z_ e.kids 288 (λk=> !(qN k)) (by cases a with|mk _ o _ _=>exact o) g) W W<|TL.go ?_;refine TL.nil<|TC.ret ⟨_,W,[_],W,W⟩
end Go.Proofs.Pz
namespace Go.Ps
open Go.Mt Go.Sm
abbrev LQ(lhs:List Nm)(f:Nm)(ma:M)(ck:List (Nm×Nm))(mr:M):List M:=[.d (.int .u8 3),.d (.sl (aE lhs)),.d (.str f)]++(bh 0 0 0 ⟨#[]⟩ [] [] (0,0)).map M.d++(bh 0 0 0 ⟨#[]⟩ [] [] (0,0)).map M.d++[ma,.d (.sl (bA ck)),mr]
def C2(b:List (Nm×Nm))(rs:List Nm)(r:Ps.US×List Xp)(a:Xp×(Int×Nm)):(dA b rs r a).1.n<=r.1.n+1/\(dA b rs r a).1.vars.length<=r.1.vars.length+1/\(dA b rs r a).1.eqs.length<=r.1.eqs.length+1/\(dA b rs r a).2.length=r.2.length+1:=by
 unfold dA jf;split<;>simp
def ld(a:List (Nm×Nm))(rs:List Nm):∀(l:List (Xp×(Int×Nm))) (r:Ps.US×List Xp),(l.foldl (dA a rs) r).1.n<=r.1.n+l.length/\(l.foldl (dA a rs) r).1.vars.length<=r.1.vars.length+l.length/\(l.foldl (dA a rs) r).1.eqs.length<=r.1.eqs.length+l.length/\(l.foldl (dA a rs) r).2.length=r.2.length+l.length
 |[],r=>by simp
 |b::l,r=>by
  have c:=C2 a rs r b;have c:=ld a rs l (dA a rs r b);rw[aii,aia];omega
end Go.Ps
namespace Go.Proofs.Pz
open Go.Mt Go.Sm Go.Ps Go.Proofs
open Tryz
def ED(it g h:Nat)(p:Pg)(k:Nm)(m n:List Va)(u:Ps.US)(q:aD)(b:List (Nm×Nm))(rs:List Nm)(iT:Nm->List (Int×Nm))(C:o5)(E:q.kd=2)(U:p.nodes.length<=1000000)(j:Nat)(d:Nd)(V:gC p.nodes q.f=some j)(X:p.nodes[j]?=some d)(N:iT q.f=d.ins.map λv=>(v.tk,v.tn))(N5:q.args.length<=d.ins.length)(NF:d.ins.length<=1000000)
  (Y:∀e∈q.args,fG e) (hn:u.n+q.args.length+1<1000000000) (hv:u.vars.length+q.args.length+1<=30000000) (hq:u.eqs.length+q.args.length+1<=10000000) (hr:rs.length<=100000) (Z:b=mL C q.lhs):
  Dt prog 207 [.ref g 0,.d (.agg q.cells),.d (.sl (bA b)),.d (.sl (aE rs))] [.ob it bg,jO g h p k m n u] λr l=>l=[.ob it bg,jO g h p k m n (o6 iT C rs q u)]:=by
 intro H F hw;obtain⟨A,G⟩:∃A,A=q.args.zip (iT q.f):=⟨_,rfl⟩;have ac:A.length=q.args.length:=by rw[G,List.length_zip,N,ah8];omega
 have P6:o6 iT C rs q u=if q.has then(if q.ex.kd=4 then⟨(A.foldl (dA b rs) (u,[])).1.n,(A.foldl (dA b rs) (u,[])).1.vars,(A.foldl (dA b rs) (u,[])).1.eqs++[⟨3,q.lhs,q.f,bR,bR,(A.foldl (dA b rs) (u,[])).2,b,rs++[q.ex.nm]⟩]⟩
    else⟨(jf (A.foldl (dA b rs) (u,[])).1 q.ex (1,⟨#[]⟩) b rs).n,(jf (A.foldl (dA b rs) (u,[])).1 q.ex (1,⟨#[]⟩) b rs).vars,(jf (A.foldl (dA b rs) (u,[])).1 q.ex (1,⟨#[]⟩) b rs).eqs++[⟨3,q.lhs,q.f,bR,bR,(A.foldl (dA b rs) (u,[])).2,b,rs++[nE ((A.foldl (dA b rs) (u,[])).1.n+1)]⟩]⟩)
   else⟨(A.foldl (dA b rs) (u,[])).1.n,(A.foldl (dA b rs) (u,[])).1.vars,(A.foldl (dA b rs) (u,[])).1.eqs++[⟨3,q.lhs,q.f,bR,bR,(A.foldl (dA b rs) (u,[])).2,b,rs⟩]⟩:=by
  rw[G,Z];cases q with|mk T L o R Q e B K=>
  rw[o6.eq_def];simp only[aD.kd]at E;subst E;rfl
 rw[P6];have w:=Wk.start hw;obtain⟨x,K1,O,rfl,w,MT⟩:=Wk.call (a:=[]) w (te rs (by omega));have w:=w;have Tz:=w.AA;have w:=(w.pick [2,0,1]);obtain⟨mv,me,w⟩:=jO.open w;have s:=w.ob;have SX:=pS p q.f U;rw[V]at SX;have TJ:(p.nodes.map Nd.cells)[((j:Nat):Int).toNat]?=some d.cells:=by simp[X]
 have Zz:d.cells=[.str d.name,.sl (ax d.ins),.sl (ax d.outs),.sl (ax d.b.vars),.sl (d.b.eqs.map aD.cells),.int .i64 d.ps.1,.int .i64 d.ps.2]:=by unfold Nd.cells;rfl
 rw[Zz]at TJ;have d5:(q.args.map Xp.cells).length=q.args.length:=by simp
 rw[q.ah,q.ex.ah,E];refine MG func207 W ntmps207 W ?_;refine Mx ?_;refine Mo ?_;apply Mz mixed
 .intro o B;refine TF.go ?_;refine vB (cs:=LQ q.lhs q.f (.d (.sl [])) b x) W W W (by simp only[jW];rw[Tz];rfl)<|nF W<|cv W W W (fx _) W W<|TF.au
 refine Mo ?_;apply Mz mixed
 .intro o B;refine TF.go ?_;refine iq W W s W W<|TF.au
 refine Mx ?_;have w:=Wk.nil ((Pc w).pick [1,2,0]) 8;refine Mo ?_;refine DC.block<|DC.loop (λs t=>∃(i:Nat) (f:M) (c:List (Nat×List M)) (o:Hp),t=⟨[(38,.m (.d (.int .i64 ((i:Nat):Int)))),(37,.m (.d (.int .i64 ((q.args.length:Nat):Int)))),(36,.m (.d (.sl (q.args.map Xp.cells)))),(9,.loc 9 0),(8,.loc 8 0),(5,.m (.d (.bM (eW 2 q.lhs q.f (q.args.map Xp.cells) q.has (xC q.ex) (q.ai.map aH.cells) q.ps) 0))),(3,.m (.d (.sl (aE rs)))),(2,.m (.d (.sl (bA b)))),(0,.m (.ref g 0))],c,o⟩/\
   Go.Mt.get c 8=some (LQ q.lhs q.f f b x)/\Go.Mt.get c 9=some ([.str d.name,.sl (ax d.ins),.sl (ax d.outs),.sl (ax d.b.vars),.sl (d.b.eqs.map aD.cells),.int .i64 d.ps.1,.int .i64 d.ps.2].map M.d)/\
   Wk F H [.acc 8 (((A.take i).foldl (dA b rs) (u,[])).2.map Xp.cells) f,.acc 1 (aE rs) x,.ob it bg,jO g h p k m n ((A.take i).foldl (dA b rs) (u,[])).1] o/\i<=q.args.length/\s=q.args.length-i) q.args.length _
  ⟨0,.d (.sl []),_,_,rfl,rfl,rfl,w,by omega,rfl⟩ W ?_
 rintro T s1 ⟨i,ma,bx,I,rfl,y,P,w,hi,rfl⟩;refine Mx ?_;refine Mo ?_;refine DC.cond W (λJ=>?_) (λJ=>?_)
 .have K:i<q.args.length:=by have:=aic J;omega
  have L:(q.args.map Xp.cells)[((i:Nat):Int).toNat]?=some q.args[i].cells:=by simp[K]
  have am:i<d.ins.length:=by omega
  have S:=k_ am;have ce:A[i]'(by omega)=(q.args[i],(d.ins[i].tk,d.ins[i].tn)):=by simp[G,N]
  have o:(A.take (i+1)).foldl (dA b rs) (u,[])=dA b rs ((A.take i).foldl (dA b rs) (u,[])) (q.args[i],(d.ins[i].tk,d.ins[i].tn)):=by rw[ah5 (by omega:i<A.length),aiC,ce];rfl
  have t:=ld b rs (A.take i) (u,[]);have Q:=Y _ (aif K);rw[ait,ajw (by omega),List.length_nil]at t;generalize (A.take i).foldl (dA b rs) (u,[])=r at w o t;obtain⟨c,f⟩:=r
  dsimp only at w t
  generalize q.args[i]=e at L o Q;generalize d.ins[i]=v at S o;have B:=sx e Q;rw[e.ah]at L B;rw[v.ah]at S;have UQ:(f.map Xp.cells).length<=10000000:=by rw[ah8];omega
  refine DC.skip ?_;refine Mo ?_;refine DC.block ?_;refine Mx ?_;have co:dA b rs (c,f) (e,(v.tk,v.tn))=if qN e then(c,f++[e])else(jf c e (v.tk,v.tn) b rs,f++[aZ (nE (c.n+1))]):=rfl
  rw[co]at o;cases z:qN e with
  |true=>
   rw[z]at B;rw[z,air W]at o;refine Mx ?_;refine Mo ?_;refine Mw W<|DC.skip ?_;refine Mo ?_;apply Mn
   .intro s0 Oo;refine TL.go ?_;refine cT w W W W W W W (by exact bS W) (by simp only[aik];omega)<|aF W W<|aK W W y (aN _ _ _) W W<|TL.nil W
   have R:=w.app [xC e];have Wn:f.map Xp.cells++[xC e]=(f++[e]).map Xp.cells:=by rw[aio];simp[e.ah]
   rw[Wn]at R;refine Mx ?_;exact bf (k':=q.args.length-(i+1)) (by omega) ⟨i+1,_,_,_,rfl,rfl,P,by rw[o];exact R,by omega,rfl⟩ W W
  |false=>
   rw[z]at B;rw[z,aid (by simp)]at o;obtain⟨_,K2,O,⟨rfl,rfl⟩,w,Rm⟩:=Wk.call (a:=[.ob it bg,jO g h p k m n c]) (r:=[_,_]) (w.pick [2,3,0,1]) (wP it g h p k m n c e (v.tk,v.tn) b rs (by omega) (by omega) (by omega) (by omega));have w:=w.pick [2,3,0,1];have N6:=fE (nE (c.n+1));rw[(aZ (nE (c.n+1))).ah]at N6;rw[e.ah]at Rm;refine Mx ?_;refine Mo ?_;refine MM W ?_;refine Pp ?_;refine Mo ?_;apply Mn
   .intro s0 Oo;refine TL.go ?_;refine cT w W W W W W W (by exact bS W) (by simp only[aik];omega)<|aF W W<|aK W W y (aN _ _ _) W W<|TL.nil W
   have R:=w.app [xC (aZ (nE (c.n+1)))];have Wn:f.map Xp.cells++[xC (aZ (nE (c.n+1)))]=(f++[aZ (nE (c.n+1))]).map Xp.cells:=by rw[aio];simp[Xp.ah]
   rw[Wn]at R;refine Mx ?_;exact bf (k':=q.args.length-(i+1)) (by omega) ⟨i+1,_,_,_,rfl,rfl,P,by rw[o];exact R,by omega,rfl⟩ W W
 refine DC.exit ?_;obtain rfl:i=q.args.length:=by have:=aie J;omega
 rw[aje (by omega)]at w;have t:=ld b rs A (u,[]);rw[ac,List.length_nil]at t;generalize A.foldl (dA b rs) (u,[])=r at w t⊢;obtain⟨c,f⟩:=r
 dsimp only at w t⊢
 cases z:q.has with
 |false=>
  simp only[ai2,aju];refine Mx ?_;refine Mo ?_;refine Mw W<|DC.skip ?_;have B:=w.view (jq _);have K:=(w.pick [1,0,2,3]).view (cU _);have w:=(w.drop).drop;have w:=w.pick [1,0];obtain⟨mv,me,w⟩:=jO.open w;have s:=w.ob;have w:=w.pick [2,0,1,3];have o:=w.app [kP 3 q.lhs q.f (bh 0 0 0 ⟨#[]⟩ [] [] (0,0)) (bh 0 0 0 ⟨#[]⟩ [] [] (0,0)) (f.map Xp.cells) b rs];have L:=(o.pick [1,0,2,3]).ob;have Q:ff (c.eqs++[⟨3,q.lhs,q.f,bR,bR,f,b,rs⟩])=ff c.eqs++[kP 3 q.lhs q.f (bh 0 0 0 ⟨#[]⟩ [] [] (0,0)) (bh 0 0 0 ⟨#[]⟩ [] [] (0,0)) (f.map Xp.cells) b rs]:=by
   simp only[ff,aio,aiq,aiL];rw[Fq.ah,bR.ah];rfl
  refine DC.cA (MP:=(kP 3 q.lhs q.f (bh 0 0 0 ⟨#[]⟩ [] [] (0,0)) (bh 0 0 0 ⟨#[]⟩ [] [] (0,0)) (f.map Xp.cells) b rs).map M.d) 8 y (bY (bY (bY (bY (bY (bY (bY (bY (bY (bY (bY (bY (bY (bY (bY (bY (bY (bY (bY (lJ B (bY (lJ K (o7 _))))))))))))))))))))))) ?_;refine Mo ?_;apply Mz mixed
  .intro S Oo;refine bG W W<|bG W W<|dJ W W W<|bW W W<|bW W W<|dj W W s W<|cY W W W W W<|cr W W W W W W W W<|eV w W W W W W W W (by simp only[ff,ah8];omega)<|dJ W W W<|bW W W<|bW W W<|fC W W L (aN _ _ _) W W<|TF.nil ⟨by kernel_rfl,rfl⟩
  rw[<-Q]at o;have R:Wk F H (jO g h p k m n ⟨c.n,c.vars,c.eqs++[⟨3,q.lhs,q.f,bR,bR,f,b,rs⟩]⟩:: [.ob it bg]) _:=
   Pc (me:=cJ me I [kP 3 q.lhs q.f (bh 0 0 0 ⟨#[]⟩ [] [] (0,0)) (bh 0 0 0 ⟨#[]⟩ [] [] (0,0)) (f.map Xp.cells) b rs]) (mv:=mv) ((o.pick [1,2,0,3]).set (.box [.d (.sl (p.aB.map En.cells)),.d (.sl (p.nodes.map Nd.cells)),.d (.str k),.d (.sl (ax m)),.d (.sl (ax n)),mv,cJ me I [kP 3 q.lhs q.f (bh 0 0 0 ⟨#[]⟩ [] [] (0,0)) (bh 0 0 0 ⟨#[]⟩ [] [] (0,0)) (f.map Xp.cells) b rs],.mp h,.d (.int .i64 ((c.n:Nat):Int))]))
  exact⟨_,W,_,W,R.pick [1,0]⟩
 |true=>
  simp only[ajL];refine Mx ?_;refine Mo ?_;refine MM W ?_;refine Mx ?_;by_cases B:q.ex.kd=4
  .rw[air B];refine Mo ?_;apply Mn
   .intro s0 Oo;refine aG W W<|aG W W<|aI W W W ?_
    (refine ay W W W (r:=.bool false) (by show some (D.bool (q.ex.kd !=4))=_;rw[B];rfl) ?_)
    exact TL.nil W
   refine Mo ?_;refine Mw W<|DC.skip ?_;have w:=w.pick [1,0,2,3];refine Mo ?_;apply Mn
   .intro s0 Oo;refine TL.go ?_;refine cT w W W W W W W (by exact bS W) (by simp only[aE,ah8,aik];omega)<|aF W W<|aK W W y (aN _ _ _) W W<|TL.nil W
   have w:=w.app [[.str q.ex.nm]];have SG:aE rs++[[.str q.ex.nm]]=aE (rs++[q.ex.nm]):=by simp[aE]
   rw[SG]at w;have w:=w.pick [1,0,2,3];obtain⟨K,L⟩:∃b,b=ef 1 x I [[.str q.ex.nm]]:=⟨_,rfl⟩;rw[<-L]at w;refine M5 [(8,.loc 8 0),(0,.m (.ref g 0))] K W L.symm ?_;have Q:=w.view (jq _);have R:=(w.pick [1,0,2,3]).view (cU _);have w:=(w.drop).drop;have w:=w.pick [1,0];obtain⟨mv,me,w⟩:=jO.open w;have s:=w.ob;have w:=w.pick [2,0,1,3];have o:=w.app [kP 3 q.lhs q.f (bh 0 0 0 ⟨#[]⟩ [] [] (0,0)) (bh 0 0 0 ⟨#[]⟩ [] [] (0,0)) (f.map Xp.cells) b (rs++[q.ex.nm])];have S:=(o.pick [1,0,2,3]).ob;have Q5:ff (c.eqs++[⟨3,q.lhs,q.f,bR,bR,f,b,rs++[q.ex.nm]⟩])=ff c.eqs++[kP 3 q.lhs q.f (bh 0 0 0 ⟨#[]⟩ [] [] (0,0)) (bh 0 0 0 ⟨#[]⟩ [] [] (0,0)) (f.map Xp.cells) b (rs++[q.ex.nm])]:=by
    simp only[ff,aio,aiq,aiL];rw[Fq.ah,bR.ah];rfl
   refine DC.cA (MP:=(kP 3 q.lhs q.f (bh 0 0 0 ⟨#[]⟩ [] [] (0,0)) (bh 0 0 0 ⟨#[]⟩ [] [] (0,0)) (f.map Xp.cells) b (rs++[q.ex.nm])).map M.d) 8 W (bY (bY (bY (bY (bY (bY (bY (bY (bY (bY (bY (bY (bY (bY (bY (bY (bY (bY (bY (lJ Q (bY (lJ R (o7 _))))))))))))))))))))))) ?_;refine Mo ?_;apply Mz mixed
   .intro s0 Oo;refine bG W W<|bG W W<|dJ W W W<|bW W W<|bW W W<|dj W W s W<|cY W W W W W<|cr W W W W W W W W<|eV w W W W W W W W (by simp only[ff,ah8];omega)<|dJ W W W<|bW W W<|bW W W<|fC W W S (aN _ _ _) W W<|TF.nil ⟨by kernel_rfl,rfl⟩
   rw[<-Q5]at o;have w3:Wk F H (jO g h p k m n ⟨c.n,c.vars,c.eqs++[⟨3,q.lhs,q.f,bR,bR,f,b,rs++[q.ex.nm]⟩]⟩:: [.ob it bg]) _:=
    Pc (me:=cJ me K [kP 3 q.lhs q.f (bh 0 0 0 ⟨#[]⟩ [] [] (0,0)) (bh 0 0 0 ⟨#[]⟩ [] [] (0,0)) (f.map Xp.cells) b (rs++[q.ex.nm])]) (mv:=mv) ((o.pick [1,2,0,3]).set (.box [.d (.sl (p.aB.map En.cells)),.d (.sl (p.nodes.map Nd.cells)),.d (.str k),.d (.sl (ax m)),.d (.sl (ax n)),mv,cJ me K [kP 3 q.lhs q.f (bh 0 0 0 ⟨#[]⟩ [] [] (0,0)) (bh 0 0 0 ⟨#[]⟩ [] [] (0,0)) (f.map Xp.cells) b (rs++[q.ex.nm])],.mp h,.d (.int .i64 ((c.n:Nat):Int))]))
   exact⟨_,W,_,W,w3.pick [1,0]⟩
  .rw[aid B];have am:(q.ex.kd !=4)=true:=by simp[B]
   obtain⟨_,R,O,⟨rfl,rfl⟩,w,S⟩:=Wk.call (a:=[.ob it bg,jO g h p k m n c]) (r:=[_,_]) (w.pick [2,3,0,1]) (wP it g h p k m n c q.ex (1,⟨#[]⟩) b rs (by omega) (by omega) (by omega) (by omega));rw[q.ex.ah]at S;have ce:(jf c q.ex (1,⟨#[]⟩) b rs).eqs.length<=c.eqs.length+1:=by simp[jf]
   generalize jf c q.ex (1,⟨#[]⟩) b rs=o at w ce⊢;have w:=w.pick [2,3,0,1];refine Mo ?_;apply Mn
   .intro s0 Oo;refine aG W W<|aG W W<|aI W W W ?_
    (refine ay W W W (r:=.bool true) (by show some (D.bool (q.ex.kd !=4))=_;rw[am]) ?_)
    exact TL.nil W
   refine Mo ?_;refine MM W ?_;refine Mx ?_;have w:=w.pick [1,0,2,3];refine Mo ?_;apply Mn
   .intro s0 Oo;refine TL.go ?_;refine cT w W W W W W W (by exact bS W) (by simp only[aE,ah8,aik];omega)<|aF W W<|aK W W y (aN _ _ _) W W<|TL.nil W
   have w:=w.app [[.str (nE (c.n+1))]];have SG:aE rs++[[.str (nE (c.n+1))]]=aE (rs++[nE (c.n+1)]):=by simp[aE]
   rw[SG]at w;have w:=w.pick [1,0,2,3];obtain⟨L,Q⟩:∃b,b=ef 1 x R [[.str (nE (c.n+1))]]:=⟨_,rfl⟩;rw[<-Q]at w;refine M5 [(8,.loc 8 0),(0,.m (.ref g 0))] L W Q.symm ?_;have Qa:=w.view (jq _);have Uo:=(w.pick [1,0,2,3]).view (cU _);have w:=(w.drop).drop;have w:=w.pick [1,0];obtain⟨mv,me,w⟩:=jO.open w;have s:=w.ob;have w:=w.pick [2,0,1,3];have K:=w.app [kP 3 q.lhs q.f (bh 0 0 0 ⟨#[]⟩ [] [] (0,0)) (bh 0 0 0 ⟨#[]⟩ [] [] (0,0)) (f.map Xp.cells) b (rs++[nE (c.n+1)])];have Oz:=(K.pick [1,0,2,3]).ob;have Q5:ff (o.eqs++[⟨3,q.lhs,q.f,bR,bR,f,b,rs++[nE (c.n+1)]⟩])=ff o.eqs++[kP 3 q.lhs q.f (bh 0 0 0 ⟨#[]⟩ [] [] (0,0)) (bh 0 0 0 ⟨#[]⟩ [] [] (0,0)) (f.map Xp.cells) b (rs++[nE (c.n+1)])]:=by
    simp only[ff,aio,aiq,aiL];rw[Fq.ah,bR.ah];rfl
   refine DC.cA (MP:=(kP 3 q.lhs q.f (bh 0 0 0 ⟨#[]⟩ [] [] (0,0)) (bh 0 0 0 ⟨#[]⟩ [] [] (0,0)) (f.map Xp.cells) b (rs++[nE (c.n+1)])).map M.d) 8 W (bY (bY (bY (bY (bY (bY (bY (bY (bY (bY (bY (bY (bY (bY (bY (bY (bY (bY (bY (lJ Qa (bY (lJ Uo (o7 _))))))))))))))))))))))) ?_;refine Mo ?_;apply Mz mixed
   .intro s0 Oo;refine bG W W<|bG W W<|dJ W W W<|bW W W<|bW W W<|dj W W s W<|cY W W W W W<|cr W W W W W W W W<|eV w W W W W W W W (by simp only[ff,ah8];omega)<|dJ W W W<|bW W W<|bW W W<|fC W W Oz (aN _ _ _) W W<|TF.nil ⟨by kernel_rfl,rfl⟩
   rw[<-Q5]at K;have w3:Wk F H (jO g h p k m n ⟨o.n,o.vars,o.eqs++[⟨3,q.lhs,q.f,bR,bR,f,b,rs++[nE (c.n+1)]⟩]⟩:: [.ob it bg]) _:=
    Pc (me:=cJ me L [kP 3 q.lhs q.f (bh 0 0 0 ⟨#[]⟩ [] [] (0,0)) (bh 0 0 0 ⟨#[]⟩ [] [] (0,0)) (f.map Xp.cells) b (rs++[nE (c.n+1)])]) (mv:=mv) ((K.pick [1,2,0,3]).set (.box [.d (.sl (p.aB.map En.cells)),.d (.sl (p.nodes.map Nd.cells)),.d (.str k),.d (.sl (ax m)),.d (.sl (ax n)),mv,cJ me L [kP 3 q.lhs q.f (bh 0 0 0 ⟨#[]⟩ [] [] (0,0)) (bh 0 0 0 ⟨#[]⟩ [] [] (0,0)) (f.map Xp.cells) b (rs++[nE (c.n+1)])],.mp h,.d (.int .i64 ((o.n:Nat):Int))]))
   exact⟨_,W,_,W,w3.pick [1,0]⟩
end Go.Proofs.Pz
namespace Go.Ps
open Go.Mt Go.Sm
def vQ(iT:Nm->List (Int×Nm))(c:o5)(rs:List Nm):∀(a b:List aD) (u:Ps.US),f_ iT c rs (a++b) u=f_ iT c rs b (f_ iT c rs a u)
 |[],b,u=>by rw[f_.eq_def iT c rs []];rfl
 |e::a,b,u=>by rw[aiA,f_.eq_def iT c rs (e::_),f_.eq_def iT c rs (e::a)];exact vQ iT c rs a b _
end Go.Ps
namespace Go.Proofs.Pz
open Go.Mt Go.Sm Go.Ps Go.Proofs
open Tryz
def wQ(it b a:Nat)(p:Pg)(d:Nm)(e f:List Va)(c:o5)(rs:List Nm)(q:aD)(u:Ps.US):Prop:=Dt prog 161 [.ref b 0,.d (.agg q.cells),.d (.sl (aE rs))] [.ob it bg,jO b a p d e f u,pc a c] λr l=>l=[.ob it bg,jO b a p d e f (o6 (fw p.nodes) c rs q u),pc a c]
def G_(it i b:Nat)(p:Pg)(f:Nm)(g h:List Va)(c:o5)(rs:List Nm)(q:aD)(u:Ps.US)(j:q.kd=1)(m:rs.length<=1000000)(A:u.eqs.length<=10000000):wQ it i b p f g h c rs q u:=by
 intro H F n;have o:o6 (fw p.nodes) c rs q u=⟨u.n,u.vars,u.eqs++[⟨1,q.lhs,⟨#[]⟩,bR,q.ex,[],mL c q.lhs,rs⟩]⟩:=by
  cases q with|mk y G z J I e B C=>
  rw[o6.eq_def];simp only[aD.kd]at j;subst j;rfl
 rw[o];obtain⟨_,l,D,⟨rfl,rfl⟩,w,s⟩:=Wk.call (a:=[jO i b p f g h u,pc b c]) (r:=[_]) ((Wk.start n).pick [1,2,0]) (qZ i b p f g h u c q.lhs);obtain⟨d,t⟩:∃b,b=mL c q.lhs:=⟨_,rfl⟩;rw[<-t]at s⊢;obtain⟨mv,me,w⟩:=jO.open w;have E:=w.ob;have w:=w.pick [2,0,1,3,4];have k:=w.app [kP 1 q.lhs ⟨#[]⟩ (bh 0 0 0 ⟨#[]⟩ [] [] (0,0)) (xC q.ex) [] d rs];have v:ff (u.eqs++[⟨1,q.lhs,⟨#[]⟩,bR,q.ex,[],d,rs⟩])=ff u.eqs++[kP 1 q.lhs ⟨#[]⟩ (bh 0 0 0 ⟨#[]⟩ [] [] (0,0)) (xC q.ex) [] d rs]:=by
  simp only[ff,aio,aiq,aiL];rw[Fq.ah,bR.ah,q.ex.ah];rfl
 rw[q.ah,q.ex.ah,j];refine MG func161 W ntmps161 W ?_
 repeat refine Mx ?_
 refine Mo ?_;refine DC.block ?_;refine Mx ?_;refine Mo ?_;refine MM W ?_;refine Mo ?_;apply Mz mixed
 .intro y z;refine TF.go ?_;refine bm (yU rs m) W W<|TF.go ?_;refine eV w W W W W W W W (by simp only[ff,ah8];omega)<|TF.go ?_;refine fC W W ((k.pick [1,0,2,3,4]).ob) (aN _ _ _) W W<|TF.au
 rw[<-v]at k;have x:Wk F H (jO i b p f g h ⟨u.n,u.vars,u.eqs++[⟨1,q.lhs,⟨#[]⟩,bR,q.ex,[],d,rs⟩]⟩:: [pc b c,.ob it bg]) _:=
  Pc (me:=cJ me l [kP 1 q.lhs ⟨#[]⟩ (bh 0 0 0 ⟨#[]⟩ [] [] (0,0)) (xC q.ex) [] d rs]) (mv:=mv) ((k.pick [1,2,0,3,4]).set (.box [.d (.sl (p.aB.map En.cells)),.d (.sl (p.nodes.map Nd.cells)),.d (.str f),.d (.sl (ax g)),.d (.sl (ax h)),mv,cJ me l [kP 1 q.lhs ⟨#[]⟩ (bh 0 0 0 ⟨#[]⟩ [] [] (0,0)) (xC q.ex) [] d rs],.mp b,.d (.int .i64 ((u.n:Nat):Int))]))
 exact⟨_,W,_,W,x.pick [2,0,1]⟩
def C3(it c b:Nat)(p:Pg)(f:Nm)(h i:List Va)(g:o5)(rs:List Nm)(q:aD)(u:Ps.US)(k:q.kd=2)(l:p.nodes.length<=1000000)(j:Nat)(d:Nd)(m:gC p.nodes q.f=some j)(n:p.nodes[j]?=some d)(o:fw p.nodes q.f=d.ins.map λv=>(v.tk,v.tn))(s:q.args.length<=d.ins.length)(t:d.ins.length<=1000000)
  (x:∀e∈q.args,fG e) (y:u.n+q.args.length+1<1000000000) (z:u.vars.length+q.args.length+1<=30000000) (A:u.eqs.length+q.args.length+1<=10000000) (B:rs.length<=100000):wQ it c b p f h i g rs q u:=by
 intro H F C;obtain⟨_,I,D,⟨rfl,rfl⟩,w,J⟩:=Wk.call (a:=[jO c b p f h i u,pc b g]) (r:=[_]) ((Wk.start C).pick [1,2,0]) (qZ c b p f h i u g q.lhs);obtain⟨G,K,D,rfl,w,E⟩:=Wk.call (a:=[.ob it bg,jO c b p f h i u]) (r:=[_]) (w.pick [2,0,1]) (ED it c b p f h i u q (mL g q.lhs) rs (fw p.nodes) g k l j d m n o s t x y z A B W);rw[q.ah,q.ex.ah,k]at E⊢;refine MG func161 W ntmps161 W ?_
 repeat refine Mx ?_
 refine Mo ?_;refine DC.block ?_;refine Mx ?_;refine Mo ?_;refine Mw W ?_;refine Mx ?_;refine Mo ?_;refine MM W ?_;refine Mx ?_;exact⟨_,W,_,W,w⟩
theorem C4(it f d:Nat)(p:Pg)(h:Nm)(k l:List Va)(c:o5)(rs:List Nm)(q:aD)(u:Ps.US)(a:aH)(B:List aH)(m:q.kd=5)(n:q.ai=a::B)(N:rs.length<=100000)(O:a.aT.eqs.length<=10000000)
  (t:∀(i:Nat) (g:i<a.aT.eqs.length),wQ it f d p h k l c (rs++[q.ex.nm]) a.aT.eqs[i] (f_ (fw p.nodes) c (rs++[q.ex.nm]) (a.aT.eqs.take i) u)):wQ it f d p h k l c rs q u:=by
 intro H F C;have D:o6 (fw p.nodes) c rs q u=f_ (fw p.nodes) c (rs++[q.ex.nm]) a.aT.eqs u:=by
  cases q with|mk A ac o co am e s y=>
  rw[o6.eq_def];simp only[aD.kd]at m;simp only[aD.ai]at n;subst m;subst n;cases a with|mk z b J L P=>
  cases b;simp only[BO.eq_def,Gy.eq_def];rfl
 rw[D];obtain⟨_,Q,v,⟨rfl,rfl⟩,w,R⟩:=Wk.call (a:=[jO f d p h k l u,pc d c]) (r:=[_]) ((Wk.start C).pick [1,2,0]) (qZ f d p h k l u c q.lhs);obtain⟨S,T,v,rfl,w,U⟩:=Wk.call (a:=[]) w (te rs (by omega));have w:=w;have j:=w.app [[.str q.ex.nm]];have E:aE rs++[[.str q.ex.nm]]=aE (rs++[q.ex.nm]):=by simp[aE]
 rw[E]at j;have x:=j.view (cU _);have j:=(j.drop).pick [2,0,1];have G:(q.ai.map aH.cells)[((0:Nat):Int).toNat]?=some a.cells:=by rw[n];rfl
 rw[a.ah]at G;have V:(aE rs).length<=100000:=by grind
 obtain⟨g,K⟩:∃c,c=rs++[q.ex.nm]:=⟨_,rfl⟩;rw[<-K]at x t⊢;have ce:(a.aT.eqs.map aD.cells).length=a.aT.eqs.length:=by simp
 rw[q.ah,q.ex.ah,m];refine MG func161 W ntmps161 W ?_
 repeat refine Mx ?_
 refine Mo ?_;refine DC.block ?_;refine Mx ?_;refine Mo ?_;refine Mw W ?_;refine Mx ?_;refine Mo ?_;refine Mw W ?_;refine Mx ?_;refine Mo ?_;refine MM W ?_;refine Mo ?_;apply Mz mixed
 .intro o s;refine TF.go ?_;refine eV w W W W W W W W (by omega)<|TF.au
 refine DC.aR 7 W x ?_;refine Mx ?_;refine Mo ?_;refine DC.block<|DC.loop (λm n=>∃(i:Nat) (o:List (Nat×List M)) (j:Hp),n=⟨[(60,.m (.d (.int .i64 ((i:Nat):Int)))),(59,.m (.d (.int .i64 ((a.aT.eqs.length:Nat):Int)))),(58,.m (.d (.sl (a.aT.eqs.map aD.cells)))),(7,.m (.d (.sl (aE g)))),(0,.m (.ref f 0))],o,j⟩/\
   Wk F H [.ob it bg,jO f d p h k l (f_ (fw p.nodes) c g (a.aT.eqs.take i) u),pc d c] j/\i<=a.aT.eqs.length/\m=a.aT.eqs.length-i) a.aT.eqs.length _
  ⟨0,_,_,rfl,by rw[aiD,f_.eq_def];exact j,by omega,rfl⟩ W ?_
 rintro A X ⟨i,Y,Z,rfl,w,hi,rfl⟩;refine Mx ?_;refine Mo ?_;refine DC.cond W (λI=>?_) (λI=>?_)
 .have o:i<a.aT.eqs.length:=by grind
  have y:(a.aT.eqs.map aD.cells)[((i:Nat):Int).toNat]?=some a.aT.eqs[i].cells:=by simp[o]
  have z:f_ (fw p.nodes) c g (a.aT.eqs.take (i+1)) u=o6 (fw p.nodes) c g a.aT.eqs[i] (f_ (fw p.nodes) c g (a.aT.eqs.take i) u):=by
   rw[ah5 o,vQ,f_.eq_def _ _ _ [_]];simp only;rw[f_.eq_def]
  have s:=t i o;generalize f_ (fw p.nodes) c g (a.aT.eqs.take i) u=P at w z s;generalize a.aT.eqs[i]=e at y z s;obtain⟨L,K3,v,rfl,w,J⟩:=Wk.call (r:=[]) w s;rw[e.ah,e.ex.ah]at y J;refine DC.skip ?_;refine Mo ?_;refine DC.block ?_
  repeat refine Mx ?_
  exact bf (k':=a.aT.eqs.length-(i+1)) (by omega) ⟨i+1,_,_,rfl,by grind,by omega,rfl⟩ W W
 refine DC.exit ?_;obtain rfl:i=a.aT.eqs.length:=by grind
 rw[aih]at w;exact⟨_,W,_,W,w⟩
end Go.Proofs.Pz
namespace Go.Ps
open Go.Mt Go.Sm
variable{j i:Nat}{a b:Ps.US}{ns:List Nd}
mutual
def pX:aD->Nat
 |.mk _ _ _ b _ _ a _=>b.length+2+jG a
def jG:List aH->Nat
 |[]=>0
 |.mk _ b _ _ _::l=>od b+jG l
def od:bF->Nat
 |.mk _ a=>kH a
def kH:List aD->Nat
 |[]=>0
 |q::l=>pX q+kH l
end
mutual
def xg:aD->Nat
 |.mk _ _ _ _ _ _ a _=>q8 a
def q8:List aH->Nat
 |[]=>0
 |.mk _ b _ _ _::l=>max (1+z' b) (q8 l)
def z':bF->Nat
 |.mk _ a=>gm a
def gm:List aD->Nat
 |[]=>0
 |q::l=>max (xg q) (gm l)
end
section
variable(ns:List Nd)
mutual
def EE:aD->Prop
 |.mk k _ f b _ _ a _=>(k=1\/(k=2/\(∀a∈b,fG a)/\∃j d,gC ns f=some j/\ns[j]?=some d/\b.length<=d.ins.length/\d.ins.length<=1000000)\/(k=5/\a≠[]))/\yW a
def yW:List aH->Prop
 |[]=>True
 |.mk _ b _ _ _::l=>BZ b/\yW l
def BZ:bF->Prop
 |.mk _ a=>a.length<=10000000/\sy a
def sy:List aD->Prop
 |[]=>True
 |q::l=>EE q/\sy l
end
end
structure tq(u a:Ps.US)(k:Nat):Prop where
 n:a.n<=u.n+k
 vs:a.vars.length<=u.vars.length+k
 q:a.eqs.length<=u.eqs.length+k
def tq.refl(u:Ps.US):tq u u 0:=⟨ah9 _,ah9 _,ah9 _⟩
def tq.trans{c:Ps.US}(h:tq a b i)(g:tq b c j):tq a c (i+j):=⟨by have:=h.n;have:=g.n;omega,by have:=h.vs;have:=g.vs;omega,by have:=h.q;have:=g.q;omega⟩
def tq.gL(h:tq a b i)(c:i<=j):tq a b j:=⟨by have:=h.n;omega,by have:=h.vs;omega,by have:=h.q;omega⟩
def Ha(u:Ps.US)(e:Xp)(t:Int×Nm)(a:List (Nm×Nm))(rs:List Nm):tq u (jf u e t a rs) 1:=⟨by simp[jf],by simp[jf],by simp[jf]⟩
section
variable(iT:Nm->List (Int×Nm))(cl:o5)
mutual
theorem J0:∀(q:aD) (rs:List Nm) (u:Ps.US),tq u (o6 iT cl rs q u) (pX q)
 |.mk k c f a m e l p,rs,u=>by
  rw[o6.eq_def,pX]
  dsimp only
  by_cases d:k=1
  .rw[air d];exact⟨by grind,by grind,by grind⟩
  rw[aid d];by_cases g:k=2
  .rw[air g];have h:=ld (mL cl c) rs (a.zip (iT f)) (u,[]);have n:(a.zip (iT f)).length<=a.length:=by grind
   generalize (a.zip (iT f)).foldl (dA (mL cl c) rs) (u,[])=r at h⊢
   dsimp only at h
   cases m with
   |false=>simp only[ai2,aju];exact⟨by grind,by grind,by grind⟩
   |true=>
    simp only[ajL];by_cases i:e.kd=4
    .rw[air i];exact⟨by grind,by grind,by grind⟩
    .rw[aid i];have b:=Ha r.1 e (1,⟨#[]⟩) (mL cl c) rs;have:=b.n;have:=b.vs;have:=b.q;exact⟨by grind,by grind,by grind⟩
  rw[aid g];by_cases j:k=5
  .rw[air j];exact(J1 l (rs++[e.nm]) u).gL (by omega)
  rw[aid j];exact(tq.refl u).gL (by omega)
theorem J1:∀(l:List aH) (rs:List Nm) (u:Ps.US),tq u (BO iT cl rs l u) (jG l)
 |[],rs,u=>by rw[BO.eq_def,jG];exact .refl u
 |.mk n b x y p::l,rs,u=>by rw[BO.eq_def,jG];exact(J2 b rs u).gL (by omega)
theorem J2:∀(b:bF) (rs:List Nm) (u:Ps.US),tq u (Gy iT cl rs b u) (od b)
 |.mk c a,rs,u=>by rw[Gy.eq_def,od];exact q9 a rs u
theorem q9:∀(l:List aD) (rs:List Nm) (u:Ps.US),tq u (f_ iT cl rs l u) (kH l)
 |[],rs,u=>by rw[f_.eq_def,kH];exact .refl u
 |q::l,rs,u=>by rw[f_.eq_def,kH];exact(J0 q rs u).trans (q9 l rs _)
end
end
def nP:∀{l:List aD} {i:Nat} (h:i<l.length),kH (l.take i)+pX l[i]<=kH l
 |[],i,h=>by simp at h
 |a::l,0,h=>by rw[aiD,kH,kH,ajv];omega
 |a::l,i+1,h=>by
  have:=nP (l:=l) (i:=i) (by simpa using h);rw[aiU,kH,kH,ajg];omega
def vR:∀{l:List aD} {q:aD},q∈l->xg q<=gm l
 |[],q,h=>by simp at h
 |a::l,q,h=>by
  rw[gm];rcases aib.1 h with rfl|h
  .omega
  .have:=vR h;omega
def sy.get:∀{l:List aD},sy ns l->∀q∈l,EE ns q
 |[],_,q,h=>by simp at h
 |b::l,a,q,h=>by
  rw[sy]at a;rcases aib.1 h with rfl|h
  .exact a.1
  .exact sy.get a.2 q h
theorem Hb{f:Nm}{d:Nd}(b:gC ns f=some j)(a:ns[j]?=some d):fw ns f=d.ins.map λv=>(v.tk,v.tn):=by
 unfold fw;have h:ns.find? (λd=>decide (d.name=f))=some d:=by
  unfold gC at b;rw[aiV]at b;obtain⟨c,e,g⟩:=b;rw[aiM c]at a;injection a with a;subst a
  rw[ako];exact⟨e,j,c,W,λk a=>by grind⟩
 rw[h]
end Go.Ps
namespace Go.Proofs.Pz
open Go.Mt Go.Sm Go.Ps Go.Proofs
section
variable(it im ic:Nat)(p:Pg)(nm:Nm)(ins outs:List Va)(cl:o5)(RP:p.nodes.length<=1000000)
include RP
mutual
theorem C5:∀(q:aD) (rs:List Nm) (u:Ps.US),EE p.nodes q->rs.length+xg q<=90000->u.n+pX q<=9000000->u.vars.length+pX q<=20000000->u.eqs.length+pX q<=9000000->wQ it im ic p nm ins outs cl rs q u
 |.mk k i g l j e a h,rs,u,m,s,t,v,w=>by
  rw[EE]at m;rw[pX]at t v w;rw[xg]at s;obtain⟨x,y⟩:=m;rcases x with b|⟨b,z,r,d,n,q,A,B⟩|⟨b,C⟩
  .exact G_ it im ic p nm ins outs cl rs (.mk k i g l j e a h) u b (by omega) (by omega)
  .exact C3 it im ic p nm ins outs cl rs (.mk k i g l j e a h) u b RP r d n q (Hb n q) A B z (by simp only[aD.args];omega) (by simp only[aD.args];omega) (by simp only[aD.args];omega) (by omega)
  .have F:=IL a (rs++[e.nm]) u y (by grind) (by omega) (by omega) (by omega);obtain⟨c,f,o⟩:∃b c,a=b::c:=by
    cases D:a with
    |nil=>exact absurd D C
    |cons c f=>exact⟨c,f,W⟩
   obtain⟨D,E⟩:=F c f o;exact C4 it im ic p nm ins outs cl rs (.mk k i g l j e a h) u c f b o (by omega) D E
theorem IL:∀(l:List aH) (rs:List Nm) (u:Ps.US),yW p.nodes l->rs.length+q8 l<=90001->u.n+jG l<=9000000->u.vars.length+jG l<=20000000->u.eqs.length+jG l<=9000000->∀a b,l=a::b->
  a.aT.eqs.length<=10000000/\∀(i:Nat) (h:i<a.aT.eqs.length),wQ it im ic p nm ins outs cl rs a.aT.eqs[i] (f_ (fw p.nodes) cl rs (a.aT.eqs.take i) u)
 |[],rs,u,c,d,e,f,g,a,b,h=>by cases h
 |.mk o (.mk z c) x y r::l,rs,u,d,e,f,j,k,a,q,h=>by
  injection h with h m
  subst h;rw[yW,BZ]at d;rw[jG,od]at f j k;rw[q8,z']at e;refine⟨d.1.1,λi n=>?_⟩;have b:i<c.length:=n;have s:=nP b;have m:=vR (aif b);have g:=q9 (fw p.nodes) cl (c.take i) rs u;have t:=g.n;have v:=g.vs;have w:=g.q;exact C6 c c[i] (aif b) rs _ (d.1.2.get _ (aif b)) (by omega) (by simp only[aH.aT,bF.eqs];omega) (by simp only[aH.aT,bF.eqs];omega) (by simp only[aH.aT,bF.eqs];omega)
theorem C6:∀(l:List aD) (q:aD),q∈l->∀(rs:List Nm) (u:Ps.US),EE p.nodes q->rs.length+xg q<=90000->u.n+pX q<=9000000->u.vars.length+pX q<=20000000->u.eqs.length+pX q<=9000000->wQ it im ic p nm ins outs cl rs q u
 |[],q,h=>by simp at h
 |a::l,q,h=>by
  rcases aib.1 h with h|h
  .rw[h];exact C5 a
  .exact C6 l q h
end
end
end Go.Proofs.Pz
namespace Go.Ps
open Go.Mt Go.Sm
def C7(l:List Va)(v:Va):eY (l++[v])= λy=>if y=v.name then v.clock else eY l y:=by
 funext y
 unfold eY;rw[akz,ak0,ak8,ak3];by_cases h:v.name=y
 .rw[air h.symm];simp[h]
 .rw[aid (ajs h)];simp[h]
def tr:eY []= λ_=>[]:=rfl
end Go.Ps
namespace Go.Proofs.Pz
open Go.Mt Go.Sm Go.Ps Go.Proofs
open Tryz
section
variable{X:cQ}{ops:Array Oper}{rest:List Oper}{post:St->Prop}{sl:List (Nat×V)}{bx:List (Nat×List M)}{H:Hp}{d ty:Nat}{pos:String}{af:Array Edge}
def AO{T n:Nat}{x:Operand}{i off:Nat}{cs a:List M}[ht:dz X.P T n](b:Nat.blt d X.n=true)(c:aS sl x=some (.m (.ref i off)))(e:H[i]?=some (.box cs))(f:sub cs off n=some a)
  (k:TL X ops rest ⟨(d,.m (pack a))::sl,bx,H⟩ post):TL X ops (⟨some d,.load T x,ty,pos,af,none⟩::rest) ⟨sl,bx,H⟩ post:=
 M3 W W b (ly c e (vJ f)) k
end
def q_(a b c:List Va)(h:a.length+b.length+c.length<=30000000):PT prog 61 [.sl [[.sl (ax a)],[.sl (ax b)],[.sl (ax c)]]] (·=[.sl (ax (a++b++c))]):=by
 have d:=wB [ax a,ax b,ax c] (by
  intro l e r f;simp only[aib,aip,aiJ]at e;rcases e with rfl|rfl|rfl<;>exact bD _ r f) (by simp) (by simp[ax];omega)
 have g:[ax a,ax b,ax c].flatten=ax (a++b++c):=by simp[ax]
 rw[g]at d;exact d
def Fl.ah(f:Fl):f.cells=[.str f.name,.sl (ax f.ins),.sl (ax f.outs),.sl (ax f.vars),.sl (ff f.eqs)]:=rfl
def EF(it:Nat)(p:Pg)(d:Nd)(K:p.nodes.length<=1000000)(N:d.ins.length+d.outs.length+d.b.vars.length<=9000000)(k:BZ p.nodes d.b)(y:z' d.b<=80000)(z:od d.b<=8000000):
  Dt prog 109 [.d (.agg p.cells),.d (.agg d.cells)] [.ob it bg] λr l=>r=.d (.agg (tc p.nodes d).cells)/\l=[.ob it bg]:=by
 intro H F O;have w:=Wk.start O;have P:d.cells=[.str d.name,.sl (ax d.ins),.sl (ax d.outs),.sl (ax d.b.vars),.sl (d.b.eqs.map aD.cells),.int .i64 d.ps.1,.int .i64 d.ps.2]:=by unfold Nd.cells;rfl
 rw[P];obtain⟨L,q⟩:∃L,L=d.ins++d.outs++d.b.vars:=⟨_,rfl⟩;have Zi:L.length<=9000000:=by rw[q];simp only[ah6];exact N
 have A:=EC d.b.vars (by omega);have Q:=q_ d.ins d.outs d.b.vars (by omega);rw[<-q]at Q;have d5:(ax L).length=L.length:=by simp[ax]
 have co:(d.b.eqs.map aD.cells).length=d.b.eqs.length:=by simp
 have ac:tc p.nodes d=⟨d.name,d.ins,d.outs,(f_ (fw p.nodes) (eY L) [] d.b.eqs ⟨0,d.b.vars,[]⟩).vars,(f_ (fw p.nodes) (eY L) [] d.b.eqs ⟨0,d.b.vars,[]⟩).eqs⟩:=by rw[q];rfl
 rw[ac];obtain⟨b,E⟩:∃b,b=H.length:=⟨_,rfl⟩;obtain⟨c,R⟩:∃b,b=H.length+1:=⟨_,rfl⟩;have w:=(w.new (.map []));have B:(H++[Ob.map []]).length=c:=by rw[R];simp
 have w:=w.new (.box [.d (.sl (p.aB.map En.cells)),.d (.sl (p.nodes.map Nd.cells)),.d (.str d.name),.d (.sl (ax d.ins)),.d (.sl (ax d.outs)),.d (.sl []),.d (.sl []),.mp b,.d (.int .i64 0)]);rw[B,<-E]at w;refine MG func109 W ntmps109 W ?_
 repeat refine DC.seq ?_
 refine NI ?_
 repeat refine DC.seq ?_
 apply Mn
 .intro h j;refine TL.go ?_;refine m_ (cs:=[.d (.sl (p.aB.map En.cells)),.d (.sl (p.nodes.map Nd.cells)),.d (.str d.name),.d (.sl (ax d.ins)),.d (.sl (ax d.outs)),.d (.sl []),.d (.sl []),.mp H.length,.d (.int .i64 0)]) W W W W<|oi W W (fx _)<|TL.au
 obtain⟨m,C⟩:∃c,c=H++[Ob.map []]++[Ob.box [.d (.sl (p.aB.map En.cells)),.d (.sl (p.nodes.map Nd.cells)),.d (.str d.name),.d (.sl (ax d.ins)),.d (.sl (ax d.outs)),.d (.sl []),.d (.sl []),.mp b,.d (.int .i64 0)]]:=⟨_,rfl⟩;rw[<-C]at w;refine M5 [(5,.m (.ref c 0)),(4,.loc 4 0),(3,.m (.d (.bM [.str d.name,.sl (ax d.ins),.sl (ax d.outs),.sl (ax d.b.vars),.sl (d.b.eqs.map aD.cells),.int .i64 d.ps.1,.int .i64 d.ps.2] 0)))] m (by rw[<-B];rfl) (by rw[C,E]) ?_;obtain⟨s,K1,S,rfl,w,A⟩:=Wk.call (a:=[]) w (pO d.b.vars (by omega));have w:=w;have T:=w.AA;have w:=w.pick [1,0,2,3];have n:=w.ob;have w:=w.set (.box [.d (.sl (p.aB.map En.cells)),.d (.sl (p.nodes.map Nd.cells)),.d (.str d.name),.d (.sl (ax d.ins)),.d (.sl (ax d.outs)),s,.d (.sl []),.mp b,.d (.int .i64 0)])
 repeat refine DC.seq ?_
 apply Mn
 .intro h j;refine aq W W<|aG W W<|aG W W<|aI W W W<|aA A W W<|iX W W W<|dh W W<|dh W W<|cd W W n T W W<|TL.nil W
 repeat refine DC.seq ?_
 refine NI ?_;have w:=pc.close qY.nil (w.pick [2,0,1,3])
 repeat refine DC.seq ?_
 refine DC.block<|DC.loop (λk h=>∃(i:Nat) (g:List (Nat×List M)) (f:Hp),h=⟨[(39,.m (.d (.int .i64 ((i:Nat):Int)))),(38,.m (.d (.int .i64 ((L.length:Nat):Int)))),(37,.m (.d (.sl (ax L)))),(5,.m (.ref c 0)),(4,.loc 4 0),(3,.m (.d (.bM [.str d.name,.sl (ax d.ins),.sl (ax d.outs),.sl (ax d.b.vars),.sl (d.b.eqs.map aD.cells),.int .i64 d.ps.1,.int .i64 d.ps.2] 0)))],g,f⟩/\Go.Mt.get g 4=some [.d (.str ⟨#[]⟩),.d (.sl []),.d (.sl []),.d (.sl []),.d (.sl [])]/\
   Wk F H [pc b (eY (L.take i)),.ob c (.box [.d (.sl (p.aB.map En.cells)),.d (.sl (p.nodes.map Nd.cells)),.d (.str d.name),.d (.sl (ax d.ins)),.d (.sl (ax d.outs)),s,.d (.sl []),.mp b,.d (.int .i64 0)]),.acc 15 (ax d.b.vars) s,.ob it bg] f/\i<=L.length/\k=L.length-i) L.length _
  ⟨0,_,_,rfl,rfl,by rw[aiD,tr];exact w,by omega,rfl⟩ W ?_
 rintro J U ⟨i,V,m,rfl,g,w,X,rfl⟩
 repeat refine DC.seq ?_
 refine NI ?_
 repeat refine DC.seq ?_
 refine DC.cond W (λf=>?_) (λf=>?_)
 .have j:i<L.length:=by have:=aic f;omega
  have o:=k_ j;have h:eY (L.take (i+1))= λy=>if y=L[i].name then L[i].clock else eY (L.take i) y:=by rw[ah5 j,C7]
  generalize eY (L.take i)=I at w h;generalize L[i]=v at o h;rw[v.ah]at o;obtain⟨x,t,w⟩:=pc.open w;have n:=(w.pick [1,0,2,3]).ob;refine DC.skip ?_
  repeat refine DC.seq ?_
  refine DC.block ?_
  repeat refine DC.seq ?_
  refine NI ?_
  repeat refine DC.seq ?_
  apply Mz mixed
  .intro D G;refine TF.go ?_;refine mQ W W W w.ob t.k<|TF.au
  repeat refine DC.seq ?_
  refine NI ?_;exact bf (k':=L.length-(i+1)) (by omega) ⟨i+1,_,_,rfl,g,by rw[h];exact(pc.close (t.set v.name v.clock) (w.set (.map (dK v.name (.d (.sl (bA v.clock))) x)))),by omega,rfl⟩ W W
 refine DC.exit ?_;obtain rfl:i=L.length:=by have:=aie f;omega
 rw[aih]at w;have w:Wk F H [.ob it bg,jO c b p d.name d.ins d.outs ⟨0,d.b.vars,[]⟩,pc b (eY L)] m:=by
  have w:=(w.nil 22).pick [2,3,0,1,4];exact(Pc (u:=⟨0,d.b.vars,[]⟩) w).pick [2,0,1]
 have Re:d.b.eqs.length<=10000000:=by
  cases h:d.b with
  |mk o j=>rw[h,BZ]at k;exact k.1
 repeat refine DC.seq ?_
 refine NI ?_
 repeat refine DC.seq ?_
 refine DC.block<|DC.loop (λk h=>∃(i:Nat) (g:List (Nat×List M)) (f:Hp),h=⟨[(56,.m (.d (.int .i64 ((i:Nat):Int)))),(55,.m (.d (.int .i64 ((d.b.eqs.length:Nat):Int)))),(54,.m (.d (.sl (d.b.eqs.map aD.cells)))),(5,.m (.ref c 0)),(4,.loc 4 0)],g,f⟩/\Go.Mt.get g 4=some [.d (.str ⟨#[]⟩),.d (.sl []),.d (.sl []),.d (.sl []),.d (.sl [])]/\
   Wk F H [.ob it bg,jO c b p d.name d.ins d.outs (f_ (fw p.nodes) (eY L) [] (d.b.eqs.take i) ⟨0,d.b.vars,[]⟩),pc b (eY L)] f/\i<=d.b.eqs.length/\k=d.b.eqs.length-i) d.b.eqs.length _
  ⟨0,_,_,rfl,g,by rw[aiD,f_.eq_def];exact w,by omega,rfl⟩ W ?_
 rintro J U ⟨i,V,m,rfl,g,w,X,rfl⟩
 repeat refine DC.seq ?_
 refine NI ?_
 repeat refine DC.seq ?_
 refine DC.cond W (λf=>?_) (λf=>?_)
 .have h:i<d.b.eqs.length:=by have:=aic f;omega
  have D:(d.b.eqs.map aD.cells)[((i:Nat):Int).toNat]?=some d.b.eqs[i].cells:=by simp[h]
  have t:f_ (fw p.nodes) (eY L) [] (d.b.eqs.take (i+1)) ⟨0,d.b.vars,[]⟩=o6 (fw p.nodes) (eY L) [] d.b.eqs[i] (f_ (fw p.nodes) (eY L) [] (d.b.eqs.take i) ⟨0,d.b.vars,[]⟩):=by
   rw[ah5 h,vQ,f_.eq_def _ _ _ [_]];simp only;rw[f_.eq_def]
  have x:wQ it c b p d.name d.ins d.outs (eY L) [] d.b.eqs[i] (f_ (fw p.nodes) (eY L) [] (d.b.eqs.take i) ⟨0,d.b.vars,[]⟩):=by
   have o:=q9 (fw p.nodes) (eY L) (d.b.eqs.take i) [] ⟨0,d.b.vars,[]⟩;have Y:=o.n;have Z:=o.vs;have gq:=o.q
   dsimp only[List.length_nil]at Y Z gq
   have h1:=nP h;have h2:=vR (aif h);have Up:kH d.b.eqs<=8000000:=by cases j:d.b with|mk I G=>rw[j,od]at z;exact z
   have P6:gm d.b.eqs<=80000:=by cases j:d.b with|mk I G=>rw[j,z']at y;exact y
   have am:sy p.nodes d.b.eqs:=by cases j:d.b with|mk I G=>rw[j,BZ]at k;exact k.2
   exact C5 it c b p d.name d.ins d.outs (eY L) K d.b.eqs[i] [] _ (am.get _ (aif h)) (by rw[List.length_nil];omega) (by omega) (by omega) (by omega)
  generalize f_ (fw p.nodes) (eY L) [] (d.b.eqs.take i) ⟨0,d.b.vars,[]⟩=u1 at w t x;generalize d.b.eqs[i]=e at D t x;obtain⟨ce,K3,S,rfl,w,Nz⟩:=Wk.call (r:=[]) w x;rw[e.ah,e.ex.ah]at D Nz;refine DC.skip ?_
  repeat refine DC.seq ?_
  refine DC.block ?_
  repeat refine DC.seq ?_
  refine NI ?_
  repeat refine DC.seq ?_
  refine NI ?_
  repeat refine DC.seq ?_
  refine NI ?_;exact bf (k':=d.b.eqs.length-(i+1)) (by omega) ⟨i+1,_,_,rfl,g,by rw[t];exact w,by omega,rfl⟩ W W
 refine DC.exit ?_;obtain rfl:i=d.b.eqs.length:=by have:=aie f;omega
 rw[aih]at w;generalize f_ (fw p.nodes) (eY L) [] d.b.eqs ⟨0,d.b.vars,[]⟩=u at w⊢;obtain⟨SJ,ZA,w⟩:=jO.open (w.pick [1,0,2]);have n:=w.ob
 repeat refine DC.seq ?_
 apply Mn
 .intro h j;refine TL.go ?_;refine AO W W n W<|aK W W g (fx _) W W<|TL.nil W
 refine DC.cA (MP:=[.d (.str d.name),.d (.sl (ax d.ins)),.d (.sl (ax d.outs)),.d (.sl (ax u.vars)),.d (.sl (ff u.eqs))]) 4 W (bY (bY (bY (lJ ((w.pick [1,0,2,3,4]).view (bD _)) (lJ ((w.pick [2,0,1,3,4]).view (yT _)) (o7 _))))))<|DC.ret ⟨_,W,_,⟨W,W⟩,((w.pick [3,0,1,2,4]).pick [1,2,3,4,0]).drop.drop.drop.drop⟩
end Go.Proofs.Pz
namespace Go.Ps
open Go.Mt Go.Sm
mutual
def oN:aD->List Nm->List Nm
 |.mk k _ f _ _ _ a _,l=>fB a (if k=2 then bt l f else l)
def fB:List aH->List Nm->List Nm
 |[],l=>l
 |.mk _ b _ _ _::r,l=>fB r ((iS b).foldl bt l)
def iS:bF->List Nm
 |.mk _ a=>fM a []
def fM:List aD->List Nm->List Nm
 |[],l=>l
 |q::r,l=>fM r (oN q l)
end
def wR:∀(a b:List aD) (l:List Nm),fM (a++b) l=fM b (fM a l)
 |[],b,l=>by rw[fM.eq_def []];rfl
 |q::a,b,l=>by rw[aiA,fM.eq_def (q::_),fM.eq_def (q::a)];exact wR a b _
def wS:∀(a b:List aH) (l:List Nm),fB (a++b) l=fB b (fB a l)
 |[],b,l=>by rw[fB.eq_def []];rfl
 |.mk _ _ _ _ _::a,b,l=>by rw[aiA,fB.eq_def (_::_),fB.eq_def (_::a)];exact wS a b _
mutual
def EG:∀(q:aD) (l:List Nm),(oN q l).length<=l.length+pX q
 |.mk k _ f d _ _ a _,l=>by
  rw[oN.eq_def,pX];have b:=rc a (if k=2 then bt l f else l);have c:(if k=2 then bt l f else l).length<=l.length+1:=by split;exact iQ l f;omega
  dsimp only
  omega
def rc:∀(a:List aH) (l:List Nm),(fB a l).length<=l.length+jG a
 |[],l=>by rw[fB.eq_def,jG];exact ah9 _
 |.mk _ b _ _ _::r,l=>by
  rw[fB.eq_def,jG]
  dsimp only
  have c:=rc r ((iS b).foldl bt l);have c:=dl (iS b) l;have c:=tu b;omega
def tu:∀(b:bF),(iS b).length<=od b
 |.mk _ a=>by
  rw[iS.eq_def,od];have:=re a [];simpa using this
def re:∀(q:List aD) (l:List Nm),(fM q l).length<=l.length+kH q
 |[],l=>by rw[fM.eq_def,kH];exact ah9 _
 |q::r,l=>by
  rw[fM.eq_def,kH]
  dsimp only
  have a:=re r (oN q l);have a:=EG q l;omega
end
mutual
def B0:bF->Prop
 |.mk _ a=>a.length<=10000000/\sA a
def sA:List aD->Prop
 |[]=>True
 |.mk _ _ _ _ _ _ a _::l=>(a.length<=1000000/\rf a)/\sA l
def rf:List aH->Prop
 |[]=>True
 |.mk _ b _ _ _::l=>B0 b/\rf l
end
end Go.Ps
namespace Go.Proofs.Pz
open Go.Mt Go.Sm Go.Ps Go.Proofs
open Tryz
def yX{α:Type}{a:Nat}{x y:α}{r:List (Nat×α)}(t:Nat):Go.Mt.get ((a,x)::r) t=Go.Mt.get ((a,x)::(a,y)::r) t:=by
 by_cases h:a.beq t=true
 .simp[Go.Mt.get,h]
 .simp[Go.Mt.get,akL.2 h]
def tv:∀{l:List aH} {i:Nat} (h:i<l.length),jG (l.take i)+od l[i].aT<=jG l
 |[],i,h=>by simp at h
 |.mk _ b _ _ _::l,0,h=>by rw[aiD,jG,jG.eq_def (_::_),ajv];simp[aH.aT]
 |.mk _ b _ _ _::l,i+1,h=>by
  have:=tv (l:=l) (i:=i) (by simpa using h);rw[aiU,jG.eq_def (_::_),jG.eq_def (_::l),ajg];simp only;omega
def Hc(b:bF)(Re:b.eqs.length<=10000000)(N:∀q∈b.eqs,q.ai.length<=1000000)(O:od b<=8000000)(P:∀q∈b.eqs,∀a∈q.ai,PT prog 159 [.agg a.aT.cells] (·=[.sl (aE (iS a.aT))])):
  PT prog 159 [.agg b.cells] (·=[.sl (aE (iS b))]):=by
 refine PT.ro (ds:=[_]) ?_;intro H F Q;have w:=(Wk.start Q).nil 1;have d9:(b.eqs.map aD.cells).length=b.eqs.length:=by simp
 have R:iS b=fM b.eqs []:=by cases b;rw[iS.eq_def];rfl
 have ac:od b=kH b.eqs:=by cases b;rw[od];rfl
 rw[ac]at O;rw[R,b.ah];refine MG func159 W ntmps159 W ?_
 repeat refine DC.seq ?_
 refine NI ?_
 repeat refine DC.seq ?_
 refine NI ?_
 repeat refine DC.seq ?_
 refine NI ?_
 repeat refine DC.seq ?_
 refine DC.block<|DC.loop (λk c=>∃(i:Nat) (m:M) (d:List (Nat×List M)) (a:Hp),c=⟨[(13,.m (.d (.int .i64 ((i:Nat):Int)))),(12,.m (.d (.int .i64 ((b.eqs.length:Nat):Int)))),(11,.m (.d (.sl (b.eqs.map aD.cells)))),(3,.m m)],d,a⟩/\
   Wk F H [.acc 1 (aE (fM (b.eqs.take i) [])) m] a/\i<=b.eqs.length/\k=b.eqs.length-i) b.eqs.length _
  ⟨0,.d (.sl []),_,_,rfl,by rw[aiD,fM.eq_def];exact w,by omega,rfl⟩ W ?_
 rintro z A ⟨i,m,f,v,rfl,w,hi,rfl⟩
 repeat refine DC.seq ?_
 refine NI ?_
 repeat refine DC.seq ?_
 refine DC.cond W (λc=>?_) (λc=>?_)
 .have g:i<b.eqs.length:=by have:=aic c;omega
  have B:(b.eqs.map aD.cells)[((i:Nat):Int).toNat]?=some b.eqs[i].cells:=by simp[g]
  have k:fM (b.eqs.take (i+1)) []=oN b.eqs[i] (fM (b.eqs.take i) []):=by
   rw[ah5 g,wR,fM.eq_def [_]];simp only;rw[fM.eq_def]
  have L:=re (b.eqs.take i) [];have C:=nP g;have E:=P _ (aif g);have am:=N _ (aif g);generalize fM (b.eqs.take i) []=l at w k L;generalize b.eqs[i]=q at B k E am C;have RG:(q.ai.map aH.cells).length=q.ai.length:=by simp
  have S:oN q l=fB q.ai (if q.kd=2 then bt l q.f else l):=by cases q;rw[oN.eq_def];rfl
  have ce:pX q=q.args.length+2+jG q.ai:=by cases q;rw[pX];rfl
  rw[S]at k;rw[ce]at C;rw[List.length_nil]at L;rw[q.ah,q.ex.ah]at B;refine DC.skip ?_
  repeat refine DC.seq ?_
  refine DC.block ?_
  repeat refine DC.seq ?_
  refine NI ?_;obtain⟨d,n⟩:∃a,a=if q.kd=2 then bt l q.f else l:=⟨_,rfl⟩
  have Wa:d.length<=l.length+1:=by rw[n];split;exact iQ l q.f;omega
  rw[<-n]at k;obtain⟨G,T,U,x⟩:∃a c,Wk F H [.acc 1 (aE d) a] c/\(if q.kd=2 then CT prog 179 [m,.d (.str q.f)] v λd e=>d=a/\e=c else a=m/\c=v):=by
   by_cases a:q.kd=2
   .obtain⟨e,K,p,h,w,c⟩:=Wk.call (r:=[]) w (uq l q.f (by omega) m);subst h;refine⟨e,K,?_,by rw[air a];exact c⟩;rw[n,air a];exact w
   .exact⟨m,v,by rw[n,aid a];exact w,by rw[aid a];exact⟨W,W⟩⟩
  refine DC.seq<|DC.D8 ⟨[(5,.loc 5 0),(13,.m (.d (.int .i64 ((i:Nat):Int)))),(12,.m (.d (.int .i64 ((b.eqs.length:Nat):Int)))),(11,.m (.d (.sl (b.eqs.map aD.cells)))),(3,.m G)],(5,(eW q.kd q.lhs q.f (q.args.map Xp.cells) q.has (xC q.ex) (q.ai.map aH.cells) q.ps).map M.d)::f,T⟩ ?_ ?_
  .by_cases a:q.kd=2
   .rw[air a]at x;have e:(q.kd==2)=true:=by simp[a]
    repeat refine DC.seq ?_
    apply Mn
    .intro h p;refine aF W W<|aJ W W W W ?_
     (refine ay W W W (r:=.bool true) (by show some (D.bool (q.kd==2))=_;rw[e]) ?_)
     exact TL.nil W
    repeat refine DC.seq ?_
    refine MM W ?_
    repeat refine DC.seq ?_
    refine NI ?_;exact BC yX W W
   .rw[aid a]at x;obtain⟨rfl,rfl⟩:=x;have e:(q.kd==2)=false:=by simp[a]
    repeat refine DC.seq ?_
    apply Mn
    .intro h p;refine aF W W<|aJ W W W W ?_
     (refine ay W W W (r:=.bool false) (by show some (D.bool (q.kd==2))=_;rw[e]) ?_)
     exact TL.nil W
    repeat refine DC.seq ?_
    refine Mw W<|DC.skip<|BC yX W W
  have X:Go.Mt.get ((5,(eW q.kd q.lhs q.f (q.args.map Xp.cells) q.has (xC q.ex) (q.ai.map aH.cells) q.ps).map M.d)::f) 5=some ((eW q.kd q.lhs q.f (q.args.map Xp.cells) q.has (xC q.ex) (q.ai.map aH.cells) q.ps).map M.d):=rfl;generalize (5,(eW q.kd q.lhs q.f (q.args.map Xp.cells) q.has (xC q.ex) (q.ai.map aH.cells) q.ps).map M.d)::f=f5 at X
  repeat refine DC.seq ?_
  refine NI ?_
  repeat refine DC.seq ?_
  refine DC.block<|DC.loop (λk c=>∃(j:Nat) (m:M) (e:List (Nat×List M)) (a:Hp),c=⟨[(27,.m (.d (.int .i64 ((j:Nat):Int)))),(26,.m (.d (.int .i64 ((q.ai.length:Nat):Int)))),(25,.m (.d (.sl (q.ai.map aH.cells)))),(13,.m (.d (.int .i64 ((i:Nat):Int)))),(12,.m (.d (.int .i64 ((b.eqs.length:Nat):Int)))),(11,.m (.d (.sl (b.eqs.map aD.cells)))),(3,.m m)],e,a⟩/\
    Wk F H [.acc 1 (aE (fB (q.ai.take j) d)) m] a/\j<=q.ai.length/\k=q.ai.length-j) q.ai.length _
   ⟨0,G,_,_,rfl,by rw[aiD,fB.eq_def];exact U,by omega,rfl⟩ W ?_
  rintro z A ⟨j,Y,f,H2,rfl,o,hj,rfl⟩
  repeat refine DC.seq ?_
  refine NI ?_
  repeat refine DC.seq ?_
  refine DC.cond W (λc=>?_) (λc=>?_)
  .have p:j<q.ai.length:=by have:=aic c;omega
   have I:(q.ai.map aH.cells)[((j:Nat):Int).toNat]?=some q.ai[j].cells:=by simp[p]
   have s:fB (q.ai.take (j+1)) d=(iS q.ai[j].aT).foldl bt (fB (q.ai.take j) d):=by
    rw[ah5 p,wS,fB.eq_def [_]];generalize q.ai[j]=e;cases e;simp only;rw[fB.eq_def];rfl
   have co:=rc (q.ai.take j) d;have d5:=tv p;have t:=E _ (aif p);have J:=tu q.ai[j].aT;generalize fB (q.ai.take j) d=u at o s co;generalize q.ai[j]=e at I s t d5 J;rw[e.ah]at I;refine DC.skip ?_
   repeat refine DC.seq ?_
   refine DC.block ?_
   repeat refine DC.seq ?_
   refine NI ?_;obtain⟨a,Z⟩:∃a,a=iS e.aT:=⟨_,rfl⟩;rw[<-Z]at s t J;rw[e.aT.ah]at t;have Zl:(aE a).length=a.length:=by simp
   repeat refine DC.seq ?_
   apply Mn
   .intro K V;refine aF W W<|bp W W W W W ?_
    (refine tQ t W W ?_;rintro _ rfl)
    (refine aY W W W ?_;rw[Zl])
    refine aq W W<|TL.nil W
   repeat refine DC.seq ?_
   refine DC.block<|DC.loop (λk d=>∃(h:Nat) (m:M) (e:List (Nat×List M)) (c:Hp),d=⟨[(35,.m (.d (.int .i64 ((h:Nat):Int)))),(34,.m (.d (.int .i64 ((a.length:Nat):Int)))),(33,.m (.d (.sl (aE a)))),(27,.m (.d (.int .i64 ((j:Nat):Int)))),(26,.m (.d (.int .i64 ((q.ai.length:Nat):Int)))),(25,.m (.d (.sl (q.ai.map aH.cells)))),(13,.m (.d (.int .i64 ((i:Nat):Int)))),(12,.m (.d (.int .i64 ((b.eqs.length:Nat):Int)))),(11,.m (.d (.sl (b.eqs.map aD.cells)))),(3,.m m)],e,c⟩/\
     Wk F H [.acc 1 (aE ((a.take h).foldl bt u)) m] c/\h<=a.length/\k=a.length-h) a.length _
    ⟨0,Y,_,_,rfl,o,by omega,rfl⟩ W ?_
   rintro z A ⟨h,m3,f,H3,rfl,y,hh,rfl⟩
   repeat refine DC.seq ?_
   refine NI ?_
   repeat refine DC.seq ?_
   refine DC.cond W (λc=>?_) (λc=>?_)
   .have K:h<a.length:=by have:=aic c;omega
    have f6:(aE a)[((h:Nat):Int).toNat]?=some [.str a[h]]:=by simp[aE,K]
    have d6:(a.take (h+1)).foldl bt u=bt ((a.take h).foldl bt u) a[h]:=by rw[ah5 K,aiC];rfl
    have f8:=dl (a.take h) u;have MY:(a.take h).length<=a.length:=by rw[ait];omega
    obtain⟨d7,d8,l',V,w4,Rl⟩:=Wk.call (r:=[]) y (uq _ a[h] (by omega) m3);subst V;refine DC.skip ?_
    repeat refine DC.seq ?_
    refine DC.block ?_
    repeat refine DC.seq ?_
    refine NI ?_
    repeat refine DC.seq ?_
    refine NI ?_
    repeat refine DC.seq ?_
    refine NI ?_;exact bf (k':=a.length-(h+1)) (by omega) ⟨h+1,_,_,_,rfl,by rw[d6];exact w4,by omega,rfl⟩ W W
   refine DC.exit ?_;obtain rfl:h=a.length:=by have:=aie c;omega
   rw[aih,<-s]at y
   repeat refine DC.seq ?_
   refine NI ?_;exact bf (k':=q.ai.length-(j+1)) (by omega) ⟨j+1,_,_,_,rfl,y,by omega,rfl⟩ W W
  refine DC.exit ?_;obtain rfl:j=q.ai.length:=by have:=aie c;omega
  rw[aih,<-k]at o
  repeat refine DC.seq ?_
  refine NI ?_;exact bf (k':=b.eqs.length-(i+1)) (by omega) ⟨i+1,_,_,_,rfl,o,by omega,rfl⟩ W W
 refine DC.exit ?_;obtain rfl:i=b.eqs.length:=by have:=aie c;omega
 rw[aih]at w
 repeat refine DC.seq ?_
 refine NI ?_;refine DC.aR 2 W (w.view (cU _))<|DC.ret ⟨_,W,_,⟨W,W⟩,w.drop⟩
end Go.Proofs.Pz
namespace Go.Ps
open Go.Mt Go.Sm
variable{ns:List Nd}{n:Nat}
def B1(ns:List Nd):Prop:=(ns.map (·.name)).Nodup/\∀(i:Nat) (h:i<ns.length),∀s∈iS (ns[i]).b,s∈(ns.take i).map (·.name)\/gC ns s=none
def sA.mem:∀{l:List aD},sA l->∀q∈l,q.ai.length<=1000000/\rf q.ai
 |.mk _ _ _ _ _ _ b _::l,h,q,a=>by
  rw[sA]at h;rcases aib.1 a with rfl|a
  .exact h.1
  .exact sA.mem h.2 q a
def rf.mem:∀{l:List aH},rf l->∀a∈l,B0 a.aT
 |.mk _ b _ _ _::l,h,a,c=>by
  rw[rf]at h;rcases aib.1 c with rfl|c
  .exact h.1
  .exact rf.mem h.2 a c
def IM{b:bF}{q:aD}{a:aH}(c:q∈b.eqs)(d:a∈q.ai):od a.aT<=od b:=by
 obtain⟨i,e,rfl⟩:=ai4 c;obtain⟨j,f,rfl⟩:=ai4 d;have h:=nP e;have k:=Go.Proofs.Pz.tv f;have g:∀q:aD,jG q.ai<=pX q:=by intro q;cases q;rw[pX];simp only[aD.ai];omega
 have l:od b=kH b.eqs:=by cases b;rw[od];rfl
 have:=g b.eqs[i];omega
def EH(h:B1 ns)(b:n<ns.length):((iS ns[n].b).any λs=> !cW ((ns.take n).map (·.name)) s&&(gC ns s).isSome)=false:=by
 rw[akM];intro s c;rcases h.2 n b s c with a|a
 .rw[gX.2 a];simp
 .rw[a];simp
theorem IN(h:B1 ns)(a:n<ns.length):cW ((ns.take n).map (·.name)) ns[n].name=false:=by
 rw[akL,ne_eq,gX,ala];intro b;have a:=h.1;have c:n<(ns.map (·.name)).length:=by grind
 rw[<-ai3 n (ns.map (·.name)),ajP]at a;refine a.2.2 _ b _ ?_ W;rw[ajd c];simp
def IP{i:Nat}(hi:i<n)(a:i<ns.length):cW ((ns.take n).map (·.name)) ns[i].name=true:=
 gX.2 (aij.2 ⟨ns[i],akG.2 ⟨i,by omega,rfl⟩,rfl⟩)
end Go.Ps
namespace Go.Proofs.Pz
open Go.Mt Go.Sm Go.Ps Go.Proofs
open Tryz
def AP(b:bF)(f:B0 b)(g:od b<=8000000):PT prog 159 [.agg b.cells] (·=[.sl (aE (iS b))]):=by
 have a:b.eqs.length<=10000000/\sA b.eqs:=by cases b;rw[B0]at f;exact f
 refine Hc b a.1 (λq c=>(a.2.mem q c).1) g λq c e d=>?_
 have h:=aD.FB d;have i:SizeOf.sizeOf q<SizeOf.sizeOf b:=by cases b;have:=ajX c;simp only[bF.eqs]at this;simp;omega
 exact AP e.aT ((a.2.mem q c).2.mem e d) (by have:=IM c d;omega)
termination_by SizeOf.sizeOf b
theorem yY(l:List Nm)(a:Nat)[aW prog a](k:a<1024)(Nh:List M)(p:Nm->Bool)(A:List As)(y:l.length<=10000000)(m:∀c∈l,Dt prog a (.d (.str c)::Nh) A λr a=>r=.d (.bool (p c))/\a=A):
  Dt prog 132 [.d (.sl (aE l)),.fn a Nh] A λr a=>r=.d (.int .i64 (lh (l.findIdx? p)))/\a=A:=by
 intro H F n;have w:=Wk.start n;have s:(aE l).length=l.length:=by simp
 refine MG func132 W ntmps132 W ?_
 repeat refine DC.seq ?_
 apply Mn
 .intro c e;refine aj W W<|TL.nil W
 repeat refine DC.seq ?_
 apply Mn
 .intro c e;refine aq W W ?_
  (refine aY W W W ?_;rw[s])
  refine aq W W<|TL.nil W
 repeat refine DC.seq ?_
 refine DC.block<|DC.loop (λk s=>∃(i:Nat) (c:List (Nat×List M)) (K:Hp),s=⟨[(8,.m (.d (.int .i64 ((i:Nat):Int)))),(7,.m (.d (.int .i64 ((l.length:Nat):Int)))),(0,.m (.d (.sl (aE l)))),(1,.m (.fn a Nh))],c,K⟩/\Wk F H A K/\i<=l.length/\k=l.length-i/\(∀(j:Nat) (a:j<l.length),j<i->p l[j]=false)) l.length _
  ⟨0,_,_,rfl,w,by omega,rfl,by grind⟩ W ?_
 rintro t u ⟨i,D,K,rfl,w,G,rfl,d⟩
 repeat refine DC.seq ?_
 apply Mn
 .intro c e;refine ay W W W W<|TL.nil W
 repeat refine DC.seq ?_
 refine DC.cond W (λo=>?_) (λo=>?_)
 .have e:i<l.length:=by grind
  have q:(aE l)[((i:Nat):Int).toNat]?=some [.str l[i]]:=by grind
  obtain⟨x,I,z,⟨rfl,rfl⟩,c,f⟩:=Wk.call (r:=[]) (by rw[aiu];exact w) (m _ (aif e));rw[aiu]at c;obtain⟨b,g⟩:∃b,b=p l[i]:=⟨_,rfl⟩;rw[<-g]at f;refine DC.skip ?_
  repeat refine DC.seq ?_
  refine DC.block ?_
  repeat refine DC.seq ?_
  apply Mn
  .intro j v;refine aq W W<|aj W W<|TL.nil W
  repeat refine DC.seq ?_
  apply Mn
  .intro j v;refine aq W W<|aq W W<|aq W W<|bH W W W (ah7 i) q W<|aI W W W ?_
   (refine Ap f W W W ?_ k)
   exact TL.nil W
  repeat refine DC.seq ?_
  refine DC.cond W (λh=>?_) (λh=>?_)
  .repeat refine DC.seq ?_
   apply Mn
   .intro j v;refine aq W W<|aj W W<|TL.nil W
   exact DC.ret ⟨_,W,_,⟨by rw[o9 e (g.symm.trans h) (λj a h=>d j a h)];rfl,rfl⟩,c⟩
  .refine DC.skip ?_
   repeat refine DC.seq ?_
   apply Mn
   .intro B C;refine bc W W W (by omega)<|aq W W<|TL.nil W
   refine bf (k':=l.length-(i+1)) (by omega) ⟨i+1,_,_,rfl,c,by omega,rfl,?_⟩ W W;intro v E j;rcases aji.1 j with J|rfl
   .grind
   .grind
 .refine DC.exit ?_;have f:i=l.length:=by grind
  repeat refine DC.seq ?_
  apply Mn
  .intro c e;refine aj W W<|TL.nil W
  exact DC.ret ⟨_,W,_,⟨by rw[ng (λj a=>d j a (by omega))];rfl,rfl⟩,w⟩
theorem uC(l:List Nm)(a:Nat)[aW prog a](d:a<1024)(Nh:List M)(p:Nm->Bool)(A:List As)(e:l.length<=10000000)(f:∀b∈l,Dt prog a (.d (.str b)::Nh) A λr a=>r=.d (.bool (p b))/\a=A):
  Dt prog 87 [.d (.sl (aE l)),.fn a Nh] A λr a=>r=.d (.bool (l.any p))/\a=A:=by
 intro H F g;obtain⟨x,o,n,⟨rfl,rfl⟩,c,h⟩:=Wk.call (r:=[]) (by rw[aiu];exact Wk.start g) (yY l a d Nh p A e f);rw[aiu]at c;have i:decide ((0:Int)<=lh (l.findIdx? p))=l.any p:=by
  cases b:l.findIdx? p with
  |none=>
   rw[ajn]at b;have:l.any p=false:=by grind
   rw[this];rfl
  |some m=>
   have:l.any p=true:=by
    rw[aiV]at b;obtain⟨j,k,_⟩:=b;exact ajr.2 ⟨_,aif j,k⟩
   rw[this];exact aiS (by simp only[lh];omega)
 refine MG func87 W ntmps87 W ?_
 repeat refine DC.seq ?_
 apply Mn
 .intro b j;refine aj W W<|TL.nil W
 repeat refine DC.seq ?_
 apply Mn
 .intro b j;refine aq W W<|aq W W<|aA h W W ?_
  (refine ay W W W (r:=.bool (l.any p)) (by show some (D.bool (decide ((0:Int)<=lh (l.findIdx? p))))=_;rw[i]) ?_)
  refine aj W W<|TL.nil W
 exact DC.ret ⟨_,W,_,⟨W,W⟩,c⟩
def EI(b:Nat)(p:Pg)(f:p.nodes.length<=1000000)(out:List Nm)(k:out.length<=1000000)(m:M)(s:Nm):
  Dt prog 160 [.d (.str s),.ref b 0,.d (.bM [.sl (p.aB.map En.cells),.sl (p.nodes.map Nd.cells)] 0)] [.ob b (.box [m]),.acc 1 (aE out) m] λr l=>r=.d (.bool (!(cW out s)&&(gC p.nodes s).isSome))/\l=[.ob b (.box [m]),.acc 1 (aE out) m]:=by
 intro H F g;have w:=Wk.start g;have c:=w.ob;have d:=(w.pick [1,0]).view (cU out);have a:=jg out s (by omega);have h:decide ((0:Int)<=lh (gC p.nodes s))=(gC p.nodes s).isSome:=by
  cases gC p.nodes s with
  |none=>rfl
  |some i=>exact aiS (by simp only[lh];omega)
 refine MG func160 W ntmps160 W ?_;cases e:cW out s with
 |true=>
  rw[e]at a
  repeat refine DC.seq ?_
  apply Mn
  .intro i j;refine aj W W<|TL.nil W
  repeat refine DC.seq ?_
  apply Mn
  .intro i j;refine bK W W c W<|aq W W ?_
   (refine TL.aR 5 W d ?_;refine aX a W W ?_)
   refine kg W W<|aq W W<|bN W W<|bN W W<|bN W W<|bN W W<|gR W W W<|aj W W<|TL.nil W
  exact DC.ret ⟨_,W,_,⟨W,W⟩,w⟩
 |false=>
  rw[e]at a
  repeat refine DC.seq ?_
  apply Mn
  .intro i j;refine aj W W<|TL.nil W
  repeat refine DC.seq ?_
  apply Mn
  .intro i j;refine bK W W c W<|aq W W ?_
   (refine TL.aR 5 W d ?_;refine aX a W W ?_)
   refine kg W W<|aq W W<|az W ?_;refine ca W W W ?_;refine az W ?_;refine aq W W ?_;refine az W ?_;refine aX (pS p s f) W W ?_;refine az W ?_;refine ay W W W (r:=.bool (gC p.nodes s).isSome) (by show some (D.bool (decide ((0:Int)<=lh (gC p.nodes s))))=_;rw[h]) ?_;refine gR W W W<|aj W W<|TL.nil W
  exact DC.ret ⟨_,W,_,⟨W,W⟩,w⟩
theorem He(p:Pg)(G:p.nodes.length<=1000000)(x:B1 p.nodes)(T:∀d∈p.nodes,B0 d.b/\od d.b<=8000000):
  PT prog 108 [.agg p.cells] (·=[.sl (aE (p.nodes.map (·.name)))]):=by
 refine PT.ro (ds:=[_]) ?_;intro H F I;have C:(p.nodes.map Nd.cells).length=p.nodes.length:=by simp
 obtain⟨e,y⟩:∃a,a=H.length:=⟨_,rfl⟩;have w:=((Wk.start I).nil 1).new (.box [.d (.sl [])]);rw[<-y]at w;refine MG func108 W ntmps108 W ?_
 repeat refine DC.seq ?_
 apply Mn
 .intro f g;refine gZ W W<|aj W W<|TL.nil W
 repeat refine DC.seq ?_
 apply Mn
 .intro f g;refine o0 W<|TL.nil W
 rw[<-y]
 repeat refine DC.seq ?_
 refine DC.block<|DC.loop (λk a=>∃(n:Nat) (m:M) (c:List (Nat×List M)) (K:Hp),a=⟨[(3,.m (.ref e 0)),(2,.m (.d (.sl []))),(1,.m (.d (.bM [.sl (p.aB.map En.cells),.sl (p.nodes.map Nd.cells)] 0)))],c,K⟩/\
   Wk F H [.ob e (.box [m]),.acc 1 (aE ((p.nodes.take n).map (·.name))) m] K/\n<=p.nodes.length/\k=p.nodes.length-n) p.nodes.length _
  ⟨0,.d (.sl []),_,_,rfl,w,by omega,rfl⟩ W ?_
 rintro E J ⟨n,m,L,K,rfl,w,X,rfl⟩;have a:=w.ob;have c:=(w.pick [1,0]).view (cU _);have j:(aE ((p.nodes.take n).map (·.name))).length=n:=by grind
 have z:((p.nodes.take n).map (·.name)).length<=1000000:=by simp;omega
 repeat refine DC.seq ?_
 apply Mn
 .intro f g;refine bK W W a W ?_
  (refine TL.aR 8 W c ?_;refine aY W W W ?_;rw[j])
  refine aG W W<|aI W W W ?_
  (refine aY W W W ?_;rw[C])
  refine ay W W W W<|TL.nil W
 repeat refine DC.seq ?_
 refine DC.cond W (λO=>?_) (λO=>?_)
 .have Y:n<p.nodes.length:=by grind
  refine DC.skip ?_
  repeat refine DC.seq ?_
  refine DC.block ?_
  repeat refine DC.seq ?_
  apply Mn
  .intro t B;refine bK W W a W ?_
   (refine TL.aR 14 W c ?_;refine aY W W W ?_;rw[j])
   refine aj W W<|TL.nil W
  repeat refine DC.seq ?_
  apply Mn
  .intro t B;refine aG W W<|aI W W W ?_
   (refine aY W W W ?_;rw[C])
   refine aq W W<|TL.nil W
  repeat refine DC.seq ?_
  refine DC.block<|DC.loop (λk a=>∃(i:Nat) (c:List (Nat×List M)) (K:Hp),a=⟨[(19,.m (.d (.int .i64 ((i:Nat):Int)))),(18,.m (.d (.int .i64 ((p.nodes.length:Nat):Int)))),(17,.m (.d (.sl (p.nodes.map Nd.cells)))),(4,.m (.d (.int .i64 ((n:Nat):Int)))),(3,.m (.ref e 0)),(2,.m (.d (.sl []))),(1,.m (.d (.bM [.sl (p.aB.map En.cells),.sl (p.nodes.map Nd.cells)] 0)))],c,K⟩/\
    Wk F H [.ob e (.box [m]),.acc 1 (aE ((p.nodes.take n).map (·.name))) m] K/\i<=n/\k=n-i) n _
   ⟨0,_,_,rfl,w,by omega,rfl⟩ W ?_
  clear w c a;rintro E J ⟨i,L,K,rfl,w,Z,rfl⟩;have f:i<p.nodes.length:=by omega
  repeat refine DC.seq ?_
  apply Mn
  .intro t B;refine ay W W W W<|TL.nil W
  repeat refine DC.seq ?_
  refine DC.cond W (λ_=>?_) (λa=>by grind);have k:(p.nodes.map Nd.cells)[((i:Nat):Int).toNat]?=some p.nodes[i].cells:=by simp[f]
  have l:=T _ (aif f);have o:=AP _ l.1 l.2;have u:i<n->cW ((p.nodes.take n).map (·.name)) p.nodes[i].name=true:= λh=>IP h f
  have g:i=n->((iS p.nodes[i].b).any λs=> !cW ((p.nodes.take n).map (·.name)) s&&(gC p.nodes s).isSome)=false:=by rintro rfl;exact EH x f
  have q:i=n->cW ((p.nodes.take n).map (·.name)) p.nodes[i].name=false:=by rintro rfl;exact IN x f
  have s:i=n->aE ((p.nodes.take (n+1)).map (·.name))=aE ((p.nodes.take n).map (·.name))++[[.str p.nodes[i].name]]:=by rintro rfl;rw[ah5 f,aio,aE,aio];rfl
  have U:=tu p.nodes[i].b;generalize XS:(p.nodes.take n).map (·.name)=out at w u g q s j z;generalize p.nodes[i]=d at k o u g q s l U;rw[d.b.ah]at o;unfold Nd.cells at k;have h:=jg out d.name (by omega);obtain⟨_,P,l',⟨rfl,rfl⟩,w,A⟩:=Wk.call (r:=[]) (by rw[aiu];exact w) (uC (iS d.b) 160 (by decide) [.ref e 0,.d (.bM [.sl (p.aB.map En.cells),.sl (p.nodes.map Nd.cells)] 0)] (λs=> !cW out s&&(gC p.nodes s).isSome) [.ob e (.box [m]),.acc 1 (aE out) m] (by omega) (λs _=>EI e p G out z m s));rw[aiu]at w;generalize hb:((iS d.b).any λs=> !cW out s&&(gC p.nodes s).isSome)=b at A g;have a:=w.ob;have c:=(w.pick [1,0]).view (cU _);refine DC.skip ?_
  repeat refine DC.seq ?_
  refine DC.block ?_
  repeat refine DC.seq ?_
  apply Mn
  .intro t B;refine bH W W W (ah7 i) k W<|ca W W W<|cG W W<|aK W W W W W W<|TL.nil W
  repeat refine DC.seq ?_
  apply Mn
  .intro t B;refine aF W W<|bp W W W W W ?_
   (refine tQ o W W ?_;rintro _ rfl)
   refine pH W W<|aA A W W<|kg W W<|aj W W<|TL.nil W
  rcases ais i n with v|v
  .have B:=u v;rw[B]at h;cases b with
   |true=>
    repeat refine DC.seq ?_
    apply Mn
    .intro t N;refine aq W W<|aq W W<|bN W W<|bN W W<|bN W W<|bN W W<|bN W W<|gR W W W<|TL.nil W
    repeat refine DC.seq ?_
    refine DC.cond W (λt=>by cases t) (λ_=>?_);refine DC.skip ?_
    repeat refine DC.seq ?_
    apply Mn
    .intro t N;refine bc W W W (by omega)<|aq W W<|TL.nil W
    exact bf (k':=n-(i+1)) (by omega) ⟨i+1,_,_,rfl,w,by omega,rfl⟩ W W
   |false=>
    repeat refine DC.seq ?_
    apply Mn
    .intro t N;refine aq W W<|aq W W<|az W ?_;refine bK W W a W ?_;refine az W ?_;refine aF W W ?_;refine az W ?_;refine aJ W W W W ?_;refine az W ?_;refine TL.aR 31 W c ?_;refine aX h W W ?_;refine az W ?_;refine kg W W ?_;refine gR W W W<|TL.nil W
    repeat refine DC.seq ?_
    refine DC.cond W (λt=>by cases t) (λ_=>?_);refine DC.skip ?_
    repeat refine DC.seq ?_
    apply Mn
    .intro t N;refine bc W W W (by omega)<|aq W W<|TL.nil W
    exact bf (k':=n-(i+1)) (by omega) ⟨i+1,_,_,rfl,w,by omega,rfl⟩ W W
  .obtain rfl:i=n:=by omega
   obtain rfl:b=false:=g W;have Q:=q W;rw[Q]at h;have B:=(w.pick [1,0]).app [[.str d.name]];have t:=(B.pick [1,0]).set (.box [cJ m P [[.str d.name]]]);have R:(aE out++[[D.str d.name]]).length=i+1:=by grind
   repeat refine DC.seq ?_
   apply Mn
   .intro N V;refine aq W W<|aq W W<|az W ?_;refine bK W W a W ?_;refine az W ?_;refine aF W W ?_;refine az W ?_;refine aJ W W W W ?_;refine az W ?_;refine TL.aR 31 W c ?_;refine aX h W W ?_;refine az W ?_;refine kg W W ?_;refine gR W W W<|TL.nil W
   repeat refine DC.seq ?_
   refine DC.cond W (λ_=>?_) (λN=>by cases N)
   repeat refine DC.seq ?_
   repeat refine DC.seq ?_
   apply Mn
   .intro N V;refine bK W W a W<|aF W W<|aJ W W W W<|dF W W W W W W W W<|cT (w.pick [1,0]) W W W W W W (by grind) (by grind)<|cd W W ((B.pick [1,0]).ob) (aN _ _ _) W W<|TL.nil W
   refine DC.exit ?_;have a:=t.ob;have S:((((i+1:Nat):Int))==((i:Nat):Int))=false:=by simp;omega
   repeat refine DC.seq ?_
   apply Mn
   .intro N V;refine bK W W a W ?_
    (refine TL.aR 43 W ((t.pick [1,0]).view (by grind)) ?_;refine aY W W W ?_;rw[R])
    refine aq W W ?_
    (refine ay W W W (r:=.bool false) (by show some (D.bool ((((i+1:Nat):Int))==((i:Nat):Int)))=_;rw[S]) ?_)
    exact TL.nil W
   repeat refine DC.seq ?_
   refine DC.cond W (λN=>by cases N) (λ_=>?_);refine DC.skip<|bf (k':=p.nodes.length-(i+1)) (by omega) ⟨i+1,_,_,_,rfl,by rw[s W];exact t,by omega,rfl⟩ W W
 .refine DC.exit ?_;obtain rfl:n=p.nodes.length:=by grind
  rw[aih]at w c
  repeat refine DC.seq ?_
  apply Mn
  .intro f g;refine bK W W a W<|aj W W<|TL.nil W
  refine DC.aR 2 W c<|DC.ret ⟨_,W,_,⟨W,W⟩,w.drop.drop⟩
end Go.Proofs.Pz
namespace Go.Ps
open Go.Mt Go.Sm
def IQ(p:Pg):Prop:=p.nodes.length<=1000000/\B1 p.nodes/\∀d∈p.nodes,d.ins.length+d.outs.length+d.b.vars.length<=9000000/\BZ p.nodes d.b/\z' d.b<=80000/\od d.b<=8000000/\B0 d.b
theorem sB{ns:List Nd}(h:(ns.map (·.name)).Nodup){i:Nat}(hi:i<ns.length):gC ns ns[i].name=some i:=by
 unfold gC;rw[aiV];refine⟨hi,by simp,λj a=>?_⟩;have:=akE.1 h;rw[aj7]at this;have b:=this j i (by simp;omega) (by grind) a;simpa using b
end Go.Ps
namespace Go.Proofs.Pz
open Go.Mt Go.Sm Go.Ps Go.Proofs
open Tryz
def AQ(l:List Fl):∀r∈l.map Fl.cells,r.length=5:=by intro r a;obtain⟨_,_,rfl⟩:=aij.1 a;rfl
theorem J3(it:Nat)(p:Pg)(u:IQ p):
  Dt prog 55 [.d (.agg p.cells)] [.ob it bg] λx l=>x=.d (.agg (BP p).cells)/\l=[.ob it bg]:=by
 obtain⟨e,k,f⟩:=u;intro H F v;have w:=(Wk.start v).nil 5;have B:(aE (p.nodes.map (λx:Nd=>x.name))).length=p.nodes.length:=by simp[aE]
 refine MG func55 W ntmps55 W ?_
 repeat refine DC.seq ?_
 apply Mn
 .intro b c;refine gZ W W<|cG W W<|TL.nil W
 repeat refine DC.seq ?_
 apply Mn
 .intro b c;refine aG W W<|aI W W W<|g_ W W W W W<|cG W W<|aK W W W W W W<|TL.nil W
 repeat refine DC.seq ?_
 apply Mn
 .intro b c;refine ca W W W<|aX (He p e k (λd b=>⟨(f d b).2.2.2.2,(f d b).2.2.2.1⟩)) W W ?_
  (refine aY W W W ?_;rw[B])
  refine aq W W<|TL.nil W
 repeat refine DC.seq ?_
 refine DC.block<|DC.loop (λm f=>∃(i:Nat) (c:M) (b:List (Nat×List M)) (e:Hp),f=⟨[(12,.m (.d (.int .i64 ((i:Nat):Int)))),(11,.m (.d (.int .i64 ((p.nodes.length:Nat):Int)))),(10,.m (.d (.sl (aE (p.nodes.map (λx:Nd=>x.name)))))),(3,.loc 3 0),(2,.loc 2 0),(1,.m (.d (.bM [.sl (p.aB.map En.cells),.sl (p.nodes.map Nd.cells)] 0)))],b,e⟩/\
   Go.Mt.get b 3=some [.d (.sl (p.aB.map En.cells)),c]/\Go.Mt.get b 2=some [.d (.sl []),.d (.sl [])]/\
   Wk F H [.acc 5 (((p.nodes.take i).map (tc p.nodes)).map Fl.cells) c,.ob it bg] e/\i<=p.nodes.length/\m=p.nodes.length-i) p.nodes.length _
  ⟨0,.d (.sl []),_,_,rfl,rfl,rfl,w,by omega,rfl⟩ W ?_
 rintro m E ⟨i,G,I,J,rfl,g,n,w,K,rfl⟩
 repeat refine DC.seq ?_
 apply Mn
 .intro b c;refine ay W W W W<|TL.nil W
 repeat refine DC.seq ?_
 refine DC.cond W (λo=>?_) (λo=>?_)
 .have b:i<p.nodes.length:=by grind
  have q:(aE (p.nodes.map (λx:Nd=>x.name)))[((i:Nat):Int).toNat]?=some [.str p.nodes[i].name]:=by grind
  have h:(p.nodes.map Nd.cells)[((i:Nat):Int).toNat]?=some p.nodes[i].cells:=by simp[b]
  have t:PT prog 90 [.agg [.sl (p.aB.map En.cells),.sl (p.nodes.map Nd.cells)],.str p.nodes[i].name] (·=[.int .i64 ((i:Nat):Int)]):=by
   have j:=pS p p.nodes[i].name e;rw[sB k.1 b]at j;exact j
  have s:((p.nodes.take (i+1)).map (tc p.nodes)).map Fl.cells=((p.nodes.take i).map (tc p.nodes)).map Fl.cells++[(tc p.nodes p.nodes[i]).cells]:=by rw[qQ _ _ _ _ _ b,aio];rfl
  obtain⟨y,z,A,O,P⟩:=f _ (aif b);obtain⟨_,L,N,⟨rfl,rfl⟩,w,c⟩:=Wk.call (a:=[_]) (r:=[_]) (w.pick [1,0]) (EF it p _ e y z A (by omega));have w:=w.pick [1,0];generalize p.nodes[i]=d at q h s c t;unfold Nd.cells at h;rw[show(d.cells:List D)=Nd.cells d from rfl]at c;unfold Nd.cells at c;refine DC.skip ?_
  repeat refine DC.seq ?_
  refine DC.block ?_
  repeat refine DC.seq ?_
  apply Mn
  .intro j C;refine bH W W W (ah7 i) q W<|aI W W W<|aj W W<|TL.nil W
  repeat refine DC.seq ?_
  apply Mz mixed
  .intro j C;refine cF W W<|cO W W g W<|dY W W W<|cm W W<|di W W W<|dY W W W<|bG W W<|bm t W W<|bE W W W (ah7 i) h W<|dY W W W<|bB c W W<|cr W W W W W W W W<|eV w W W W W W W W (by simp only[ah8,ait];omega)<|cF W W<|cv W W g (aN _ _ _) W W<|TF.nil ⟨by kernel_rfl,rfl⟩
  have w:=w.app [(tc p.nodes d).cells]
  repeat refine DC.seq ?_
  apply Mn
  .intro j C;refine bc W W W (by omega)<|aq W W<|TL.nil W
  exact bf (k':=p.nodes.length-(i+1)) (by omega) ⟨i+1,_,_,_,rfl,rfl,n,by rw[s];exact w,by omega,rfl⟩ W W
 .refine DC.exit ?_;obtain rfl:i=p.nodes.length:=by have:=aie o;omega
  rw[aih]at w;refine DC.cA (MP:=[.d (.sl (p.aB.map En.cells)),.d (.sl ((p.nodes.map (tc p.nodes)).map Fl.cells))]) 3 g (bY (lJ (w.view (AQ _)) (o7 _))) ?_
  repeat refine DC.seq ?_
  apply Mn
  .intro b c;refine bp W W W W W<|aK W W n W W W<|TL.nil W
  exact DC.ret ⟨_,W,_,⟨W,W⟩,w.drop⟩
end Go.Proofs.Pz
namespace Go.Ps
open Go.Mt Go.Sm
def h_(en:List En)(f:Nm->Int×Nm):Xp->Int×Nm
 |.mk k a _ x _ c _=>
  if k=1 then(2,⟨#[]⟩)else if k=2 then(1,⟨#[]⟩)else if k=3 then(if(en.find? (λt=>cW t.fu x)).isSome then(3,ow en x)else(0,⟨#[]⟩))else if k=4 then f x
  else if k=6\/k=7 then(qM a,⟨#[]⟩)
  else match c with
   |[]=>(0,⟨#[]⟩)
   |a::r=>if k=8 then(match r with|[]=>(0,⟨#[]⟩)|b::_=>h_ en f b)else h_ en f a
structure NS where
 n:Nat
 vars:List Va
 eqs:List Fq
 ty:Nm->Int×Nm
def NS.put(u:NS)(q:Fq):NS:=⟨u.n,u.vars,u.eqs++[q],u.ty⟩
def NS.new(u:NS)(t:Int×Nm)(a:List (Nm×Nm)):NS:=
 ⟨u.n+1,u.vars++[⟨nX (u.n+1),t.1,t.2,a,false,bR,(0,0)⟩],u.eqs,λy=>if y=nX (u.n+1)then t else u.ty y⟩
mutual
def spread(o:Nm×Nm):Xp->Xp
 |.mk k a n x c b p=>if k=4\/k=12 then gS (.mk k a n x c b p) o else .mk k a n x c (jH o b) p
def jH(o:Nm×Nm):List Xp->List Xp
 |[]=>[]
 |e::l=>spread o e::jH o l
end
def vS(en:List En)(t:Int×Nm):Xp:=
 if t.1=2 then ss 0 else if t.1=1 then dD false
 else if t.1=3 then(match en.find? (λu=>decide (u.name=t.2))with|some u=>(match u.fu with|c::_=>gI c|[]=>ss 0)|none=>ss 0)
 else ss 0
abbrev oz(x:Nm)(first e:Xp)(ck:List (Nm×Nm))(rs:List Nm):Fq:=⟨2,[x],⟨#[]⟩,first,e,[],ck,rs⟩
def rP(en:List En)(ty:Nm->Int×Nm)(e:Xp):Xp:=if e.kd=9 then(match e.kids with|c::_=>c|[]=>bR)else vS en (h_ en ty e)
section
variable(en:List En)
mutual
def c8:Xp->List (Nm×Nm)->List Nm->NS->Xp×NS
 |.mk k e n x d b p,a,c,u=>
  if k=9\/k=10 then
   let f:=u.new (h_ en u.ty (.mk k e n x d b p)) a
   let r:=gr b a c f
   (aZ (nX f.n),r.2.put (oz (nX f.n) (rP en f.ty (.mk k e n x d b p)) r.1 a c))
  else if k=11 then
   let d:=(u.new (1,⟨#[]⟩) a).put (oz (nX (u.n+1)) (dD true) (dD false) a c)
   let r:=dm b a c d
   (.mk 8 0 0 ⟨#[]⟩ [] (aZ (nX (u.n+1))::r.1) p,r.2)
  else if k=13 then
   let f:=u.new (h_ en u.ty (.mk k e n x d b p)) a
   let r:=ey x d b a c f
   (aZ (nX f.n),r.2.put ⟨1,[nX f.n],⟨#[]⟩,bR,.mk k e n x d r.1 p,[],a,[]⟩)
  else if k=12 then
   let r:=mT b a.dropLast c u
   (spread (d.head?.getD ⟨#[]⟩,x) r.1,r.2)
  else
   let r:=dm b a c u
   (.mk k e n x d r.1 p,r.2)
def mT:List Xp->List (Nm×Nm)->List Nm->NS->Xp×NS
 |[],_,_,u=>(bR,u)
 |e::_,a,b,u=>c8 e a b u
def gr:List Xp->List (Nm×Nm)->List Nm->NS->Xp×NS
 |[],_,_,u=>(bR,u)
 |[e],a,b,u=>c8 e a b u
 |_::e::l,a,b,u=>gr (e::l) a b u
def dm:List Xp->List (Nm×Nm)->List Nm->NS->List Xp×NS
 |[],_,_,u=>([],u)
 |e::l,a,b,u=>((c8 e a b u).1::(dm l a b (c8 e a b u).2).1,(dm l a b (c8 e a b u).2).2)
def ey(x:Nm):List Nm->List Xp->List (Nm×Nm)->List Nm->NS->List Xp×NS
 |_,[],_,_,u=>([],u)
 |c,e::l,a,b,u=>
  let r:=c8 e (a++[(c.head?.getD ⟨#[]⟩,x)]) b u
  (r.1::(ey x c.tail l a b r.2).1,(ey x c.tail l a b r.2).2)
end
def pe(u:NS)(q:Fq):NS:=
 if q.kd=3 then
  let r:=dm en q.args q.ck q.rs u
  r.2.put {q with args:=r.1}
 else if q.kd=2 then
  let r:=c8 en q.e q.ck q.rs u
  r.2.put {q with e:=r.1}
 else if q.e.kd=9\/q.e.kd=10 then
  let r:=gr en q.e.kids q.ck q.rs u
  r.2.put (oz (q.lhs.head?.getD ⟨#[]⟩) (rP en u.ty q.e) r.1 q.ck q.rs)
 else if q.e.kd=13 then
  let r:=ey en q.e.nm q.e.names q.e.kids q.ck q.rs u
  r.2.put {q with e:=.mk q.e.kd q.e.op q.e.num q.e.nm q.e.names r.1 q.e.ps,rs:=[]}
 else
  let r:=c8 en q.e q.ck q.rs u
  r.2.put {q with e:=r.1,rs:=[]}
def jT(a:List Va):Nm->Int×Nm:= λx=>match a.reverse.find? (λv=>decide (v.name=x))with|some v=>(v.tk,v.tn)|none=>(0,⟨#[]⟩)
def yZ(f:Fl):Fl:=
 let u:=f.eqs.foldl (pe en) ⟨0,f.vars,[],jT (f.ins++f.outs++f.vars)⟩
 ⟨f.name,f.ins,f.outs,u.vars,u.eqs⟩
end
def Hf(w:Wh):Wh:=⟨w.aB,w.nodes.map (yZ w.aB)⟩
end Go.Ps
