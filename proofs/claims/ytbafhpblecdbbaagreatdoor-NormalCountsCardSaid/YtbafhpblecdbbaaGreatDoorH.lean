/- A part of the proof of the last text of this claim, without conditions. -/
import Derived.Test.YtbafhpblecdbbaaGreatDoorG
set_option maxRecDepth 4000
set_option linter.all false
namespace Go.Mt
structure A1_(Q:Prop):Prop where
 of:Q
theorem A1{P Q:Prop}(k:Q)(h:A1_ Q->P:=by intro k;(repeat refine DC.seq ?_);exact k.of):P:=h ⟨k⟩
theorem A2{P Q:Prop}(k:Q)(h:A1_ Q->P:=by intro k;(repeat refine TC.seq ?_);exact k.of):P:=h ⟨k⟩
end Go.Mt
namespace Go.Proofs.Pz
open Go.Mt Go.Sm Go.Ps Go.Proofs
open Tryz
theorem FZ(p:Pg)(G:p.nodes.length<=1000000)(x:Bp p.nodes)(T:∀d∈p.nodes,Bo d.b/\nI d.b<=8000000):
  PT prog 108 [.agg p.cells] (·=[.sl (aR (p.nodes.map (·.name)))]):=by
 refine PT.ro (ds:=[_]) ?_;intro H F I;have C:(p.nodes.map Nd.cells).length=p.nodes.length:=by simp
 obtain⟨e,A⟩:∃a,a=H.length:=⟨_,rfl⟩;have w:=((Wk.start I).nil 1).new (.box [.d (.sl [])]);rw[<-A]at w;refine Lj func108 W ntmps108 W ?_
 refine A1 ?_
 apply KZ
 .intro f g;refine bp W W<|ah W W<|TL.nil W
 refine A1 ?_
 apply KZ
 .intro f g;refine uH W<|TL.nil W
 rw[<-A]
 refine A1 ?_
 refine DC.block<|DC.loop (λk a=>∃(n:Nat) (m:M) (c:List (Nat×List M)) (K:Hp),a=⟨[(3,.m (.ref e 0)),(2,.m (.d (.sl []))),(1,.m (.d (.ca [.sl (p.aG.map En.cells),.sl (p.nodes.map Nd.cells)] 0)))],c,K⟩/\
   Wk F H [.ob e (.box [m]),.acc 1 (aR ((p.nodes.take n).map (·.name))) m] K/\n<=p.nodes.length/\k=p.nodes.length-n) p.nodes.length _
  ⟨0,.d (.sl []),_,_,rfl,w,by omega,rfl⟩ W ?_
 rintro E J ⟨n,m,L,K,rfl,w,X,rfl⟩;have a:=w.ob;have c:=(w.pick [1,0]).view (dq _);have j:(aR ((p.nodes.take n).map (·.name))).length=n:=by grind
 have y:((p.nodes.take n).map (·.name)).length<=1000000:=by simp;omega
 refine A1 ?_
 apply KZ
 .intro f g;refine eC W W a W ?_
  (refine TL.bg 8 W c ?_;refine aT W W W ?_;rw[j])
  refine ay W W<|ax W W W ?_
  (refine aT W W W ?_;rw[C])
  refine av W W W W<|TL.nil W
 refine A1 ?_
 refine DC.cond W (λO=>?_) (λO=>?_)
 .have Y:n<p.nodes.length:=by grind
  refine DC.skip ?_
  refine A1 ?_
  refine DC.block ?_
  refine A1 ?_
  apply KZ
  .intro t B;refine eC W W a W ?_
   (refine TL.bg 14 W c ?_;refine aT W W W ?_;rw[j])
   refine ah W W<|TL.nil W
  refine A1 ?_
  apply KZ
  .intro t B;refine ay W W<|ax W W W ?_
   (refine aT W W W ?_;rw[C])
   refine ai W W<|TL.nil W
  refine A1 ?_
  refine DC.block<|DC.loop (λk a=>∃(i:Nat) (c:List (Nat×List M)) (K:Hp),a=⟨[(19,.m (.d (.int .i64 ((i:Nat):Int)))),(18,.m (.d (.int .i64 ((p.nodes.length:Nat):Int)))),(17,.m (.d (.sl (p.nodes.map Nd.cells)))),(4,.m (.d (.int .i64 ((n:Nat):Int)))),(3,.m (.ref e 0)),(2,.m (.d (.sl []))),(1,.m (.d (.ca [.sl (p.aG.map En.cells),.sl (p.nodes.map Nd.cells)] 0)))],c,K⟩/\
    Wk F H [.ob e (.box [m]),.acc 1 (aR ((p.nodes.take n).map (·.name))) m] K/\i<=n/\k=n-i) n _
   ⟨0,_,_,rfl,w,by omega,rfl⟩ W ?_
  clear w c a;rintro E J ⟨i,L,K,rfl,w,Z,rfl⟩;have f:i<p.nodes.length:=by omega
  refine A1 ?_
  apply KZ
  .intro t B;refine av W W W W<|TL.nil W
  refine A1 ?_
  refine DC.cond W (λ_=>?_) (λa=>by grind);have k:(p.nodes.map Nd.cells)[((i:Nat):Int).toNat]?=some p.nodes[i].cells:=by simp[f]
  have l:=T _ (agx f);have o:=Ae _ l.1 l.2;have u:i<n->di ((p.nodes.take n).map (·.name)) p.nodes[i].name=true:= λh=>HI h f
  have g:i=n->((iD p.nodes[i].b).any λs=> !di ((p.nodes.take n).map (·.name)) s&&(gu p.nodes s).isSome)=false:=by rintro rfl;exact DU x f
  have q:i=n->di ((p.nodes.take n).map (·.name)) p.nodes[i].name=false:=by rintro rfl;exact HG x f
  have s:i=n->aR ((p.nodes.take (n+1)).map (·.name))=aR ((p.nodes.take n).map (·.name))++[[.str p.nodes[i].name]]:=by rintro rfl;rw[agp f,agI,aR,agI];rfl
  have U:=sQ p.nodes[i].b;generalize Wt:(p.nodes.take n).map (·.name)=out at w u g q s j y;generalize p.nodes[i]=d at k o u g q s l U;rw[d.b.aj]at o;unfold Nd.cells at k;have h:=jz out d.name (by omega);obtain⟨_,P,l',⟨rfl,rfl⟩,w,z⟩:=Wk.call (r:=[]) (by rw[agL];exact w) (tV (iD d.b) 160 (by decide) [.ref e 0,.d (.ca [.sl (p.aG.map En.cells),.sl (p.nodes.map Nd.cells)] 0)] (λs=> !di out s&&(gu p.nodes s).isSome) [.ob e (.box [m]),.acc 1 (aR out) m] (by omega) (λs _=>DV e p G out y m s));rw[agL]at w;generalize hb:((iD d.b).any λs=> !di out s&&(gu p.nodes s).isSome)=b at z g;have a:=w.ob;have c:=(w.pick [1,0]).view (dq _);refine DC.skip ?_
  refine A1 ?_
  refine DC.block ?_
  refine A1 ?_
  apply KZ
  .intro t B;refine aN W W W (ago i) k W<|aK W W W<|aM W W<|aC W W W W W W<|TL.nil W
  refine A1 ?_
  apply KZ
  .intro t B;refine aA W W<|aW W W W W W ?_
   (refine tc o W W ?_;rintro _ rfl)
   refine AZ W W<|aD z W W<|fb W W<|ah W W<|TL.nil W
  rcases agJ i n with v|v
  .have B:=u v;rw[B]at h;cases b with
   |true=>
    refine A1 ?_
    apply KZ
    .intro t N;refine ai W W<|ai W W<|aQ W W<|aQ W W<|aQ W W<|aQ W W<|aQ W W<|cH W W W<|TL.nil W
    refine A1 ?_
    refine DC.cond W (λt=>by cases t) (λ_=>?_);refine DC.skip ?_
    refine A1 ?_
    apply KZ
    .intro t N;refine aI W W W (by omega)<|ai W W<|TL.nil W
    exact bH (k':=n-(i+1)) (by omega) ⟨i+1,_,_,rfl,w,by omega,rfl⟩ W W
   |false=>
    refine A1 ?_
    apply KZ
    .intro t N;refine ai W W<|ai W W<|aE W ?_;refine eC W W a W ?_;refine aE W ?_;refine aA W W ?_;refine aE W ?_;refine aF W W W W ?_;refine aE W ?_;refine TL.bg 31 W c ?_;refine aL h W W ?_;refine aE W ?_;refine fb W W ?_;refine cH W W W<|TL.nil W
    refine A1 ?_
    refine DC.cond W (λt=>by cases t) (λ_=>?_);refine DC.skip ?_
    refine A1 ?_
    apply KZ
    .intro t N;refine aI W W W (by omega)<|ai W W<|TL.nil W
    exact bH (k':=n-(i+1)) (by omega) ⟨i+1,_,_,rfl,w,by omega,rfl⟩ W W
  .obtain rfl:i=n:=by omega
   obtain rfl:b=false:=g W;have Q:=q W;rw[Q]at h;have B:=(w.pick [1,0]).app [[.str d.name]];have t:=(B.pick [1,0]).set (.box [cQ m P [[.str d.name]]]);have R:(aR out++[[D.str d.name]]).length=i+1:=by grind
   refine A1 ?_
   apply KZ
   .intro N V;refine ai W W<|ai W W<|aE W ?_;refine eC W W a W ?_;refine aE W ?_;refine aA W W ?_;refine aE W ?_;refine aF W W W W ?_;refine aE W ?_;refine TL.bg 31 W c ?_;refine aL h W W ?_;refine aE W ?_;refine fb W W ?_;refine cH W W W<|TL.nil W
   refine A1 ?_
   refine DC.cond W (λ_=>?_) (λN=>by cases N)
   refine A1 ?_
   refine A1 ?_
   apply KZ
   .intro N V;refine eC W W a W<|aA W W<|aF W W W W<|aU W W W W W W W W<|cX (w.pick [1,0]) W W W W W W (by grind) (by grind)<|c8 W W ((B.pick [1,0]).ob) (bQ _ _ _) W W<|TL.nil W
   refine DC.exit ?_;have a:=t.ob;have S:((((i+1:Nat):Int))==((i:Nat):Int))=false:=by simp;omega
   refine A1 ?_
   apply KZ
   .intro N V;refine eC W W a W ?_
    (refine TL.bg 43 W ((t.pick [1,0]).view (by grind)) ?_;refine aT W W W ?_;rw[R])
    refine ai W W ?_
    (refine av W W W (r:=.bool false) (by show some (D.bool ((((i+1:Nat):Int))==((i:Nat):Int)))=_;rw[S]) ?_)
    exact TL.nil W
   refine A1 ?_
   refine DC.cond W (λN=>by cases N) (λ_=>?_);refine DC.skip<|bH (k':=p.nodes.length-(i+1)) (by omega) ⟨i+1,_,_,_,rfl,by rw[s W];exact t,by omega,rfl⟩ W W
 .refine DC.exit ?_;obtain rfl:n=p.nodes.length:=by grind
  rw[agz]at w c
  refine A1 ?_
  apply KZ
  .intro f g;refine eC W W a W<|ah W W<|TL.nil W
  refine DC.bg 2 W c<|DC.ret ⟨_,W,_,⟨W,W⟩,w.drop.drop⟩
end Go.Proofs.Pz
namespace Go.Ps
open Go.Mt Go.Sm
def HJ(p:Pg):Prop:=p.nodes.length<=1000000/\Bp p.nodes/\∀d∈p.nodes,d.ins.length+d.outs.length+d.b.vars.length<=9000000/\Bn p.nodes d.b/\zj d.b<=80000/\nI d.b<=8000000/\Bo d.b
theorem rO{ns:List Nd}(h:(ns.map (·.name)).Nodup){i:Nat}(hi:i<ns.length):gu ns ns[i].name=some i:=by
 unfold gu;rw[ahd];refine⟨hi,by simp,λj a=>?_⟩;have:=aiW.1 h;rw[aiq]at this;have b:=this j i (by simp;omega) (by grind) a;simpa using b
end Go.Ps
namespace Go.Proofs.Pz
open Go.Mt Go.Sm Go.Ps Go.Proofs
open Tryz
def F7(l:List Fl):∀r∈l.map Fl.cells,r.length=5:=by intro r a;obtain⟨_,_,rfl⟩:=agC.1 a;rfl
theorem IX(it:Nat)(p:Pg)(u:HJ p):
  Dt prog 55 [.d (.agg p.cells)] [.ob it bK] λx l=>x=.d (.agg (BX p).cells)/\l=[.ob it bK]:=by
 obtain⟨e,k,f⟩:=u;intro H F v;have w:=(Wk.start v).nil 5;have B:(aR (p.nodes.map (λx:Nd=>x.name))).length=p.nodes.length:=by simp[aR]
 refine Lj func55 W ntmps55 W ?_
 refine A1 ?_
 apply KZ
 .intro b c;refine bp W W<|aM W W<|TL.nil W
 refine A1 ?_
 apply KZ
 .intro b c;refine ay W W<|ax W W W<|bX W W W W W<|aM W W<|aC W W W W W W<|TL.nil W
 refine A1 ?_
 apply KZ
 .intro b c;refine aK W W W<|aL (FZ p e k (λd b=>⟨(f d b).2.2.2.2,(f d b).2.2.2.1⟩)) W W ?_
  (refine aT W W W ?_;rw[B])
  refine ai W W<|TL.nil W
 refine A1 ?_
 refine DC.block<|DC.loop (λm f=>∃(i:Nat) (c:M) (b:List (Nat×List M)) (e:Hp),f=⟨[(12,.m (.d (.int .i64 ((i:Nat):Int)))),(11,.m (.d (.int .i64 ((p.nodes.length:Nat):Int)))),(10,.m (.d (.sl (aR (p.nodes.map (λx:Nd=>x.name)))))),(3,.loc 3 0),(2,.loc 2 0),(1,.m (.d (.ca [.sl (p.aG.map En.cells),.sl (p.nodes.map Nd.cells)] 0)))],b,e⟩/\
   Go.Mt.get b 3=some [.d (.sl (p.aG.map En.cells)),c]/\Go.Mt.get b 2=some [.d (.sl []),.d (.sl [])]/\
   Wk F H [.acc 5 (((p.nodes.take i).map (sG p.nodes)).map Fl.cells) c,.ob it bK] e/\i<=p.nodes.length/\m=p.nodes.length-i) p.nodes.length _
  ⟨0,.d (.sl []),_,_,rfl,rfl,rfl,w,by omega,rfl⟩ W ?_
 rintro m E ⟨i,G,I,J,rfl,g,n,w,K,rfl⟩
 refine A1 ?_
 apply KZ
 .intro b c;refine av W W W W<|TL.nil W
 refine A1 ?_
 refine DC.cond W (λo=>?_) (λo=>?_)
 .have b:i<p.nodes.length:=by grind
  have q:(aR (p.nodes.map (λx:Nd=>x.name)))[((i:Nat):Int).toNat]?=some [.str p.nodes[i].name]:=by grind
  have h:(p.nodes.map Nd.cells)[((i:Nat):Int).toNat]?=some p.nodes[i].cells:=by simp[b]
  have t:PT prog 90 [.agg [.sl (p.aG.map En.cells),.sl (p.nodes.map Nd.cells)],.str p.nodes[i].name] (·=[.int .i64 ((i:Nat):Int)]):=by
   have j:=pw p p.nodes[i].name e;rw[rO k.1 b]at j;exact j
  have s:((p.nodes.take (i+1)).map (sG p.nodes)).map Fl.cells=((p.nodes.take i).map (sG p.nodes)).map Fl.cells++[(sG p.nodes p.nodes[i]).cells]:=by rw[rJ _ _ _ _ _ b,agI];rfl
  obtain⟨y,z,A,L,P⟩:=f _ (agx b);obtain⟨_,N,O,⟨rfl,rfl⟩,w,c⟩:=Wk.call (a:=[_]) (r:=[_]) (w.pick [1,0]) (DQ it p _ e y z A (by omega));have w:=w.pick [1,0];generalize p.nodes[i]=d at q h s c t;unfold Nd.cells at h;rw[show(d.cells:List D)=Nd.cells d from rfl]at c;unfold Nd.cells at c;refine DC.skip ?_
  refine A1 ?_
  refine DC.block ?_
  refine A1 ?_
  apply KZ
  .intro j C;refine aN W W W (ago i) q W<|ax W W W<|ah W W<|TL.nil W
  refine A1 ?_
  apply Le mixed
  .intro j C;refine aX W W<|bC W W g W<|cx W W W<|bI W W<|cd W W W<|cx W W W<|aO W W<|bc t W W<|bE W W W (ago i) h W<|cx W W W<|bt c W W<|bm W W W W W W W W<|fa w W W W W W W W (by simp only[agt,agM];omega)<|aX W W<|bS W W g (bQ _ _ _) W W<|TF.nil ⟨by kernel_rfl,rfl⟩
  have w:=w.app [(sG p.nodes d).cells]
  refine A1 ?_
  apply KZ
  .intro j C;refine aI W W W (by omega)<|ai W W<|TL.nil W
  exact bH (k':=p.nodes.length-(i+1)) (by omega) ⟨i+1,_,_,_,rfl,rfl,n,by rw[s];exact w,by omega,rfl⟩ W W
 .refine DC.exit ?_;obtain rfl:i=p.nodes.length:=by have:=agv o;omega
  rw[agz]at w;refine DC.cZ (Ls:=[.d (.sl (p.aG.map En.cells)),.d (.sl ((p.nodes.map (sG p.nodes)).map Fl.cells))]) 3 g (cq (lQ (w.view (F7 _)) (po _))) ?_
  refine A1 ?_
  apply KZ
  .intro b c;refine aW W W W W W<|aC W W n W W W<|TL.nil W
  exact DC.ret ⟨_,W,_,⟨W,W⟩,w.drop⟩
end Go.Proofs.Pz
namespace Go.Ps
open Go.Mt Go.Sm
def gW(en:List En)(f:Nm->Int×Nm):Xp->Int×Nm
 |.mk k a _ x _ c _=>
  if k=1 then(2,⟨#[]⟩)else if k=2 then(1,⟨#[]⟩)else if k=3 then(if(en.find? (λt=>di t.fo x)).isSome then(3,nZ en x)else(0,⟨#[]⟩))else if k=4 then f x
  else if k=6\/k=7 then(qm a,⟨#[]⟩)
  else match c with
   |[]=>(0,⟨#[]⟩)
   |a::r=>if k=8 then(match r with|[]=>(0,⟨#[]⟩)|b::_=>gW en f b)else gW en f a
structure NS where
 n:Nat
 vars:List Va
 eqs:List Fq
 ty:Nm->Int×Nm
def NS.put(u:NS)(q:Fq):NS:=⟨u.n,u.vars,u.eqs++[q],u.ty⟩
def NS.new(u:NS)(t:Int×Nm)(a:List (Nm×Nm)):NS:=
 ⟨u.n+1,u.vars++[⟨nX (u.n+1),t.1,t.2,a,false,cg,(0,0)⟩],u.eqs,λy=>if y=nX (u.n+1)then t else u.ty y⟩
mutual
def spread(o:Nm×Nm):Xp->Xp
 |.mk k a n x c b p=>if k=4\/k=12 then iM (.mk k a n x c b p) o else .mk k a n x c (qI o b) p
def qI(o:Nm×Nm):List Xp->List Xp
 |[]=>[]
 |e::l=>spread o e::qI o l
end
def vh(en:List En)(t:Int×Nm):Xp:=
 if t.1=2 then zQ 0 else if t.1=1 then dS false
 else if t.1=3 then(match en.find? (λu=>decide (u.name=t.2))with|some u=>(match u.fo with|c::_=>gB c|[]=>zQ 0)|none=>zQ 0)
 else zQ 0
abbrev oR(x:Nm)(first e:Xp)(ck:List (Nm×Nm))(rs:List Nm):Fq:=⟨2,[x],⟨#[]⟩,first,e,[],ck,rs⟩
def rk(en:List En)(ty:Nm->Int×Nm)(e:Xp):Xp:=if e.kd=9 then(match e.kids with|c::_=>c|[]=>cg)else vh en (gW en ty e)
section
variable(en:List En)
mutual
def dl:Xp->List (Nm×Nm)->List Nm->NS->Xp×NS
 |.mk k e n x d b p,a,c,u=>
  if k=9\/k=10 then
   let f:=u.new (gW en u.ty (.mk k e n x d b p)) a
   let r:=iY b a c f
   (bz (nX f.n),r.2.put (oR (nX f.n) (rk en f.ty (.mk k e n x d b p)) r.1 a c))
  else if k=11 then
   let d:=(u.new (1,⟨#[]⟩) a).put (oR (nX (u.n+1)) (dS true) (dS false) a c)
   let r:=dX b a c d
   (.mk 8 0 0 ⟨#[]⟩ [] (bz (nX (u.n+1))::r.1) p,r.2)
  else if k=13 then
   let f:=u.new (gW en u.ty (.mk k e n x d b p)) a
   let r:=eU x d b a c f
   (bz (nX f.n),r.2.put ⟨1,[nX f.n],⟨#[]⟩,cg,.mk k e n x d r.1 p,[],a,[]⟩)
  else if k=12 then
   let r:=rl b a.dropLast c u
   (spread (d.head?.getD ⟨#[]⟩,x) r.1,r.2)
  else
   let r:=dX b a c u
   (.mk k e n x d r.1 p,r.2)
def rl:List Xp->List (Nm×Nm)->List Nm->NS->Xp×NS
 |[],_,_,u=>(cg,u)
 |e::_,a,b,u=>dl e a b u
def iY:List Xp->List (Nm×Nm)->List Nm->NS->Xp×NS
 |[],_,_,u=>(cg,u)
 |[e],a,b,u=>dl e a b u
 |_::e::l,a,b,u=>iY (e::l) a b u
def dX:List Xp->List (Nm×Nm)->List Nm->NS->List Xp×NS
 |[],_,_,u=>([],u)
 |e::l,a,b,u=>((dl e a b u).1::(dX l a b (dl e a b u).2).1,(dX l a b (dl e a b u).2).2)
def eU(x:Nm):List Nm->List Xp->List (Nm×Nm)->List Nm->NS->List Xp×NS
 |_,[],_,_,u=>([],u)
 |c,e::l,a,b,u=>
  let r:=dl e (a++[(c.head?.getD ⟨#[]⟩,x)]) b u
  (r.1::(eU x c.tail l a b r.2).1,(eU x c.tail l a b r.2).2)
end
def qJ(u:NS)(q:Fq):NS:=
 if q.kd=3 then
  let r:=dX en q.args q.ck q.rs u
  r.2.put {q with args:=r.1}
 else if q.kd=2 then
  let r:=dl en q.e q.ck q.rs u
  r.2.put {q with e:=r.1}
 else if q.e.kd=9\/q.e.kd=10 then
  let r:=iY en q.e.kids q.ck q.rs u
  r.2.put (oR (q.lhs.head?.getD ⟨#[]⟩) (rk en u.ty q.e) r.1 q.ck q.rs)
 else if q.e.kd=13 then
  let r:=eU en q.e.nm q.e.names q.e.kids q.ck q.rs u
  r.2.put {q with e:=.mk q.e.kd q.e.op q.e.num q.e.nm q.e.names r.1 q.e.ps,rs:=[]}
 else
  let r:=dl en q.e q.ck q.rs u
  r.2.put {q with e:=r.1,rs:=[]}
def jK(a:List Va):Nm->Int×Nm:= λx=>match a.reverse.find? (λv=>decide (v.name=x))with|some v=>(v.tk,v.tn)|none=>(0,⟨#[]⟩)
def yl(f:Fl):Fl:=
 let u:=f.eqs.foldl (qJ en) ⟨0,f.vars,[],jK (f.ins++f.outs++f.vars)⟩
 ⟨f.name,f.ins,f.outs,u.vars,u.eqs⟩
end
variable{es:List (D×M)}{F0:Nat->Prop}{H0 H:Hp}{u:NS}{r:List As}
structure kX(es:List (D×M))(f:Nm->Int×Nm):Prop where
 k:strKeys es=true
 l:∀x,(match eP x es with|some m=>m|none=>M.d (.agg [.int .u8 0,.str ⟨#[]⟩]))=.d (.agg (fH (f x)))
def kX.nil:kX [] (λ_=>(0,⟨#[]⟩)):=⟨rfl,λ_=>rfl⟩
def kX.set{f:Nm->Int×Nm}(h:kX es f)(x:Nm)(t:Int×Nm):kX (dH x (.d (.agg (fH t))) es) (λy=>if y=x then t else f y):=by
 have c:=cI.1 h.k;have d:strKeys (dH x (.d (.agg (fH t))) es)=true:=by
  rcases k_ (k:=x) (v:=.d (.agg (fH t))) c with a|⟨a,l⟩
  .refine cI.2 λe b=>?_
   have:e.1∈es.map Prod.fst:=a▸ag4 b;rw[agC]at this;obtain⟨g,i,j⟩:=this;rw[<-j];exact c g i
  .refine cI.2 λe g=>?_
   have:e.1∈es.map Prod.fst++[.str x]:=a▸ag4 g;rw[agG,ag9]at this;rcases this with b|b
   .rw[agC]at b;obtain⟨i,b,j⟩:=b;rw[<-j];exact c i b
   .exact⟨x,b⟩
 refine⟨d,λy=>?_⟩;rw[py x y _ h.k];by_cases a:y=x
 .rw[agK a,agK a]
 .rw[agw a,agw a];exact h.l y
structure Fc where
 en:List En
 nm:Nm
 ins:List Va
 outs:List Va
 im:Nat
 ic:Nat
variable{c:Fc}
abbrev Fc.cs(c:Fc)(mv me:M)(n:Nat):List M:=[.d (.sl (c.en.map En.cells)),.d (.str c.nm),.d (.sl (aB c.ins)),.d (.sl (aB c.outs)),mv,me,.mp c.ic,.d (.int .i64 ((n:Nat):Int))]
def jL(c:Fc)(u:NS):As:=.ex λx:(M×M)×List (D×M)=>Sep [.ob c.im (.box (c.cs x.1.1 x.1.2 u.n)),.acc 15 (aB u.vars) x.1.1,.acc 22 (fx u.eqs) x.1.2,.ob c.ic (.map x.2),.fact (kX x.2 u.ty)]
def jL.close{mv me:M}(h:kX es u.ty)(w:Wk F0 H0 (.ob c.im (.box (c.cs mv me u.n)):: .acc 15 (aB u.vars) mv:: .acc 22 (fx u.eqs) me:: .ob c.ic (.map es)::r) H):Wk F0 H0 (jL c u::r) H:=by
 refine Ng (φ:= λx:(M×M)×List (D×M)=>Sep [.ob c.im (.box (c.cs x.1.1 x.1.2 u.n)),.acc 15 (aB u.vars) x.1.1,.acc 22 (fx u.eqs) x.1.2,.ob c.ic (.map x.2),.fact (kX x.2 u.ty)]) ((mv,me),es) (MP (a:=[_,_,_,_,_]) ?_);refine(Wk.zI h w).perm<|(ahe (a:=As.fact (kX es u.ty)) (l₁:=[.ob c.im (.box (c.cs mv me u.n)),.acc 15 (aB u.vars) mv,.acc 22 (fx u.eqs) me,.ob c.ic (.map es)]) (l₂:=r)).symm
def jL.open(w:Wk F0 H0 (jL c u::r) H):∃mv me es,kX es u.ty/\Wk F0 H0 (.ob c.im (.box (c.cs mv me u.n)):: .acc 15 (aB u.vars) mv:: .acc 22 (fx u.eqs) me:: .ob c.ic (.map es)::r) H:=by
 obtain⟨⟨⟨mv,me⟩,es⟩,w⟩:=w.open;have w:=Wk.split (a:=[_,_,_,_,_]) w;have w:=w.perm (ahe (a:=As.fact (kX es u.ty)) (l₁:=[.ob c.im (.box (c.cs mv me u.n)),.acc 15 (aB u.vars) mv,.acc 22 (fx u.eqs) me,.ob c.ic (.map es)]) (l₂:=r));exact⟨mv,me,es,w.BO,w.drop⟩
end Go.Ps
namespace Go.Proofs.Pz
open Go.Mt Go.Sm Go.Ps Go.Proofs
open Tryz
def DW(l:List (Nm×Nm))(a:l.length<=1000000):PT prog 175 [.sl (bW l)] (·=[.sl (bW l)]):=
 PT.ro (ds:=[_]) ((pt l (by omega)).qz (ja l))
def lm(c:Fc)(u:NS)(q:Fq)(i:u.eqs.length<=100000000):
  Dt prog 122 [.ref c.im 0,.d (.agg q.cells)] [jL c u] λr l=>l=[jL c (u.put q)]:=by
 intro H F d;have w:=Wk.start d;obtain⟨e,f,j,g,w⟩:=jL.open w;have h:fx (u.eqs++[q])=fx u.eqs++[kA q.kd q.lhs q.f (xC q.first) (xC q.e) (q.args.map Xp.cells) q.ck q.rs]:=by
  simp only[fx,agI,agH,ag1];rw[Fq.aj,q.first.aj,q.e.aj]
 have b:=w.pick [2,0,1,3];have a:=b.app [kA q.kd q.lhs q.f (xC q.first) (xC q.e) (q.args.map Xp.cells) q.ck q.rs];rw[q.aj,q.first.aj,q.e.aj];refine Lj func122 W ntmps122 W ?_
 refine A1 ?_
 apply KZ
 .intro k m;refine bp W W<|TL.nil W
 refine A1 ?_
 apply Le mixed
 .intro k m;refine aO W W<|aO W W<|bO W W W<|bJ W W<|bJ W W<|dy W W w.ob W<|cx W W W<|bm W W W W W W W W<|fa b W W W W W W W (by simp only[fx,agt];omega)<|bO W W W<|bJ W W<|bJ W W<|iy W W ((a.pick [1,0,2,3]).ob) (bQ _ _ _) W W<|TF.nil ⟨by kernel_rfl,rfl⟩
 rw[<-h]at a;exact⟨_,W,_,W,jL.close (u:=u.put q) g ((a.pick [1,2,0,3]).set (.box (c.cs e (cQ f H [kA q.kd q.lhs q.f (xC q.first) (xC q.e) (q.args.map Xp.cells) q.ck q.rs]) u.n)))⟩
def n8(it:Nat)(c:Fc)(u:NS)(t:Int×Nm)(a:List (Nm×Nm))(E:u.n<1000000000)(G:u.vars.length<=100000000)(v:a.length<=1000000):
  Dt prog 171 [.ref c.im 0,.d (.agg (fH t)),.d (.sl (bW a))] [.ob it bK,jL c u] λr l=>r=.d (.str (nX (u.n+1)))/\l=[.ob it bK,jL c (u.new t a)]:=by
 intro H F x;have w:=Wk.start x;obtain⟨d,e,y,m,w⟩:=jL.open (w.pick [1,0]);have b:=w.ob;have n:((u.n:Nat):Int)+1=((u.n+1:Nat):Int):=by omega
 have i:u.n+1<=1000000000:=by omega
 unfold NS.new;generalize I:u.n+1=k at n i⊢;refine Lj func171 W ntmps171 W ?_
 refine A1 ?_
 apply KZ
 .intro J K;refine bp W W<|ah W W<|TL.nil W
 refine A1 ?_
 apply KZ
 .intro J K;refine ai W W<|dG W W W<|eB W W<|eC W W b W ?_
  (refine aI W W W (by omega) ?_;rw[n])
  refine dG W W W<|eB W W<|c8 W W b W W W<|TL.nil W
 have w:=w.set (.box (c.cs d e k));generalize H.set c.im (.box (c.cs d e k))=f at w⊢;have b:=w.ob;have z:=qo i ((w.pick [4,0,1,2,3]).ob)
 refine A1 ?_
 apply Le mixed
 .intro J K;refine aO W W<|bO W W W<|bJ W W<|dy W W b W<|fO z W W<|sK W W W W (agW (gR k i) (by omega:21<=4000000000))<|cx W W W<|aO W W<|bc (DW a v) W W<|dU W W W W W<|fk W<|bS W W W W W W<|TF.nil ⟨by kernel_rfl,rfl⟩
 have o:=w.pick [1,0,2,3,4];obtain⟨row,j⟩:∃row:List D,row=[.str (nX k),.int .u8 t.1,.str t.2,.sl (bW a),.bool false,.int .u8 0,.int .u8 0,.int .i32 0,.str ⟨#[]⟩,.sl [],.sl [],.int .i64 0,.int .i64 0,.int .i64 0,.int .i64 0]:=⟨_,rfl⟩;have p:aB (u.vars++[⟨nX k,t.1,t.2,a,false,cg,(0,0)⟩])=aB u.vars++[row]:=by
  rw[j];simp only[aB,agI,agH,ag1];rw[Va.aj];rfl
 have g:=o.app [row];have q:=(g.pick [1,0,2,3,4]).ob;rw[j]at g q
 refine A1 ?_
 apply Le mixed
 .intro J K;refine aO W W<|aO W W<|bO W W W<|bJ W W<|bJ W W<|dy W W b W<|bG W W W W W<|bm W W W W W W W W<|fa o W W W W W W W (by simp only[aB,agt];omega)<|bO W W W<|bJ W W<|bJ W W<|iy W W q (bQ _ _ _) W W<|TF.nil ⟨by kernel_rfl,rfl⟩
 rw[j]at p;rw[<-p]at g;have h:=(g.pick [1,0,2,3,4]).set (.box (c.cs (cQ d f [[.str (nX k),.int .u8 t.1,.str t.2,.sl (bW a),.bool false,.int .u8 0,.int .u8 0,.int .i32 0,.str ⟨#[]⟩,.sl [],.sl [],.int .i64 0,.int .i64 0,.int .i64 0,.int .i64 0]]) e k));obtain⟨L,A⟩:∃b,b=cQ d f [[.str (nX k),.int .u8 t.1,.str t.2,.sl (bW a),.bool false,.int .u8 0,.int .u8 0,.int .i32 0,.str ⟨#[]⟩,.sl [],.sl [],.int .i64 0,.int .i64 0,.int .i64 0,.int .i64 0]]:=⟨_,rfl⟩;obtain⟨B,s⟩:∃b,b=(eg 15 d f [[.str (nX k),.int .u8 t.1,.str t.2,.sl (bW a),.bool false,.int .u8 0,.int .u8 0,.int .i32 0,.str ⟨#[]⟩,.sl [],.sl [],.int .i64 0,.int .i64 0,.int .i64 0,.int .i64 0]]).set c.im (.box (c.cs (cQ d f [[.str (nX k),.int .u8 t.1,.str t.2,.sl (bW a),.bool false,.int .u8 0,.int .u8 0,.int .i32 0,.str ⟨#[]⟩,.sl [],.sl [],.int .i64 0,.int .i64 0,.int .i64 0,.int .i64 0]]) e k)):=⟨_,rfl⟩;rw[<-s,<-A]at h;have b:=h.ob;have C:Wk F H (jL c ⟨k,u.vars++[⟨nX k,t.1,t.2,a,false,cg,(0,0)⟩],u.eqs,λy=>if y=nX k then t else u.ty y⟩:: [.ob it bK]) _:=jL.close (m.set (nX k) t) (((h.pick [3,0,1,2,4]).set (.map (dH (nX k) (.d (.agg (fH t))) y))).pick [1,2,3,0,4]);refine L3 [(7,.loc 7 0),(4,.m (.d (.ca (fH t) 0))),(0,.m (.ref c.im 0))] _ B W (λ_=>rfl) s.symm ?_
 refine A1 ?_
 apply Le mixed
 .intro J K;refine aO W W<|bO W W W<|bJ W W<|dy W W b W<|aX W W<|bC W W W W<|cx W W W<|pa W W W ((h.pick [3,0,1,2,4]).ob) m.k<|TF.nil ⟨by kernel_rfl,rfl⟩
 refine A1 ?_
 apply KZ
 .intro J K;refine aA W W<|aF W W W W<|ah W W<|TL.nil W
 exact DC.ret ⟨_,W,_,⟨W,W⟩,C.pick [1,0]⟩
end Go.Proofs.Pz
namespace Go.Ps
open Go.Mt Go.Sm
variable{en:List En}{f:Nm->Int×Nm}{op n k:Int}{x:Nm}{names:List Nm}{p:Int×Int}{kids:List Xp}
mutual
def Bq(en:List En):Xp->Prop
 |.mk k op _ x _ kids _=>(1<=k/\k<=13/\k≠5/\(k=3->kids=[])/\(k=6\/k=7->1<=op/\op<=16)/\(k=8->2<=kids.length))/\tW en kids
def tW(en:List En):List Xp->Prop
 |[]=>True
 |e::l=>Bq en e/\tW en l
end
def tW.mem:∀{l:List Xp},tW en l->∀e∈l,Bq en e
 |b::l,h,e,a=>by
  rw[tW]at h;rcases agu.1 a with rfl|a
  .exact h.1
  .exact tW.mem h.2 e a
def DX(h:en.find? (λt=>di t.fo x)=none):gW en f (.mk 3 op n x names kids p)=(0,⟨#[]⟩):=by rw[gW.eq_def];simp only;rw[h];rfl
def DY{t:En}(h:en.find? (λt=>di t.fo x)=some t):gW en f (.mk 3 op n x names kids p)=(3,t.name):=by rw[gW.eq_def];simp only[nZ];rw[h];rfl
def HK:gW en f (.mk 1 op n x names kids p)=(2,⟨#[]⟩):=by rw[gW.eq_def];rfl
def F8:gW en f (.mk 2 op n x names kids p)=(1,⟨#[]⟩):=by rw[gW.eq_def];rfl
def HL:gW en f (.mk 4 op n x names kids p)=f x:=by rw[gW.eq_def];rfl
def EO(h:k=6\/k=7):gW en f (.mk k op n x names kids p)=(qm op,⟨#[]⟩):=by
 rw[gW.eq_def];simp only;rw[agw (by omega),agw (by omega),agw (by omega),agw (by omega),agK h]
def HM(h:9<=k):gW en f (.mk k op n x names [] p)=(0,⟨#[]⟩):=by
 rw[gW.eq_def];simp only;rw[agw (by omega),agw (by omega),agw (by omega),agw (by omega),agw (by omega)]
def F9{a:Xp}{r:List Xp}(h:9<=k):gW en f (.mk k op n x names (a::r) p)=gW en f a:=by
 rw[gW.eq_def];simp only;rw[agw (by omega),agw (by omega),agw (by omega),agw (by omega),agw (by omega),agw (by omega)]
end Go.Ps
namespace Go.Proofs.Pz
open Go.Mt Go.Sm Go.Ps Go.Proofs
open Tryz
variable{es:List (D×M)}{f:Nm->Int×Nm}{en:List En}
section
variable{X:cY}{ops:Array Oper}{rest:List Oper}{post:St->Prop}{sl:List (Nat×V)}{bx:List (Nat×List M)}{H:Hp}{d ty:Nat}{pos:String}{af:Array Edge}
def HN{T e:Nat}{x y:Operand}{i:Nat}{a:Nm}[ht:iq X.P T e][l:fC X.P e (.agg [.int .u8 0,.str ⟨#[]⟩])](b:kX es f)(c:H[i]?=some (.map es))(g:Nat.blt d X.n=true)(h:bj sl x=some (.m (.mp i)))(j:bj sl y=some (.m (.d (.str a))))
  (k:TL X ops rest ⟨(d,.m (.d (.agg (fH (f a)))))::sl,bx,H⟩ post):TL X ops (⟨some d,.lookup T x y false,ty,pos,af,none⟩::rest) ⟨sl,bx,H⟩ post:=
 sv g h j c b.k (by rw[<-b.l]at k;exact k)
end
def Af(o:kL en){H:Hp}{c:Nat}(p:kX es f)(q:H[c]?=some (.map es))(e:Xp)(d:Bq en e):
  CT prog 72 [.d (.sl (en.map En.cells)),.mp c,.d (.agg e.cells)] H λr K=>r=.d (.agg (fH (gW en f e)))/\K=H:=by
 have a:∀k∈e.kids,CT prog 72 [.d (.sl (en.map En.cells)),.mp c,.d (.agg k.cells)] H λr K=>r=.d (.agg (fH (gW en f k)))/\K=H:=
  λk g=>
   have:=MT g
   Af o p q k (by cases e;rw[Bq]at d;exact d.2.mem k g)
 obtain⟨k,j,t,x,A,h,u⟩:=e;rw[Bq]at d;obtain⟨⟨B,C,E,v,s,w⟩,_⟩:=d;replace a:∀k∈h,CT prog 72 [.d (.sl (en.map En.cells)),.mp c,.d (.agg k.cells)] H λr K=>r=.d (.agg (fH (gW en f k)))/\K=H:=a
 rw[Xp.aj];simp only[Xp.kd,Xp.op,Xp.num,Xp.nm,Xp.names,Xp.kids,Xp.ps];refine Lf func72 W ntmps72 W λF G=>?_
 have y:k=1\/k=2\/k=3\/k=4\/k=6\/k=7\/k=8\/k=9\/k=10\/k=11\/k=12\/k=13:=by omega
 rcases y with rfl|rfl|rfl|rfl|rfl|rfl|rfl|rfl|rfl|rfl|rfl|rfl
 .rw[HK]
  refine A2 ?_
  refine TC.region<|bp W W<|aM W W<|TL.nil ?_
  refine A2 ?_
  refine TC.region<|ay W W<|ax W W W<|TL.nil ?_
  refine A2 ?_
  refine TC.block ?_
  refine A2 ?_
  refine TC.region<|av W W W (r:=.bool true) W<|ah W W<|TL.nil ?_
  refine A2 ?_
  refine LK W ?_
  refine A2 ?_
  refine TC.region<|bX W W W W W<|aC W W W W W W<|TL.nil<|TC.ret ⟨_,W,W,W⟩
 .rw[F8]
  refine A2 ?_
  refine TC.region<|bp W W<|aM W W<|TL.nil ?_
  refine A2 ?_
  refine TC.region<|ay W W<|ax W W W<|TL.nil ?_
  refine A2 ?_
  refine TC.block ?_
  refine A2 ?_
  refine TC.region<|av W W W (r:=.bool false) W<|ah W W<|TL.nil ?_
  refine A2 ?_
  refine Ll W ?_
  refine A2 ?_
  refine TC.region<|av W W W (r:=.bool true) W<|ah W W<|TL.nil ?_
  refine A2 ?_
  refine LK W ?_
  refine A2 ?_
  refine TC.region<|bX W W W W W<|aC W W W W W W<|TL.nil<|TC.ret ⟨_,W,W,W⟩
 .obtain rfl:h=[]:=v W;have g:=tI o x;rcases rc en (λt=>di t.fo x)with⟨l,m⟩|⟨i,z,l,m⟩
  .rw[DX m];rw[l]at g
   refine A2 ?_
   refine TC.region<|bp W W<|aM W W<|TL.nil ?_
   refine A2 ?_
   refine TC.region<|ay W W<|ax W W W<|TL.nil ?_
   refine A2 ?_
   refine TC.block ?_
   refine A2 ?_
   refine TC.region<|av W W W (r:=.bool false) W<|ah W W<|TL.nil ?_
   refine A2 ?_
   refine Ll W ?_
   refine A2 ?_
   refine TC.region<|av W W W (r:=.bool false) W<|ah W W<|TL.nil ?_
   refine A2 ?_
   refine Ll W ?_
   refine A2 ?_
   refine TC.region<|av W W W (r:=.bool true) W<|ah W W<|TL.nil ?_
   refine A2 ?_
   refine LK W ?_
   refine A2 ?_
   refine TC.region<|ai W W<|ay W W<|ax W W W<|aL g W W<|ah W W<|TL.nil ?_
   refine A2 ?_
   refine TC.region<|ai W W<|av W W W (r:=.bool false) W<|TL.nil ?_
   refine A2 ?_
   refine Ll W<|TC.skip ?_
   refine A2 ?_
   refine TC.region<|ay W W<|ax W W W<|aT W W W<|av W W W (r:=.bool false) W<|TL.nil ?_
   refine A2 ?_
   refine Ll W<|TC.skip ?_
   refine A2 ?_
   refine TC.region<|bX W W W W W<|aC W W W W W W<|TL.nil<|TC.ret ⟨_,W,W,W⟩
  .rw[DY m];rw[l]at g;have n:=xN z;generalize en[i]=I at n;unfold En.cells at n
   refine A2 ?_
   refine TC.region<|bp W W<|aM W W<|TL.nil ?_
   refine A2 ?_
   refine TC.region<|ay W W<|ax W W W<|TL.nil ?_
   refine A2 ?_
   refine TC.block ?_
   refine A2 ?_
   refine TC.region<|av W W W (r:=.bool false) W<|ah W W<|TL.nil ?_
   refine A2 ?_
   refine Ll W ?_
   refine A2 ?_
   refine TC.region<|av W W W (r:=.bool false) W<|ah W W<|TL.nil ?_
   refine A2 ?_
   refine Ll W ?_
   refine A2 ?_
   refine TC.region<|av W W W (r:=.bool true) W<|ah W W<|TL.nil ?_
   refine A2 ?_
   refine LK W ?_
   refine A2 ?_
   refine TC.region<|ai W W<|ay W W<|ax W W W<|aL g W W<|ah W W<|TL.nil ?_
   refine A2 ?_
   refine TC.region<|ai W W ?_
   (refine av W W W (r:=.bool true) (by show some (D.bool (decide ((0:Int)<=kS (some i))))=_;rw[aha (by simp only[kS];omega)]) ?_)
   refine TL.nil ?_
   refine A2 ?_
   refine LK W ?_
   refine A2 ?_
   refine TC.region<|ai W W<|ai W W<|aN W W W (ago i) n W<|ay W W<|ax W W W<|bX W W W W W<|aC W W W W W W<|TL.nil<|TC.ret ⟨_,W,W,W⟩
 .refine A2 ?_
  refine TC.region<|bp W W<|aM W W<|TL.nil ?_
  refine A2 ?_
  refine TC.region<|ay W W<|ax W W W<|TL.nil ?_
  refine A2 ?_
  refine TC.block ?_
  refine A2 ?_
  refine TC.region<|av W W W (r:=.bool false) W<|ah W W<|TL.nil ?_
  refine A2 ?_
  refine Ll W ?_
  refine A2 ?_
  refine TC.region<|av W W W (r:=.bool false) W<|ah W W<|TL.nil ?_
  refine A2 ?_
  refine Ll W ?_
  refine A2 ?_
  refine TC.region<|av W W W (r:=.bool false) W<|ah W W<|TL.nil ?_
  refine A2 ?_
  refine Ll W ?_
  refine A2 ?_
  refine TC.region<|av W W W (r:=.bool true) W<|ah W W<|TL.nil ?_
  refine A2 ?_
  refine LK W ?_
  refine A2 ?_
  refine TC.region<|ai W W<|ay W W<|ax W W W<|HN p q W W W<|aC W W W W W W<|TL.nil ?_;rw[HL];exact TC.ret ⟨_,W,W,W⟩
 .have g:=oq j (s (by omega))
  refine A2 ?_
  refine TC.region<|bp W W<|aM W W<|TL.nil ?_
  refine A2 ?_
  refine TC.region<|ay W W<|ax W W W<|TL.nil ?_
  refine A2 ?_
  refine TC.block ?_
  refine A2 ?_
  refine TC.region<|av W W W (r:=.bool false) W<|ah W W<|TL.nil ?_
  refine A2 ?_
  refine Ll W ?_
  refine A2 ?_
  refine TC.region<|av W W W (r:=.bool false) W<|ah W W<|TL.nil ?_
  refine A2 ?_
  refine Ll W ?_
  refine A2 ?_
  refine TC.region<|av W W W (r:=.bool false) W<|ah W W<|TL.nil ?_
  refine A2 ?_
  refine Ll W ?_
  refine A2 ?_
  refine TC.region<|av W W W (r:=.bool false) W<|ah W W<|TL.nil ?_
  refine A2 ?_
  refine Ll W ?_
  refine A2 ?_
  refine TC.region<|av W W W (r:=.bool true) W<|ah W W<|TL.nil ?_
  refine A2 ?_
  refine LK W<|TC.skip ?_
  refine A2 ?_
  refine LK W ?_
  refine A2 ?_
  refine TC.region<|ay W W<|ax W W W ?_
  (refine tc g W W ?_;rintro _ rfl)
  refine ai W W<|bZ W W W<|bZ W W W<|ah W W<|ah W W<|TL.nil ?_
  refine A2 ?_
  refine TC.region<|ai W W<|bX W W W W W<|aC W W W W W W<|TL.nil ?_;rw[EO (by omega)];exact TC.ret ⟨_,W,W,W⟩
 .have g:=oq j (s (by omega))
  refine A2 ?_
  refine TC.region<|bp W W<|aM W W<|TL.nil ?_
  refine A2 ?_
  refine TC.region<|ay W W<|ax W W W<|TL.nil ?_
  refine A2 ?_
  refine TC.block ?_
  refine A2 ?_
  refine TC.region<|av W W W (r:=.bool false) W<|ah W W<|TL.nil ?_
  refine A2 ?_
  refine Ll W ?_
  refine A2 ?_
  refine TC.region<|av W W W (r:=.bool false) W<|ah W W<|TL.nil ?_
  refine A2 ?_
  refine Ll W ?_
  refine A2 ?_
  refine TC.region<|av W W W (r:=.bool false) W<|ah W W<|TL.nil ?_
  refine A2 ?_
  refine Ll W ?_
  refine A2 ?_
  refine TC.region<|av W W W (r:=.bool false) W<|ah W W<|TL.nil ?_
  refine A2 ?_
  refine Ll W ?_
  refine A2 ?_
  refine TC.region<|av W W W (r:=.bool false) W<|ah W W<|TL.nil ?_
  refine A2 ?_
  refine Ll W ?_
  refine A2 ?_
  refine TC.region<|av W W W (r:=.bool true) W<|ah W W<|TL.nil ?_
  refine A2 ?_
  refine LK W ?_
  refine A2 ?_
  refine TC.region<|ay W W<|ax W W W ?_
  (refine tc g W W ?_;rintro _ rfl)
  refine ai W W<|bZ W W W<|bZ W W W<|ah W W<|ah W W<|TL.nil ?_
  refine A2 ?_
  refine TC.region<|ai W W<|bX W W W W W<|aC W W W W W W<|TL.nil ?_;rw[EO (by omega)];exact TC.ret ⟨_,W,W,W⟩
 .match h,w W,a with
  |i::b::r,_,a=>
   have g:=a b (by simp);rw[show gW en f (.mk 8 j t x A (i::b::r) u)=gW en f b from rfl];simp only[agH];rw[b.aj]at g⊢
   refine A2 ?_
   refine TC.region<|bp W W<|aM W W<|TL.nil ?_
   refine A2 ?_
   refine TC.region<|ay W W<|ax W W W<|TL.nil ?_
   refine A2 ?_
   refine TC.block ?_
   refine A2 ?_
   refine TC.region<|av W W W (r:=.bool false) W<|ah W W<|TL.nil ?_
   refine A2 ?_
   refine Ll W ?_
   refine A2 ?_
   refine TC.region<|av W W W (r:=.bool false) W<|ah W W<|TL.nil ?_
   refine A2 ?_
   refine Ll W ?_
   refine A2 ?_
   refine TC.region<|av W W W (r:=.bool false) W<|ah W W<|TL.nil ?_
   refine A2 ?_
   refine Ll W ?_
   refine A2 ?_
   refine TC.region<|av W W W (r:=.bool false) W<|ah W W<|TL.nil ?_
   refine A2 ?_
   refine Ll W ?_
   refine A2 ?_
   refine TC.region<|av W W W (r:=.bool false) W<|ah W W<|TL.nil ?_
   refine A2 ?_
   refine Ll W ?_
   refine A2 ?_
   refine TC.region<|av W W W (r:=.bool false) W<|ah W W<|TL.nil ?_
   refine A2 ?_
   refine Ll W ?_
   refine A2 ?_
   refine TC.region<|av W W W (r:=.bool true) W<|ah W W<|TL.nil ?_
   refine A2 ?_
   refine LK W ?_
   refine A2 ?_
   refine TC.region<|ai W W<|ai W W<|ay W W<|ax W W W<|aN W W W (by decide) W W<|aK W W W<|aD g W W<|aC W W W W W W<|TL.nil<|TC.ret ⟨_,rfl,rfl,rfl⟩
 iterate 5
  .cases h with
   |nil=>
    rw[HM (by decide)]
    refine A2 ?_
    refine TC.region<|bp W W<|aM W W<|TL.nil ?_
    refine A2 ?_
    refine TC.region<|ay W W<|ax W W W<|TL.nil ?_
    refine A2 ?_
    refine TC.block ?_
    refine A2 ?_
    refine TC.region<|av W W W (r:=.bool false) W<|ah W W<|TL.nil ?_
    refine A2 ?_
    refine Ll W ?_
    refine A2 ?_
    refine TC.region<|av W W W (r:=.bool false) W<|ah W W<|TL.nil ?_
    refine A2 ?_
    refine Ll W ?_
    refine A2 ?_
    refine TC.region<|av W W W (r:=.bool false) W<|ah W W<|TL.nil ?_
    refine A2 ?_
    refine Ll W ?_
    refine A2 ?_
    refine TC.region<|av W W W (r:=.bool false) W<|ah W W<|TL.nil ?_
    refine A2 ?_
    refine Ll W ?_
    refine A2 ?_
    refine TC.region<|av W W W (r:=.bool false) W<|ah W W<|TL.nil ?_
    refine A2 ?_
    refine Ll W ?_
    refine A2 ?_
    refine TC.region<|av W W W (r:=.bool false) W<|ah W W<|TL.nil ?_
    refine A2 ?_
    refine Ll W ?_
    refine A2 ?_
    refine TC.region<|av W W W (r:=.bool false) W<|ah W W<|TL.nil ?_
    refine A2 ?_
    refine Ll W<|TC.skip ?_
    refine A2 ?_
    refine TC.region<|ay W W<|ax W W W<|aT W W W<|av W W W (r:=.bool false) W<|TL.nil ?_
    refine A2 ?_
    refine Ll W<|TC.skip ?_
    refine A2 ?_
    refine TC.region<|bX W W W W W<|aC W W W W W W<|TL.nil<|TC.ret ⟨_,W,W,W⟩
   |cons g r=>
    have l:=a g (by simp);rw[F9 (by decide)];have i:(((g::r).map Xp.cells).length)=r.length+1:=by simp
    simp only[agH]at i⊢;rw[g.aj]at l i⊢
    refine A2 ?_
    refine TC.region<|bp W W<|aM W W<|TL.nil ?_
    refine A2 ?_
    refine TC.region<|ay W W<|ax W W W<|TL.nil ?_
    refine A2 ?_
    refine TC.block ?_
    refine A2 ?_
    refine TC.region<|av W W W (r:=.bool false) W<|ah W W<|TL.nil ?_
    refine A2 ?_
    refine Ll W ?_
    refine A2 ?_
    refine TC.region<|av W W W (r:=.bool false) W<|ah W W<|TL.nil ?_
    refine A2 ?_
    refine Ll W ?_
    refine A2 ?_
    refine TC.region<|av W W W (r:=.bool false) W<|ah W W<|TL.nil ?_
    refine A2 ?_
    refine Ll W ?_
    refine A2 ?_
    refine TC.region<|av W W W (r:=.bool false) W<|ah W W<|TL.nil ?_
    refine A2 ?_
    refine Ll W ?_
    refine A2 ?_
    refine TC.region<|av W W W (r:=.bool false) W<|ah W W<|TL.nil ?_
    refine A2 ?_
    refine Ll W ?_
    refine A2 ?_
    refine TC.region<|av W W W (r:=.bool false) W<|ah W W<|TL.nil ?_
    refine A2 ?_
    refine Ll W ?_
    refine A2 ?_
    refine TC.region<|av W W W (r:=.bool false) W<|ah W W<|TL.nil ?_
    refine A2 ?_
    refine Ll W<|TC.skip ?_
    refine A2 ?_
    refine TC.region<|ay W W<|ax W W W ?_
    (refine aT W W W ?_;rw[i])
    (refine av W W W (r:=.bool true) (by show some (D.bool (decide ((0:Int)<((r.length+1:Nat):Int))))=_;rw[aha (by omega)]) ?_)
    refine TL.nil ?_
    refine A2 ?_
    refine LK W ?_
    refine A2 ?_
    refine TC.region<|ai W W<|ai W W<|ay W W<|ax W W W<|aN W W W (by decide) W W<|aK W W W<|aD l W W<|aC W W W W W W<|TL.nil<|TC.ret ⟨_,rfl,rfl,rfl⟩
termination_by SizeOf.sizeOf e
def F_(en:List En)(t:Int×Nm)(b:t.1≠1)(d:t.1≠2):vh en t=match kI en t.1 t.2 with|c::_=>gB c|[]=>zQ 0:=by
 unfold vh kI;rw[agw d,agw b,agw b];by_cases a:t.1=3
 .rw[agK a,agK a];cases en.find? (λu=>decide (u.name=t.2))<;>rfl
 .rw[agw a,agw a]
def DZ(k:kL en)(t:Int×Nm):PT prog 26 [.sl (en.map En.cells),.agg (fH t)] (·=[.agg (vh en t).cells]):=by
 obtain⟨a,d⟩:=t;have e:=He 0;have h:=mK false;rw[Xp.aj]at e h;refine Lk (Lf func26 W ntmps26 W λo p=>?_)
 refine A2 ?_
 refine TC.region<|bp W W<|aM W W<|TL.nil ?_
 refine A2 ?_
 refine TC.region<|ay W W<|ax W W W<|TL.nil ?_
 refine A2 ?_
 refine TC.block ?_;by_cases f:a=2
 .subst f
  refine A2 ?_
  refine TC.region<|av W W W (r:=.bool true) W<|ah W W<|TL.nil ?_
  refine A2 ?_
  refine LK W ?_
  refine A2 ?_
  refine TC.region<|aL e W W<|aC W W W W W W<|TL.nil<|TC.ret ⟨_,W,[_],W,W⟩
 by_cases g:a=1
 .subst g
  refine A2 ?_
  refine TC.region<|av W W W (r:=.bool false) W<|ah W W<|TL.nil ?_
  refine A2 ?_
  refine Ll W ?_
  refine A2 ?_
  refine TC.region<|av W W W (r:=.bool true) W<|ah W W<|TL.nil ?_
  refine A2 ?_
  refine LK W ?_
  refine A2 ?_
  refine TC.region<|aL h W W<|aC W W W W W W<|TL.nil<|TC.ret ⟨_,W,[_],W,W⟩
 have l:(a==1)=false:=by simp[g]
 have m:(a==2)=false:=by simp[f]
 have b:=FC k a d;rw[F_ en (a,d) g f];simp only
 refine A2 ?_
 refine TC.region ?_
 (refine av W W W (r:=.bool false) (by show some (D.bool (a==2))=_;rw[m]) ?_)
 refine ah W W<|TL.nil ?_
 refine A2 ?_
 refine Ll W ?_
 refine A2 ?_
 refine TC.region ?_
 (refine av W W W (r:=.bool false) (by show some (D.bool (a==1))=_;rw[l]) ?_)
 refine ah W W<|TL.nil ?_
 refine A2 ?_
 refine Ll W<|TC.skip ?_;cases i:kI en a d with
 |nil=>
  rw[i]at b
  refine A2 ?_
  refine TC.region<|ai W W<|aK W W W<|aL b W W<|ah W W<|TL.nil ?_
  refine A2 ?_
  refine TC.region<|ai W W<|aT W W W<|av W W W (r:=.bool false) W<|TL.nil ?_
  refine A2 ?_
  refine Ll W<|TC.skip ?_
  refine A2 ?_
  refine TC.region<|aL e W W<|aC W W W W W W<|TL.nil<|TC.ret ⟨_,W,[_],W,W⟩
 |cons c r=>
  rw[i]at b;have j:=zT c;rw[Xp.aj]at j;have n:(aR (c::r)).length=r.length+1:=by simp[aR]
  refine A2 ?_
  refine TC.region<|ai W W<|aK W W W<|aL b W W<|ah W W<|TL.nil ?_
  refine A2 ?_
  refine TC.region<|ai W W ?_
  (refine aT W W W ?_;rw[n])
  (refine av W W W (r:=.bool true) (by show some (D.bool (decide ((0:Int)<((r.length+1:Nat):Int))))=_;rw[aha (by omega)]) ?_)
  refine TL.nil ?_
  refine A2 ?_
  refine LK W ?_
  refine A2 ?_
  refine TC.region<|ai W W<|aN W W W (by decide) W W<|ax W W W<|aL j W W<|aC W W W W W W<|TL.nil<|TC.ret ⟨_,rfl,[_],rfl,rfl⟩
end Go.Proofs.Pz
namespace Go.Ps
open Go.Mt Go.Sm
def Cq(o:Nm×Nm)(l:List Xp):qI o l=l.map (spread o):=by
 induction l with
 |nil=>rw[qI];rfl
 |cons b l a=>rw[qI,a];rfl
def ym(o:Nm×Nm)(e:Xp):spread o e=if e.kd=4\/e.kd=12 then iM e o else .mk e.kd e.op e.num e.nm e.names (e.kids.map (spread o)) e.ps:=by
 cases e;rw[spread,Cq];rfl
def iW.spread{e:Xp}(o:Nm×Nm)(h:iW e):iW (spread o e):=by
 have d:∀k∈e.kids,iW (Ps.spread o k):= λk a=>
  have:=MT a
  iW.spread o (by cases h with|mk _ _ _ b=>exact b k a)
 rw[ym];by_cases a:e.kd=4\/e.kd=12
 .rw[agK a];exact .mk (λ_=>⟨e,rfl⟩) (by simp[Xp.kids]) (by simp[Xp.names]) (λk b=>by simp only[Xp.kids,ag9]at b;subst b;exact h)
 .rw[agw a];cases h with
  |mk _ f g _=>
   refine .mk (λh=>absurd (.inr h) a) (by simpa [Xp.kids] using f) g λk b=>?_
   simp only[Xp.kids,agC]at b;obtain⟨c,i,rfl⟩:=b;exact d c i
termination_by SizeOf.sizeOf e
end Go.Ps
namespace Go.Proofs.Pz
open Go.Mt Go.Sm Go.Ps Go.Proofs
open Tryz
def yn(o:Nm×Nm)(e:Xp)(l:iW e):PT prog 174 [.agg e.cells,.agg [.str o.1,.str o.2]] (·=[.agg (spread o e).cells]):=by
 have p:∀k∈e.kids,PT prog 174 [.agg k.cells,.agg [.str o.1,.str o.2]] (·=[.agg (spread o k).cells]):=
  λk a=>
   have:=MT a
   yn o k (by cases l with|mk _ _ _ f=>exact f k a)
 have x:e.kids.length<=1000000:=by cases l with|mk _ q _ _=>exact q
 have b:=zU e o;refine PT.ro (ds:=[_,_]) ?_;intro H F s;have w:=(Wk.start s).nil 8;have v:(e.kids.map Xp.cells).length=e.kids.length:=by simp
 rw[ym];rw[Xp.aj (iM e o),e.aj]at b;rw[e.aj];refine Lj func174 W ntmps174 W ?_;by_cases a:e.kd=4\/e.kd=12
 .rw[agK a];rcases a with a|a
  .rw[a]at b⊢
   refine A1 ?_
   apply KZ
   .intro f g;refine bp W W<|bp W W<|aM W W<|TL.nil W
   refine A1 ?_
   apply KZ
   .intro f g;refine ay W W<|ax W W W<|av W W W (r:=.bool true) W<|ai W W<|aQ W W<|aQ W W<|aQ W W<|cH W W W<|TL.nil W
   refine A1 ?_
   refine Lo W ?_
   refine A1 ?_
   apply KZ
   .intro f g;refine aK W W W<|aK W W W<|aL b W W<|aC W W W W W W<|TL.nil W
   rw[Xp.aj];exact DC.ret ⟨_,W,_,⟨W,W⟩,w.drop⟩
  .rw[a]at b⊢
   refine A1 ?_
   apply KZ
   .intro f g;refine bp W W<|bp W W<|aM W W<|TL.nil W
   refine A1 ?_
   apply KZ
   .intro f g;refine ay W W<|ax W W W<|av W W W (r:=.bool false) W<|ai W W<|aE W ?_;refine ay W W ?_;refine aE W ?_;refine ax W W W ?_;refine aE W ?_;refine av W W W (r:=.bool true) W ?_;refine cH W W W<|TL.nil W
   refine A1 ?_
   refine Lo W ?_
   refine A1 ?_
   apply KZ
   .intro f g;refine aK W W W<|aK W W W<|aL b W W<|aC W W W W W W<|TL.nil W
   rw[Xp.aj];exact DC.ret ⟨_,W,_,⟨W,W⟩,w.drop⟩
 rw[agw a];have t:(e.kd==4)=false:=by simp;omega
 have u:(e.kd==12)=false:=by simp;omega
 refine A1 ?_
 apply KZ
 .intro f g;refine dB W W W W<|bp W W<|aM W W<|TL.nil W
 refine A1 ?_
 apply KZ
 .intro f g;refine aA W W<|aF W W W W ?_
  (refine av W W W (r:=.bool false) (by show some (D.bool (e.kd==4))=_;rw[t]) ?_)
  refine ai W W<|aE W ?_;refine aA W W ?_;refine aE W ?_;refine aF W W W W ?_;refine aE W ?_;refine av W W W (r:=.bool false) (by show some (D.bool (e.kd==12))=_;rw[u]) ?_;refine cH W W W<|TL.nil W
 refine A1 ?_
 refine Lc W<|DC.skip ?_
 refine A1 ?_
 apply KZ
 .intro f g;refine ah W W<|TL.nil W
 refine A1 ?_
 apply KZ
 .intro f g;refine aA W W<|aF W W W W ?_
  (refine aT W W W ?_;rw[v])
  refine ai W W<|TL.nil W
 refine A1 ?_
 refine DC.block<|DC.loop (λm d=>∃(i:Nat) (b:M) (a:List (Nat×List M)) (c:Hp),d=⟨[(22,.m (.d (.int .i64 ((i:Nat):Int)))),(21,.m (.d (.int .i64 ((e.kids.length:Nat):Int)))),(20,.m (.d (.sl (e.kids.map Xp.cells)))),(5,.m b),(4,.loc 4 0),(3,.m (.d (.ca [.str o.1,.str o.2] 0))),(2,.loc 2 0)],a,c⟩/\
   Go.Mt.get a 2=some ((xC e).map M.d)/\Go.Mt.get a 4=some ((bD 0 0 0 ⟨#[]⟩ [] [] (0,0)).map M.d)/\
   Wk F H [.acc 8 (((e.kids.take i).map (spread o)).map Xp.cells) b] c/\i<=e.kids.length/\m=e.kids.length-i) e.kids.length _
  ⟨0,.d (.sl []),_,_,rfl,rfl,rfl,w,by omega,rfl⟩ W ?_
 rintro m A ⟨i,B,C,E,rfl,c,n,w,G,rfl⟩
 refine A1 ?_
 apply KZ
 .intro f g;refine av W W W W<|TL.nil W
 refine A1 ?_
 refine DC.cond W (λd=>?_) (λd=>?_)
 .have f:i<e.kids.length:=by have:=agr d;omega
  have g:(e.kids.map Xp.cells)[((i:Nat):Int).toNat]?=some e.kids[i].cells:=by simp[f]
  have h:((e.kids.take (i+1)).map (spread o)).map Xp.cells=((e.kids.take i).map (spread o)).map Xp.cells++[(spread o e.kids[i]).cells]:=by rw[rJ _ _ _ _ _ f,agI];rfl
  have j:=p _ (agx f);generalize e.kids[i]=k at g h j;rw[(spread o k).aj]at h;rw[k.aj]at g;rw[k.aj,(spread o k).aj]at j;refine DC.skip ?_
  refine A1 ?_
  refine DC.block ?_
  refine A1 ?_
  apply KZ
  .intro y z;refine aN W W W (ago i) g W<|aK W W W<|aM W W<|aC W W W W W W<|TL.nil W
  refine A1 ?_
  apply KZ
  .intro y z;refine ai W W<|aW W W W W W<|aK W W W<|aL j W W<|aU W W W W W W W W<|cX w W W W W W W (by exact cM W) (by simp only[agt,agM,agB];omega)<|ah W W<|TL.nil W
  have w:=w.app [xC (spread o k)]
  refine A1 ?_
  apply KZ
  .intro y z;refine aI W W W (by omega)<|ai W W<|TL.nil W
  exact bH (k':=e.kids.length-(i+1)) (by omega) ⟨i+1,_,_,_,rfl,c,n,by rw[h];exact w,by omega,rfl⟩ W W
 .refine DC.exit ?_;obtain rfl:i=e.kids.length:=by have:=agv d;omega
  rw[agz]at w;refine DC.bg 5 W (w.view (jc _)) ?_;have w:=w.drop;have f:xC e=bD e.kd e.op e.num e.nm e.names (e.kids.map Xp.cells) e.ps:=rfl;rw[f]at c
  refine A1 ?_
  apply KZ
  .intro g h;refine ai W W<|aA W W<|aC W W c W W W<|TL.nil W
  refine A1 ?_
  apply KZ
  .intro g h;refine aW W W W W W<|aC W W n W W W<|TL.nil W
  rw[Xp.aj];exact DC.ret ⟨_,W,_,⟨W,W⟩,w⟩
termination_by SizeOf.sizeOf e
end Go.Proofs.Pz
namespace Go.Ps
open Go.Mt Go.Sm
variable{u v:NS}{k a:Nat}{en:List En}{t:Int×Nm}{ck:List (Nm×Nm)}{q:Fq}
mutual
def cC:Xp->Nat
 |.mk k _ _ _ _ a _=>(if k=9\/k=10\/k=11\/k=13 then 1 else 0)+bh a
def bh:List Xp->Nat
 |[]=>0
 |e::l=>cC e+bh l
end
mutual
def dK(en:List En):Xp->Nat->Prop
 |.mk k d n x b a p,c=>(1<=k/\k<=13/\k≠5/\(k=3->a=[])/\(k=6\/k=7->1<=d/\d<=16)/\(k=8->2<=a.length)/\(k=9\/k=10->a≠[])/\(k=11->a.length=2)/\
   (k=12->1<=c/\b≠[]/\a.length=1/\bh a=0)/\(k=13->a.length<=b.length)/\a.length<=1000000/\b.length<=1000000)/\eR en a (if k=12 then c-1 else if k=13 then c+1 else c)
def eR(en:List En):List Xp->Nat->Prop
 |[],_=>True
 |e::l,c=>dK en e c/\eR en l c
end
def eR.mem:∀{l:List Xp} {c:Nat},eR en l c->∀e∈l,dK en e c
 |b::l,c,h,e,a=>by
  rw[eR]at h;rcases agu.1 a with rfl|a
  .exact h.1
  .exact eR.mem h.2 e a
mutual
def dK.ty:∀{e:Xp} {c:Nat},dK en e c->Bq en e
 |.mk k a n x d b p,c,h=>by
  rw[dK]at h;rw[Bq];exact⟨⟨h.1.1,h.1.2.1,h.1.2.2.1,h.1.2.2.2.1,h.1.2.2.2.2.1,h.1.2.2.2.2.2.1⟩,eR.ty h.2⟩
def eR.ty:∀{l:List Xp} {c:Nat},eR en l c->tW en l
 |[],_,_=>by rw[tW];trivial
 |a::l,c,h=>by rw[eR]at h;rw[tW];exact⟨dK.ty h.1,eR.ty h.2⟩
end
def Gr(u v:NS)(k:Nat):Prop:=v.n<=u.n+k/\v.vars.length<=u.vars.length+k/\v.eqs.length<=u.eqs.length+k
def Gr.refl(u:NS)(k:Nat):Gr u u k:=⟨by omega,by omega,by omega⟩
def Gr.trans{w:NS}{b:Nat}(h:Gr u v a)(c:Gr v w b)(d:a+b<=k):Gr u w k:=by
 obtain⟨e,f,g⟩:=h;obtain⟨i,j,l⟩:=c;exact⟨by omega,by omega,by omega⟩
def Gr.np(h:Gr (u.new t ck) v k):Gr u (v.put q) (1+k):=by
 obtain⟨a,b,c⟩:=h;simp only[NS.new,agq,agB]at a b c;exact⟨by simp only[NS.put];omega,by simp only[NS.put];omega,by simp only[NS.put,agq,agB];omega⟩
def Gr.pn(h:Gr ((u.new t ck).put q) v k):Gr u v (1+k):=by
 obtain⟨a,b,c⟩:=h;simp only[NS.new,NS.put,agq,agB]at a b c;exact⟨by omega,by omega,by omega⟩
section
variable(en:List En)
mutual
theorem jM:∀(e:Xp) a rs u,Gr u (dl en e a rs u).2 (cC e)
 |.mk k o n x l d p,a,rs,u=>by
  rw[dl.eq_def,cC];simp only;by_cases f:k=9\/k=10
  .rw[agK f,agK (by omega)];exact(qK d a rs _).np
  rw[agw f];by_cases g:k=11
  .rw[agK g,agK (by omega)];exact(lq d a rs _).pn
  rw[agw g];by_cases h:k=13
  .rw[agK h,agK (by omega)];exact(mQ x l d a rs _).np
  rw[agw h];have j:¬(k=9\/k=10\/k=11\/k=13):=by omega
  rw[agw j];by_cases i:k=12
  .rw[agK i];obtain⟨m,b,c⟩:=D0 d a.dropLast rs u;exact⟨by grind,by grind,by grind⟩
  .rw[agw i];obtain⟨m,b,c⟩:=lq d a rs u;exact⟨by grind,by grind,by grind⟩
theorem D0:∀(l:List Xp) a rs u,Gr u (rl en l a rs u).2 (bh l)
 |[],a,rs,u=>by rw[rl.eq_def];exact Gr.refl u _
 |e::l,a,rs,u=>by
  rw[rl.eq_def,bh];obtain⟨d,b,c⟩:=jM e a rs u;simp only;exact⟨by omega,by omega,by omega⟩
theorem qK:∀(l:List Xp) a rs u,Gr u (iY en l a rs u).2 (bh l)
 |[],a,rs,u=>by rw[iY.eq_def];exact Gr.refl u _
 |[e],a,rs,u=>by
  rw[iY.eq_def,bh];obtain⟨d,b,c⟩:=jM e a rs u;simp only;exact⟨by omega,by omega,by omega⟩
 |e::d::l,a,rs,u=>by
  rw[iY.eq_def,bh];obtain⟨f,b,c⟩:=qK (d::l) a rs u;simp only;exact⟨by omega,by omega,by omega⟩
theorem lq:∀(l:List Xp) a rs u,Gr u (dX en l a rs u).2 (bh l)
 |[],a,rs,u=>by rw[dX.eq_def];exact Gr.refl u _
 |e::l,a,rs,u=>by
  rw[dX.eq_def,bh];exact(jM e a rs u).trans (lq l a rs _) (ags _)
theorem mQ:∀(x:Nm) (b:List Nm) (l:List Xp) a rs u,Gr u (eU en x b l a rs u).2 (bh l)
 |x,b,[],a,rs,u=>by rw[eU.eq_def];exact Gr.refl u _
 |x,b,e::l,a,rs,u=>by
  rw[eU.eq_def,bh];exact(jM e _ rs u).trans (mQ x b.tail l a rs _) (ags _)
end
end
def gP(u:NS)(k:Nat):Prop:=u.n+k<=90000000/\u.vars.length+k<=90000000/\u.eqs.length+k<=90000000
def NG(h:gP u (a+k))(g:Gr u v a):gP v k:=by
 obtain⟨b,c,d⟩:=h;obtain⟨e,f,i⟩:=g;exact⟨by omega,by omega,by omega⟩
def gP.le(h:gP u a)(b:k<=a):gP u k:=by
 obtain⟨c,d,e⟩:=h;exact⟨by omega,by omega,by omega⟩
def nj:∀{l:List Xp} {i:Nat} (h:i<l.length),bh (l.take i)+(cC l[i]+bh (l.drop (i+1)))=bh l
 |a::l,0,h=>by simp only[agS,bh,ahM,ahq,aiQ,aiU]
 |a::l,i+1,h=>by
  have:=nj (l:=l) (i:=i) (by simpa using h);simp only[ahg,bh,ahE,aiQ];omega
def Ah{l:List Xp}{e:Xp}(h:e∈l):cC e<=bh l:=by
 obtain⟨i,a,rfl⟩:=ahr h;have:=nj a;omega
section
variable(en:List En)
mutual
theorem yo:∀(e:Xp) (c:Nat) a rs u,dK en e c->cC e=0->iW (dl en e a rs u).1
 |.mk k m n x o d p,c,g,rs,u,h,a=>by
  rw[dK]at h;rw[cC]at a;have i:¬(k=9\/k=10\/k=11\/k=13):=by grind
  rw[agw i,ahq]at a;rw[dl.eq_def];simp only;rw[agw (by omega),agw (by omega),agw (by omega)];by_cases b:k=12
  .rw[agK b]
   match d,h,a with
   |[],h,_=>have:=(h.1.2.2.2.2.2.2.2.2.1 b).2.2.1;simp at this
   |f::l,h,a=>
    rw[rl.eq_def];rw[bh]at a;rw[eR]at h;exact(yo f _ _ rs u h.2.1 (by omega)).spread _
  .rw[agw b];obtain⟨f,j⟩:=Ai d _ g rs u h.2 a;exact .mk (λh=>absurd h b) (by simp only[Xp.kids];rw[j];exact h.1.2.2.2.2.2.2.2.2.2.2.1) h.1.2.2.2.2.2.2.2.2.2.2.2 f
theorem Ai:∀(l:List Xp) (c:Nat) a rs u,eR en l c->bh l=0->(∀e∈(dX en l a rs u).1,iW e)/\(dX en l a rs u).1.length=l.length
 |[],c,a,rs,u,h,b=>by rw[dX.eq_def];exact⟨λe a=>by simp at a,rfl⟩
 |d::l,c,a,rs,u,h,f=>by
  rw[eR]at h;rw[bh]at f;rw[dX.eq_def];simp only;obtain⟨g,i⟩:=Ai l c a rs (dl en d a rs u).2 h.2 (by omega);exact⟨λe b=>by rcases agu.1 b with rfl|b;exact(yo d c a rs u h.1 (by omega));exact g e b,by grind⟩
end
end
end Go.Ps
namespace Go.Ps
open Go.Mt Go.Sm
def ZK(z:D)(a:List (Nm×Nm))(n:Nat):Prop:=z=.sl (bW a)\/(a=[]/\z=.oa/\n=0)
def ZK.cut(a:List (Nm×Nm)):ZK (yX ((bW a).take (a.length-1))) a.dropLast 0:=by
 rw[List.dropLast_eq_take];have b:bW (a.take (a.length-1))=(bW a).take (a.length-1):=by simp[bW]
 cases c:(bW a).take (a.length-1)with
 |nil=>
  refine .inr ⟨?_,W,W⟩;rw[c]at b;simpa [bW] using b
 |cons d r=>exact .inl (by rw[b,c];rfl)
end Go.Ps
namespace Go.Proofs.Pz
open Go.Mt Go.Sm Go.Ps Go.Proofs
abbrev yp(q:Fq)(z:D):List D:=[.int .u8 q.kd,.sl (aR q.lhs),.str q.f]++xC q.first++xC q.e++[.sl (q.args.map Xp.cells),z,.sl (aR q.rs)]
def gC(q:Fq):q.cells=yp q (.sl (bW q.ck)):=by rw[Fq.aj,q.first.aj,q.e.aj]
section
variable{X:cY}{ops:Array Oper}{rest:List Oper}{post:St->Prop}{sl:List (Nat×V)}{bx:List (Nat×List M)}{H:Hp}{d ty:Nat}{pos:String}{af:Array Edge}
def D1{t e n h:Nat}{x y:Operand}{rows:List (List D)}{b:IntKind}[ht:br X.P t e][s:cc X.P e n](c:Nat.blt d X.n=true)(f:bj sl x=some (.m (.d (.sl rows))))(i:bj sl y=some (.m (.d (.int b ((h:Nat):Int)))))(j:rows≠[])(p:h<=rows.length)(m:∀r∈rows,r.length=n)
  (k:TL X ops rest ⟨(d,.m (.d (yX (rows.take h))))::sl,bx,H⟩ post):TL X ops (⟨some d,.slice t x none (some y) none,ty,pos,af,none⟩::rest) ⟨sl,bx,H⟩ post:=by
 refine LA (v:=.m (.d (yX (rows.take h)))) (LJ:=sl) (L4:=bx) (H':=H) W W c ?_ k;have this:=sC (X:=X) (st:=⟨sl,bx,H⟩) (dst:=some d) (ty:=ty) (pos:=pos) (af:=af) (g:=none) (t:=t) (lo:=none) (hi:=some y) (l:=none) (h:=some h) f W (by simp only[sB,St.ev,i]) j (ahy _) p m;have o:(rows.drop ((none:Option Nat).getD 0)).take (((some h:Option Nat).getD rows.length)-(none:Option Nat).getD 0)=rows.take h:=by simp
 rw[o]at this;cases a:rows.take h with
 |nil=>rw[a]at this;exact this
 |cons q r=>rw[a]at this;exact this
end
def D2(rows:List (List D)):fj (.d (yX rows))=some [.d (yX rows)]:=by cases rows<;>rfl
end Go.Proofs.Pz
namespace Go.Mt
def Ks(H:Hp):∀ds:List D,dV H (ds.map M.d)=some (ds.map M.d)
 |[]=>rfl
 |d::r=>cq (Ks H r)
def Kt{H:Hp}{m:M}{d:D}(h:eK H m=some d)(r:List D):∀ds:List D,dV H (ds.map M.d++m::r.map M.d)=some (ds.map M.d++.d d::r.map M.d)
 |[]=>lQ h (Ks H r)
 |_::ds=>cq (Kt h r ds)
end Go.Mt
namespace Go.Ps
open Go.Mt Go.Sm
theorem wa(en:List En):∀{l:List Xp} (h:l≠[]) a rs u,iY en l a rs u=dl en (l.getLast h) a rs u
 |[e],_,a,rs,u=>by rw[iY.eq_def];rfl
 |_::b::l,_,a,rs,u=>by rw[iY.eq_def];simp only;rw[wa en (by grind)];rfl
def pC(en:List En)(x:Nm)(a:List Nm) ck rs u:eU en x a [] ck rs u=([],u):=by rw[eU.eq_def]
def n_(en:List En)(x:Nm)(a:List Nm)(e:Xp)(l:List Xp) ck rs u:eU en x a (e::l) ck rs u=((dl en e (ck++[(a.head?.getD ⟨#[]⟩,x)]) rs u).1::(eU en x a.tail l ck rs (dl en e (ck++[(a.head?.getD ⟨#[]⟩,x)]) rs u).2).1,(eU en x a.tail l ck rs (dl en e (ck++[(a.head?.getD ⟨#[]⟩,x)]) rs u).2).2):=by rw[eU.eq_def]
def wc(en:List En)(x:Nm)(e:Xp):∀(l:List Xp) (b:List Nm) a rs u,eU en x b (l++[e]) a rs u=
  ((eU en x b l a rs u).1++[(dl en e (a++[((b.drop l.length).head?.getD ⟨#[]⟩,x)]) rs (eU en x b l a rs u).2).1],(dl en e (a++[((b.drop l.length).head?.getD ⟨#[]⟩,x)]) rs (eU en x b l a rs u).2).2)
 |[],b,a,rs,u=>by rw[ag2,n_,pC,pC];rfl
 |b::l,a,c,rs,u=>by
  have c:a.tail.drop l.length=a.drop (b::l).length:=by simp_all
  rw[agQ,n_,n_,wc en x e l a.tail,c];rfl
def yq(en:List En)(x:Nm):∀(l:List Xp) (b:List Nm) a rs u,(eU en x b l a rs u).1.length=l.length
 |[],b,a,rs,u=>by rw[pC]
 |a::l,c,b,rs,u=>by rw[n_,agA,agA,yq en x l]
def HO(en:List En)(x:Nm)(e:Xp)(a:List (Nm×Nm))(rs:List Nm)(u:NS):NS:=(iY en e.kids a rs u).2.put (oR x (rk en u.ty e) (iY en e.kids a rs u).1 a rs)
end Go.Ps
namespace Go.Proofs.Pz
open Go.Mt Go.Sm Go.Ps Go.Proofs
open Tryz
def Ga{α:Type}{a:Nat}{x y z:α}{r:List (Nat×α)}(t:Nat):Go.Mt.get ((a,x)::r) t=Go.Mt.get ((a,x)::(a,y)::(a,z)::r) t:=by
 by_cases h:a.beq t=true
 .simp[Go.Mt.get,h]
 .simp[Go.Mt.get,ai3.2 h]
def Br(it:Nat)(c:Fc)(e:Xp):Prop:=∀(q:Fq) (u:NS) (z:D),dK c.en e q.ck.length->q.ck.length+cC e<=900000->gP u (cC e+1)->ZK z q.ck (cC e)->
  Dt prog 119 [.ref c.im 0,.d (.agg e.cells),.d (.agg (Go.Proofs.Pz.yp q z))] [.ob it bK,jL c u] λr l=>r=.d (.agg (dl c.en e q.ck q.rs u).1.cells)/\l=[.ob it bK,jL c (dl c.en e q.ck q.rs u).2]
def tX{F:Nat->Prop}{H K:Hp}{r:List As}{c:Fc}{u:NS}(d:kL c.en)(w:Wk F H (jL c u::r) K)(e:Xp)(f:Bq c.en e):
  CT prog 172 [.ref c.im 0,.d (.agg e.cells)] K λr a=>r=.d (.agg (fH (gW c.en u.ty e)))/\a=K:=by
 obtain⟨j,k,g,h,w⟩:=jL.open w;have a:=w.ob;have i:K[c.ic]?=some (.map g):=by
  have w:=w.drop.drop.drop;exact w.ob
 have b:=Af d h i e f;rw[e.aj]at b⊢;refine Lf func172 W ntmps172 W λl m=>?_
 refine A2 ?_
 refine TC.region<|bp W W<|aM W W<|TL.nil ?_
 refine A2 ?_
 refine Na mixed<|aO W W<|bO W W W<|bJ W W<|dy W W a W<|aO W W<|bO W W W<|bJ W W<|dy W W a W<|cx W W W<|fO b W W<|bS W W W W W W<|TF.nil ⟨by kernel_rfl,?_⟩;exact TC.ret ⟨_,W,W,W⟩
theorem rm(it:Nat)(c:Fc)(s:kL c.en)(e:Xp)(C:∀k∈e.kids,Br it c k)(d:e.kids≠[])(Z:e.kids.length<=1000000)(E:Bq c.en e)(x:Nm)(q:Fq)(u:NS)(F:∀k∈e.kids,dK c.en k q.ck.length)(Mw:q.ck.length+bh e.kids<=900000)(t:gP u (bh e.kids+1)):
  Dt prog 120 [.ref c.im 0,.d (.str x),.d (.agg e.cells),.d (.agg (yp q (.sl (bW q.ck))))] [.ob it bK,jL c u] λr l=>l=[.ob it bK,jL c (HO c.en x e q.ck q.rs u)]:=by
 intro H Y G;have w:=Wk.start G;have v:=tX s (w.pick [1,0]) e E;have m:=DZ s (gW c.en u.ty e);have j:=List.getLast_mem d;have I:=Ah j;have n:(e.kids.map Xp.cells)[((e.kids.length-1:Nat):Int).toNat]?=some (e.kids.getLast d).cells:=by
  grind
 have Tv:=List.length_pos_iff.2 d;have J:((e.kids.length:Nat):Int)-1=((e.kids.length-1:Nat):Int):=by omega
 have X:(e.kids.map Xp.cells).length=e.kids.length:=by simp
 unfold HO;rw[wa c.en d];have y:=C _ j q u _ (F _ j) (by omega) (t.le (by omega)) (.inl W);have o:=jM c.en (e.kids.getLast d) q.ck q.rs u;obtain⟨_,K1,K,⟨rfl,rfl⟩,h,g⟩:=Wk.call (r:=[]) (by rw[agL];exact w) y;rw[agL]at h;have k:gP (dl c.en (e.kids.getLast d) q.ck q.rs u).2 1:=NG (t.le (by omega)) o;obtain⟨b,p⟩:∃b,b=rk c.en u.ty e:=⟨_,rfl⟩;have V:e.kd=9->∃a r,e.kids=a::r/\b=a:=by
  intro f
  match L:e.kids,d with
  |a::r,_=>exact⟨a,r,W,by rw[p];unfold rk;rw[agK f,L]⟩
 have z:e.kd≠9->b=vh c.en (gW c.en u.ty e):=by intro f;rw[p];unfold rk;rw[agw f]
 rw[<-p];generalize vh c.en (gW c.en u.ty e)=N at m z;generalize e.kids.getLast d=A at n g o k h y j I;generalize dl c.en A q.ck q.rs u=O at g o k h;obtain⟨i,P⟩:=O;simp only at g k h⊢;obtain⟨_,K2,K,rfl,Q,B⟩:=Wk.call (a:=[_]) (r:=[_]) (h.pick [1,0]) (lm c P (oR x b i q.ck q.rs) (by have:=k.2.2;omega));have R:(oR x b i q.ck q.rs).cells=kA 2 [x] ⟨#[]⟩ (xC b) (xC i) [] q.ck q.rs:=by rw[Fq.aj,b.aj,i.aj];rfl
 rw[R]at B;rw[i.aj]at g;rw[A.aj]at g n;rw[e.aj]at v⊢;rw[N.aj]at m;refine Lj func120 W ntmps120 W ?_;obtain⟨mv,me,es,hm,S⟩:=jL.open (w.pick [1,0])
 refine A1 ?_
 apply KZ
 .intro L T;refine bp W W<|bp W W<|TL.nil W
 refine A1 ?_
 apply Le mixed
 .intro L T;refine aO W W<|bO W W W<|bJ W W<|dy W W S.ob W<|aO W W<|cx W W W<|fO v W W<|bc m W W<|fk W<|bS W W W W W W<|TF.nil ⟨by kernel_rfl,rfl⟩
 refine DC.seq<|DC.GX ⟨[(8,.loc 8 0),(7,.m (.d (.ca (yp q (.sl (bW q.ck))) 0))),(6,.m (.d (.ca (xC e) 0))),(1,.m (.d (.str x))),(0,.m (.ref c.im 0))],[(8,(xC b).map M.d)],H⟩ ?_ ?_
 .by_cases f:e.kd=9
  .obtain⟨a,r,L,rfl⟩:=V f;have T:(e.kd==9)=true:=by simp[f]
   have U:(e.kids.map Xp.cells)[((0:Nat):Int).toNat]?=some (xC b):=by rw[L,agH,b.aj];rfl
   refine A1 ?_
   apply KZ
   .intro s0 Oo;refine ay W W<|ax W W W ?_
    (refine av W W W (r:=.bool true) (by show some (D.bool (e.kd==9))=_;rw[T]) ?_)
    exact TL.nil W
   refine A1 ?_
   refine Lo W ?_
   refine A1 ?_
   apply KZ
   .intro s0 Oo;refine ay W W<|ax W W W<|aN W W W (by decide) U W<|aK W W W<|aC W W W W W W<|TL.nil W
   exact A0 Ga W W
  .have T:=z f;subst T;have L:(e.kd==9)=false:=by simp[f]
   refine A1 ?_
   apply KZ
   .intro U Oo;refine ay W W<|ax W W W ?_
    (refine av W W W (r:=.bool false) (by show some (D.bool (e.kd==9))=_;rw[L]) ?_)
    exact TL.nil W
   refine A1 ?_
   refine Lc W<|DC.skip<|A0 yj W W
 refine A1 ?_
 apply Le mixed
 .intro L T;refine aO W W<|bI W W<|cd W W W<|bI W W<|cd W W W ?_
  (refine lG W W W ?_;rw[X])
  (refine fK W W W (by omega) ?_;rw[J])
  refine bE W W W (ago _) n W<|cx W W W<|cx W W W<|bt g W W<|fk W<|bS W W W W W W<|TF.nil ⟨by kernel_rfl,rfl⟩
 refine A1 ?_
 apply KZ
 .intro L T;refine ai W W<|ai W W<|aU W W W W W W W W<|aW W W W W W<|aW W W W W W<|ay W W<|ax W W W<|ay W W<|ax W W W<|bX W W W W W<|aD B W W<|TL.nil W
 exact⟨_,W,_,W,Q.pick [1,0]⟩
theorem Aj(it:Nat)(c:Fc)(e:Xp)(B:∀k∈e.kids,Br it c k)(U:e.kids.length<=1000000)(V:e.kids.length<=e.names.length)(q:Fq)(u:NS)(X:∀k∈e.kids,dK c.en k (q.ck.length+1))(Y:q.ck.length+1+bh e.kids<=900000)(C:gP u (bh e.kids+1)):
  Dt prog 121 [.ref c.im 0,.d (.agg e.cells),.d (.agg (yp q (.sl (bW q.ck))))] [.ob it bK,jL c u] λr l=>r=.d (.agg (Xp.mk e.kd e.op e.num e.nm e.names (eU c.en e.nm e.names e.kids q.ck q.rs u).1 e.ps).cells)/\l=[.ob it bK,jL c (eU c.en e.nm e.names e.kids q.ck q.rs u).2]:=by
 intro H F E;have w:=(Wk.start E).nil 8;have T:(e.kids.map Xp.cells).length=e.kids.length:=by simp
 have ac:(bW q.ck).length=q.ck.length:=by simp[bW]
 rw[e.aj];refine Lj func121 W ntmps121 W ?_
 refine A1 ?_
 apply KZ
 .intro b d;refine dB W W W W<|bp W W<|aM W W<|TL.nil W
 refine A1 ?_
 apply KZ
 .intro b d;refine ah W W<|TL.nil W
 refine A1 ?_
 apply KZ
 .intro b d;refine aA W W<|aF W W W W ?_
  (refine aT W W W ?_;rw[T])
  refine ai W W<|TL.nil W
 refine A1 ?_
 refine DC.block<|DC.loop (λm g=>∃(i:Nat) (d:M) (b:List (Nat×List M)) (f:Hp),g=⟨[(14,.m (.d (.int .i64 ((i:Nat):Int)))),(13,.m (.d (.int .i64 ((e.kids.length:Nat):Int)))),(12,.m (.d (.sl (e.kids.map Xp.cells)))),(7,.m d),(6,.loc 6 0),(5,.m (.d (.ca (yp q (.sl (bW q.ck))) 0))),(4,.loc 4 0),(0,.m (.ref c.im 0))],b,f⟩/\
   Go.Mt.get b 4=some ((xC e).map M.d)/\Go.Mt.get b 6=some ((bD 0 0 0 ⟨#[]⟩ [] [] (0,0)).map M.d)/\
   Wk F H [.acc 8 ((eU c.en e.nm e.names (e.kids.take i) q.ck q.rs u).1.map Xp.cells) d,.ob it bK,jL c (eU c.en e.nm e.names (e.kids.take i) q.ck q.rs u).2] f/\i<=e.kids.length/\m=e.kids.length-i) e.kids.length _
  ⟨0,.d (.sl []),_,_,rfl,rfl,rfl,by rw[agS,pC];exact w,by omega,rfl⟩ W ?_
 rintro m s1 ⟨i,mc,bx,H1,rfl,g,v,w,hi,rfl⟩
 refine A1 ?_
 apply KZ
 .intro b d;refine av W W W W<|TL.nil W
 refine A1 ?_
 refine DC.cond W (λG=>?_) (λG=>?_)
 .have n:i<e.kids.length:=by grind
  have x:i<e.names.length:=by omega
  have p:(e.kids.map Xp.cells)[((i:Nat):Int).toNat]?=some e.kids[i].cells:=by simp[n]
  have z:=iC x;have d:=wc c.en e.nm e.kids[i] (e.kids.take i) e.names q.ck q.rs u;rw[<-agp n,agM,ahN (by omega),ahv x,aiO,aiF]at d;have am:=nj n;have I:gP (eU c.en e.nm e.names (e.kids.take i) q.ck q.rs u).2 (cC e.kids[i]+1):=NG (a:=bh (e.kids.take i)) (C.le (by omega)) (mQ c.en e.nm e.names (e.kids.take i) q.ck q.rs u);have J:((eU c.en e.nm e.names (e.kids.take i) q.ck q.rs u).1.map Xp.cells).length=i:=by
   rw[agt,yq,agM];omega
  obtain⟨y,K⟩:∃y,y=e.names[i]:=⟨_,rfl⟩;rw[<-K]at z d;obtain⟨h,L⟩:∃b,b=q.ck++[(y,e.nm)]:=⟨_,rfl⟩;have ce:h.length=q.ck.length+1:=by grind
  rw[<-L]at d;have N:=agx n;have A:=B _ N ⟨q.kd,q.lhs,q.f,q.first,q.e,q.args,h,q.rs⟩ _ _ (by grind) (by grind) I (.inl W);simp only at A;obtain⟨mk,K1,O,rfl,j,P⟩:=Wk.call (a:=[]) w (pt q.ck (by omega));have j:=j;have o:=j.app [[.str y,.str e.nm]];have Q:bW q.ck++[[.str y,.str e.nm]]=bW h:=by grind
  rw[Q]at o;obtain⟨_,K2,O,⟨rfl,rfl⟩,b,f⟩:=Wk.call (a:=[_,_]) (r:=[_]) (o.drop.pick [1,2,0]) A;have b:=b.pick [2,0,1];generalize eU c.en e.nm e.names (e.kids.take i) q.ck q.rs u=s at d J j o b w f;generalize dl c.en e.kids[i] h q.rs s.2=R at d b f;obtain⟨k,u1⟩:=R;generalize e.kids[i]=t at p f;simp only at f b d;rw[k.aj,t.aj]at f;rw[t.aj]at p;refine DC.skip ?_
  refine A1 ?_
  refine DC.block ?_
  refine A1 ?_
  apply KZ
  .intro Z Oo;refine ai W W<|aN W W W (ago i) p W<|aK W W W<|aM W W<|ah W W<|aC W W W W W W<|TL.nil W
  refine A1 ?_
  apply KZ
  .intro Z Oo;refine aK W W W<|aM W W<|aC W W W W W W<|TL.nil W
  refine A1 ?_
  apply Le mixed
  .intro Z Oo;refine bI W W<|cd W W W<|bt P W W<|aX W W<|bC W W g W<|aO W W<|bE W W W (ago i) z W<|cd W W W<|aX W W<|bC W W g W<|dU W W W W W<|bm W W W W W W W W<|fa j W W W W W W W (by omega)<|aX W W<|bS W W W (bQ _ _ _) W W<|TF.nil ⟨by kernel_rfl,rfl⟩
  refine DC.cZ (Ls:=(yp q (.sl (bW h))).map M.d) 10 W (by exact Kt (o.view (ja _)) [D.sl (aR q.rs)] ([D.int .u8 q.kd,D.sl (aR q.lhs),D.str q.f]++xC q.first++xC q.e++[D.sl (q.args.map Xp.cells)])) ?_
  refine A1 ?_
  apply KZ
  .intro Z Oo;refine ai W W<|ai W W<|aW W W W W W<|aW W W W W W<|aD f W W<|aU W W W W W W W W<|cX b W W W W W W (by exact cM W) (by grind)<|ah W W<|TL.nil W
  have b:=b.app [xC k];have S:s.1.map Xp.cells++[xC k]=(s.1++[k]).map Xp.cells:=by rw[agI,agH,k.aj];rfl
  refine A1 ?_
  apply KZ
  .intro Z Oo;refine aI W W W (by omega)<|ai W W<|TL.nil W
  exact bH (k':=e.kids.length-(i+1)) (by omega) ⟨i+1,_,_,_,rfl,g,v,by rw[d,<-S];exact b,by omega,rfl⟩ W W
 .refine DC.exit ?_;obtain rfl:i=e.kids.length:=by grind
  rw[agz]at w;refine DC.bg 7 W (w.view (jc _)) ?_;have w:=w.drop;have b:xC e=bD e.kd e.op e.num e.nm e.names (e.kids.map Xp.cells) e.ps:=rfl;rw[b]at g
  refine A1 ?_
  apply KZ
  .intro d f;refine ai W W<|aA W W<|aC W W g W W W<|TL.nil W
  refine A1 ?_
  apply KZ
  .intro d f;refine aW W W W W W<|aC W W v W W W<|TL.nil W
  rw[Xp.aj];exact DC.ret ⟨_,W,_,⟨W,W⟩,w⟩
end Go.Proofs.Pz
namespace Go.Ps
open Go.Mt Go.Sm
variable{u:NS}{t:Int×Nm}{ck:List (Nm×Nm)}{k:Nat}{a:Xp}
def gP.new(h:gP u (k+1)):gP (u.new t ck) k:=by
 obtain⟨a,b,c⟩:=h;exact⟨by simp only[NS.new];omega,by simp only[NS.new,agq,agB];omega,by simp only[NS.new];omega⟩
def gP.np{q:Fq}(h:gP u (k+1)):gP ((u.new t ck).put q) k:=by
 obtain⟨a,b,c⟩:=h;exact⟨by simp only[NS.new,NS.put];omega,by simp only[NS.new,NS.put,agq,agB];omega,by simp only[NS.new,NS.put,agq,agB];omega⟩
def pD(e:Xp):cC e=(if e.kd=9\/e.kd=10\/e.kd=11\/e.kd=13 then 1 else 0)+bh e.kids:=by cases e;rw[cC];rfl
section
variable(en:List En){e:Xp}{ck:List (Nm×Nm)}{rs:List Nm}{u:NS}
def lu:dX en [] ck rs u=([],u):=by rw[dX.eq_def]
def kr(a:Xp)(l:List Xp):dX en (a::l) ck rs u=((dl en a ck rs u).1::(dX en l ck rs (dl en a ck rs u).2).1,(dX en l ck rs (dl en a ck rs u).2).2):=by rw[dX.eq_def]
def we(a:e.kd=9\/e.kd=10)(b:e.kids≠[]):dl en e ck rs u=(bz (nX (u.n+1)),HO en (nX (u.n+1)) e ck rs (u.new (gW en u.ty e) ck)):=by
 obtain⟨k,c,n,x,f,d,p⟩:=e;rw[dl.eq_def];simp only;rw[agK (show k=9\/k=10 from a)];rfl
def Cr(c:e.kd=11){b:Xp}(d:e.kids=[a,b]):dl en e ck rs u=
  (.mk 8 0 0 ⟨#[]⟩ [] [bz (nX (u.n+1)),(dl en a ck rs ((u.new (1,⟨#[]⟩) ck).put (oR (nX (u.n+1)) (dS true) (dS false) ck rs))).1,(dl en b ck rs (dl en a ck rs ((u.new (1,⟨#[]⟩) ck).put (oR (nX (u.n+1)) (dS true) (dS false) ck rs))).2).1] e.ps,
   (dl en b ck rs (dl en a ck rs ((u.new (1,⟨#[]⟩) ck).put (oR (nX (u.n+1)) (dS true) (dS false) ck rs))).2).2):=by
 obtain⟨k,f,n,x,h,g,p⟩:=e;simp only[Xp.kd,Xp.kids]at c d;subst c d;rw[dl.eq_def];simp only;rw[agw (by decide),agK trivial,kr,kr,lu];rfl
def Cs(a:e.kd=13):dl en e ck rs u=(bz (nX (u.n+1)),(eU en e.nm e.names e.kids ck rs (u.new (gW en u.ty e) ck)).2.put ⟨1,[nX (u.n+1)],⟨#[]⟩,cg,.mk e.kd e.op e.num e.nm e.names (eU en e.nm e.names e.kids ck rs (u.new (gW en u.ty e) ck)).1 e.ps,[],ck,[]⟩):=by
 obtain⟨k,b,n,x,d,c,p⟩:=e;simp only[Xp.kd]at a;subst a;rw[dl.eq_def];simp only;rw[agw (by decide),agw (by decide),agK trivial];rfl
def D3(b:e.kd=12)(c:e.kids=[a]){y:Nm}{f:List Nm}(d:e.names=y::f):dl en e ck rs u=(spread (y,e.nm) (dl en a ck.dropLast rs u).1,(dl en a ck.dropLast rs u).2):=by
 obtain⟨k,g,n,x,i,h,p⟩:=e;simp only[Xp.kd,Xp.kids,Xp.names]at b c d;subst b c d;rw[dl.eq_def];simp only;rw[agw (by decide),agw (by decide),agw (by decide),agK trivial,rl.eq_def];rfl
def Ct(h:¬(e.kd=9\/e.kd=10))(a:e.kd≠11)(b:e.kd≠13)(c:e.kd≠12):dl en e ck rs u=(.mk e.kd e.op e.num e.nm e.names (dX en e.kids ck rs u).1 e.ps,(dX en e.kids ck rs u).2):=by
 obtain⟨k,d,n,x,g,f,p⟩:=e;simp only[Xp.kd]at h a b c;rw[dl.eq_def];simp only;rw[agw h,agw a,agw b,agw c];rfl
end
def qL(en:List En)(e:Xp):∀(l:List Xp) a rs u,dX en (l++[e]) a rs u=((dX en l a rs u).1++[(dl en e a rs (dX en l a rs u).2).1],(dl en e a rs (dX en l a rs u).2).2)
 |[],a,rs,u=>by rw[ag2,kr,lu,lu];rfl
 |a::l,b,rs,u=>by rw[agQ,kr,kr,qL en e l];rfl
def sS(en:List En):∀(l:List Xp) a rs u,(dX en l a rs u).1.length=l.length
 |[],a,rs,u=>by rw[lu]
 |a::l,b,rs,u=>by rw[kr,agA,agA,sS en l]
end Go.Ps
namespace Go.Proofs.Pz
open Go.Mt Go.Sm Go.Ps Go.Proofs
open Tryz
def j0(it:Nat)(c:Fc)(o:kL c.en)(e:Xp):Br it c e:=by
 have n:∀k∈e.kids,Br it c k:= λk f=>
  have:=MT f
  j0 it c o k
 intro q u z E Mw h p;have x:=dK.ty E;have g:=pD e;have ac:(1<=e.kd/\e.kd<=13/\e.kd≠5/\(e.kd=3->e.kids=[])/\(e.kd=6\/e.kd=7->1<=e.op/\e.op<=16)/\(e.kd=8->2<=e.kids.length)/\(e.kd=9\/e.kd=10->e.kids≠[])/\(e.kd=11->e.kids.length=2)/\
   (e.kd=12->1<=q.ck.length/\e.names≠[]/\e.kids.length=1/\bh e.kids=0)/\(e.kd=13->e.kids.length<=e.names.length)/\e.kids.length<=1000000/\e.names.length<=1000000)/\eR c.en e.kids (if e.kd=12 then q.ck.length-1 else if e.kd=13 then q.ck.length+1 else q.ck.length):=by
  cases e;rw[dK]at E;exact E
 obtain⟨⟨h1,Q9,h5,_,_,_,P,PA,am,ce,F,OF⟩,s⟩:=ac;intro N O Qt;have w:=Wk.start Qt;by_cases t:e.kd=12
 .obtain⟨I,S,T,A⟩:=am t;have g:cC e=bh e.kids:=by rw[g,agw (by omega),ahq]
  have k:q.ck≠[]:=by intro l;rw[l]at I;simp at I
  obtain rfl:z=.sl (bW q.ck):=p.resolve_right (by rintro⟨l,_,_⟩;exact k l);obtain⟨a,v⟩:∃a,e.kids=[a]:=by
   match Y:e.kids,T with
   |[a],_=>exact⟨a,W⟩
  obtain⟨y,nr,J⟩:=ah1 S;have j:=s;rw[agK t,v,eR]at j;rw[v]at A;simp only[bh,ahW]at A;have Q:q.ck.dropLast.length=q.ck.length-1:=List.length_dropLast;rw[D3 c.en t v J];have R:=yn (y,e.nm) (dl c.en a q.ck.dropLast q.rs u).1 (yo c.en a _ q.ck.dropLast q.rs u j.1 A);obtain⟨_,K1,l',⟨rfl,rfl⟩,G,H⟩:=Wk.call (r:=[]) (by rw[agL];exact w) (n a (by rw[v];simp) ⟨q.kd,q.lhs,q.f,q.first,q.e,q.args,q.ck.dropLast,q.rs⟩ u _ (by rw[Q];exact j.1) (by simp only[Q];omega) (h.le (by omega)) (by rw[A];exact ZK.cut q.ck));rw[agL]at G;simp only at H G;generalize dl c.en a q.ck.dropLast q.rs u=B at*;have C:(bW q.ck).length=q.ck.length:=by simp[bW]
  have U:((q.ck.length:Nat):Int)-1=((q.ck.length-1:Nat):Int):=by omega
  have V:(e.kids.map Xp.cells)[((0:Nat):Int).toNat]?=some (xC a):=by rw[v,agH,a.aj];rfl
  have X:(aR e.names)[((0:Nat):Int).toNat]?=some [.str y]:=by rw[J];rfl
  rw[a.aj,B.1.aj]at H;rw[B.1.aj,(spread (y,e.nm) B.1).aj]at R;rw[e.aj,(spread (y,e.nm) B.1).aj,t];refine Lj func119 W ntmps119 W ?_
  refine A1 ?_
  apply KZ
  .intro Y Oo;refine bp W W<|bp W W<|aM W W<|TL.nil W
  refine A1 ?_
  apply KZ
  .intro Y Oo;refine ay W W<|ax W W W<|TL.nil W
  refine A1 ?_
  refine DC.block ?_
  refine A1 ?_
  apply KZ
  .intro Y Oo;refine av W W W (r:=.bool false) W<|ah W W<|TL.nil W
  refine A1 ?_
  refine Lc W ?_
  refine A1 ?_
  apply KZ
  .intro Y Oo;refine av W W W (r:=.bool false) W<|ah W W<|TL.nil W
  refine A1 ?_
  refine Lc W ?_
  refine A1 ?_
  apply KZ
  .intro Y Oo;refine av W W W (r:=.bool false) W<|ah W W<|TL.nil W
  refine A1 ?_
  refine Lc W ?_
  refine A1 ?_
  apply KZ
  .intro Y Oo;refine av W W W (r:=.bool false) W<|ah W W<|TL.nil W
  refine A1 ?_
  refine Lc W ?_
  refine A1 ?_
  apply KZ
  .intro Y Oo;refine av W W W (r:=.bool true) W<|ah W W<|TL.nil W
  refine A1 ?_
  refine Lo W ?_
  refine A1 ?_
  apply KZ
  .intro Y Oo;refine aK W W W<|aM W W<|aC W W W W W W<|TL.nil W
  refine A1 ?_
  apply KZ
  .intro Y Oo;refine ay W W<|ax W W W<|ay W W<|ax W W W ?_
   (refine aT W W W ?_;rw[C])
   (refine cD W W W (by omega) ?_;rw[U])
   refine D1 W W W (by intro l;rw[<-ahT,C]at l;omega) (by omega) (ja q.ck)<|aA W W<|aC W W W (D2 _) W W<|TL.nil W
  refine A1 ?_
  apply Le mixed
  .intro Y Oo;refine aO W W<|bI W W<|cd W W W<|bE W W W (by decide) V W<|cx W W W<|bG W W W W W<|bt H W W<|bI W W<|cd W W W<|bE W W W (by decide) X W<|cd W W W<|bI W W<|cd W W W<|dU W W W W W<|bc R W W<|bS W W W W W W<|TF.nil ⟨by kernel_rfl,rfl⟩
  exact DC.ret ⟨_,W,_,⟨W,W⟩,G⟩
 by_cases f:e.kd=9
 .rw[f]at g;have g:cC e=1+bh e.kids:=g;obtain rfl:z=.sl (bW q.ck):=p.resolve_right (by rintro⟨_,_,J⟩;omega);have k:=P (by omega);have j:∀k∈e.kids,dK c.en k q.ck.length:= λk f=>by have:=s.mem k f;rwa [agw (by omega),agw (by omega)]at this
  rw[we c.en (by omega) k];have l:=tX o (w.pick [1,0]) e x;obtain⟨_,R,H,⟨rfl,rfl⟩,y,G⟩:=Wk.call (r:=[]) (by rw[agL];exact w) (n8 it c u (gW c.en u.ty e) q.ck (by have:=h.1;omega) (by have:=h.2.1;omega) (by omega));rw[agL]at y;have I:gP (u.new (gW c.en u.ty e) q.ck) (bh e.kids+1):=gP.new (h.le (by rw[g];omega));obtain⟨_,U,H,rfl,A,v⟩:=Wk.call (r:=[]) (by rw[agL];exact y) (rm it c o e n k F x (nX (u.n+1)) q _ j (by omega) I);rw[agL]at A;have B:=fB (nX (u.n+1));rw[Xp.aj (bz _)]at B;rw[e.aj]at l v⊢;generalize gW c.en u.ty e=Q at l G v y A⊢;rw[f];rw[f]at l v;refine Lj func119 W ntmps119 W ?_
  refine A1 ?_
  apply KZ
  .intro S T;refine bp W W<|bp W W<|aM W W<|TL.nil W
  refine A1 ?_
  apply KZ
  .intro S T;refine ay W W<|ax W W W<|TL.nil W
  refine A1 ?_
  refine DC.block ?_
  refine A1 ?_
  apply KZ
  .intro S T;refine av W W W (r:=.bool true) W<|ah W W<|TL.nil W
  refine A1 ?_
  refine Lo W<|DC.skip ?_
  refine A1 ?_
  refine Lo W ?_
  refine A1 ?_
  apply Le mixed
  .intro S T;refine aO W W<|aO W W<|cx W W W<|fO l W W<|bI W W<|cd W W W<|bt G W W<|eX W W<|TF.nil ⟨by kernel_rfl,rfl⟩
  refine A1 ?_
  apply KZ
  .intro S T;refine ai W W<|ai W W<|aK W W W<|aK W W W<|aD v W W<|TL.nil W
  refine A1 ?_
  apply KZ
  .intro S T;refine ai W W<|aL B W W<|aC W W W W W W<|TL.nil W
  rw[Xp.aj];exact DC.ret ⟨_,W,_,⟨W,W⟩,A⟩
 by_cases f:e.kd=10
 .rw[f]at g;have g:cC e=1+bh e.kids:=g;obtain rfl:z=.sl (bW q.ck):=p.resolve_right (by rintro⟨_,_,J⟩;omega);have k:=P (by omega);have j:∀k∈e.kids,dK c.en k q.ck.length:= λk f=>by have:=s.mem k f;rwa [agw (by omega),agw (by omega)]at this
  rw[we c.en (by omega) k];have l:=tX o (w.pick [1,0]) e x;obtain⟨_,R,H,⟨rfl,rfl⟩,y,G⟩:=Wk.call (r:=[]) (by rw[agL];exact w) (n8 it c u (gW c.en u.ty e) q.ck (by have:=h.1;omega) (by have:=h.2.1;omega) (by omega));rw[agL]at y;have I:gP (u.new (gW c.en u.ty e) q.ck) (bh e.kids+1):=gP.new (h.le (by rw[g];omega));obtain⟨_,U,H,rfl,A,v⟩:=Wk.call (r:=[]) (by rw[agL];exact y) (rm it c o e n k F x (nX (u.n+1)) q _ j (by omega) I);rw[agL]at A;have B:=fB (nX (u.n+1));rw[Xp.aj (bz _)]at B;rw[e.aj]at l v⊢;generalize gW c.en u.ty e=Q at l G v y A⊢;rw[f];rw[f]at l v;refine Lj func119 W ntmps119 W ?_
  refine A1 ?_
  apply KZ
  .intro S T;refine bp W W<|bp W W<|aM W W<|TL.nil W
  refine A1 ?_
  apply KZ
  .intro S T;refine ay W W<|ax W W W<|TL.nil W
  refine A1 ?_
  refine DC.block ?_
  refine A1 ?_
  apply KZ
  .intro S T;refine av W W W (r:=.bool false) W<|ah W W<|TL.nil W
  refine A1 ?_
  refine Lc W ?_
  refine A1 ?_
  apply KZ
  .intro S T;refine av W W W (r:=.bool true) W<|ah W W<|TL.nil W
  refine A1 ?_
  refine Lo W ?_
  refine A1 ?_
  apply Le mixed
  .intro S T;refine aO W W<|aO W W<|cx W W W<|fO l W W<|bI W W<|cd W W W<|bt G W W<|eX W W<|TF.nil ⟨by kernel_rfl,rfl⟩
  refine A1 ?_
  apply KZ
  .intro S T;refine ai W W<|ai W W<|aK W W W<|aK W W W<|aD v W W<|TL.nil W
  refine A1 ?_
  apply KZ
  .intro S T;refine ai W W<|aL B W W<|aC W W W W W W<|TL.nil W
  rw[Xp.aj];exact DC.ret ⟨_,W,_,⟨W,W⟩,A⟩
 by_cases f:e.kd=11
 .rw[f]at g;have g:cC e=1+bh e.kids:=g;obtain rfl:z=.sl (bW q.ck):=p.resolve_right (by rintro⟨_,_,co⟩;omega);obtain⟨a,b,l⟩:∃a b,e.kids=[a,b]:=by
   have:=PA f
   match v:e.kids,this with
   |[a,b],_=>exact⟨a,b,W⟩
  have j:=s;rw[agw (by omega),agw (by omega),l,eR,eR]at j;have d5:bh e.kids=cC a+cC b:=by rw[l];simp only[bh];omega
  rw[Cr c.en f l];obtain⟨_,K1,A,⟨rfl,rfl⟩,R,RA⟩:=Wk.call (r:=[]) (by rw[agL];exact w) (n8 it c u (1,⟨#[]⟩) q.ck (by have:=h.1;omega) (by have:=h.2.1;omega) (by omega));rw[agL]at R;have B:gP ((u.new (1,⟨#[]⟩) q.ck).put (oR (nX (u.n+1)) (dS true) (dS false) q.ck q.rs)) (cC a+cC b+1):=gP.np (h.le (by omega));obtain⟨_,K2,A,rfl,S,T⟩:=Wk.call (a:=[_]) (r:=[_]) (R.pick [1,0]) (lm c (u.new (1,⟨#[]⟩) q.ck) (oR (nX (u.n+1)) (dS true) (dS false) q.ck q.rs) (by have:=h.2.2;simp only[NS.new];omega));have PD:(oR (nX (u.n+1)) (dS true) (dS false) q.ck q.rs).cells=kA 2 [nX (u.n+1)] ⟨#[]⟩ (xC (dS true)) (xC (dS false)) [] q.ck q.rs:=by rw[Fq.aj,(dS true).aj,(dS false).aj];rfl
  rw[PD]at T;generalize (u.new (1,⟨#[]⟩) q.ck).put (oR (nX (u.n+1)) (dS true) (dS false) q.ck q.rs)=v at S B⊢;obtain⟨_,K3,A,⟨rfl,rfl⟩,G,H⟩:=Wk.call (r:=[]) (by rw[agL];exact S.pick [1,0]) (n a (by rw[l];simp) q v _ j.1 (by omega) (B.le (by omega)) (.inl W));rw[agL]at G;have U:gP (dl c.en a q.ck q.rs v).2 (cC b+1):=NG (a:=cC a) (B.le (by omega)) (jM c.en a q.ck q.rs v);generalize dl c.en a q.ck q.rs v=y at G H U⊢;obtain⟨_,K4,A,⟨rfl,rfl⟩,I,J⟩:=Wk.call (r:=[]) (by rw[agL];exact G) (n b (by rw[l];simp) q y.2 _ j.2.1 (by omega) U (.inl W));rw[agL]at I;generalize dl c.en b q.ck q.rs y.2=V at I J⊢;have Q:=fB (nX (u.n+1));have X:=mK true;have Y:=mK false;have P7:(e.kids.map Xp.cells)[((0:Nat):Int).toNat]?=some (xC a):=by rw[l,agH,a.aj];rfl
  rw[Xp.aj (bz _)]at Q;rw[Xp.aj (dS _)]at X Y;rw[a.aj,y.1.aj]at H;rw[b.aj,V.1.aj]at J;rw[e.aj,f];refine Lj func119 W ntmps119 W ?_
  refine A1 ?_
  apply KZ
  .intro s0 Oo;refine bp W W<|bp W W<|aM W W<|TL.nil W
  refine A1 ?_
  apply KZ
  .intro s0 Oo;refine ay W W<|ax W W W<|TL.nil W
  refine A1 ?_
  refine DC.block ?_
  refine A1 ?_
  apply KZ
  .intro s0 Oo;refine av W W W (r:=.bool false) W<|ah W W<|TL.nil W
  refine A1 ?_
  refine Lc W ?_
  refine A1 ?_
  apply KZ
  .intro s0 Oo;refine av W W W (r:=.bool false) W<|ah W W<|TL.nil W
  refine A1 ?_
  refine Lc W ?_
  refine A1 ?_
  apply KZ
  .intro s0 Oo;refine av W W W (r:=.bool true) W<|ah W W<|TL.nil W
  refine A1 ?_
  refine Lo W ?_
  refine A1 ?_
  apply KZ
  .intro s0 Oo;refine ai W W<|bX W W W W W<|ay W W<|ax W W W<|aD RA W W<|ah W W<|TL.nil W
  refine A1 ?_
  apply Le mixed
  .intro s0 Oo;refine aO W W<|aO W W<|bm W W W W W W W W<|bc X W W<|bc Y W W<|bI W W<|cd W W W<|bI W W<|cd W W W<|dU W W W W W<|bt T W W<|TF.nil ⟨by kernel_rfl,rfl⟩
  refine A1 ?_
  apply Le mixed
  .intro s0 Oo;refine aO W W<|bI W W<|cd W W W<|bE W W W (by decide) P7 W<|cx W W W<|cx W W W<|bt H W W<|fk W<|bS W W W W W W<|TF.nil ⟨by kernel_rfl,rfl⟩
  refine A1 ?_
  apply Le mixed
  .intro s0 Oo;refine bI W W<|gm W W W<|aO W W<|bc Q W W<|bG W W W W W<|aO W W<|bI W W<|cd W W W<|bE W W W (by decide) (by rw[l,agH,agH,b.aj];rfl) W<|cx W W W<|cx W W W<|bt J W W<|bm W W W W W W W W<|dU W W W W W<|bS W W W W W W<|TF.nil ⟨by kernel_rfl,rfl⟩
  rw[Xp.aj];simp only[Xp.kd,Xp.op,Xp.num,Xp.nm,Xp.names,Xp.kids,Xp.ps,agH,ag1];rw[Xp.aj (bz _),y.1.aj,V.1.aj];exact DC.ret ⟨_,W,_,⟨W,W⟩,I⟩
 by_cases f:e.kd=13
 .rw[f]at g;have g:cC e=1+bh e.kids:=g;obtain rfl:z=.sl (bW q.ck):=p.resolve_right (by rintro⟨_,_,V⟩;omega);have j:∀k∈e.kids,dK c.en k (q.ck.length+1):= λk g=>by have:=s.mem k g;rwa [agw (by omega),agK f]at this
  rw[Cs c.en f];have v:=tX o (w.pick [1,0]) e x;obtain⟨_,Y,G,⟨rfl,rfl⟩,H,I⟩:=Wk.call (r:=[]) (by rw[agL];exact w) (n8 it c u (gW c.en u.ty e) q.ck (by have:=h.1;omega) (by have:=h.2.1;omega) (by omega));rw[agL]at H;have J:gP (u.new (gW c.en u.ty e) q.ck) (bh e.kids+1):=gP.new (h.le (by omega));obtain⟨_,K2,G,⟨rfl,rfl⟩,Q,y⟩:=Wk.call (r:=[]) (by rw[agL];exact H) (Aj it c e n F (ce f) q _ j (by omega) J);rw[agL]at Q;have U:gP (eU c.en e.nm e.names e.kids q.ck q.rs (u.new (gW c.en u.ty e) q.ck)).2 1:=NG (a:=bh e.kids) J (mQ c.en _ _ _ _ _ _);generalize u.new (gW c.en u.ty e) q.ck=T at*;generalize gW c.en u.ty e=X at v I;generalize eU c.en e.nm e.names e.kids q.ck q.rs T=l at*;obtain⟨_,K3,G,rfl,R,A⟩:=Wk.call (a:=[_]) (r:=[_]) (Q.pick [1,0]) (lm c l.2 ⟨1,[nX (u.n+1)],⟨#[]⟩,cg,.mk e.kd e.op e.num e.nm e.names l.1 e.ps,[],q.ck,[]⟩ (by have:=U.2.2;omega));have S:(Fq.mk 1 [nX (u.n+1)] ⟨#[]⟩ cg (.mk e.kd e.op e.num e.nm e.names l.1 e.ps) [] q.ck []).cells=kA 1 [nX (u.n+1)] ⟨#[]⟩ (bD 0 0 0 ⟨#[]⟩ [] [] (0,0)) (bD e.kd e.op e.num e.nm e.names (l.1.map Xp.cells) e.ps) [] q.ck []:=by rw[Fq.aj,cg.aj,Xp.aj];rfl
  rw[S]at A;rw[Xp.aj (.mk e.kd e.op e.num e.nm e.names l.1 e.ps)]at y;have B:=fB (nX (u.n+1));rw[Xp.aj (bz _)]at B;rw[e.aj]at v y⊢;rw[f]at v y A R⊢;refine Lj func119 W ntmps119 W ?_
  refine A1 ?_
  apply KZ
  .intro s0 Oo;refine bp W W<|bp W W<|aM W W<|TL.nil W
  refine A1 ?_
  apply KZ
  .intro s0 Oo;refine ay W W<|ax W W W<|TL.nil W
  refine A1 ?_
  refine DC.block ?_
  refine A1 ?_
  apply KZ
  .intro s0 Oo;refine av W W W (r:=.bool false) W<|ah W W<|TL.nil W
  refine A1 ?_
  refine Lc W ?_
  refine A1 ?_
  apply KZ
  .intro s0 Oo;refine av W W W (r:=.bool false) W<|ah W W<|TL.nil W
  refine A1 ?_
  refine Lc W ?_
  refine A1 ?_
  apply KZ
  .intro s0 Oo;refine av W W W (r:=.bool false) W<|ah W W<|TL.nil W
  refine A1 ?_
  refine Lc W ?_
  refine A1 ?_
  apply KZ
  .intro s0 Oo;refine av W W W (r:=.bool true) W<|ah W W<|TL.nil W
  refine A1 ?_
  refine Lo W ?_
  refine A1 ?_
  apply Le mixed
  .intro s0 Oo;refine aO W W<|aO W W<|cx W W W<|fO v W W<|bI W W<|cd W W W<|bt I W W<|eX W W<|TF.nil ⟨by kernel_rfl,rfl⟩
  refine A1 ?_
  apply Le mixed
  .intro s0 Oo;refine aO W W<|aO W W<|bm W W W W W W W W<|aO W W<|cx W W W<|cx W W W<|bt y W W<|bI W W<|cd W W W<|dU W W W W W<|bt A W W<|TF.nil ⟨by kernel_rfl,rfl⟩
  refine A1 ?_
  apply KZ
  .intro s0 Oo;refine ai W W<|aL B W W<|aC W W W W W W<|TL.nil W
  rw[Xp.aj];exact DC.ret ⟨_,W,_,⟨W,W⟩,R.pick [1,0]⟩
 have k:¬(e.kd=9\/e.kd=10\/e.kd=11\/e.kd=13):=by omega
 rw[agw k,ahq]at g;have j:∀k∈e.kids,dK c.en k q.ck.length:= λk f=>by have:=s.mem k f;rwa [agw t,agw (by omega)]at this
 rw[Ct c.en (by omega) (by omega) (by omega) t];have b9:(e.kd==9)=false:=by simp;omega
 have Ti:(e.kd==10)=false:=by simp;omega
 have Yg:(e.kd==11)=false:=by simp;omega
 have R9:(e.kd==12)=false:=by simp;omega
 have P6:(e.kd==13)=false:=by simp;omega
 have C:(e.kids.map Xp.cells).length=e.kids.length:=by simp
 have w:=w.nil 8;rw[e.aj];refine Lj func119 W ntmps119 W ?_
 refine A1 ?_
 apply KZ
 .intro l v;refine dB W W W W<|bp W W<|aM W W<|TL.nil W
 refine A1 ?_
 apply KZ
 .intro l v;refine aA W W<|aF W W W W<|TL.nil W
 refine A1 ?_
 refine DC.block ?_
 refine A1 ?_
 apply KZ
 .intro l v
  (refine av W W W (r:=.bool false) (by show some (D.bool (e.kd==9))=_;rw[b9]) ?_)
  refine ah W W<|TL.nil W
 refine A1 ?_
 refine Lc W ?_
 refine A1 ?_
 apply KZ
 .intro l v
  (refine av W W W (r:=.bool false) (by show some (D.bool (e.kd==10))=_;rw[Ti]) ?_)
  refine ah W W<|TL.nil W
 refine A1 ?_
 refine Lc W ?_
 refine A1 ?_
 apply KZ
 .intro l v
  (refine av W W W (r:=.bool false) (by show some (D.bool (e.kd==11))=_;rw[Yg]) ?_)
  refine ah W W<|TL.nil W
 refine A1 ?_
 refine Lc W ?_
 refine A1 ?_
 apply KZ
 .intro l v
  (refine av W W W (r:=.bool false) (by show some (D.bool (e.kd==13))=_;rw[P6]) ?_)
  refine ah W W<|TL.nil W
 refine A1 ?_
 refine Lc W ?_
 refine A1 ?_
 apply KZ
 .intro l v
  (refine av W W W (r:=.bool false) (by show some (D.bool (e.kd==12))=_;rw[R9]) ?_)
  refine ah W W<|TL.nil W
 refine A1 ?_
 refine Lc W<|DC.skip ?_
 refine A1 ?_
 apply KZ
 .intro l v;refine ah W W<|TL.nil W
 refine A1 ?_
 apply KZ
 .intro l v;refine aA W W<|aF W W W W ?_
  (refine aT W W W ?_;rw[C])
  refine ai W W<|TL.nil W
 refine A1 ?_
 refine DC.block<|DC.loop (λm j=>∃(i:Nat) (g:M) (f:List (Nat×List M)) (h:Hp),j=⟨[(124,.m (.d (.int .i64 ((i:Nat):Int)))),(123,.m (.d (.int .i64 ((e.kids.length:Nat):Int)))),(122,.m (.d (.sl (e.kids.map Xp.cells)))),(12,.m g),(6,.loc 6 0),(5,.m (.d (.ca (yp q z) 0))),(4,.loc 4 0),(0,.m (.ref c.im 0))],f,h⟩/\
   Go.Mt.get f 4=some ((xC e).map M.d)/\Go.Mt.get f 6=some ((bD 0 0 0 ⟨#[]⟩ [] [] (0,0)).map M.d)/\
   Wk O N [.acc 8 ((dX c.en (e.kids.take i) q.ck q.rs u).1.map Xp.cells) g,.ob it bK,jL c (dX c.en (e.kids.take i) q.ck q.rs u).2] h/\i<=e.kids.length/\m=e.kids.length-i) e.kids.length _
  ⟨0,.d (.sl []),_,_,rfl,rfl,rfl,by rw[agS,lu];exact w,by omega,rfl⟩ W ?_
 rintro m s1 ⟨i,mc,bx,H1,rfl,K,Z,w,hi,rfl⟩
 refine A1 ?_
 apply KZ
 .intro l v;refine av W W W W<|TL.nil W
 refine A1 ?_
 refine DC.cond W (λL=>?_) (λL=>?_)
 .have B:i<e.kids.length:=by have:=agr L;omega
  have H:(e.kids.map Xp.cells)[((i:Nat):Int).toNat]?=some e.kids[i].cells:=by simp[B]
  have y:=qL c.en e.kids[i] (e.kids.take i) q.ck q.rs u;rw[<-agp B]at y;have co:=nj B;have T:gP (dX c.en (e.kids.take i) q.ck q.rs u).2 (cC e.kids[i]+1):=NG (a:=bh (e.kids.take i)) (h.le (by omega)) (lq c.en (e.kids.take i) q.ck q.rs u);have Q:((dX c.en (e.kids.take i) q.ck q.rs u).1.map Xp.cells).length=i:=by
   rw[agt,sS,agM];omega
  have I:=agx B;have R:=n _ I q _ z (j _ I) (by omega) T (p.imp id λ⟨a,b,d⟩=>⟨a,b,by have:=Ah I;omega⟩);obtain⟨_,S,X,⟨rfl,rfl⟩,l,v⟩:=Wk.call (a:=[_,_]) (r:=[_]) (w.pick [1,2,0]) R;have l:Wk O N [.acc 8 ((dX c.en (e.kids.take i) q.ck q.rs u).1.map Xp.cells) mc,.ob it bK,jL c (dl c.en e.kids[i] q.ck q.rs (dX c.en (e.kids.take i) q.ck q.rs u).2).2] S:=l.pick [2,0,1];generalize dX c.en (e.kids.take i) q.ck q.rs u=G at y Q l w v;generalize dl c.en e.kids[i] q.ck q.rs G.2=U at y l v;obtain⟨A,u1⟩:=U;generalize e.kids[i]=J at H v;simp only at v l y;rw[A.aj,J.aj]at v;rw[J.aj]at H;refine DC.skip ?_
  refine A1 ?_
  refine DC.block ?_
  refine A1 ?_
  apply KZ
  .intro Y Oo;refine aN W W W (ago i) H W<|aK W W W<|aM W W<|aC W W W W W W<|TL.nil W
  refine A1 ?_
  apply KZ
  .intro Y Oo;refine ai W W<|ai W W<|aW W W W W W<|aK W W W<|aD v W W<|aU W W W W W W W W<|cX l W W W W W W (by exact cM W) (by rw[Q];simp only[agB];omega)<|ah W W<|TL.nil W
  have l:=l.app [xC A];have V:G.1.map Xp.cells++[xC A]=(G.1++[A]).map Xp.cells:=by rw[agI,agH,A.aj];rfl
  refine A1 ?_
  apply KZ
  .intro Y Oo;refine aI W W W (by omega)<|ai W W<|TL.nil W
  exact bH (k':=e.kids.length-(i+1)) (by omega) ⟨i+1,_,_,_,rfl,K,Z,by rw[y,<-V];exact l,by omega,rfl⟩ W W
 .refine DC.exit ?_;obtain rfl:i=e.kids.length:=by have:=agv L;omega
  rw[agz]at w;refine DC.bg 12 W (w.view (jc _)) ?_;have w:=w.drop;have l:xC e=bD e.kd e.op e.num e.nm e.names (e.kids.map Xp.cells) e.ps:=rfl;rw[l]at K
  refine A1 ?_
  apply KZ
  .intro v y;refine ai W W<|aA W W<|aC W W K W W W<|TL.nil W
  refine A1 ?_
  apply KZ
  .intro v y;refine aW W W W W W<|aC W W Z W W W<|TL.nil W
  rw[Xp.aj];exact DC.ret ⟨_,W,_,⟨W,W⟩,w⟩
termination_by SizeOf.sizeOf e
end Go.Proofs.Pz
namespace Go.Ps
open Go.Mt Go.Sm
variable{en:List En}{e:Xp}{n:Nat}
def kU(q:Fq):Nat:=cC q.e+bh q.args
def IY(en:List En)(q:Fq):Prop:=(q.kd=3->q.args.length<=1000000/\∀a∈q.args,dK en a q.ck.length)/\(q.kd≠3->dK en q.e q.ck.length)/\(q.kd≠2->q.kd≠3->q.lhs≠[])/\q.ck.length+kU q<=800000
def dK.facts(h:dK en e n):(e.kd=9\/e.kd=10->e.kids≠[])/\e.kids.length<=1000000/\(e.kd≠12->e.kd≠13->∀k∈e.kids,dK en k n):=by
 obtain⟨k,a,m,x,c,b,p⟩:=e;rw[dK]at h;exact⟨h.1.2.2.2.2.2.2.1,h.1.2.2.2.2.2.2.2.2.2.2.1,λa b j c=>by have:=h.2.mem j c;rwa [agw (show ¬k=12 from a),agw (show ¬k=13 from b)]at this⟩
def dK.HP(h:dK en e n)(a:e.kd=13):e.kids.length<=e.names.length/\∀k∈e.kids,dK en k (n+1):=by
 obtain⟨k,b,m,x,d,c,p⟩:=e;simp only[Xp.kd]at a;rw[dK]at h;exact⟨h.1.2.2.2.2.2.2.2.2.2.1 a,λj b=>by have:=h.2.mem j b;rwa [agw (by omega),agK a]at this⟩
end Go.Ps
namespace Go.Proofs.Pz
open Go.Mt Go.Sm Go.Ps Go.Proofs
open Tryz
theorem HQ(it:Nat)(c:Fc)(o:kL c.en)(q:Fq)(u:NS)(U:IY c.en q)(g:gP u (kU q+1)):
  Dt prog 62 [.ref c.im 0,.d (.agg q.cells)] [.ob it bK,jL c u] λr l=>l=[.ob it bK,jL c (qJ c.en u q)]:=by
 obtain⟨V,X,Q,Y⟩:=U;intro S T Z;have w:=Wk.start Z;unfold kU at g Y;unfold qJ;by_cases p:q.kd=3
 .obtain⟨ML,ac⟩:=V p;rw[agK p];have t:(q.kd==3)=true:=by simp[p]
  have w:=w.nil 8;have am:(q.args.map Xp.cells).length=q.args.length:=by simp
  rw[gC];refine Lj func62 W ntmps62 W ?_
  refine A1 ?_
  apply KZ
  .intro n B;refine dB W W W W<|TL.nil W
  refine A1 ?_
  refine DC.block ?_
  refine A1 ?_
  apply KZ
  .intro n B;refine aA W W<|aF W W W W ?_
   (refine av W W W (r:=.bool true) (by show some (D.bool (q.kd==3))=_;rw[t]) ?_)
   refine ah W W<|TL.nil W
  refine A1 ?_
  refine Lo W ?_
  refine A1 ?_
  apply KZ
  .intro n B;refine ah W W<|TL.nil W
  refine A1 ?_
  apply KZ
  .intro n B;refine aA W W<|aF W W W W ?_
   (refine aT W W W ?_;rw[am])
   refine ai W W<|TL.nil W
  refine A1 ?_
  refine DC.block<|DC.loop (λm g=>∃(i:Nat) (b:M) (d:List (Nat×List M)) (f:Hp),g=⟨[(21,.m (.d (.int .i64 ((i:Nat):Int)))),(20,.m (.d (.int .i64 ((q.args.length:Nat):Int)))),(19,.m (.d (.sl (q.args.map Xp.cells)))),(4,.m b),(3,.loc 3 0),(0,.m (.ref c.im 0))],d,f⟩/\
    Go.Mt.get d 3=some ((yp q (.sl (bW q.ck))).map M.d)/\
    Wk T S [.acc 8 ((dX c.en (q.args.take i) q.ck q.rs u).1.map Xp.cells) b,.ob it bK,jL c (dX c.en (q.args.take i) q.ck q.rs u).2] f/\i<=q.args.length/\m=q.args.length-i) q.args.length _
   ⟨0,.d (.sl []),_,_,rfl,rfl,by rw[agS,lu];exact w,by omega,rfl⟩ W ?_
  rintro m s1 ⟨i,mc,bx,H1,rfl,J,w,hi,rfl⟩
  refine A1 ?_
  apply KZ
  .intro n B;refine av W W W W<|TL.nil W
  refine A1 ?_
  refine DC.cond W (λhc=>?_) (λhc=>?_)
  .have F:i<q.args.length:=by grind
   have K:(q.args.map Xp.cells)[((i:Nat):Int).toNat]?=some q.args[i].cells:=by simp[F]
   have B:=qL c.en q.args[i] (q.args.take i) q.ck q.rs u;rw[<-agp F]at B;have j:=lq c.en (q.args.take i) q.ck q.rs u;have ce:=nj F;have MO:((dX c.en (q.args.take i) q.ck q.rs u).1.map Xp.cells).length=i:=by
    rw[agt,sS,agM];omega
   obtain⟨_,G,k,⟨rfl,rfl⟩,n,b⟩:=Wk.call (a:=[_,_]) (r:=[_]) (w.pick [1,2,0]) (j0 it c o _ q _ _ (ac _ (agx F)) (by omega) (NG (a:=bh (q.args.take i)) (g.le (by omega)) j) (.inl W));have n:=n.pick [2,0,1];generalize dX c.en (q.args.take i) q.ck q.rs u=L at B MO n w b;generalize dl c.en q.args[i] q.ck q.rs L.2=d at B n b;obtain⟨C,u1⟩:=d;generalize q.args[i]=P at K b;simp only at b n B;rw[C.aj,P.aj]at b;rw[P.aj]at K;refine DC.skip ?_
   refine A1 ?_
   refine DC.block ?_
   refine A1 ?_
   apply KZ
   .intro s0 Oo;refine aN W W W (ago i) K W<|aK W W W<|aM W W<|aC W W W W W W<|TL.nil W
   refine A1 ?_
   apply KZ
   .intro s0 Oo;refine ai W W<|ai W W<|aW W W W W W<|aW W W J W W<|aD b W W<|aU W W W W W W W W<|cX n W W W W W W (by exact cM W) (by grind)<|ah W W<|TL.nil W
   have n:=n.app [xC C];have Me:L.1.map Xp.cells++[xC C]=(L.1++[C]).map Xp.cells:=by rw[agI,agH,C.aj];rfl
   refine A1 ?_
   apply KZ
   .intro s0 Oo;refine aI W W W (by omega)<|ai W W<|TL.nil W
   exact bH (k':=q.args.length-(i+1)) (by omega) ⟨i+1,_,_,_,rfl,J,by rw[B,<-Me];exact n,by omega,rfl⟩ W W
  refine DC.exit ?_;obtain rfl:i=q.args.length:=by grind
  rw[agz]at w;refine DC.bg 4 W (w.view (jc _)) ?_;have w:=w.drop;have j:=lq c.en q.args q.ck q.rs u;have v:gP (dX c.en q.args q.ck q.rs u).2 1:=NG (a:=bh q.args) (g.le (by omega)) j;generalize dX c.en q.args q.ck q.rs u=d at*;obtain⟨_,G,k,rfl,x,h⟩:=Wk.call (a:=[_]) (r:=[_]) (w.pick [1,0]) (lm c d.2 {q with args:=d.1} (by have:=v.2.2;omega));rw[gC]at h
  refine A1 ?_
  apply KZ
  .intro n B;refine ai W W<|aA W W<|aC W W J W W W<|TL.nil W
  refine A1 ?_
  apply KZ
  .intro n B;refine ai W W<|aW W W W W W<|aD h W W<|TL.nil W
  exact⟨_,W,_,W,x.pick [1,0]⟩
 rw[agw p];have s:=X p;have t:(q.kd==3)=false:=by simp[p]
 by_cases y:q.kd=2
 .rw[agK y];have z:(q.kd==2)=true:=by simp[y]
  have j:=jM c.en q.e q.ck q.rs u;obtain⟨_,H,k,⟨rfl,rfl⟩,f,b⟩:=Wk.call (r:=[]) (by rw[agL];exact w) (j0 it c o q.e q u _ s (by omega) (g.le (by omega)) (.inl W));rw[agL]at f;have v:gP (dl c.en q.e q.ck q.rs u).2 1:=NG (a:=cC q.e) (g.le (by omega)) j;generalize dl c.en q.e q.ck q.rs u=d at*;obtain⟨_,G,k,rfl,x,h⟩:=Wk.call (a:=[_]) (r:=[_]) (f.pick [1,0]) (lm c d.2 {q with e:=d.1} (by have:=v.2.2;omega));rw[gC]at h;rw[q.e.aj,d.1.aj]at b;rw[gC];refine Lj func62 W ntmps62 W ?_
  refine A1 ?_
  apply KZ
  .intro i n;refine dB W W W W<|TL.nil W
  refine A1 ?_
  refine DC.block ?_
  refine A1 ?_
  apply KZ
  .intro i n;refine aA W W<|aF W W W W ?_
   (refine av W W W (r:=.bool false) (by show some (D.bool (q.kd==3))=_;rw[t]) ?_)
   refine ah W W<|TL.nil W
  refine A1 ?_
  refine Lc W ?_
  refine A1 ?_
  apply KZ
  .intro i n;refine aA W W<|aF W W W W ?_
   (refine av W W W (r:=.bool true) (by show some (D.bool (q.kd==2))=_;rw[z]) ?_)
   refine ah W W<|TL.nil W
  refine A1 ?_
  refine Lo W ?_
  refine A1 ?_
  apply KZ
  .intro i n;refine ai W W<|aA W W<|aW W W W W W<|aW W W W W W<|aD b W W<|aA W W<|aC W W W W W W<|TL.nil W
  refine A1 ?_
  apply KZ
  .intro i n;refine ai W W<|aW W W W W W<|aD h W W<|TL.nil W
  exact⟨_,W,_,W,x.pick [1,0]⟩
 rw[agw y];have z:(q.kd==2)=false:=by simp[y]
 by_cases N:q.e.kd=9
 .have A:(q.e.kd==9)=true:=by simp[N]
  have B:q.e.kd=9\/q.e.kd=10:=by omega
  rw[agK B];have L:cC q.e=1+bh q.e.kids:=by rw[pD,agK (by omega)]
  have i:=dK.facts s;obtain⟨n,P,C⟩:=ah1 (Q y p);have F:(aR q.lhs)[((0:Nat):Int).toNat]?=some [.str n]:=by rw[C];rfl
  obtain⟨_,H,k,rfl,f,b⟩:=Wk.call (r:=[]) (by rw[agL];exact w) (rm it c o q.e (λk _=>j0 it c o k) (i.1 B) i.2.1 (dK.ty s) n q u (i.2.2 (by omega) (by omega)) (by omega) (g.le (by omega)));rw[agL]at f;rw[C,aiO,aiF];rw[q.e.aj]at b;rw[gC];refine Lj func62 W ntmps62 W ?_
  refine A1 ?_
  apply KZ
  .intro J K;refine dB W W W W<|TL.nil W
  refine A1 ?_
  refine DC.block ?_
  refine A1 ?_
  apply KZ
  .intro J K;refine aA W W<|aF W W W W ?_
   (refine av W W W (r:=.bool false) (by show some (D.bool (q.kd==3))=_;rw[t]) ?_)
   refine ah W W<|TL.nil W
  refine A1 ?_
  refine Lc W ?_
  refine A1 ?_
  apply KZ
  .intro J K;refine aA W W<|aF W W W W ?_
   (refine av W W W (r:=.bool false) (by show some (D.bool (q.kd==2))=_;rw[z]) ?_)
   refine ah W W<|TL.nil W
  refine A1 ?_
  refine Lc W ?_
  refine A1 ?_
  apply KZ
  .intro J K;refine aA W W<|aA W W<|aF W W W W ?_
   (refine av W W W (r:=.bool true) (by show some (D.bool (q.e.kd==9))=_;rw[A]) ?_)
   refine ai W W<|aQ W W<|aQ W W<|aQ W W<|aQ W W<|cH W W W<|ah W W<|TL.nil W
  refine A1 ?_
  refine Lo W ?_
  refine A1 ?_
  apply Le mixed
  .intro J K;refine aO W W<|aX W W<|bC W W W W<|bE W W W (by decide) F W<|cd W W W<|aX W W<|bG W W W W W<|bG W W W W W<|bt b W W<|TF.nil ⟨by kernel_rfl,rfl⟩
  exact DC.ret ⟨_,W,_,W,f⟩
 by_cases R:q.e.kd=10
 .have A:(q.e.kd==9)=false:=by simp[N]
  have I:(q.e.kd==10)=true:=by simp[R]
  have B:q.e.kd=9\/q.e.kd=10:=by omega
  rw[agK B];have L:cC q.e=1+bh q.e.kids:=by rw[pD,agK (by omega)]
  have i:=dK.facts s;obtain⟨n,P,C⟩:=ah1 (Q y p);have F:(aR q.lhs)[((0:Nat):Int).toNat]?=some [.str n]:=by rw[C];rfl
  obtain⟨_,H,k,rfl,f,b⟩:=Wk.call (r:=[]) (by rw[agL];exact w) (rm it c o q.e (λk _=>j0 it c o k) (i.1 B) i.2.1 (dK.ty s) n q u (i.2.2 (by omega) (by omega)) (by omega) (g.le (by omega)));rw[agL]at f;rw[C,aiO,aiF];rw[q.e.aj]at b;rw[gC];refine Lj func62 W ntmps62 W ?_
  refine A1 ?_
  apply KZ
  .intro J K;refine dB W W W W<|TL.nil W
  refine A1 ?_
  refine DC.block ?_
  refine A1 ?_
  apply KZ
  .intro J K;refine aA W W<|aF W W W W ?_
   (refine av W W W (r:=.bool false) (by show some (D.bool (q.kd==3))=_;rw[t]) ?_)
   refine ah W W<|TL.nil W
  refine A1 ?_
  refine Lc W ?_
  refine A1 ?_
  apply KZ
  .intro J K;refine aA W W<|aF W W W W ?_
   (refine av W W W (r:=.bool false) (by show some (D.bool (q.kd==2))=_;rw[z]) ?_)
   refine ah W W<|TL.nil W
  refine A1 ?_
  refine Lc W ?_
  refine A1 ?_
  apply KZ
  .intro J K;refine aA W W<|aA W W<|aF W W W W ?_
   (refine av W W W (r:=.bool false) (by show some (D.bool (q.e.kd==9))=_;rw[A]) ?_)
   refine ai W W<|aE W ?_;refine aA W W ?_;refine aE W ?_;refine aA W W ?_;refine aE W ?_;refine aF W W W W ?_;refine aE W ?_;refine av W W W (r:=.bool true) (by show some (D.bool (q.e.kd==10))=_;rw[I]) ?_;refine cH W W W<|ah W W<|TL.nil W
  refine A1 ?_
  refine Lo W ?_
  refine A1 ?_
  apply Le mixed
  .intro J K;refine aO W W<|aX W W<|bC W W W W<|bE W W W (by decide) F W<|cd W W W<|aX W W<|bG W W W W W<|bG W W W W W<|bt b W W<|TF.nil ⟨by kernel_rfl,rfl⟩
  exact DC.ret ⟨_,W,_,W,f⟩
 rw[agw (by omega)];have A:(q.e.kd==9)=false:=by simp[N]
 have I:(q.e.kd==10)=false:=by simp[R]
 by_cases E:q.e.kd=13
 .rw[agK E];have O:(q.e.kd==13)=true:=by simp[E]
  have n:=dK.facts s;have i:=dK.HP s E;have F:cC q.e=1+bh q.e.kids:=by rw[pD,agK (by omega)]
  have j:=mQ c.en q.e.nm q.e.names q.e.kids q.ck q.rs u;obtain⟨_,H,k,⟨rfl,rfl⟩,f,b⟩:=Wk.call (r:=[]) (by rw[agL];exact w) (Aj it c q.e (λk _=>j0 it c o k) n.2.1 i.1 q u i.2 (by omega) (g.le (by omega)));rw[agL]at f;have v:gP (eU c.en q.e.nm q.e.names q.e.kids q.ck q.rs u).2 1:=NG (a:=bh q.e.kids) (g.le (by omega)) j;generalize eU c.en q.e.nm q.e.names q.e.kids q.ck q.rs u=d at*;obtain⟨_,G,k,rfl,x,h⟩:=Wk.call (a:=[_]) (r:=[_]) (f.pick [1,0]) (lm c d.2 {q with e:=.mk q.e.kd q.e.op q.e.num q.e.nm q.e.names d.1 q.e.ps,rs:=[]} (by have:=v.2.2;omega));rw[gC]at h;rw[q.e.aj,Xp.aj]at b;rw[gC];refine Lj func62 W ntmps62 W ?_
  refine A1 ?_
  apply KZ
  .intro B C;refine dB W W W W<|TL.nil W
  refine A1 ?_
  refine DC.block ?_
  refine A1 ?_
  apply KZ
  .intro B C;refine aA W W<|aF W W W W ?_
   (refine av W W W (r:=.bool false) (by show some (D.bool (q.kd==3))=_;rw[t]) ?_)
   refine ah W W<|TL.nil W
  refine A1 ?_
  refine Lc W ?_
  refine A1 ?_
  apply KZ
  .intro B C;refine aA W W<|aF W W W W ?_
   (refine av W W W (r:=.bool false) (by show some (D.bool (q.kd==2))=_;rw[z]) ?_)
   refine ah W W<|TL.nil W
  refine A1 ?_
  refine Lc W ?_
  refine A1 ?_
  apply KZ
  .intro B C;refine aA W W<|aA W W<|aF W W W W ?_
   (refine av W W W (r:=.bool false) (by show some (D.bool (q.e.kd==9))=_;rw[A]) ?_)
   refine ai W W<|aE W ?_;refine aA W W ?_;refine aE W ?_;refine aA W W ?_;refine aE W ?_;refine aF W W W W ?_;refine aE W ?_;refine av W W W (r:=.bool false) (by show some (D.bool (q.e.kd==10))=_;rw[I]) ?_;refine cH W W W<|ah W W<|TL.nil W
  refine A1 ?_
  refine Lc W ?_
  refine A1 ?_
  apply KZ
  .intro B C;refine aA W W<|aA W W<|aF W W W W ?_
   (refine av W W W (r:=.bool true) (by show some (D.bool (q.e.kd==13))=_;rw[O]) ?_)
   refine ah W W<|TL.nil W
  refine A1 ?_
  refine Lo W ?_
  refine A1 ?_
  apply KZ
  .intro B C;refine ai W W<|aA W W<|aW W W W W W<|aW W W W W W<|aD b W W<|aA W W<|aC W W W W W W<|TL.nil W
  refine A1 ?_
  apply KZ
  .intro B C;refine aA W W<|aC W W W W W W<|TL.nil W
  refine A1 ?_
  apply KZ
  .intro B C;refine ai W W<|aW W W W W W<|aD h W W<|TL.nil W
  exact⟨_,W,_,W,x.pick [1,0]⟩
 rw[agw E];have O:(q.e.kd==13)=false:=by simp[E]
 have j:=jM c.en q.e q.ck q.rs u;obtain⟨_,H,k,⟨rfl,rfl⟩,f,b⟩:=Wk.call (r:=[]) (by rw[agL];exact w) (j0 it c o q.e q u _ s (by omega) (g.le (by omega)) (.inl W));rw[agL]at f;have v:gP (dl c.en q.e q.ck q.rs u).2 1:=NG (a:=cC q.e) (g.le (by omega)) j;generalize dl c.en q.e q.ck q.rs u=d at*;obtain⟨_,G,k,rfl,x,h⟩:=Wk.call (a:=[_]) (r:=[_]) (f.pick [1,0]) (lm c d.2 {q with e:=d.1,rs:=[]} (by have:=v.2.2;omega));rw[gC]at h;rw[q.e.aj,d.1.aj]at b;rw[gC];refine Lj func62 W ntmps62 W ?_
 refine A1 ?_
 apply KZ
 .intro i n;refine dB W W W W<|TL.nil W
 refine A1 ?_
 refine DC.block ?_
 refine A1 ?_
 apply KZ
 .intro i n;refine aA W W<|aF W W W W ?_
  (refine av W W W (r:=.bool false) (by show some (D.bool (q.kd==3))=_;rw[t]) ?_)
  refine ah W W<|TL.nil W
 refine A1 ?_
 refine Lc W ?_
 refine A1 ?_
 apply KZ
 .intro i n;refine aA W W<|aF W W W W ?_
  (refine av W W W (r:=.bool false) (by show some (D.bool (q.kd==2))=_;rw[z]) ?_)
  refine ah W W<|TL.nil W
 refine A1 ?_
 refine Lc W ?_
 refine A1 ?_
 apply KZ
 .intro i n;refine aA W W<|aA W W<|aF W W W W ?_
  (refine av W W W (r:=.bool false) (by show some (D.bool (q.e.kd==9))=_;rw[A]) ?_)
  refine ai W W<|aE W ?_;refine aA W W ?_;refine aE W ?_;refine aA W W ?_;refine aE W ?_;refine aF W W W W ?_;refine aE W ?_;refine av W W W (r:=.bool false) (by show some (D.bool (q.e.kd==10))=_;rw[I]) ?_;refine cH W W W<|ah W W<|TL.nil W
 refine A1 ?_
 refine Lc W ?_
 refine A1 ?_
 apply KZ
 .intro i n;refine aA W W<|aA W W<|aF W W W W ?_
  (refine av W W W (r:=.bool false) (by show some (D.bool (q.e.kd==13))=_;rw[O]) ?_)
  refine ah W W<|TL.nil W
 refine A1 ?_
 refine Lc W ?_
 refine A1 ?_
 apply KZ
 .intro i n;refine ai W W<|aA W W<|aW W W W W W<|aW W W W W W<|aD b W W<|aA W W<|aC W W W W W W<|TL.nil W
 refine A1 ?_
 apply KZ
 .intro i n;refine aA W W<|aC W W W W W W<|TL.nil W
 refine A1 ?_
 apply KZ
 .intro i n;refine ai W W<|aW W W W W W<|aD h W W<|TL.nil W
 exact⟨_,W,_,W,x.pick [1,0]⟩
end Go.Proofs.Pz
namespace Go.Ps
open Go.Mt Go.Sm
variable{i k:Nat}{F0:Nat->Prop}{H0 H:Hp}{f:Nm->Int×Nm}{r:List As}{u v:NS}
def yQ(i:Nat)(f:Nm->Int×Nm):As:=.ex λa:List (D×M)=>Sep [.ob i (.map a),.fact (kX a f)]
def yQ.close{es:List (D×M)}(h:kX es f)(w:Wk F0 H0 (.ob i (.map es)::r) H):Wk F0 H0 (yQ i f::r) H:=
 Ng (φ:= λes:List (D×M)=>Sep [.ob i (.map es),.fact (kX es f)]) es (MP (a:=[_,_]) ((Wk.zI h w).perm (List.Perm.swap _ _ _)))
def yQ.open(w:Wk F0 H0 (yQ i f::r) H):∃es,kX es f/\Wk F0 H0 (.ob i (.map es)::r) H:=by
 obtain⟨es,w⟩:=w.open;have w:=Wk.split (a:=[_,_]) w;have w:=w.perm (List.Perm.swap _ _ _);exact⟨es,w.BO,w.drop⟩
def Gb:jK []= λ_=>(0,⟨#[]⟩):=rfl
def D4(l:List Va)(v:Va):jK (l++[v])= λy=>if y=v.name then(v.tk,v.tn)else jK l y:=by
 funext y
 unfold jK;rw[aiR,ajh,ajp,ajk];by_cases h:v.name=y
 .grind
 .grind
structure Gq(u v:NS)(k j:Nat):Prop where
 n:v.n<=u.n+k
 vs:v.vars.length<=u.vars.length+k
 q:v.eqs.length<=u.eqs.length+k+j
def Gr.gq{q:Fq}(h:Gr u v k):Gq u (v.put q) k 1:=by
 obtain⟨a,b,c⟩:=h;exact⟨by simp only[NS.put];omega,by simp only[NS.put];omega,by simp only[NS.put,agq,agB];omega⟩
def Gq.le{k' j:Nat}(h:Gq u v k j)(d:k<=k'):Gq u v k' j:=by
 obtain⟨a,b,c⟩:=h;exact⟨by omega,by omega,by omega⟩
def IZ(en:List En)(u:NS)(q:Fq):Gq u (qJ en u q) (kU q) 1:=by
 unfold qJ kU;split
 .exact((lq en q.args q.ck q.rs u).gq).le (by omega)
 split
 .exact((jM en q.e q.ck q.rs u).gq).le (by omega)
 split
 .rename_i h;exact((qK en q.e.kids q.ck q.rs u).gq).le (by rw[pD];omega)
 split
 .exact((mQ en q.e.nm q.e.names q.e.kids q.ck q.rs u).gq).le (by rw[pD];omega)
 .exact((jM en q.e q.ck q.rs u).gq).le (by omega)
def yr(en:List En):∀(l:List Fq) (u:NS),Gq u (l.foldl (qJ en) u) (l.map kU).sum l.length
 |[],u=>⟨by simp,by simp,by simp⟩
 |q::l,u=>by
  obtain⟨a,b,c⟩:=IZ en u q;obtain⟨d,e,f⟩:=yr en l (qJ en u q);simp only[agy,agH,ai4,agA];exact⟨by omega,by omega,by omega⟩
def Ak{l:List Fq}(h:i<l.length):((l.take i).map kU).sum+kU l[i]<=(l.map kU).sum:=by
 induction l generalizing i with
 |nil=>simp at h
 |cons b l a=>
  cases i with
  |zero=>simp
  |succ i=>simp only[agA,Nat.add_lt_add_iff_right]at h;have:=a h;simp only[ahg,agH,ai4,ahE];omega
def D5(en:List En)(f:Fl):Prop:=f.ins.length+f.outs.length+f.vars.length<=20000000/\f.eqs.length<=20000000/\(f.eqs.map kU).sum<=40000000/\∀q∈f.eqs,IY en q
end Go.Ps
namespace Go.Proofs.Pz
open Go.Mt Go.Sm Go.Ps Go.Proofs
open Tryz
def yu(it:Nat)(en:List En)(E:kL en)(f:Fl)(G:D5 en f):
  Dt prog 19 [.d (.sl (en.map En.cells)),.d (.agg f.cells)] [.ob it bK] λr l=>r=.d (.agg (yl en f).cells)/\l=[.ob it bK]:=by
 obtain⟨I,QE,M0,J⟩:=G;intro H F K;have w:=Wk.start K;rw[Fl.aj,fx];obtain⟨L,p⟩:∃L,L=f.ins++f.outs++f.vars:=⟨_,rfl⟩;have XU:L.length<=20000000:=by rw[p];simp only[agq];exact I
 have z:=v7 f.ins f.outs f.vars (by omega);rw[<-p]at z;have Y:(aB L).length=L.length:=by simp[aB]
 have U:(f.eqs.map Fq.cells).length=f.eqs.length:=by simp
 have N:yl en f=⟨f.name,f.ins,f.outs,(f.eqs.foldl (qJ en) ⟨0,f.vars,[],jK L⟩).vars,(f.eqs.foldl (qJ en) ⟨0,f.vars,[],jK L⟩).eqs⟩:=by rw[p];rfl
 rw[N];obtain⟨c,g⟩:∃c:Fc,c=⟨en,f.name,f.ins,f.outs,H.length+1,H.length⟩:=⟨_,rfl⟩;have q:c.en=en:=by rw[g]
 have V:c.ic=H.length:=by rw[g]
 have X:c.im=H.length+1:=by rw[g]
 have w:=(w.new (.map []));have A:(H++[Ob.map []]).length=c.im:=by rw[X];simp
 have w:=w.new (.box (c.cs (.d (.sl [])) (.d (.sl [])) 0));rw[A,<-V]at w;refine Lj func19 W ntmps19 W ?_
 refine A1 ?_
 apply KZ
 .intro n o;refine bp W W<|aM W W<|TL.nil W
 refine A1 ?_
 apply KZ
 .intro n o;refine ai W W<|ay W W<|ax W W W<|ay W W<|ax W W W<|ay W W<|ax W W W<|bX W W W W W<|jn W<|mJ (cs:=[.d (.sl (en.map En.cells)),.d (.str f.name),.d (.sl (aB f.ins)),.d (.sl (aB f.outs)),.d (.sl []),.d (.sl []),.mp H.length,.d (.int .i64 0)]) W W W W<|nP W W (fu _)<|ah W W<|TL.nil W
 obtain⟨m,B⟩:∃g,g=H++[Ob.map []]++[Ob.box (c.cs (.d (.sl [])) (.d (.sl [])) 0)]:=⟨_,rfl⟩;rw[<-B]at w;refine LF [(5,.m (.ref c.im 0)),(4,.loc 4 0),(3,.m (.d (.ca [.str f.name,.sl (aB f.ins),.sl (aB f.outs),.sl (aB f.vars),.sl (f.eqs.map Fq.cells)] 0)))] m (by rw[<-A];rfl) (by rw[B,g];rfl) ?_;obtain⟨s,K1,O,rfl,w,P⟩:=Wk.call (a:=[]) w (pq f.vars (by omega));have w:=w;have Q:=w.zS;have w:=w.pick [1,0,2,3];have h:=w.ob;have w:=w.set (.box (c.cs s (.d (.sl [])) 0))
 refine A1 ?_
 apply KZ
 .intro n o;refine ai W W<|ay W W<|ax W W W<|aD P W W<|dG W W W<|eB W W<|eB W W<|c8 W W h Q W W<|TL.nil W
 refine A1 ?_
 apply KZ
 .intro n o;refine ay W W<|ax W W W<|ay W W<|ax W W W<|ay W W<|ax W W W<|aU W W W W W W W W<|aL z W W ?_
  (refine aT W W W ?_;rw[Y])
  refine ai W W<|TL.nil W
 have w:=yQ.close kX.nil (w.pick [2,0,1,3])
 refine A1 ?_
 refine DC.block<|DC.loop (λk j=>∃(i:Nat) (h:List (Nat×List M)) (g:Hp),j=⟨[(37,.m (.d (.int .i64 ((i:Nat):Int)))),(36,.m (.d (.int .i64 ((L.length:Nat):Int)))),(35,.m (.d (.sl (aB L)))),(5,.m (.ref c.im 0)),(4,.loc 4 0),(3,.m (.d (.ca [.str f.name,.sl (aB f.ins),.sl (aB f.outs),.sl (aB f.vars),.sl (f.eqs.map Fq.cells)] 0)))],h,g⟩/\Go.Mt.get h 4=some [.d (.str ⟨#[]⟩),.d (.sl []),.d (.sl []),.d (.sl []),.d (.sl [])]/\
   Wk F H [yQ c.ic (jK (L.take i)),.ob c.im (.box (c.cs s (.d (.sl [])) 0)),.acc 15 (aB f.vars) s,.ob it bK] g/\i<=L.length/\k=L.length-i) L.length _
  ⟨0,_,_,rfl,rfl,by rw[agS,Gb];exact w,by omega,rfl⟩ W ?_
 rintro D R ⟨i,S,m,rfl,j,w,T,rfl⟩
 refine A1 ?_
 apply KZ
 .intro n o;refine av W W W W<|TL.nil W
 refine A1 ?_
 refine DC.cond W (λg=>?_) (λg=>?_)
 .have t:i<L.length:=by have:=agr g;omega
  have n:=kN t;have o:jK (L.take (i+1))= λy=>if y=L[i].name then(L[i].tk,L[i].tn)else jK (L.take i) y:=by rw[agp t,D4]
  generalize jK (L.take i)=Z at w o;generalize L[i]=v at n o;rw[v.aj]at n;obtain⟨y,k,w⟩:=yQ.open w;have h:=(w.pick [1,0,2,3]).ob;refine DC.skip ?_
  refine A1 ?_
  refine DC.block ?_
  refine A1 ?_
  apply KZ
  .intro x C;refine aN W W W (ago i) n W<|aK W W W<|aM W W<|aC W W W W W W<|TL.nil W
  refine A1 ?_
  apply Le mixed
  .intro x C;refine aO W W<|bO W W W<|bJ W W<|dy W W h W<|aX W W<|bC W W W W<|aX W W<|bG W W W W W<|pa W W W w.ob k.k<|TF.nil ⟨by kernel_rfl,rfl⟩
  refine A1 ?_
  apply KZ
  .intro x C;refine aI W W W (by omega)<|ai W W<|TL.nil W
  exact bH (k':=L.length-(i+1)) (by omega) ⟨i+1,_,_,rfl,j,by rw[o];exact(yQ.close (k.set v.name (v.tk,v.tn)) (w.set (.map (dH v.name (.d (.agg (fH (v.tk,v.tn)))) y)))),by omega,rfl⟩ W W
 refine DC.exit ?_;obtain rfl:i=L.length:=by have:=agv g;omega
 rw[agz]at w;clear g;have w:Wk F H [.ob it bK,jL c ⟨0,f.vars,[],jK L⟩] m:=by
  obtain⟨y,k,w⟩:=yQ.open w;have w:=(w.nil 22).pick [2,3,0,1,4];exact(jL.close (u:=⟨0,f.vars,[],jK L⟩) k w).pick [1,0]
 refine A1 ?_
 apply KZ
 .intro n o;refine ay W W<|ax W W W ?_
  (refine aT W W W ?_;rw[U])
  refine ai W W<|TL.nil W
 refine A1 ?_
 refine DC.block<|DC.loop (λk j=>∃(i:Nat) (h:List (Nat×List M)) (g:Hp),j=⟨[(53,.m (.d (.int .i64 ((i:Nat):Int)))),(52,.m (.d (.int .i64 ((f.eqs.length:Nat):Int)))),(51,.m (.d (.sl (f.eqs.map Fq.cells)))),(5,.m (.ref c.im 0)),(4,.loc 4 0)],h,g⟩/\Go.Mt.get h 4=some [.d (.str ⟨#[]⟩),.d (.sl []),.d (.sl []),.d (.sl []),.d (.sl [])]/\
   Wk F H [.ob it bK,jL c ((f.eqs.take i).foldl (qJ en) ⟨0,f.vars,[],jK L⟩)] g/\i<=f.eqs.length/\k=f.eqs.length-i) f.eqs.length _
  ⟨0,_,_,rfl,j,w,by omega,rfl⟩ W ?_
 rintro D R ⟨i,S,m,rfl,j,w,T,rfl⟩
 refine A1 ?_
 apply KZ
 .intro n o;refine av W W W W<|TL.nil W
 refine A1 ?_
 refine DC.cond W (λg=>?_) (λg=>?_)
 .have n:i<f.eqs.length:=by have:=agr g;omega
  have t:(f.eqs.map Fq.cells)[((i:Nat):Int).toNat]?=some f.eqs[i].cells:=by simp[n]
  have x:(f.eqs.take (i+1)).foldl (qJ en) ⟨0,f.vars,[],jK L⟩=qJ en ((f.eqs.take i).foldl (qJ en) ⟨0,f.vars,[],jK L⟩) f.eqs[i]:=by
   rw[agp n,ag7];rfl
  have o:=HQ it c (by rw[q];exact E) f.eqs[i] ((f.eqs.take i).foldl (qJ en) ⟨0,f.vars,[],jK L⟩) (by rw[q];exact J _ (agx n)) (by
   obtain⟨a,b,d⟩:=yr en (f.eqs.take i) ⟨0,f.vars,[],jK L⟩;have h1:=Ak n;have h2:(f.eqs.take i).length<=20000000:=by rw[agM];omega
   simp only[List.length_nil]at a b d;exact⟨by omega,by omega,by omega⟩)
  rw[q]at o;generalize (f.eqs.take i).foldl (qJ en) ⟨0,f.vars,[],jK L⟩=u1 at w x o;generalize f.eqs[i]=e at t x o;obtain⟨Z,K3,O,rfl,w,C⟩:=Wk.call (r:=[]) (by rw[agL];exact w) o;rw[agL]at w;rw[gC]at t C;refine DC.skip ?_
  refine A1 ?_
  refine DC.block ?_
  refine A1 ?_
  apply KZ
  .intro s0 Oo;refine aN W W W (ago i) t W<|aK W W W<|aM W W<|aC W W W W W W<|TL.nil W
  refine A1 ?_
  apply KZ
  .intro s0 Oo;refine ai W W<|aW W W W W W<|aD C W W<|TL.nil W
  refine A1 ?_
  apply KZ
  .intro s0 Oo;refine aI W W W (by omega)<|ai W W<|TL.nil W
  exact bH (k':=f.eqs.length-(i+1)) (by omega) ⟨i+1,_,_,rfl,j,by rw[x];exact w,by omega,rfl⟩ W W
 refine DC.exit ?_;obtain rfl:i=f.eqs.length:=by have:=agv g;omega
 rw[agz]at w;clear g;generalize f.eqs.foldl (qJ en) ⟨0,f.vars,[],jK L⟩=u at w⊢;obtain⟨Rh,Ya,y,k,w⟩:=jL.open (w.pick [1,0]);have h:=w.ob;rw[g]at h
 refine A1 ?_
 apply KZ
 .intro n o;refine ai W W<|dG W W W<|eB W W<|Ad W W (by rw[g];exact h) W<|aC W W j (fu _) W W<|TL.nil W
 refine DC.cZ (Ls:=[.d (.str f.name),.d (.sl (aB f.ins)),.d (.sl (aB f.outs)),.d (.sl (aB u.vars)),.d (.sl (fx u.eqs))]) 4 W (cq (cq (cq (lQ ((w.pick [1,0,2,3,4]).view (bR _)) (lQ ((w.pick [2,0,1,3,4]).view (yg _)) (po _))))))<|DC.ret ⟨_,W,_,⟨W,W⟩,((w.pick [4,0,1,2,3]).pick [1,2,3,4,0]).drop.drop.drop.drop⟩
end Go.Proofs.Pz
namespace Go.Mk
open Go.Mt
abbrev Nm:=ByteArray
inductive Ty where
 |bool|int|iO
 deriving DecidableEq
abbrev lR:Nm:=⟨#[99,111,108]⟩
def Ty.kind:Ty->Int
 |.bool=>1|.int=>2|.iO=>3
def Ty.nm:Ty->Nm
 |.bool=>⟨#[]⟩|.int=>⟨#[]⟩|.iO=>lR
abbrev Ty.cells(t:Ty):List D:=[.int .u8 t.kind,.str t.nm]
abbrev cS:Nm:=⟨#[82,101,100]⟩
abbrev ci:Nm:=⟨#[71,114,101,101,110]⟩
abbrev eF:Nm:=⟨#[66,108,117,101]⟩
inductive E where
 |nil
 |int (n:Int)|bool (n:Int)|ctor (s:Nm)|var (s:Nm)|last (s:Nm)
 |un (op:Int) (a:E)|bin (op:Int) (a b:E)|ite (a b c:E)
 |rC (a b:E)|pre (a:E)|arrow (a b:E)
 |lS (x c:Nm) (a:E)|merge (x d e f:Nm) (a b c:E)
abbrev bD(k op n:Int)(s:Nm)(names kids:List (List D)):List D:=[.int .u8 k,.int .u8 op,.int .i32 n,.str s,.sl names,.sl kids,.int .i64 0,.int .i64 0]
def E.cells:E->List D
 |.nil=>bD 0 0 0 ⟨#[]⟩ [] []
 |.int n=>bD 1 0 n ⟨#[]⟩ [] []
 |.bool n=>bD 2 0 n ⟨#[]⟩ [] []
 |.ctor s=>bD 3 0 0 s [] []
 |.var s=>bD 4 0 0 s [] []
 |.last s=>bD 5 0 0 s [] []
 |.un d a=>bD 6 d 0 ⟨#[]⟩ [] [a.cells]
 |.bin d a b=>bD 7 d 0 ⟨#[]⟩ [] [a.cells,b.cells]
 |.ite a b c=>bD 8 0 0 ⟨#[]⟩ [] [a.cells,b.cells,c.cells]
 |.rC a b=>bD 9 0 0 ⟨#[]⟩ [] [a.cells,b.cells]
 |.pre a=>bD 10 0 0 ⟨#[]⟩ [] [a.cells]
 |.arrow a b=>bD 11 0 0 ⟨#[]⟩ [] [a.cells,b.cells]
 |.lS x c a=>bD 12 0 0 x [[.str c]] [a.cells]
 |.merge x d e f a b c=>bD 13 0 0 x [[.str d],[.str e],[.str f]] [a.cells,b.cells,c.cells]
def E.shape(e:E):∃k op n s b a,e.cells=bD k op n s b a:=by cases e<;>exact⟨_,_,_,_,_,_,W⟩
def E.len(e:E):e.cells.length=8:=by obtain⟨k,c,n,s,a,b,h⟩:=e.shape;rw[h];rfl
structure Va where
 name:Nm
 ty:Ty
 clock:Option (Nm×Nm)
 last:Bool
 first:E
def bW:Option (Nm×Nm)->List (List D)
 |none=>[]
 |some (c,x)=>[[.str c,.str x]]
def Va.cells(v:Va):List D:=[.str v.name,.int .u8 v.ty.kind,.str v.ty.nm,.sl (bW v.clock),.bool v.last]++v.first.cells++[.int .i64 0,.int .i64 0]
def Va.len(v:Va):v.cells.length=15:=by simp[Va.cells,E.len]
def aB(l:List Va):List (List D):=l.map Va.cells
def bM(l:List Va):(aB l).length=l.length:=by simp[aB]
def bR(l:List Va):∀r∈aB l,r.length=15:=by intro r a;obtain⟨_,_,rfl⟩:=agC.1 a;exact Va.len _
def gM(a b:List Va):aB (a++b)=aB a++aB b:=by simp[aB]
def jB{l:List Va}{i:Nat}(h:i<l.length):(aB l)[(i:Int).toNat]?=some l[i].cells:=by simp[aB,h]
structure Tr where
 e:E
 to:Nm
 A':Bool
def Tr.cells(t:Tr):List D:=t.e.cells++[.str t.to,.bool t.A',.int .i64 0,.int .i64 0]
mutual
inductive aJ where
 |df (x:Nm) (e:E)
 |call (x y f:Nm) (a b:E) (c:Bool) (e:E)
 |sw (e:E) (aq:List aP)
 |wg (aq:List aP)
 |reset (e:E) (b:bT)
inductive aP where
 |mk (d:Nm) (b:bT) (a c:List Tr)
inductive bT where
 |mk (b:List Va) (a:List aJ)
end
abbrev eQ(k:Int)(lhs:List (List D))(name:Nm)(args:List (List D))(has:Bool)(e:List D)(aq:List (List D)):List D:=[.int .u8 k,.sl lhs,.str name,.sl args,.bool has]++e++[.sl aq,.int .i64 0,.int .i64 0]
def eG(l:List Tr):List (List D):=l.map Tr.cells
mutual
def aJ.cells:aJ->List D
 |.df x e=>eQ 1 [[.str x]] ⟨#[]⟩ [] false e.cells []
 |.call x y f a b c e=>eQ 2 [[.str x],[.str y]] f [a.cells,b.cells] c e.cells []
 |.sw e a=>eQ 3 [] ⟨#[]⟩ [] false e.cells (cr a)
 |.wg a=>eQ 4 [] ⟨#[]⟩ [] false E.nil.cells (cr a)
 |.reset e b=>eQ 5 [] ⟨#[]⟩ [] false e.cells [[.str ⟨#[]⟩]++b.cells++[.sl [],.sl [],.int .i64 0,.int .i64 0]]
def aP.cells:aP->List D
 |.mk d b a c=>[.str d]++b.cells++[.sl (eG a),.sl (eG c),.int .i64 0,.int .i64 0]
def cr:List aP->List (List D)
 |[]=>[]
 |a::l=>a.cells::cr l
def bT.cells:bT->List D
 |.mk b a=>[.sl (aB b),.sl (bU a)]
def bU:List aJ->List (List D)
 |[]=>[]
 |q::l=>q.cells::bU l
end
def jp(l:List aP):cr l=l.map aP.cells:=by induction l with
 |nil=>rfl
 |cons b l a=>simp[cr,a]
def kh(l:List aJ):bU l=l.map aJ.cells:=by induction l with
 |nil=>rfl
 |cons b l a=>simp[bU,a]
def bT.shape(b:bT):∃v q,b.cells=[.sl v,.sl q]:=by cases b;exact⟨_,_,by rw[bT.cells]⟩
def aJ.len(q:aJ):q.cells.length=16:=by cases q<;>rw[aJ.cells]<;>simp[eQ,E.len]
def aP.len(a:aP):a.cells.length=7:=by
 obtain⟨c,b,u,w⟩:=a;obtain⟨v,q,h⟩:=b.shape;rw[aP.cells,h];rfl
structure Nd where
 name:Nm
 ins:List Va
 outs:List Va
 b:bT
def Nd.cells(n:Nd):List D:=[.str n.name,.sl (aB n.ins),.sl (aB n.outs)]++n.b.cells++[.int .i64 0,.int .i64 0]
def ku(l:List Nd):List (List D):=l.map Nd.cells
abbrev Cu:List D:=[.str lR,.sl [[.str cS],[.str ci],[.str eF]],.int .i64 0,.int .i64 0]
abbrev HR(l:List Nd):List D:=[.sl [Cu],.sl (ku l)]
def dg(n:Nat):Nm:=if h:n<10 then strOfNums [IntKind.u8.wrap (48+(n:Int))]else dg (n/10)++strOfNums [IntKind.u8.wrap (48+((n%10:Nat):Int))]
def gR(n:Nat):(dg n).size<=n+1:=by
 induction n using Nat.strongRecOn with
 |ind n a=>
  rw[dg];split
  .simp[strOfNums,ByteArray.size]
  .have:=a (n/10) (by omega);rw[ah4];have b:(strOfNums [IntKind.u8.wrap (48+((n%10:Nat):Int))]).size=1:=by simp[strOfNums,ByteArray.size]
   omega
def nm(c:UInt8)(k:Nat):Nm:=⟨#[c]⟩++dg k
structure Sc where
 ready:List Va
 all:List Va
 aY:List Va
abbrev Sc.cells(s:Sc):List D:=[.sl (aB s.ready),.sl (aB s.all),.sl (aB s.aY)]
def Sc.more(s:Sc)(l:List Va):Sc:=⟨s.ready++l,s.all,s.aY⟩
inductive GC:Ty->E->Prop where
 |bool {n:Int} (h:n=0\/n=1):GC .bool (.bool n)
 |int {n:Int} (h:n∈[(0:Int),1,2,-1,7,-2147483648]):GC .int (.int n)
 |iO {s:Nm} (h:s∈[cS,ci,eF]):GC .iO (.ctor s)
def EP(l:List Va)(t:Ty)(x:Nm):Prop:=∃v∈l,v.ty=t/\v.clock=none/\v.name=x
inductive GV(l:List Va)(t:Ty):E->Prop where
 |JU {e:E} (h:GC t e):GV l t e
 |var {x:Nm} (h:EP l t x):GV l t (.var x)
inductive GE:Sc->Ty->Bool->Nat->E->Prop where
 |v {s t st d e} (h:GV s.ready t e):GE s t st d e
 |c {s t st d e} (h:GC t e):GE s t st (d+1) e
 |ite {s t st d c a b} (f:GE s .bool st d c) (g:GE s t st d a) (i:GE s t st d b):GE s t st (d+1) (.ite c a b)
 |rC {s t d c a} (f:GC t c) (g:GE ⟨s.all,s.all,s.aY⟩ t true d a):GE s t true (d+1) (.rC c a)
 |arrow {s t d a b} (f:GE s t true d a) (g:GE ⟨s.all,s.all,s.aY⟩ t true d b):GE s t true (d+1) (.arrow a (.pre b))
 |last {s t st d x} (h:EP s.aY t x):GE s t st (d+1) (.last x)
 |neg {s st d a} (f:GE s .int st d a):GE s .int st (d+1) (.un 2 a)
 |arith {s st d a b} (op:Int) (i:op∈[(3:Int),4,5,6,7]) (f:GE s .int st d a) (g:GE s .int st d b):GE s .int st (d+1) (.bin op a b)
 |not {s st d a} (f:GE s .bool st d a):GE s .bool st (d+1) (.un 1 a)
 |qM {s st d a b} (op:Int) (u:Ty) (i:op∈[(8:Int),9,10]/\u=.bool\/op∈[(13:Int),16]/\u=.int\/op=11) (f:GE s u st d a) (g:GE s u st d b):GE s .bool st (d+1) (.bin op a b)
end Go.Mk
namespace Go.Proofs
open Go.Mt Go.Mk
open Tryz
structure GS where
 i:Nat
 n:Nat
 q:Int
abbrev fg(v:D)(i:Nat):List M:=[.d v,.d (.int .i64 ((i:Nat):Int))]
abbrev jr(n:Nat)(q:Int)(az:Nat)(main:Bool):List M:=[.ref 0 0,.d (.int .i64 ((n:Nat):Int)),.d (.int .i64 q),.d (.int .i64 ((az:Nat):Int)),.d (.bool main)]
abbrev GH(v:D)(az:Nat)(main:Bool)(g:GS):Hp:=[.box (fg v g.i),.box (jr g.n g.q az main)]
structure Tape(a:List Int)(v:D):Prop where
 iK:JG .u8 a v
 hl:a.length<=1000
structure Rd(a:List Int)(k j:Nat)(g g':GS):Prop where
 lt:j<k
 n:g'.n=g.n
 q:g'.q=g.q
 i:g.i<=g'.i
 le:g'.i<=a.length
 ox:j≠0->g.i<g'.i
def HS{n:Int}(h:(Lit.int .u8 n).wf=true):0<=n/\n<256:=by
 simp only[Lit.wf,agZ,decide_eq_true_eq]at h;have a:IntKind.u8.min=0:=by decide
 have a:IntKind.u8.max=255:=by decide
 omega
section
variable{zs:List Int}{v:D}(ht:Tape zs v)(az:Nat)(main:Bool)
include ht
theorem e9(k:Nat)(b:0<k)(s:k<=1000)(g:GS)(c:g.i<=zs.length):DT prog 58 [.ref 0 0,.d (.int .i64 ((k:Nat):Int))] (GH v az main g) λr K=>∃(j:Nat) (g':GS),r=.d (.int .i64 ((j:Nat):Int))/\K=GH v az main g'/\Rd zs k j g g':=by
 obtain⟨⟨f,h,l⟩,t⟩:=ht;obtain⟨i,n,q⟩:=g;simp only at c;refine DT.ob func58 W ntmps58 W ?_;show DC _ _ _ _ ⟨_,_,[.box (fg v i),.box (jr n q az main)]⟩ _;refine dC [2] W ?_;rcases agJ i zs.length with a|a
 rotate_left
 .have d:decide (((i:Nat):Int)>=(zs.length:Int))=true:=aha (by omega);refine dC [] W ?_;apply Le fG
  .intro e m;refine fR 8 W<|lG W W f<|lY W W W (r:=.bool true) (by show some (D.bool (decide _))=_;rw[d])<|TF.nil ⟨by kernel_rfl,rfl⟩
  refine dC [1,2] W<|DC.ret ⟨_,W,0,⟨i,n,q⟩,W,W,b,W,W,ags _,c,λh=>absurd W h⟩
 .have m:decide (((i:Nat):Int)>=(zs.length:Int))=false:=ahc (by omega);obtain rfl:v=.sl (kF .u8 zs):=h.resolve_left (by grind);have d:(kF .u8 zs)[((i:Nat):Int).toNat]?=some [.int .u8 zs[i]]:=xw (ag3 a);have e:=HS (l zs[i] (agx a));generalize zs[i]=z at d e;obtain⟨z,rfl⟩:=ajb e.1;have o:((i:Nat):Int)+1-1=(i:Int):=by omega
  have p:Int.tmod (z:Int) (k:Int)=((z%k:Nat):Int):=rfl;refine dC [] W ?_;apply Le fG
  .intro u w;refine fR 8 W<|lG W W f<|lY W W W (r:=.bool false) (by show some (D.bool (decide _))=_;rw[m])<|TF.nil ⟨by kernel_rfl,rfl⟩
  refine dO [0,2,23] W<|K_ (aI W W W (by omega))<|dR [999] W<|K_ (c8 W W W W W W)<|dL [] W ?_;apply Le fG
  .intro u w;refine fR 8 W<|fK W W W (by omega) ?_;rw[o];refine bE W W W (ago i) d W<|fR 1 W<|BF W W ?_;rw[IntWalk.i64_in _ ⟨by omega,by omega⟩];refine fR 1 W<|C6 W W W (by simp;omega) ?_;rw[p];refine fR 1 W<|TF.nil ⟨by kernel_rfl,rfl⟩
  exact DC.ret ⟨_,W,z%k,⟨i+1,n,q⟩,W,W,aik _ b,W,W,ah8 _,a,λ_=>aib _⟩
end
def lx:∀(k n:Nat),n<k->n<=1000000->PT prog 113 [.int .i64 ((n:Nat):Int)] (·=[.str (dg n)])
 |0,n,h,_=>by omega
 |k+1,n,h,e=>by
  refine Lk (CT.ob func113 W ntmps113 W λf g=>?_);refine tC [2] W ?_;rcases agJ n 10 with a|a
  .have b:dg n=strOfNums [IntKind.u8.wrap (48+(n:Int))]:=by rw[dg,dif_pos a]
   refine tO [2,8] W<|av W W W (r:=.bool true) (by show some (D.bool (decide _))=_;rw[show decide ((n:Int)<10)=true from aha (by omega)])<|tR [1,2,10] W<|aI W W W (by omega)<|tR [13] W<|JD W W W<|tL [] W<|TC.ret ⟨_,rfl,[_],rfl,by rw[b]⟩
  .have b:dg n=dg (n/10)++strOfNums [IntKind.u8.wrap (48+((n%10:Nat):Int))]:=by rw[dg,dif_neg (by omega)]
   have c:IntKind.i64.wrap (Int.tdiv (n:Int) 10)=((n/10:Nat):Int):=by
    rw[show Int.tdiv (n:Int) 10=((n/10:Nat):Int)from rfl];exact IntWalk.i64_in _ ⟨by omega,by omega⟩
   have d:Int.tmod (n:Int) 10=((n%10:Nat):Int):=rfl;have i:=gR (n/10);have j:(strOfNums [IntKind.u8.wrap (48+((n%10:Nat):Int))]).size=1:=by simp[strOfNums,ByteArray.size]
   refine tO [2,8] W<|av W W W (r:=.bool false) (by show some (D.bool (decide _))=_;rw[show decide ((n:Int)<10)=false from ahc (by omega)])<|tL [0] W<|Na fG<|fR 1 W<|JA W W W W ?_;rw[c];refine bc ((lx k (n/10)) (by omega) (by omega)) W W<|fR 1 W<|C6 W W W W ?_;rw[d];refine Gw W W W (by omega)<|fR 2 W<|JE W W W<|oG W W W (by omega)<|fR 1 W<|TF.nil ⟨by kernel_rfl,?_⟩;exact TC.ret ⟨_,W,[_],W,by rw[b]⟩
def dM:PT prog 114 [] (·=[.agg Ty.int.cells]):=by
 refine Lk (CT.ob func114 W ntmps114 W λa b=>?_);refine tC [2,2] W<|TC.ret ⟨_,W,[_],W,W⟩
def jd:PT prog 115 [] (·=[.agg Ty.bool.cells]):=by
 refine Lk (CT.ob func115 W ntmps115 W λa b=>?_);refine tC [2,2] W<|TC.ret ⟨_,W,[_],W,W⟩
def jN:PT prog 27 [] (·=[.agg Ty.iO.cells]):=by
 refine Lk (CT.ob func27 W ntmps27 W λa b=>?_);refine tC [2,2] W<|TC.ret ⟨_,W,[_],W,W⟩
instance:tm prog 53:=⟨by kernel_rfl⟩
instance:bu prog 58:=dz (by kernel_rfl)
instance:bu prog 113:=dz (by kernel_rfl)
instance:bu prog 114:=dz (by kernel_rfl)
instance:bu prog 115:=dz (by kernel_rfl)
instance:bu prog 27:=dz (by kernel_rfl)
structure Mv(a:List Int)(g g':GS):Prop where
 n:g'.n=g.n
 q:g'.q=g.q
 i:g.i<=g'.i
 le:g'.i<=a.length
def Rd.mv{a:List Int}{k j:Nat}{g g':GS}(h:Rd a k j g g'):Mv a g g':=⟨h.n,h.q,h.i,h.le⟩
def Mv.trans{d:List Int}{a b c:GS}(h:Mv d a b)(k:Mv d b c):Mv d a c:=⟨k.n.trans h.n,k.q.trans h.q,agW h.i k.i,k.le⟩
def nq(v:D)(az:Nat)(a:Bool)(g:GS):HB 2 (GH v az a g):=IB (H:=GH v az a g) W
section
variable{zs:List Int}{v:D}(ht:Tape zs v)(az:Nat)(main:Bool)
include ht
theorem oS(c:UInt8)(g:GS)(b:g.i<=zs.length)(a:g.n<=100000):DT prog 166 [.ref 1 0,.d (.str ⟨#[c]⟩)] (GH v az main g) λr K=>r=.d (.str (nm c (g.n+1)))/\K=GH v az main ⟨g.i,g.n+1,g.q⟩:=by
 obtain⟨i,n,q⟩:=g;have d:=gR (n+1);simp only at a;refine DT.ob func166 W ntmps166 W ?_;show DC _ _ _ _ ⟨_,_,[.box (fg v i),.box (jr n q az main)]⟩ _;refine dO [2,2,13] W<|K_ (aI W W W (by omega))<|dR [999] W<|K_ (c8 W W W W W W)<|dR [2,21] W<|K_ (aL (lx (n+2) (n+1) (by omega) (by grind)) W W)<|dR [22] W<|K_ (j' W W W (by have:(⟨#[c]⟩:ByteArray).size=1:=rfl;omega))<|dL [] W<|DC.ret ⟨_,rfl,rfl,rfl⟩
def wJ(g:GS)(b:g.i<=zs.length):DT prog 167 [.ref 1 0] (GH v az main g) λr K=>∃(t:Ty) (g':GS),r=.d (.agg t.cells)/\K=GH v az main g'/\Mv zs g g':=by
 obtain⟨r,K,⟨j,g',rfl,rfl,a⟩,c⟩:=e9 ht az main 4 (by omega) (by omega) g b;refine DT.ob func167 W ntmps167 W<|dO [2,2,11] W<|K_ (aD c W W)<|dL [] W ?_;have d:j=0\/j=1\/j=2\/j=3:=by have:=a.lt;omega
 refine dC [3] W ?_;rcases d with rfl|rfl|rfl|rfl
 .refine dO [2,1,1,2,15] W<|K_ (aL dM W W)<|dL [] W<|DC.ret ⟨_,W,.int,g',W,W,a.mv⟩
 .refine dO [2,0,2,1,2,15] W<|K_ (aL dM W W)<|dL [] W<|DC.ret ⟨_,W,.int,g',W,W,a.mv⟩
 .refine dO [2,0,2,0,2,1,2,18] W<|K_ (aL jd W W)<|dL [] W<|DC.ret ⟨_,W,.bool,g',W,W,a.mv⟩
 .refine dO [2,0,2,0,2,0,2,19] W<|K_ (aL jN W W)<|dL [] W<|DC.ret ⟨_,W,.iO,g',W,W,a.mv⟩
def gZ(t:Ty)(g:GS)(d:g.i<=zs.length):DT prog 116 [.ref 1 0,.d (.agg t.cells)] (GH v az main g) λr K=>∃(e:E) (g':GS),r=.d (.agg e.cells)/\K=GH v az main g'/\GC t e/\Mv zs g g':=by
 obtain⟨r,K,⟨j,g',rfl,rfl,c⟩,f⟩:=e9 ht az main 6 (by omega) (by omega) g d;refine DT.ob func116 W ntmps116 W<|dO [2,2,16] W<|K_ (aD f W W)<|dL [2,3] W ?_;have n:=c.lt;have a:=c.mv;cases t with
 |bool=>
  have h:∃b:Int,(b=0\/b=1)/\IntKind.i32.wrap (((j:Nat):Int).tmod 2)=b:=by
   have:j=0\/j=1\/j=2\/j=3\/j=4\/j=5:=by omega
   rcases this with rfl|rfl|rfl|rfl|rfl|rfl
   .exact⟨0,.inl W,by decide⟩
   .exact⟨1,.inr W,by decide⟩
   .exact⟨0,.inl W,by decide⟩
   .exact⟨1,.inr W,by decide⟩
   .exact⟨0,.inl W,by decide⟩
   .exact⟨1,.inr W,by decide⟩
  obtain⟨b,i,k⟩:=h;refine dO [2,1,2,22] W<|K_ (C3 W W W W)<|dR [23] W<|K_ (Gz W W) ?_;rw[k];refine dL [] W<|DC.ret ⟨_,W,.bool b,g',W,W,.bool i,a⟩
 |int=>
  have h:∃z:Int,z∈[(0:Int),1,2,-1,7,-2147483648]/\([[D.int .i32 0],[.int .i32 1],[.int .i32 2],[.int .i32 (-1)],[.int .i32 7],[.int .i32 (-2147483648)]]:List (List D))[((j:Nat):Int).toNat]?=some [.int .i32 z]:=by
   have:j=0\/j=1\/j=2\/j=3\/j=4\/j=5:=by omega
   rcases this with rfl|rfl|rfl|rfl|rfl|rfl
   .exact⟨0,by simp,rfl⟩
   .exact⟨1,by simp,rfl⟩
   .exact⟨2,by simp,rfl⟩
   .exact⟨-1,by simp,rfl⟩
   .simp_all
   .simp_all
  obtain⟨z,k,i⟩:=h;refine dO [2,0,2,1,2,2,30] W<|K_ (aN W W W (ago j) i W)<|dL [] W<|DC.ret ⟨_,W,.int z,g',W,W,.int k,a⟩
 |iO=>
  have i:∃s:Nm,s∈[cS,ci,eF]/\([[D.str cS],[.str ci],[.str eF]]:List (List D))[(((j%3:Nat):Int)).toNat]?=some [.str s]:=by
   have:j%3=0\/j%3=1\/j%3=2:=by omega
   rcases this with h|h|h<;>rw[h]
   .simp_all
   .simp_all
   .simp_all
  obtain⟨s,l,k⟩:=i;have m:Int.tmod (j:Int) 3=((j%3:Nat):Int):=rfl;refine dO [2,0,2,0,2,2,36] W<|K_ (C3 W W W W) ?_;rw[m];refine dR [37] W<|K_ (aN W W W (ago _) k W)<|dL [] W<|DC.ret ⟨_,W,.ctor s,g',W,W,.iO l,a⟩
end
def jC(w:Va):∃a c d e f g h i,w.cells=[.str w.name,.int .u8 w.ty.kind,.str w.ty.nm,.sl (bW w.clock),.bool w.last,a,c,d,e,f,g,h,i,.int .i64 0,.int .i64 0]/\w.first.cells=[a,c,d,e,f,g,h,i]:=by
 obtain⟨k,c,n,s,a,b,h⟩:=w.first.shape;exact⟨_,_,_,_,_,_,_,_,by simp only[Va.cells,h,bD];rfl,h⟩
def HT(a b:Ty):(decide (a.kind=b.kind)&&decide (a.nm=b.nm))=decide (a=b):=by cases a<;>cases b<;>rfl
def jT(k op:Int)(a b:E):PT prog 264 [.int .u8 k,.int .u8 op,.agg a.cells,.agg b.cells] (·=[.agg (bD k op 0 ⟨#[]⟩ [] [a.cells,b.cells])]):=by
 obtain⟨e,f,g,h,i,j,c⟩:=a.shape;obtain⟨l,m,n,o,p,q,d⟩:=b.shape;rw[c,d];refine Lk (CT.ob func264 W ntmps264 W λr s=>?_);refine tC [2,2] W<|TC.ret ⟨_,W,[_],W,W⟩
theorem I0(l:List Va)(x:Nm)(h:l.length<=100000):PT prog 168 [.sl (aB l),.str x] (·=[.bool (l.any λw=>decide (w.name=x))]):=by
 refine Lk (CT.ob func168 W ntmps168 W λj m=>?_);refine tC [2,2] W<|TC.rename [(5,.m (.d (.int .i64 ((0:Nat):Int)))),(1,.m (.d (.str x))),(0,.m (.d (.sl (aB l))))] [] W W<|tC [3] W<|TC.lp (λk s=>∃(i:Nat),s=⟨[(5,.m (.d (.int .i64 (i:Int)))),(1,.m (.d (.str x))),(0,.m (.d (.sl (aB l))))],[],[]⟩/\i<=l.length/\(∀w∈l.take i,¬w.name=x)/\k=l.length-i) l.length _
  ⟨0,rfl,by omega,by simp,rfl⟩ W ?_
 rintro k s ⟨i,rfl,n,d,rfl⟩;refine tO [2,12] W<|aT W W W ?_;rw[bM];refine tL [] W<|TC.cond W (λa=>?_) (λa=>?_)
 .have b:i<l.length:=by grind
  have c:=jB b;have e:=agx b;have f:=agp b;generalize l[i]=w at c e f;obtain⟨o,p,q,r,t,u,v,y,g,_⟩:=jC w;rw[g]at c;refine tO [3,2,18] W<|aN W W W (ago i) c W<|tL [] W<|TC.cond W (λa=>?_) (λa=>?_)
  .have z:=agr a;refine tC [2] W<|TC.ret ⟨_,W,[_],W,by grind⟩
  .have z:=agv a;refine tO [2,15] W<|aI W W W (by omega)<|tL [] W<|again (k':=l.length-(i+1)) (by omega) ⟨i+1,rfl,by omega,by grind,rfl⟩ W W
 .refine TC.exit ?_;have b:i=l.length:=by grind
  subst b;rw[agz]at d;refine tC [2] W<|TC.ret ⟨_,W,[_],W,by grind⟩
def qN(s:Sc)(l:List Va)(a:s.ready.length<=10000)(b:l.length<=10000):PT prog 170 [.agg s.cells,.sl (aB l)] (·=[.agg (s.more l).cells]):=by
 refine Lk (CT.ob func170 W ntmps170 W λa b=>?_);refine tO [2,2,2,13] W<|Ev (n:=15) W W W W (by rfl) (bR _) (by rw[bM];omega)<|tR [2,16] W<|ID (r1:=aB s.ready) (r2:=aB l) W W W W (by rfl) (bR _) (bR _) (by rw[bM,bM];omega) (by rw[bM,bM];omega)<|tL [2] W<|TC.ret ⟨_,rfl,[_],rfl,by rw[<-gM];rfl⟩
section
variable{zs:List Int}{v:D}(ht:Tape zs v)(az:Nat)(main:Bool)
include ht
theorem Cv(l:List Va)(A:l.length<=100000)(t:Ty)(g:GS)(m:g.i<=zs.length):DT prog 265 [.ref 1 0,.d (.sl (aB l)),.d (.agg t.cells)] (GH v az main g) λr K=>∃(x:Nm) (b:Bool) (g':GS),r=.c_ [.d (.str x),.d (.bool b)]/\K=GH v az main g'/\Mv zs g g'/\(b=true->EP l t x):=by
 obtain⟨r,K,⟨j,g',rfl,rfl,e⟩,a⟩:=e9 ht az main 7 (by omega) (by omega) g m;have B:=e.lt;have f:=e.mv;refine DT.ob func265 W ntmps265 W<|dO [2,2,19] W<|K_ (aD a W W)<|dL [] W<|dC [2] W<|LF [(9,.m (.d (.int .i64 ((0:Nat):Int)))),(8,.m (.d (.int .i64 ((j:Nat):Int)))),(5,.m (.d (.ca t.cells 0))),(1,.m (.d (.sl (aB l))))] (GH v az main g') W W<|dC [3] W<|NB (λk s=>∃(i:Nat) (a:List (Nat×List M)),s=⟨[(9,.m (.d (.int .i64 (i:Int)))),(8,.m (.d (.int .i64 ((j:Nat):Int)))),(5,.m (.d (.ca t.cells 0))),(1,.m (.d (.sl (aB l))))],a,GH v az main g'⟩/\i<=l.length/\k=l.length-i) l.length _
  ⟨0,_,rfl,by omega,rfl⟩ W ?_
 rintro u y ⟨i,C,rfl,D,rfl⟩;refine dO [2,22] W<|K_ (aT W W W) ?_;rw[bM];refine dL [] W<|DC.cond W (λa=>?_) (λa=>?_)
 .have E:i<l.length:=by grind
  have h:(i+j)%l.length<l.length:=aik _ (by omega);have d:=jB h;have k:=agx h;generalize l[(i+j)%l.length]=w at d k;obtain⟨F,G,H,I,J,L,N,O,n,_⟩:=jC w;rw[n]at d;have s:((i:Nat):Int)+(j:Int)=((i+j:Nat):Int):=by omega
  have o:Int.tmod ((i+j:Nat):Int) (l.length:Int)=(((i+j)%l.length:Nat):Int):=rfl;refine dO [3,2,29] W<|K_ (aI W W W (by omega)) ?_;rw[s];refine dR [31] W<|K_ (aT W W W) ?_;rw[bM];refine dR [32] W<|K_ (C3 W W W (ahG.2 (by omega))) ?_;rw[o];refine dR [33] W<|K_ (aN W W W (ago _) d W)<|dL [] W ?_;rcases Classical.em (w.ty=t)with c|c
  .refine dO [2,38] W<|K_ (Ew W W W) ?_;rw[HT,aha c];refine dL [] W<|DC.cond W (λa=>?_) (λa=>?_)
   .have p:w.clock=none:=by
     rcases q:w.clock with _|⟨z,b⟩
     .rfl
     .rw[q]at a;cases a
    refine dC [2] W<|DC.ret ⟨_,W,w.name,true,g',W,W,f,λ_=>⟨w,k,c,p,rfl⟩⟩
   .refine dO [2,25] W<|K_ (aI W W W (by omega))<|dL [] W<|bH (k':=l.length-(i+1)) (by omega) ⟨i+1,_,rfl,by omega,rfl⟩ W W
  .refine dO [2,38] W<|K_ (Ew W W W) ?_;rw[HT,ahc c];refine dR [0,2,25] W<|K_ (aI W W W (by omega))<|dL [] W<|bH (k':=l.length-(i+1)) (by omega) ⟨i+1,_,rfl,by omega,rfl⟩ W W
 .refine DC.exit<|dC [2] W<|DC.ret ⟨_,W,_,false,g',W,W,f,λh=>by cases h⟩
end
instance:bu prog 265:=dz (by kernel_rfl)
instance:bu prog 116:=dz (by kernel_rfl)
section
variable{zs:List Int}{v:D}(ht:Tape zs v)(az:Nat)(main:Bool)
include ht
def mF(l:List Va)(h:l.length<=100000)(t:Ty)(g:GS)(i:g.i<=zs.length):DT prog 263 [.ref 1 0,.d (.sl (aB l)),.d (.agg t.cells)] (GH v az main g) λr K=>∃(e:E) (g':GS),r=.d (.agg e.cells)/\K=GH v az main g'/\GV l t e/\Mv zs g g':=by
 obtain⟨r,K,⟨x,b,g',rfl,rfl,a,j⟩,k⟩:=Cv ht az main l h t g i;obtain⟨p,q,⟨c,m,rfl,rfl,n,o⟩,d⟩:=gZ ht az main t g' a.le;refine DT.ob func263 W ntmps263 W<|dO [2,2,17] W<|K_ (aD k W W)<|dL [] W ?_;cases b with
 |false=>
  obtain⟨s,u,w,y,z,A,f⟩:=c.shape;rw[f]at d;refine dO [2,1,2,24] W<|K_ (aD d W W)<|dL [] W<|DC.ret ⟨_,W,c,m,by rw[f];rfl,rfl,.JU n,a.trans o⟩
 |true=>
  refine dC [2,0,2] W<|DC.ret ⟨_,W,.var x,g',W,W,.var (j W),a⟩
end
end Go.Proofs
