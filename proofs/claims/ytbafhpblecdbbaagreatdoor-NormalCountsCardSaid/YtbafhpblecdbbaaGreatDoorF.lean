/- A part of the proof of the last text of this claim, without conditions. -/
import Derived.Test.YtbafhpblecdbbaaGreatDoorE
set_option maxRecDepth 4000
set_option linter.all false
namespace Go.Ps
open Go.Mt Go.Sm
def eE(f:Env)(a:List (Nm×Nm))(m:MS)(x:Nm):Env×MS×List aJ:=
 match f x with
 |none=>(f,m,[])
 |some b=>if b.kK=a.length then(f,m,[])else
  (f.set x ⟨nV (m.n+1),a.length,b.tk,b.tn⟩,m.fresh (b.tk,b.tn) a,[gQ (nV (m.n+1)) ((a.drop b.kK).foldl iM (bz b.name)) (0,0)])
def mO(r:R)(x:Nm):cO r x=⟨{r.s with vars:=(eE r.s.vars r.s.ck r.m x).1},(eE r.s.vars r.s.ck r.m x).2.1,r.q++(eE r.s.vars r.s.ck r.m x).2.2⟩:=by
 obtain⟨s,m,q⟩:=r;unfold cO eE oj;cases h:s.vars x with
 |none=>simp[h]
 |some b=>by_cases a:b.kK=s.ck.length<;>simp[h,a]
def lj(r:R)(x:Nm):ff r x=⟨{r.s with aY:=(eE r.s.aY r.s.ck r.m x).1},(eE r.s.aY r.s.ck r.m x).2.1,r.q++(eE r.s.aY r.s.ck r.m x).2.2⟩:=by
 obtain⟨s,m,q⟩:=r;unfold ff eE oj;cases h:s.aY x with
 |none=>simp[h]
 |some b=>by_cases a:b.kK=s.ck.length<;>simp[h,a]
def tN{l:List (Nm×Nm)}{i:Nat}(h:i<l.length):(bW l)[((i:Nat):Int).toNat]?=some [.str l[i].1,.str l[i].2]:=by simp[bW,h]
end Go.Ps
namespace Go.Proofs.Pz
open Go.Mt Go.Sm Go.Ps Go.Proofs
open Tryz
def FI(n:M)(iv c:Nat)(d:List (Nm×Nm))(f:Env)(a:List (Nm×Nm))(t:a.length<=1000000):
  Dt prog 209 [n,l9 iv c d,.d (.sl (bW a))] [cP iv f] λr l=>r=.d (.sl (bW (a.map λo=>(o.1,f.nm o.2))))/\l=[cP iv f]:=by
 intro H F p;have w:=Wk.start p;obtain⟨q,e,w⟩:=cP.open w;have w:=w.nil 2;have s:(bW a).length=a.length:=by simp[bW]
 refine Lj func209 W ntmps209 W ?_
 repeat refine DC.seq ?_
 apply KZ
 .intro h j;refine dB W W W W<|ah W W<|TL.nil W
 repeat refine DC.seq ?_
 apply KZ
 .intro h j;refine ah W W<|TL.nil W
 repeat refine DC.seq ?_
 apply KZ
 .intro h j;refine ai W W ?_
  (refine aT W W W ?_;rw[s])
  refine ai W W<|TL.nil W
 repeat refine DC.seq ?_
 refine DC.block<|DC.loop (λm h=>∃(i:Nat) (b:M) (e:List (Nat×List M)) (g:Hp),h=⟨[(12,.m (.d (.int .i64 ((i:Nat):Int)))),(11,.m (.d (.int .i64 ((a.length:Nat):Int)))),(10,.m (.d (.sl (bW a)))),(7,.m b),(4,.loc 4 0)],e,g⟩/\
   Go.Mt.get e 4=some [.mp iv,.mp c,.d (.sl (bW d))]/\
   Wk F H [.acc 2 (bW ((a.take i).map λo=>(o.1,f.nm o.2))) b,.ob iv (.map q)] g/\i<=a.length/\m=a.length-i) a.length _
  ⟨0,.d (.sl []),_,_,rfl,rfl,w,by omega,rfl⟩ W ?_
 rintro m x ⟨i,y,z,A,rfl,g,w,B,rfl⟩
 repeat refine DC.seq ?_
 apply KZ
 .intro h j;refine av W W W W<|TL.nil W
 repeat refine DC.seq ?_
 refine DC.cond W (λb=>?_) (λb=>?_)
 .have h:i<a.length:=by have:=agr b;omega
  have j:=tN h;have k:bW ((a.take (i+1)).map λo=>(o.1,f.nm o.2))=bW ((a.take i).map λo=>(o.1,f.nm o.2))++[[.str a[i].1,.str (f.nm a[i].2)]]:=by rw[rJ _ _ _ _ _ h];simp[bW]
  generalize a[i]=o at j k;refine DC.skip ?_
  repeat refine DC.seq ?_
  refine DC.block ?_
  repeat refine DC.seq ?_
  apply KZ
  .intro u v;refine aN W W W (ago i) j W<|aK W W W<|aM W W<|aC W W W W W W<|TL.nil W
  repeat refine DC.seq ?_
  apply KZ
  .intro u v;refine ai W W<|aA W W<|aF W W W W<|aA W W<|aF W W g W<|aA W W<|aF W W W W<|kO e ((w.pick [1,0]).ob) W W W<|sD W W W W<|bX W W W W W<|aU W W W W W W W W<|cX w W W W W W W (by exact cM W) (by simp[bW];omega)<|ah W W<|TL.nil W
  have w:=w.app [[.str o.1,.str (f.nm o.2)]]
  repeat refine DC.seq ?_
  apply KZ
  .intro u v;refine aI W W W (by omega)<|ai W W<|TL.nil W
  exact bH (k':=a.length-(i+1)) (by omega) ⟨i+1,_,_,_,rfl,g,by rw[k];exact w,by omega,rfl⟩ W W
 .refine DC.exit ?_;obtain rfl:i=a.length:=by have:=agv b;omega
  rw[agz]at w
  repeat refine DC.seq ?_
  apply KZ
  .intro h j;refine ai W W<|ah W W<|TL.nil W
  refine DC.bg 6 W (w.view (ja _)) ?_;exact DC.ret ⟨_,W,_,⟨W,W⟩,(LQ e w.drop)⟩
def zY(iv b:Nat)(c:List (Nm×Nm))(f:Env)(l:List Nm)(q:l.length<=1000000):
  Dt prog 257 [l9 iv b c,.d (.sl (aR l))] [cP iv f] λr a=>r=.d (.sl (aR (l.map f.nm)))/\a=[cP iv f]:=by
 intro H F k;have w:=Wk.start k;obtain⟨n,d,w⟩:=cP.open w;have w:=w.nil 1;have p:(aR l).length=l.length:=by simp[aR]
 refine Lj func257 W ntmps257 W ?_
 repeat refine DC.seq ?_
 apply KZ
 .intro g h;refine dB W W W W<|ah W W<|TL.nil W
 repeat refine DC.seq ?_
 apply KZ
 .intro g h;refine ah W W<|TL.nil W
 repeat refine DC.seq ?_
 apply KZ
 .intro g h;refine ai W W ?_
  (refine aT W W W ?_;rw[p])
  refine ai W W<|TL.nil W
 repeat refine DC.seq ?_
 refine DC.block<|DC.loop (λm g=>∃(i:Nat) (a:M) (d:List (Nat×List M)) (e:Hp),g=⟨[(10,.m (.d (.int .i64 ((i:Nat):Int)))),(9,.m (.d (.int .i64 ((l.length:Nat):Int)))),(8,.m (.d (.sl (aR l)))),(5,.m a),(2,.loc 2 0)],d,e⟩/\
   Go.Mt.get d 2=some [.mp iv,.mp b,.d (.sl (bW c))]/\
   Wk F H [.acc 1 (aR ((l.take i).map f.nm)) a,.ob iv (.map n)] e/\i<=l.length/\m=l.length-i) l.length _
  ⟨0,.d (.sl []),_,_,rfl,rfl,w,by omega,rfl⟩ W ?_
 rintro m u ⟨i,v,x,y,rfl,e,w,z,rfl⟩
 repeat refine DC.seq ?_
 apply KZ
 .intro g h;refine av W W W W<|TL.nil W
 repeat refine DC.seq ?_
 refine DC.cond W (λa=>?_) (λa=>?_)
 .have g:i<l.length:=by have:=agr a;omega
  have h:=iC g;have j:aR ((l.take (i+1)).map f.nm)=aR ((l.take i).map f.nm)++[[.str (f.nm l[i])]]:=by rw[rJ _ _ _ _ _ g];simp[aR]
  generalize l[i]=o at h j;refine DC.skip ?_
  repeat refine DC.seq ?_
  refine DC.block ?_
  repeat refine DC.seq ?_
  apply KZ
  .intro s t;refine aN W W W (ago i) h W<|ax W W W<|ah W W<|TL.nil W
  repeat refine DC.seq ?_
  apply KZ
  .intro s t;refine ai W W<|aA W W<|aF W W e W<|ai W W<|kO d ((w.pick [1,0]).ob) W W W<|sD W W W W<|aU W W W W W W W W<|cX w W W W W W W (by exact cM W) (by simp[aR];omega)<|ah W W<|TL.nil W
  have w:=w.app [[.str (f.nm o)]]
  repeat refine DC.seq ?_
  apply KZ
  .intro s t;refine aI W W W (by omega)<|ai W W<|TL.nil W
  exact bH (k':=l.length-(i+1)) (by omega) ⟨i+1,_,_,_,rfl,e,by rw[j];exact w,by omega,rfl⟩ W W
 .refine DC.exit ?_;obtain rfl:i=l.length:=by have:=agv a;omega
  rw[agz]at w
  repeat refine DC.seq ?_
  apply KZ
  .intro g h;refine ai W W<|ah W W<|TL.nil W
  refine DC.bg 4 W (w.view (dq _)) ?_;exact DC.ret ⟨_,W,_,⟨W,W⟩,(LQ d w.drop)⟩
def xR(it g:Nat)(p:Pg)(m:MS)(iv C k:Nat)(c:List (Nm×Nm))(f:Env)(x:Nm)(K:m.n<1000000000)(N:m.vars.length<=10000000)(O:c.length<=1000000)(P:∀b,f x=some b->b.kK<=c.length):
  Dt prog 255 [.ref g 0,l9 iv C c,.mp k,.d (.str x)] [.ob it bK,gV g p m,cP k f] λr l=>r=.d (.sl (cv (eE f c m x).2.2))/\l=[.ob it bK,gV g p (eE f c m x).2.1,cP k (eE f c m x).1]:=by
 intro J Y Q;have w:=Wk.start Q;have w:=w.pick [2,0,1];obtain⟨R,d,w⟩:=cP.open w;have n:=w.ob;have o:=d.l x;have j:(bW c).length=c.length:=by simp[bW]
 unfold eE;cases q:f x with
 |none=>
  rw[q]at o;refine Lj func255 W ntmps255 W ?_
  repeat refine DC.seq ?_
  apply KZ
  .intro i s;refine dB W W W W<|ah W W<|TL.nil W
  repeat refine DC.seq ?_
  apply KZ
  .intro i s;refine ai W W<|ai W W ?_
   (refine o_ W W W n d.k ?_;rw[o])
   refine ai W W<|bZ W W W<|bZ W W W<|aM W W<|aC W W W W W W<|ah W W<|TL.nil W
  repeat refine DC.seq ?_
  apply KZ
  .intro i s;refine ai W W<|fb W W<|ai W W<|aQ W W<|aQ W W<|aQ W W<|aQ W W<|aQ W W<|aQ W W<|cH W W W<|TL.nil W
  repeat refine DC.seq ?_
  refine Lo W ?_
  repeat refine DC.seq ?_
  apply KZ
  .intro i s;refine ah W W<|TL.nil W
  have h:=LQ d w;exact DC.ret ⟨_,W,_,⟨W,W⟩,h.pick [1,2,0]⟩
 |some b=>
  rw[q]at o;have S:=P b q
  dsimp only
  refine Lj func255 W ntmps255 W ?_
  repeat refine DC.seq ?_
  apply KZ
  .intro A B;refine dB W W W W<|ah W W<|TL.nil W
  repeat refine DC.seq ?_
  apply KZ
  .intro A B;refine ai W W<|ai W W ?_
   (refine o_ W W W n d.k ?_;rw[o])
   refine ai W W<|bZ W W W<|bZ W W W<|aM W W<|aC W W W W W W<|ah W W<|TL.nil W
  by_cases s:b.kK=c.length
  .rw[agK s];have t:(((b.kK:Nat):Int)==((c.length:Nat):Int))=true:=by simp[s]
   repeat refine DC.seq ?_
   apply KZ
   .intro B E;refine ai W W<|fb W W<|ai W W<|aE W ?_;refine aA W W ?_;refine aE W ?_;refine aF W W W W ?_;refine aE W ?_;refine aA W W ?_;refine aE W ?_;refine aF W W W W ?_;refine aE W ?_;refine aT W W W ?_;rw[j];refine aE W ?_;refine av W W W (r:=.bool true) (by show some (D.bool (((b.kK:Nat):Int)==((c.length:Nat):Int)))=_;rw[t]) ?_;refine cH W W W<|TL.nil W
   repeat refine DC.seq ?_
   refine Lo W ?_
   repeat refine DC.seq ?_
   apply KZ
   .intro B E;refine ah W W<|TL.nil W
   have A:=LQ d w;exact DC.ret ⟨_,W,_,⟨W,W⟩,A.pick [1,2,0]⟩
  rw[agw s];have t:(((b.kK:Nat):Int)==((c.length:Nat):Int))=false:=by simp;omega
  repeat refine DC.seq ?_
  apply KZ
  .intro A B;refine ai W W<|fb W W<|ai W W<|aE W ?_;refine aA W W ?_;refine aE W ?_;refine aF W W W W ?_;refine aE W ?_;refine aA W W ?_;refine aE W ?_;refine aF W W W W ?_;refine aE W ?_;refine aT W W W ?_;rw[j];refine aE W ?_;refine av W W W (r:=.bool false) (by show some (D.bool (((b.kK:Nat):Int)==((c.length:Nat):Int)))=_;rw[t]) ?_;refine cH W W W<|TL.nil W
  repeat refine DC.seq ?_
  refine Lc W<|DC.skip ?_;have F:=fB b.name;rw[(bz b.name).aj]at F
  repeat refine DC.seq ?_
  apply KZ
  .intro A B;refine aA W W<|aF W W W W<|aL F W W<|aM W W<|aC W W W W W W<|TL.nil W
  obtain⟨L,u⟩:∃L,L=c.drop b.kK:=⟨_,rfl⟩;have T:L.length=c.length-b.kK:=by rw[u,aiH]
  have U:(bW c).drop b.kK=bW L:=by rw[u];simp[bW]
  have V:yX ((bW c).drop b.kK)=.sl (bW L):=by
   rw[U];cases L with
   |nil=>simp at T;omega
   |cons a r=>rfl
  have X:(bW L).length=L.length:=by simp[bW]
  repeat refine DC.seq ?_
  apply KZ
  .intro A B;refine aA W W<|aF W W W W<|aA W W<|aF W W W W ?_
   (refine xz W W W (by intro e;have:=ahA List.length e;rw[j,List.length_nil]at this;omega) (by rw[j];exact S) (ja c) ?_;rw[V])
   (refine aT W W W ?_;rw[X])
   refine ai W W<|TL.nil W
  rw[<-u]
  repeat refine DC.seq ?_
  refine DC.block<|DC.loop (λm h=>∃(i:Nat) (d:List (Nat×List M)),h=⟨[(40,.m (.d (.int .i64 ((i:Nat):Int)))),(39,.m (.d (.int .i64 ((L.length:Nat):Int)))),(38,.m (.d (.sl (bW L)))),(11,.loc 11 0),(9,.loc 9 0),(5,.loc 5 0),(0,.m (.ref g 0)),(2,.m (.mp k)),(3,.m (.d (.str x)))],d,J⟩/\
    Go.Mt.get d 5=some [.mp iv,.mp C,.d (.sl (bW c))]/\Go.Mt.get d 9=some ((nG b).map M.d)/\Go.Mt.get d 11=some ((xC ((L.take i).foldl iM (bz b.name))).map M.d)/\i<=L.length/\m=L.length-i) L.length _
   ⟨0,_,rfl,rfl,rfl,rfl,by omega,rfl⟩ W ?_
  rintro m1 s1 ⟨i,bx,rfl,v,y,h,hi,rfl⟩
  repeat refine DC.seq ?_
  apply KZ
  .intro A B;refine av W W W W<|TL.nil W
  repeat refine DC.seq ?_
  refine DC.cond W (λz=>?_) (λz=>?_)
  .have G:i<L.length:=by have:=agr z;omega
   have H:=tN G;have A:(L.take (i+1)).foldl iM (bz b.name)=iM ((L.take i).foldl iM (bz b.name)) L[i]:=by rw[agp G,ag7];rfl
   generalize (L.take i).foldl iM (bz b.name)=E at h A;generalize L[i]=B at H A;have I:=zU E B;rw[E.aj,(iM E B).aj]at I;refine DC.skip ?_
   repeat refine DC.seq ?_
   refine DC.block ?_
   repeat refine DC.seq ?_
   apply KZ
   .intro Z Oo;refine aN W W W (ago i) H W<|aK W W W<|aM W W<|aC W W W W W W<|TL.nil W
   repeat refine DC.seq ?_
   apply KZ
   .intro Z Oo;refine aW W W h W W<|aW W W W W W<|aL I W W<|aC W W h W W W<|TL.nil W
   repeat refine DC.seq ?_
   apply KZ
   .intro Z Oo;refine aI W W W (by omega)<|ai W W<|TL.nil W
   exact bH (k':=L.length-(i+1)) (by omega) ⟨i+1,_,rfl,v,y,by rw[A];rfl,by omega,rfl⟩ W W
  .refine DC.exit ?_;obtain rfl:i=L.length:=by have:=agv z;omega
   rw[agz]at h;generalize L.foldl iM (bz b.name)=E at h⊢;obtain⟨_,H,l',⟨rfl,rfl⟩,w,G⟩:=Wk.call (a:=[.ob it bK,gV g p m]) (w.pick [1,2,0]) (rf it g p m K N (b.tk,b.tn) c O);have w:=w.pick [2,0,1];have n:=w.ob;have A:=oL (nV (m.n+1)) E (0,0);rw[ea,E.aj]at A
   repeat refine DC.seq ?_
   apply KZ
   .intro I Z;refine ai W W<|aA W W<|aW W W y W W<|aA W W<|aF W W v W<|aD G W W<|ah W W<|TL.nil W
   repeat refine DC.seq ?_
   apply KZ
   .intro I Z;refine ai W W<|ai W W<|ai W W<|aA W W<|aF W W v W ?_
    (refine aT W W W ?_;rw[j])
    refine aA W W<|aW W W y W W<|bX W W W W W<|fW W W W n d.k<|TL.nil W
   repeat refine DC.seq ?_
   apply KZ
   .intro I Z;refine ai W W<|aW W W h W W<|bX W W W W W<|aL A W W<|aU W W W W W W W W<|ah W W<|TL.nil W
   have B:=LQ (d.set x ⟨nV (m.n+1),c.length,b.tk,b.tn⟩) (w.set (.map (dH x (.d (.agg (nG ⟨nV (m.n+1),c.length,b.tk,b.tn⟩))) R)));refine DC.ret ⟨_,W,_,⟨?_,W⟩,B.pick [1,2,0]⟩;show _=M.d (D.sl [(gQ (nV (m.n+1)) E (0,0)).cells]);rw[ea];rfl
def B6(it c:Nat)(p:Pg)(m:MS)(iv d:Nat)(a:List (Nm×Nm))(f:Env)(x:Nm)(e:m.n<1000000000)(g:m.vars.length<=10000000)(h:a.length<=1000000)(i:∀b,f x=some b->b.kK<=a.length):
  Dt prog 214 [.ref c 0,l9 iv d a,.d (.str x)] [.ob it bK,gV c p m,cP iv f] λr l=>r=.d (.sl (cv (eE f a m x).2.2))/\l=[.ob it bK,gV c p (eE f a m x).2.1,cP iv (eE f a m x).1]:=by
 intro H F j;obtain⟨_,K,n,⟨rfl,rfl⟩,w,k⟩:=Wk.call (r:=[]) (Wk.start j) (xR it c p m iv d iv a f x e g h i);refine Lj func214 W ntmps214 W ?_
 repeat refine DC.seq ?_
 apply KZ
 .intro o q;refine dB W W W W<|ah W W<|TL.nil W
 repeat refine DC.seq ?_
 apply KZ
 .intro o q;refine ai W W<|dP W W W W W<|aA W W<|aF W W W W<|ai W W<|aD k W W<|ah W W<|TL.nil W
 exact DC.ret ⟨_,W,_,⟨W,W⟩,w⟩
def tP(it d:Nat)(p:Pg)(m:MS)(iv c:Nat)(a:List (Nm×Nm))(f:Env)(x:Nm)(e:m.n<1000000000)(g:m.vars.length<=10000000)(h:a.length<=1000000)(i:∀b,f x=some b->b.kK<=a.length):
  Dt prog 290 [.ref d 0,l9 iv c a,.d (.str x)] [.ob it bK,gV d p m,cP c f] λr l=>r=.d (.sl (cv (eE f a m x).2.2))/\l=[.ob it bK,gV d p (eE f a m x).2.1,cP c (eE f a m x).1]:=by
 intro H F j;obtain⟨_,K,n,⟨rfl,rfl⟩,w,k⟩:=Wk.call (r:=[]) (Wk.start j) (xR it d p m iv c c a f x e g h i);refine Lj func290 W ntmps290 W ?_
 repeat refine DC.seq ?_
 apply KZ
 .intro o q;refine dB W W W W<|ah W W<|TL.nil W
 repeat refine DC.seq ?_
 apply KZ
 .intro o q;refine ai W W<|dP W W W W W<|aA W W<|aF W W W W<|ai W W<|aD k W W<|ah W W<|TL.nil W
 exact DC.ret ⟨_,W,_,⟨W,W⟩,w⟩
end Go.Proofs.Pz
namespace Go.Ps
open Go.Mt Go.Sm
def vO(s:Sc):∀l:List Xp,gU s l=l.map (cA s)
 |[]=>by rw[gU];rfl
 |e::l=>by rw[gU,vO s l];rfl
def FJ(s:Sc)(e:Xp):cA s e=if e.kd=4\/e.kd=12\/e.kd=13 then .mk e.kd e.op e.num (s.vars.nm e.nm) e.names (e.kids.map (cA s)) e.ps
  else if e.kd=5 then .mk 4 e.op e.num (s.aY.nm e.nm) e.names (e.kids.map (cA s)) e.ps
  else .mk e.kd e.op e.num e.nm e.names (e.kids.map (cA s)) e.ps:=by
 cases e with|mk k a n x c b p=>
 rw[cA,vO];rfl
def jc(l:List Xp):∀r∈l.map Xp.cells,r.length=8:=by
 intro r a;rw[agC]at a;obtain⟨t,_,rfl⟩:=a;rw[t.aj];rfl
end Go.Ps
namespace Go.Proofs.Pz
open Go.Mt Go.Sm Go.Ps Go.Proofs
open Tryz
def B7(iv b:Nat)(g:List (Nm×Nm))(s:Sc)(e:Xp)(q:iW e):
  Dt prog 291 [l9 iv b g,.d (.agg e.cells)] [cP iv s.vars,cP b s.aY] λr l=>r=.d (.agg (cA s e).cells)/\l=[cP iv s.vars,cP b s.aY]:=by
 have t:∀k∈e.kids,Dt prog 291 [l9 iv b g,.d (.agg k.cells)] [cP iv s.vars,cP b s.aY] λr l=>r=.d (.agg (cA s k).cells)/\l=[cP iv s.vars,cP b s.aY]:=
  λk c=>
   have:=MT c
   B7 iv b g s k (by cases q with|mk _ _ _ h=>exact h k c)
 have E:e.kids.length<=1000000:=by cases q with|mk _ u _ _=>exact u
 intro H F v;have w:=(Wk.start v).nil 8;have C:(e.kids.map Xp.cells).length=e.kids.length:=by simp
 rw[e.aj];refine Lj func291 W ntmps291 W ?_
 repeat refine DC.seq ?_
 apply KZ
 .intro c h;refine dB W W W W<|dB W W W W<|aM W W<|TL.nil W
 repeat refine DC.seq ?_
 apply KZ
 .intro c h;refine ah W W<|TL.nil W
 repeat refine DC.seq ?_
 apply KZ
 .intro c h;refine aA W W<|aF W W W W ?_
  (refine aT W W W ?_;rw[C])
  refine ai W W<|TL.nil W
 repeat refine DC.seq ?_
 refine DC.block<|DC.loop (λm h=>∃(i:Nat) (d:M) (c:List (Nat×List M)) (f:Hp),h=⟨[(11,.m (.d (.int .i64 ((i:Nat):Int)))),(10,.m (.d (.int .i64 ((e.kids.length:Nat):Int)))),(9,.m (.d (.sl (e.kids.map Xp.cells)))),(5,.m d),(4,.loc 4 0),(3,.loc 3 0),(2,.loc 2 0)],c,f⟩/\
   Go.Mt.get c 2=some [.mp iv,.mp b,.d (.sl (bW g))]/\Go.Mt.get c 3=some ((xC e).map M.d)/\Go.Mt.get c 4=some ((bD 0 0 0 ⟨#[]⟩ [] [] (0,0)).map M.d)/\
   Wk F H [.acc 8 (((e.kids.take i).map (cA s)).map Xp.cells) d,cP iv s.vars,cP b s.aY] f/\i<=e.kids.length/\m=e.kids.length-i) e.kids.length _
  ⟨0,.d (.sl []),_,_,rfl,rfl,rfl,rfl,w,by omega,rfl⟩ W ?_
 rintro m J ⟨i,K,L,N,rfl,d,j,f,w,O,rfl⟩
 repeat refine DC.seq ?_
 apply KZ
 .intro c h;refine av W W W W<|TL.nil W
 repeat refine DC.seq ?_
 refine DC.cond W (λn=>?_) (λn=>?_)
 .have c:i<e.kids.length:=by have:=agr n;omega
  have h:(e.kids.map Xp.cells)[((i:Nat):Int).toNat]?=some e.kids[i].cells:=by simp[c]
  have o:((e.kids.take (i+1)).map (cA s)).map Xp.cells=((e.kids.take i).map (cA s)).map Xp.cells++[(cA s e.kids[i]).cells]:=by rw[rJ _ _ _ _ _ c,agI];rfl
  obtain⟨_,z,A,⟨rfl,rfl⟩,w,p⟩:=Wk.call (a:=[_,_]) (r:=[_]) (w.pick [1,2,0]) (t _ (agx c));have w:=w.pick [2,0,1];generalize e.kids[i]=k at h o p;rw[(cA s k).aj]at o;rw[k.aj]at h;rw[k.aj,(cA s k).aj]at p;refine DC.skip ?_
  repeat refine DC.seq ?_
  refine DC.block ?_
  repeat refine DC.seq ?_
  apply KZ
  .intro x y;refine aN W W W (ago i) h W<|aK W W W<|aM W W<|aC W W W W W W<|TL.nil W
  repeat refine DC.seq ?_
  apply KZ
  .intro x y;refine ai W W<|dP W W d W W<|aW W W W W W<|aD p W W<|aU W W W W W W W W<|cX w W W W W W W (by exact cM W) (by simp only[agt,agM,agB];omega)<|ah W W<|TL.nil W
  have w:=w.app [xC (cA s k)]
  repeat refine DC.seq ?_
  apply KZ
  .intro x y;refine aI W W W (by omega)<|ai W W<|TL.nil W
  exact bH (k':=e.kids.length-(i+1)) (by omega) ⟨i+1,_,_,_,rfl,d,j,f,by rw[o];exact w,by omega,rfl⟩ W W
 .refine DC.exit ?_;obtain rfl:i=e.kids.length:=by have:=agv n;omega
  rw[agz]at w;refine DC.bg 5 W (w.view (jc _)) ?_;have w:=w.drop;have x:xC e=bD e.kd e.op e.num e.nm e.names (e.kids.map Xp.cells) e.ps:=rfl;rw[x]at j;rw[FJ]
  repeat refine DC.seq ?_
  apply KZ
  .intro h k;refine ai W W<|aA W W<|aC W W j W W W<|TL.nil W
  repeat refine DC.seq ?_
  apply KZ
  .intro h k;refine aA W W<|aF W W W W<|TL.nil W
  repeat refine DC.seq ?_
  refine DC.block ?_;by_cases c:e.kd=4\/e.kd=12\/e.kd=13
  .rw[agK c];obtain⟨P,h,w⟩:=cP.open w;have k:=w.ob;have o:=LQ h w;rcases c with c|c|c
   .rw[c]
    repeat refine DC.seq ?_
    apply KZ
    .intro G I;refine av W W W (r:=.bool true) W<|ah W W<|TL.nil W
    repeat refine DC.seq ?_
    refine Lo W<|DC.skip ?_
    repeat refine DC.seq ?_
    refine Lo W ?_
    repeat refine DC.seq ?_
    apply KZ
    .intro G I;refine aA W W<|aF W W d W<|aA W W<|aF W W W W<|kO h k W W W<|sD W W W W<|aA W W<|aC W W W W W W<|TL.nil W
    repeat refine DC.seq ?_
    apply KZ
    .intro G I;refine aW W W W W W<|aC W W f W W W<|TL.nil W
    rw[Xp.aj];exact DC.ret ⟨_,W,_,⟨W,W⟩,o⟩
   .rw[c]
    repeat refine DC.seq ?_
    apply KZ
    .intro G I;refine av W W W (r:=.bool false) W<|ah W W<|TL.nil W
    repeat refine DC.seq ?_
    refine Lc W ?_
    repeat refine DC.seq ?_
    apply KZ
    .intro G I;refine av W W W (r:=.bool true) W<|ah W W<|TL.nil W
    repeat refine DC.seq ?_
    refine Lo W<|DC.skip ?_
    repeat refine DC.seq ?_
    refine Lo W ?_
    repeat refine DC.seq ?_
    apply KZ
    .intro G I;refine aA W W<|aF W W d W<|aA W W<|aF W W W W<|kO h k W W W<|sD W W W W<|aA W W<|aC W W W W W W<|TL.nil W
    repeat refine DC.seq ?_
    apply KZ
    .intro G I;refine aW W W W W W<|aC W W f W W W<|TL.nil W
    rw[Xp.aj];exact DC.ret ⟨_,W,_,⟨W,W⟩,o⟩
   .rw[c]
    repeat refine DC.seq ?_
    apply KZ
    .intro G I;refine av W W W (r:=.bool false) W<|ah W W<|TL.nil W
    repeat refine DC.seq ?_
    refine Lc W ?_
    repeat refine DC.seq ?_
    apply KZ
    .intro G I;refine av W W W (r:=.bool false) W<|ah W W<|TL.nil W
    repeat refine DC.seq ?_
    refine Lc W ?_
    repeat refine DC.seq ?_
    apply KZ
    .intro G I;refine av W W W (r:=.bool true) W<|ah W W<|TL.nil W
    repeat refine DC.seq ?_
    refine Lo W ?_
    repeat refine DC.seq ?_
    apply KZ
    .intro G I;refine aA W W<|aF W W d W<|aA W W<|aF W W W W<|kO h k W W W<|sD W W W W<|aA W W<|aC W W W W W W<|TL.nil W
    repeat refine DC.seq ?_
    apply KZ
    .intro G I;refine aW W W W W W<|aC W W f W W W<|TL.nil W
    rw[Xp.aj];exact DC.ret ⟨_,W,_,⟨W,W⟩,o⟩
  rw[agw c];have y:(e.kd==4)=false:=by simp;omega
  have z:(e.kd==12)=false:=by simp;omega
  have A:(e.kd==13)=false:=by simp;omega
  by_cases p:e.kd=5
  .rw[agK p,p];have h:=w.pick [1,0];obtain⟨P,k,h⟩:=cP.open h;have o:=h.ob
   repeat refine DC.seq ?_
   apply KZ
   .intro G I;refine av W W W (r:=.bool false) W<|ah W W<|TL.nil W
   repeat refine DC.seq ?_
   refine Lc W ?_
   repeat refine DC.seq ?_
   apply KZ
   .intro G I;refine av W W W (r:=.bool false) W<|ah W W<|TL.nil W
   repeat refine DC.seq ?_
   refine Lc W ?_
   repeat refine DC.seq ?_
   apply KZ
   .intro G I;refine av W W W (r:=.bool false) W<|ah W W<|TL.nil W
   repeat refine DC.seq ?_
   refine Lc W ?_
   repeat refine DC.seq ?_
   apply KZ
   .intro G I;refine av W W W (r:=.bool true) W<|ah W W<|TL.nil W
   repeat refine DC.seq ?_
   refine Lo W ?_
   repeat refine DC.seq ?_
   apply Le mixed
   .intro G I;refine aX W W<|bC W W d W<|aX W W<|bC W W W W<|tM k o W W W<|xB W W W W<|aX W W<|bS W W W W W W<|aX W W<|bS W W W W W W<|TF.nil ⟨by kernel_rfl,rfl⟩
   repeat refine DC.seq ?_
   apply KZ
   .intro G I;refine aW W W W W W<|aC W W f W W W<|TL.nil W
   rw[Xp.aj];exact DC.ret ⟨_,W,_,⟨W,W⟩,w⟩
  rw[agw p];have B:(e.kd==5)=false:=by simp;omega
  repeat refine DC.seq ?_
  apply KZ
  .intro h k
   (refine av W W W (r:=.bool false) (by show some (D.bool (e.kd==4))=_;rw[y]) ?_)
   refine ah W W<|TL.nil W
  repeat refine DC.seq ?_
  refine Lc W ?_
  repeat refine DC.seq ?_
  apply KZ
  .intro h k
   (refine av W W W (r:=.bool false) (by show some (D.bool (e.kd==12))=_;rw[z]) ?_)
   refine ah W W<|TL.nil W
  repeat refine DC.seq ?_
  refine Lc W ?_
  repeat refine DC.seq ?_
  apply KZ
  .intro h k
   (refine av W W W (r:=.bool false) (by show some (D.bool (e.kd==13))=_;rw[A]) ?_)
   refine ah W W<|TL.nil W
  repeat refine DC.seq ?_
  refine Lc W ?_
  repeat refine DC.seq ?_
  apply KZ
  .intro h k
   (refine av W W W (r:=.bool false) (by show some (D.bool (e.kd==5))=_;rw[B]) ?_)
   refine ah W W<|TL.nil W
  repeat refine DC.seq ?_
  refine Lc W<|DC.skip ?_
  repeat refine DC.seq ?_
  apply KZ
  .intro h k;refine aW W W W W W<|aC W W f W W W<|TL.nil W
  rw[Xp.aj];exact DC.ret ⟨_,W,_,⟨W,W⟩,w⟩
termination_by SizeOf.sizeOf e
end Go.Proofs.Pz
namespace Go.Ps
open Go.Mt Go.Sm
def sL(f:Env)(n:Nat):Prop:=∀x b,f x=some b->b.kK<=n
def sL.set{f:Env}{n:Nat}(h:sL f n)(x:Nm){b:Bd}(d:b.kK<=n):sL (f.set x b) n:=by
 intro y c a;unfold Env.set at a;split at a
 .injection a with a;rw[<-a];exact d
 .exact h y c a
def mP(f:Env)(a:List (Nm×Nm))(m:MS)(x:Nm)(h:sL f a.length):sL (eE f a m x).1 a.length/\(eE f a m x).2.1.n<=m.n+1/\(eE f a m x).2.1.vars.length<=m.vars.length+1/\(eE f a m x).2.2.length<=1:=by
 unfold eE;split
 .exact⟨h,by simp,by simp,by simp⟩
 .rename_i b c;split
  .exact⟨h,by simp,by simp,by simp⟩
  .exact⟨h.set x (ags _),by simp[MS.fresh],by simp[MS.fresh],by simp⟩
structure dZ(s:Sc):Prop where
 v:sL s.vars s.ck.length
 l:sL s.aY s.ck.length
 n:s.ck.length<=1000000
structure bN(r a:R)(k:Nat):Prop where
 ck:a.s.ck=r.s.ck
 sc:dZ a.s
 n:a.m.n<=r.m.n+k
 vs:a.m.vars.length<=r.m.vars.length+k
 q:a.q.length<=r.q.length+k
def bN.refl{r:R}(h:dZ r.s):bN r r 0:=⟨rfl,h,ags _,ags _,ags _⟩
def bN.trans{a b c:R}{i j:Nat}(h:bN a b i)(g:bN b c j):bN a c (i+j):=⟨g.ck.trans h.ck,g.sc,by have:=h.n;have:=g.n;omega,by have:=h.vs;have:=g.vs;omega,by have:=h.q;have:=g.q;omega⟩
def bN.cO{r:R}(h:dZ r.s)(x:Nm):bN r (cO r x) 1:=by
 obtain⟨a,b,c,d⟩:=mP r.s.vars r.s.ck r.m x h.v;rw[mO];exact⟨W,⟨a,h.l,h.n⟩,b,c,by simp;omega⟩
def bN.ff{r:R}(h:dZ r.s)(x:Nm):bN r (ff r x) 1:=by
 obtain⟨a,b,c,d⟩:=mP r.s.aY r.s.ck r.m x h.l;rw[lj];exact⟨W,⟨h.v,a,h.n⟩,b,c,by simp;omega⟩
def bN.pz:∀(l:List Nm) {r:R},dZ r.s->bN r (l.foldl Go.Ps.cO r) l.length
 |[],r,h=>.refl h
 |x::l,r,h=>by
  have a:=bN.cO h x;have:=a.trans (bN.pz l a.sc);rw[aio]at this;exact this
def bN.DA:∀(l:List Nm) {r:R},dZ r.s->bN r (l.foldl Go.Ps.ff r) l.length
 |[],r,h=>.refl h
 |x::l,r,h=>by
  have a:=bN.ff h x;have:=a.trans (bN.DA l a.sc);rw[aio]at this;exact this
def bN.fU{r:R}(h:dZ r.s)(e:Xp):bN r (cG r e) (cm e+cm e):=by
 have b:=bN.pz (lP e []) h;have a:=b.trans (bN.DA (kJ e []) b.sc);have:=oN e [];have:=px e [];simp only[List.length_nil,ahq]at*;exact⟨a.ck,a.sc,by have:=a.n;unfold cG;omega,by have:=a.vs;unfold cG;omega,by have:=a.q;unfold cG;omega⟩
def tQ:∀(l:List Nm) (r:R),(l.foldl cO r).s.aY=r.s.aY
 |[],r=>rfl
 |x::l,r=>by rw[agy,tQ l,mO]
def vP:∀(l:List Nm) (r:R),(l.foldl ff r).s.vars=r.s.vars
 |[],r=>rfl
 |x::l,r=>by rw[agy,vP l,lj]
end Go.Ps
namespace Go.Proofs.Pz
open Go.Mt Go.Sm Go.Ps Go.Proofs
open Tryz
def fw(a b:List aJ):cv (a++b)=cv a++cv b:=by simp[cv]
abbrev gS(it im iv il:Nat)(p:Pg)(r:R):List As:=[.ob it bK,gV im p r.m,cP iv r.s.vars,cP il r.s.aY]
def ri(it d iv c:Nat)(p:Pg)(s:Sc)(m:MS)(e:Xp)(u:iW e)(U:dZ s)(hn:m.n+cm e+cm e<1000000000)(hv:m.vars.length+cm e+cm e<=10000000)(C:cm e<=1000000):
  Dt prog 256 [.ref d 0,l9 iv c s.ck,.d (.agg e.cells)] (gS it d iv c p ⟨s,m,[]⟩) λx l=>∃b,x=mi [.d (.agg (cA (cG ⟨s,m,[]⟩ e).s e).cells),b]/\l=.acc 16 (cv (cG ⟨s,m,[]⟩ e).q) b::gS it d iv c p (cG ⟨s,m,[]⟩ e):=by
 intro H F V;have w:=(Wk.start V).nil 16;obtain⟨_,X,t,⟨rfl,rfl⟩,w,k⟩:=Wk.call (a:=[]) w (IM e u C);have D:=oN e [];have E:=px e [];simp only[List.length_nil,ahq]at D E;obtain⟨A,G⟩:∃A,A=lP e []:=⟨_,rfl⟩;obtain⟨B,v⟩:∃B,B=kJ e []:=⟨_,rfl⟩;unfold cG;rw[<-G]at k D;rw[<-v]at E;rw[<-G,<-v];have Y:(aR A).length=A.length:=by simp[aR]
 have ac:(aR B).length=B.length:=by simp[aR]
 have I:= λi=>bN.pz (A.take i) (r:=⟨s,m,[]⟩) U
 rw[e.aj]at k⊢;refine Lj func256 W ntmps256 W ?_
 repeat refine DC.seq ?_
 apply KZ
 .intro o z;refine dB W W W W<|bp W W<|aM W W<|ah W W<|TL.nil W
 repeat refine DC.seq ?_
 apply KZ
 .intro o z;refine ah W W<|TL.nil W
 repeat refine DC.seq ?_
 apply KZ
 .intro o z;refine aK W W W<|aD k W W ?_
  (refine aT W W W ?_;rw[Y])
  refine ai W W<|TL.nil W
 repeat refine DC.seq ?_
 refine DC.block<|DC.loop (λk h=>∃(i:Nat) (f:M) (b:List (Nat×List M)) (g:Hp),h=⟨[(16,.m (.d (.int .i64 ((i:Nat):Int)))),(15,.m (.d (.int .i64 ((A.length:Nat):Int)))),(14,.m (.d (.sl (aR A)))),(8,.m f),(6,.loc 6 0),(5,.m (.d (.ca (xC e) 0))),(4,.loc 4 0),(0,.m (.ref d 0))],b,g⟩/\
   Go.Mt.get b 4=some [.mp iv,.mp c,.d (.sl (bW s.ck))]/\Go.Mt.get b 6=some ((bD 0 0 0 ⟨#[]⟩ [] [] (0,0)).map M.d)/\
   Wk F H (.acc 16 (cv ((A.take i).foldl cO ⟨s,m,[]⟩).q) f::gS it d iv c p ((A.take i).foldl cO ⟨s,m,[]⟩)) g/\i<=A.length/\k=A.length-i) A.length _
  ⟨0,.d (.sl []),_,_,rfl,rfl,rfl,w,by omega,rfl⟩ W ?_
 rintro T Z ⟨i,y,bx,H1,rfl,h,n,w,hi,rfl⟩
 repeat refine DC.seq ?_
 apply KZ
 .intro o z;refine av W W W W<|TL.nil W
 repeat refine DC.seq ?_
 refine DC.cond W (λj=>?_) (λj=>?_)
 .have J:i<A.length:=by have:=agr j;omega
  have K:=iC J;have b:=I i;have o:(A.take (i+1)).foldl cO ⟨s,m,[]⟩=cO ((A.take i).foldl cO ⟨s,m,[]⟩) A[i]:=by rw[agp J,ag7];rfl
  rw[mO]at o;generalize (A.take i).foldl cO ⟨s,m,[]⟩=r at w b o;generalize A[i]=x at K o;have PO:=b.n;have Qc:=b.vs;have L:=b.q;have z:=b.ck;have Tl:(A.take i).length<=A.length:=by rw[agM];omega
  dsimp only at PO Qc L z
  have Rw:=mP r.s.vars r.s.ck r.m x b.sc.v;obtain⟨_,N,t,⟨rfl,rfl⟩,w,f⟩:=Wk.call (a:=[.ob it bK,gV d p r.m,cP iv r.s.vars]) (r:=[_,_]) (w.pick [1,2,3,0,4]) (B6 it d p r.m iv c r.s.ck r.s.vars x (by omega) (by omega) b.sc.n (b.sc.v x));rw[z]at f Rw;have w:=w.pick [3,0,1,2,4];rw[z]at w o;have NW:(cv r.q).length+(cv (eE r.s.vars s.ck r.m x).2.2).length<=100000000:=by
   simp only[cv,agt];simp at L;omega
  refine DC.skip ?_
  repeat refine DC.seq ?_
  refine DC.block ?_
  repeat refine DC.seq ?_
  apply KZ
  .intro s0 Oo;refine aN W W W (ago i) K W<|ax W W W<|ah W W<|TL.nil W
  repeat refine DC.seq ?_
  apply KZ
  .intro s0 Oo;refine ai W W<|ai W W<|dP W W h W W<|ai W W<|aD f W W<|cX w W W W W W W (dt _) (by omega)<|ah W W<|TL.nil W
  have w:=w.app (cv (eE r.s.vars s.ck r.m x).2.2);rw[<-fw]at w
  repeat refine DC.seq ?_
  apply KZ
  .intro s0 Oo;refine aI W W W (by omega)<|ai W W<|TL.nil W
  exact bH (k':=A.length-(i+1)) (by omega) ⟨i+1,_,_,_,rfl,h,n,by rw[o];exact w,by omega,rfl⟩ W W
 refine DC.exit ?_;obtain rfl:i=A.length:=by have:=agv j;omega
 have b:=I A.length;rw[agz]at w b;have O:=tQ A ⟨s,m,[]⟩;generalize A.foldl cO ⟨s,m,[]⟩=g at w b O⊢;obtain⟨_,X,t,⟨rfl,rfl⟩,w,k⟩:=Wk.call (a:=[]) w (Dy e u C);rw[<-v,e.aj]at k;have P:= λi=>bN.DA (B.take i) (r:=g) b.sc
 have SF:=b.n;have SG:=b.vs;have Q:=b.q;have R:=b.ck
 dsimp only at SF SG Q R O
 repeat refine DC.seq ?_
 apply KZ
 .intro o z;refine aK W W W<|aD k W W ?_
  (refine aT W W W ?_;rw[ac])
  refine ai W W<|TL.nil W
 repeat refine DC.seq ?_
 refine DC.block<|DC.loop (λk j=>∃(i:Nat) (f:M) (b:List (Nat×List M)) (h:Hp),j=⟨[(30,.m (.d (.int .i64 ((i:Nat):Int)))),(29,.m (.d (.int .i64 ((B.length:Nat):Int)))),(28,.m (.d (.sl (aR B)))),(8,.m f),(6,.loc 6 0),(5,.m (.d (.ca (xC e) 0))),(4,.loc 4 0),(0,.m (.ref d 0))],b,h⟩/\
   Go.Mt.get b 4=some [.mp iv,.mp c,.d (.sl (bW s.ck))]/\Go.Mt.get b 6=some ((bD 0 0 0 ⟨#[]⟩ [] [] (0,0)).map M.d)/\
   Wk F H (.acc 16 (cv ((B.take i).foldl ff g).q) f::gS it d iv c p ((B.take i).foldl ff g)) h/\i<=B.length/\k=B.length-i) B.length _
  ⟨0,y,_,_,rfl,h,n,w,by omega,rfl⟩ W ?_
 rintro T Z ⟨i,y,bx,H1,rfl,h,n,w,hi,rfl⟩
 repeat refine DC.seq ?_
 apply KZ
 .intro o z;refine av W W W W<|TL.nil W
 repeat refine DC.seq ?_
 refine DC.cond W (λj=>?_) (λj=>?_)
 .have z:i<B.length:=by have:=agr j;omega
  have J:=iC z;have b:=P i;have o:(B.take (i+1)).foldl ff g=ff ((B.take i).foldl ff g) B[i]:=by rw[agp z,ag7];rfl
  rw[lj]at o;generalize (B.take i).foldl ff g=r at w b o;generalize B[i]=x at J o;have PO:=b.n;have Qc:=b.vs;have Ou:=b.q;have K:=b.ck.trans R;have Tl:(B.take i).length<=B.length:=by rw[agM];omega
  have L:=mP r.s.aY r.s.ck r.m x b.sc.l;obtain⟨_,N,t,⟨rfl,rfl⟩,w,f⟩:=Wk.call (a:=[.ob it bK,gV d p r.m,cP c r.s.aY]) (r:=[_,_]) (w.pick [1,2,4,0,3]) (tP it d p r.m iv c r.s.ck r.s.aY x (by omega) (by omega) b.sc.n (b.sc.l x));rw[K]at f L;have w:=w.pick [3,0,1,4,2];rw[K]at w o;have NW:(cv r.q).length+(cv (eE r.s.aY s.ck r.m x).2.2).length<=100000000:=by
   have:g.q.length<=A.length:=by simpa using Q
   simp only[cv,agt];omega
  refine DC.skip ?_
  repeat refine DC.seq ?_
  refine DC.block ?_
  repeat refine DC.seq ?_
  apply KZ
  .intro s0 Oo;refine aN W W W (ago i) J W<|ax W W W<|ah W W<|TL.nil W
  repeat refine DC.seq ?_
  apply KZ
  .intro s0 Oo;refine ai W W<|ai W W<|dP W W h W W<|ai W W<|aD f W W<|cX w W W W W W W (dt _) (by omega)<|ah W W<|TL.nil W
  have w:=w.app (cv (eE r.s.aY s.ck r.m x).2.2);rw[<-fw]at w
  repeat refine DC.seq ?_
  apply KZ
  .intro s0 Oo;refine aI W W W (by omega)<|ai W W<|TL.nil W
  exact bH (k':=B.length-(i+1)) (by omega) ⟨i+1,_,_,_,rfl,h,n,by rw[o];exact w,by omega,rfl⟩ W W
 refine DC.exit ?_;obtain rfl:i=B.length:=by have:=agv j;omega
 have S:=P B.length;rw[agz]at w S;generalize B.foldl ff g=q at w S⊢;obtain⟨_,N,t,⟨rfl,rfl⟩,w,f⟩:=Wk.call (a:=[cP iv q.s.vars,cP c q.s.aY]) (r:=[_,_,_]) (w.pick [3,4,0,1,2]) (B7 iv c s.ck q.s e u);have w:=w.pick [2,3,4,0,1];rw[e.aj,(cA q.s e).aj]at f;rw[(cA q.s e).aj]
 repeat refine DC.seq ?_
 apply KZ
 .intro o z;refine dP W W h W W<|aK W W W<|aD f W W<|ai W W<|aC W W n W W W<|ah W W<|TL.nil W
 exact DC.ret ⟨_,W,_,⟨y,W,W⟩,w⟩
end Go.Proofs.Pz
namespace Go.Ps
open Go.Mt Go.Sm
def bN.val{r:R}(h:dZ r.s)(e:Xp)(t:Int×Nm):bN r (gG r e t) (cm e+cm e+1):=by
 have a:=bN.fU h e;exact⟨a.ck,a.sc,by have:=a.n;simp only[gG,MS.fresh];omega,by have:=a.vs;simp only[gG,MS.fresh,agq,agB];omega,by have:=a.q;simp only[gG,agq,agB];omega⟩
end Go.Ps
namespace Go.Proofs.Pz
open Go.Mt Go.Sm Go.Ps Go.Proofs
open Tryz
def zZ(it b iv d:Nat)(p:Pg)(s:Sc)(m:MS)(e:Xp)(t:Int×Nm)(n:iW e)(g:dZ s)(o:m.n+cm e+cm e<1000000000)(q:m.vars.length+cm e+cm e<=10000000)(u:cm e<=1000000):
  Dt prog 258 [.ref b 0,l9 iv d s.ck,.d (.agg e.cells),.d (.agg (fH t))] (gS it b iv d p ⟨s,m,[]⟩) λx l=>∃c,x=mi [.d (.str (nV (Ps.gG ⟨s,m,[]⟩ e t).m.n)),c]/\l=.acc 16 (cv (Ps.gG ⟨s,m,[]⟩ e t).q) c::gS it b iv d p (Ps.gG ⟨s,m,[]⟩ e t):=by
 intro H F v;obtain⟨_,D,y,⟨C,rfl,rfl⟩,w,f⟩:=Wk.call (r:=[]) (Wk.start v) (ri it b iv d p s m e n g o q u);have c:=bN.fU (r:=⟨s,m,[]⟩) g e;unfold Ps.gG;generalize cG ⟨s,m,[]⟩ e=r at w f c⊢;have z:=c.n;have A:=c.vs;have h:=c.q;have i:=c.ck
 dsimp only at z A h i
 obtain⟨_,E,y,⟨rfl,rfl⟩,w,j⟩:=Wk.call (a:=[.ob it bK,gV b p r.m]) (r:=[_,_,_]) (w.pick [1,2,0,3,4]) (rf it b p r.m (by omega) (by omega) t r.s.ck c.sc.n);have w:=w.pick [2,0,1,3,4];have k:=oL (nV (r.m.n+1)) (cA r.s e) e.ps;rw[ea,(cA r.s e).aj]at k;rw[(cA r.s e).aj,e.aj]at f;rw[i]at j;rw[e.aj];refine Lj func258 W ntmps258 W ?_
 repeat refine DC.seq ?_
 apply KZ
 .intro G I;refine dB W W W W<|bp W W<|bp W W<|ah W W<|ah W W<|TL.nil W
 repeat refine DC.seq ?_
 apply KZ
 .intro G I;refine ai W W<|dP W W W W W<|aK W W W<|aD f W W<|ai W W<|bZ W W W<|bZ W W W<|aM W W<|aC W W W W W W<|ah W W<|TL.nil W
 repeat refine DC.seq ?_
 apply KZ
 .intro G I;refine ai W W<|aK W W W<|aA W W<|aF W W W W<|aD j W W<|ah W W<|TL.nil W
 repeat refine DC.seq ?_
 apply KZ
 .intro G I;refine ai W W<|ai W W<|ai W W<|aW W W W W W<|ay W W<|fA W W W<|aL k W W<|aU W W W W W W W W<|cX w W W W W W W (by exact cM W) (by simp[cv]at h⊢;omega)<|ah W W<|ah W W<|TL.nil W
 have w:=w.app [eQ 1 [nV (r.m.n+1)] ⟨#[]⟩ [] false (xC (cA r.s e)) [] e.ps];have B:cv (r.q++[gQ (nV (r.m.n+1)) (cA r.s e) e.ps])=cv r.q++[eQ 1 [nV (r.m.n+1)] ⟨#[]⟩ [] false (xC (cA r.s e)) [] e.ps]:=by
  rw[fw];show cv r.q++[(gQ (nV (r.m.n+1)) (cA r.s e) e.ps).cells]=_;rw[ea]
 rw[<-B]at w;exact DC.ret ⟨_,W,_,⟨_,W,W⟩,w⟩
end Go.Proofs.Pz
namespace Go.Ps
open Go.Mt Go.Sm
def bN.last{r:R}(h:dZ r.s)(v:Va)(a:Nm):bN r (iz r v a) 1:=by
 unfold iz;split
 .exact⟨W,⟨h.v,h.l.set _ (ags _),h.n⟩,by simp[MS.fresh],by simp[MS.fresh],by simp⟩
 .exact⟨W,h,ah8 _,ah8 _,ah8 _⟩
def Hr(a b:List (Nm×Nm)):bW (a++b)=bW a++bW b:=by simp[bW]
end Go.Ps
namespace Go.Proofs.Pz
open Go.Mt Go.Sm Go.Ps Go.Proofs
open Tryz
def tS(a b:List (Nm×Nm))(h:a.length+b.length<=1000000):PT prog 208 [.sl [[.sl (bW a)],[.sl (bW b)]]] (·=[.sl (bW (a++b))]):=by
 have c:=B2 [bW a,bW b] (by
  intro l d r e;simp only[agu,agE,ag0]at d;rcases d with rfl|rfl<;>exact ja _ r e) (by simp) (by simp[bW];omega)
 have f:[bW a,bW b].flatten=bW (a++b):=by rw[Hr];simp
 rw[f]at c;exact c
def B8(it c iv d:Nat)(p:Pg)(s:Sc)(m:MS)(v:Va)(b:Nm)(E:dZ s)(o:m.n<1000000000)(q:m.vars.length<=10000000)(e:s.ck.length+v.clock.length<=1000000):
  Dt prog 162 [.ref c 0,l9 iv d s.ck,.d (.agg v.cells),.d (.str b)] (gS it c iv d p ⟨s,m,[]⟩) λx l=>x=.d (.sl (cv (iz ⟨s,m,[]⟩ v b).q))/\l=gS it c iv d p (iz ⟨s,m,[]⟩ v b):=by
 intro H F t;have w:=Wk.start t;rw[v.aj];unfold iz;cases G:v.last with
 |false=>
  simp only[ahj,ahL];refine Lj func162 W ntmps162 W ?_
  repeat refine DC.seq ?_
  apply KZ
  .intro f g;refine dB W W W W<|bp W W<|ah W W<|TL.nil W
  repeat refine DC.seq ?_
  apply KZ
  .intro f g;refine ay W W<|ax W W W<|fb W W<|TL.nil W
  repeat refine DC.seq ?_
  refine Lo W ?_
  repeat refine DC.seq ?_
  apply KZ
  .intro f g;refine ah W W<|TL.nil W
  exact DC.ret ⟨_,W,_,⟨W,W⟩,w⟩
 |true=>
  simp only[ah3];obtain⟨u,f⟩:∃b,b=s.ck++v.clock.map λo=>(o.1,s.vars.nm o.2):=⟨_,rfl⟩
  have g:=tS s.ck (v.clock.map λo=>(o.1,s.vars.nm o.2)) (by rw[agt];exact e);rw[<-f]at g⊢;obtain⟨_,K,y,⟨rfl,rfl⟩,w,z⟩:=Wk.call (a:=[cP iv s.vars]) (r:=[_,_,_]) (w.pick [2,0,1,3]) (FI (.ref c 0) iv d s.ck s.vars v.clock (by omega));obtain⟨_,L,y,⟨rfl,rfl⟩,w,A⟩:=Wk.call (a:=[.ob it bK,gV c p m]) (r:=[_,_]) (w.pick [1,2,0,3]) (rf it c p m o q (v.tk,v.tn) u (by rw[f,agq,agt];exact e));have w:=w.pick [3,0,1,2];obtain⟨B,h,w⟩:=cP.open w;have C:(bW s.ck).length=s.ck.length:=by simp[bW]
  have i:=fB b;rw[(bz b).aj]at i;have j:(jE v.first (bz b)).cells=bD 9 0 0 ⟨#[]⟩ [] [xC v.first,xC (bz b)] (0,0):=by
   rw[Xp.aj];show bD 9 0 0 _ [] [v.first.cells,(bz b).cells] _=_;rw[v.first.aj,(bz b).aj];rfl
  have k:(gQ (nV (m.n+1)) (jE v.first (bz b)) v.ps).cells=eQ 1 [nV (m.n+1)] ⟨#[]⟩ [] false (bD 9 0 0 ⟨#[]⟩ [] [xC v.first,xC (bz b)] (0,0)) [] v.ps:=by rw[aJ.cells,j];rfl
  have n:=oL (nV (m.n+1)) (jE v.first (bz b)) v.ps;rw[k,j]at n;refine Lj func162 W ntmps162 W ?_
  repeat refine DC.seq ?_
  apply KZ
  .intro I J;refine dB W W W W<|bp W W<|ah W W<|TL.nil W
  repeat refine DC.seq ?_
  apply KZ
  .intro I J;refine ay W W<|ax W W W<|fb W W<|TL.nil W
  repeat refine DC.seq ?_
  refine Lc W<|DC.skip ?_
  repeat refine DC.seq ?_
  apply Le mixed
  .intro I J;refine aX W W<|bC W W W W<|aO W W<|mN W W W W W<|bI W W<|cd W W W<|bt z W W<|bm W W W W W W W W<|bc g W W<|eX W W<|TF.nil ⟨by kernel_rfl,rfl⟩
  repeat refine DC.seq ?_
  apply KZ
  .intro I J;refine ai W W<|ay W W<|fA W W W<|ai W W<|aD A W W<|ah W W<|TL.nil W
  repeat refine DC.seq ?_
  apply KZ
  .intro I J;refine aA W W<|aF W W W W<|ay W W<|ax W W W<|ai W W<|aA W W<|aF W W W W ?_
   (refine aT W W W ?_;rw[C])
   refine ay W W<|fA W W W<|bX W W W W W<|fW W W W w.ob h.k<|TL.nil W
  repeat refine DC.seq ?_
  apply Le mixed
  .intro I J;refine aO W W<|bI W W<|gm W W W<|aO W W<|bc i W W<|bm W W W W W W W W<|dU W W W W W<|bI W W<|gm W W W<|bc n W W<|bm W W W W W W W W<|eX W W<|TF.nil ⟨by kernel_rfl,rfl⟩
  refine DC.ret ⟨_,W,_,⟨?_,W⟩,(LQ (h.set v.name ⟨nV (m.n+1),s.ck.length,v.tk,v.tn⟩) (w.set (.map (dH v.name (.d (.agg (nG ⟨nV (m.n+1),s.ck.length,v.tk,v.tn⟩))) B)))).pick [1,2,3,0]⟩;show _=M.d (D.sl [(gQ (nV (m.n+1)) (jE v.first (bz b)) v.ps).cells]);rw[k];rfl
end Go.Proofs.Pz
namespace Go.Ps
open Go.Mt Go.Sm
variable{es Nu:List (D×M)}{bs seen:List Nat}
def JQ(es:List (D×M))(bs seen:List Nat)(a:List (D×M))(ns:List Nat):Prop:=ns.Nodup/\seen.map some=ns.map (bs[·]?)/\a.map some=ns.map (es[·]?)
def Seen(es:List (D×M))(bs seen:List Nat)(a:List (D×M)):Prop:=∃b,JQ es bs seen a b
def Seen.nil(es:List (D×M))(bs:List Nat):Seen es bs [] []:=⟨[],by simp,rfl,rfl⟩
def Seen.step{es:List (D×M)}{bs seen:List Nat}{a:List (D×M)}(h:Seen es bs seen a){n b:Nat}{e:D×M}(d:es[n]?=some e)(g:bs[n]?=some b)(m:b∉seen)(o:(es.map Prod.fst).Nodup):
  Seen es bs (seen++[b]) (a++[e])/\e.1∉a.map Prod.fst:=by
 obtain⟨f,p,i,j⟩:=h;have k:n∉f:=by
  intro h;have:some b∈f.map (bs[·]?):=agC.2 ⟨n,h,g⟩;rw[<-i,agC]at this;obtain⟨c,l,e⟩:=this;injection e with e;subst e;exact m l
 refine⟨⟨f++[n],?_,?_,?_⟩,?_⟩
 .rw[ah6];exact⟨p,by simp,by intro r q c l;rw[ag9]at l;subst l;exactλe=>k (e▸q)⟩
 .rw[agI,agI,i];simp[g]
 .rw[agI,agI,j];simp[d]
 .intro l;rw[agC]at l;obtain⟨c,q,r⟩:=l;have:some c∈a.map some:=agC.2 ⟨c,q,rfl⟩;rw[j,agC]at this;obtain⟨s,t,u⟩:=this;apply k;have v:n<(es.map Prod.fst).length:=by rw[agt];exact(ahk.1 d).1
  have:n=s:=by
   refine(List.getElem?_inj v o).1 ?_;rw[ahh,ahh,d,u];simp[r]
  rw[this];exact t
def Seen.all(h:Seen es bs seen Nu)(i:∀b∈bs,b∈seen)(j:bs.Nodup)(q:bs.length=es.length):Nu.Perm es:=by
 obtain⟨f,k,l,g⟩:=h;have m:f.Perm (List.range es.length):=by
  rw[List.perm_ext_iff_of_nodup k List.nodup_range];intro n;rw[ahZ];constructor
  .intro d;have:(es[n]?)∈f.map (es[·]?):=agC.2 ⟨n,d,rfl⟩;rw[<-g,agC]at this;obtain⟨c,_,o⟩:=this;exact(ahk.1 o.symm).1
  .intro r;have d:n<bs.length:=by omega
   have:some bs[n]∈seen.map some:=agC.2 ⟨_,(i _ (agx d)),rfl⟩;rw[l,agC]at this;obtain⟨o,e,p⟩:=this;have:n=o:=by
    refine(List.getElem?_inj d j).1 ?_;rw[p];simp[d]
   rw[this];exact e
 have e:(Nu.map some).Perm (es.map some):=by
  have d:es.map some=(List.range es.length).map (es[·]?):=by
   refine aiD (by simp) λn a o=>?_
   simp at a;simp[a]
  rw[g,d];exact m.map _
 have a:=e.filterMap id;simpa using a
def lk(bs seen:List Nat):Nat:=(bs.filter λc=>decide (c∉seen)).length
def FK(bs seen:List Nat)(b:Nat):lk bs (seen++[b])<=lk bs seen:=by
 unfold lk
 induction bs with
 |nil=>simp
 |cons c l a=>
  simp only[aja];by_cases d:c∈seen
  .simp[d]at a⊢;exact a
  .by_cases e:c=b
   .subst e;simp[d]at a⊢;omega
   .simp[d,e]at a⊢;exact a
def u9{b:Nat}(d:b∈bs)(f:b∉seen):lk bs (seen++[b])<lk bs seen:=by
 induction bs with
 |nil=>simp at d
 |cons c l g=>
  by_cases a:c=b
  .subst a;have:=FK l seen c;unfold lk at this⊢;simp only[aja];simp[f]at this⊢;omega
  .have i:b∈l:=by rcases agu.1 d with h|h;exact absurd h.symm a;exact h
   have:=g i;unfold lk at this⊢;simp only[aja];by_cases e:c∈seen
   .simp[e]at this⊢;exact this
   .simp[e,a]at this⊢;exact this
def u_(k:Nm)(v:M):∀{es:List (D×M)},strKeys es=true->D.str k∉es.map Prod.fst->dH k v es=es++[(.str k,v)]
 |[],_,_=>rfl
 |(d,m)::r,h,a=>by
  cases d with
  |str s=>
   simp only[agH,agu,ajv]at a;rw[mZ,agw (λe=>a.1 (by rw[e])),u_ k v (es:=r) (by simpa [strKeys] using h) a.2];rfl
  |_=>simp[strKeys]at h
def xS(a:Nu.Perm es)(b:strKeys es=true)(c:(es.map Prod.fst).Nodup):∀a,dQ a Nu->dQ a es:=by
 intro d h;refine .inr ⟨?_,cI.1 b,c⟩;rcases h with rfl|⟨h,_⟩
 .exact a
 .exact h.trans a
def dQ.va{a:List (D×M)}(h:dQ a es):a.Perm es:=by
 rcases h with rfl|⟨h,_⟩
 .exact .refl _
 .exact h
end Go.Ps
namespace Go.Ps
open Go.Mt Go.Sm
variable{m n:Nat}{f:Env}{F:Nat->Prop}{H:Hp}
def vc{x:Nm}{m:M} :∀{es:List (D×M)},strKeys es=true->(es.map Prod.fst).Nodup->(D.str x,m)∈es->eP x es=some m
 |[],_,_,h=>by simp at h
 |(d,g)::r,c,a,h=>by
  cases d with
  |str s=>
   rw[agH,ahB]at a;rw[gY];rcases agu.1 h with h|h
   .injection h with b f;injection b with b;subst b;subst f;rw[agK W]
   .rw[agw (λe=>a.1 (by rw[e];exact agC.2 ⟨_,h,W⟩))];exact vc (by simpa [strKeys] using c) a.2 h
  |_=>simp[strKeys]at c
def iH.IN{es:List (D×M)}(h:iH es f){e:D×M}(a:e∈es):∃x b,e=(.str x,M.d (.agg (nG b))):=by
 obtain⟨x,c⟩:=cI.1 h.k e a;obtain⟨d,m⟩:=e;simp only at c;subst c;have:=vc h.k h.nd a;rw[h.l]at this;cases g:f x with
 |none=>rw[g]at this;cases this
 |some b=>rw[g]at this;injection this with this;exact⟨x,b,by rw[<-this]⟩
def JR{K:Hp}{l:List As}{iv c:Nat}{a b:Ob}(g:∀i,F i->i=iv\/i=c)(w:Wk F H l K)(h:K[iv]?=H[iv]?)(j:K[c]?=H[c]?)(k:K[H.length]?=some a)(d:K[H.length+1]?=some b):
  H.length+2<=K.length/\K.take (H.length+2)=H++[a,b]:=by
 obtain⟨_,_,m⟩:=w;have n:=(ahk.1 d).1;refine⟨n,ah7 λi=>?_⟩;rw[ahQ];by_cases e:i<H.length
 .rw[agK (by omega),agF e];by_cases f:F i
  .rcases g i f with rfl|rfl
   .exact h
   .exact j
  .exact m.iG i e f
 .by_cases f:i=H.length
  .subst f;rw[agK (by omega),k,agP (ags _)];simp
  .by_cases o:i=H.length+1
   .subst o;rw[agK (by omega),d,agP (by omega)];simp
   .rw[agw (by omega),agD (by simp;omega)]
def MB.le(c:n<=m){x:M}(h:MB n x):MB m x:=by
 induction h with
 |d x=>exact .d x
 |ref i a h=>exact .ref i a (by omega)
 |cy i a b h=>exact .cy i a b (by omega)
 |cF i a b h=>exact .cF i a b (by omega)
 |mp i h=>exact .mp i (by omega)
 |it i h=>exact .it i (by omega)
 |agg a h b=>exact .agg a b
 |fn f a h b=>exact .fn f a b
 |c_ a h b=>exact .c_ a b
 |undef=>exact .undef
def AR.le(a:n<=m){ob:Ob}(h:AR n ob):AR m ob:=by
 cases ob with
 |box b=>exactλx b=>MB.le a (h x b)
 |row e c d b=>exactλx b=>MB.le a (h x b)
 |map b=>exactλx b=>MB.le a (h x b)
 |iter x=>exact MB.le a h
 |dead=>trivial
 |free=>trivial
def cP.Hs{i:Nat}(h:(cP i f).p H F):∀j,F j->j=i:=by
 obtain⟨k,l,m,⟨n,a⟩,⟨o,p,⟨_,b⟩,c,_,d⟩,_,e⟩:=h;intro j g;rcases(e j).1 g with h|h
 .exact(a j).1 h
 .rcases(d j).1 h with h|h
  .exact absurd h (b j)
  .exact absurd h (c j)
end Go.Ps
namespace Go.Proofs.Pz
open Go.Mt Go.Sm Go.Ps Go.Proofs
open Tryz
def FL{F:Nat->Prop}{H:Hp}{iv j:Nat}{k u:List (D×M)}{f g:Env}(w:Wk F H [.ob iv (.map k),.ob j (.map u)] H)(Y:iH k f)(Z:iH u g)(hF:∀i,F i->i=iv\/i=j)(L:List (Nm×Nm))(mk:M)(XW:fj mk=some [mk]):
  CT prog 259 [l9 iv j L,mk] H λr K=>r=.agg [.mp H.length,.mp (H.length+1),mk]/\H.length+2<=K.length/\K.take (H.length+2)=H++[.map k,.map u]:=by
 have V1:=w.ob;have ac:=(w.pick [1,0]).ob;refine Lf func259 W ntmps259 W λs0 Oo=>?_
 repeat refine TC.seq ?_
 refine TC.region<|dB W W W W<|aM W W<|TL.nil ?_;have w:=(w.new (.map [])).new (.map []);have QK:(H++[Ob.map []]).length=H.length+1:=by simp
 repeat refine TC.seq ?_
 refine TC.region<|jn W<|jn W<|ai W W<|mJ (cs:=[.mp H.length,.mp (H++[Ob.map []]).length,mk]) W W W (by simp only[jH];rw[XW];rfl)<|aM W W<|aC W W W (fu _) W W<|TL.nil ?_;rw[QK]at w⊢;have w:=w.pick [2,1,0,3];have a:=Y;have I:=w.ob
 repeat refine TC.seq ?_
 refine TC.region<|aA W W<|aF W W W W ?_
 (refine uM W W W W I a.k ?_;intro o c i d l v N)
 refine TL.nil ?_;have m:∃J,J=(H++[Ob.map []]++[Ob.map []]).length:=⟨_,rfl⟩;obtain⟨J,m⟩:=m;rw[<-m];have w:=(w.set (.map (fe i o c))).new (.iter (jI iv i []));rw[aiP,<-m]at w;have w:=w.pick [1,0,2,3,4];have O:=(((dQ.va d).map Prod.fst).nodup_iff).2 a.nd;have P:=d.strs a.k
 repeat refine TC.seq ?_
 refine TC.block<|LI (λl s=>∃(h:List Nat) (d:List (D×M)) (a:List (Nat×List M)) (k:Hp),s=⟨[(16,.m (.it J)),(5,.loc 5 0),(4,.loc 4 0),(2,.loc 2 0)],a,k⟩/\
   Go.Mt.get a 2=some [.mp iv,.mp j,.d (.sl (bW L))]/\Go.Mt.get a 4=some [.d .jJ,.d .jJ,.d (.sl [])]/\Go.Mt.get a 5=some [.mp H.length,.mp (H.length+1),mk]/\
   Seen o c h d/\strKeys d=true/\
   Wk F H (.ob iv (.map (fe i o c)):: .ob J (.iter (jI iv i h)):: .ob H.length (.map d):: [.ob (H.length+1) (.map []),.ob j (.map u)]) k/\l=lk c h) (lk c []) _
  ⟨[],[],_,_,rfl,rfl,rfl,rfl,Seen.nil _ _,rfl,w,rfl⟩ W ?_
 rintro U V ⟨C,x,bx,S,rfl,y,z,p,A,q,w,rfl⟩;have n:=w.ob;have s:=(w.pick [1,0,2,3,4]).ob
 repeat refine TC.seq ?_
 refine TC.region<|xF W W s n l N (λQ=>?_) (λX e b h t B=>?_);rotate_left
 .obtain⟨E,R,rfl⟩:=a.IN (d.mem.1 (agN h));refine bZ W W W<|TL.nil ?_
  repeat refine TC.seq ?_
  refine LK W<|TC.skip ?_;have w:=(w.pick [1,0,2,3,4]).set (.iter (jI iv i (C++[b])));have s:=w.ob;have w:=w.pick [1,0,2,3,4];have n:=w.ob;have w:=w.pick [2,0,1,3,4];have hC:=w.ob;obtain⟨RL,Ow⟩:=A.step h t B O
  repeat refine TC.seq ?_
  refine TC.block ?_
  repeat refine TC.seq ?_
  refine TC.region<|uN W W s n l v h t<|bZ W W W<|bZ W W W<|aM W W<|ah W W<|aC W W W W W W<|TL.nil ?_
  repeat refine TC.seq ?_
  refine TC.region<|aA W W<|aF W W p W<|ai W W<|aW W W W W W<|fW W W W hC q<|TL.nil ?_;have w:=w.set (.map (dH E (.d (.agg (nG R))) x));have T:=u_ E (.d (.agg (nG R))) q Ow;have UZ:strKeys (dH E (.d (.agg (nG R))) x)=true:=by
   rw[T,cI];intro e h;rcases agG.1 h with G|G
   .exact cI.1 q e G
   .rw[ag9]at G;subst G;exact⟨E,W⟩
  exact again (u9 (agN t) B) ⟨C++[b],_,_,_,W,y,z,p,by rw[T];exact RL,UZ,w.pick [1,2,0,3,4],W⟩ W W
 refine bZ W W W<|TL.nil ?_
 repeat refine TC.seq ?_
 refine Ll W<|TC.exit<|TC.tv n l P d ?_;have w:=w.set (.map k);have w:=w.pick [2,0,1,3,4];refine TC.perm w.ob (xS ((A.all Q v l).trans (dQ.va d)) a.k a.nd) ?_;have w:=w.set (.map k);have w:=(w.pick [2,4,3,0,1]).drop;have a:=Z;have I:=w.ob;generalize am:(S.set iv (.map k)).set H.length (.map k)=HH at w I⊢
 repeat refine TC.seq ?_
 refine TC.region<|aA W W<|aF W W y W ?_
 (refine uM W W W W I a.k ?_;intro o c i d l v N)
 refine TL.nil ?_;have m:∃J,J=HH.length:=⟨_,rfl⟩;obtain⟨J,m⟩:=m;rw[<-m];have w:=(w.set (.map (fe i o c))).new (.iter (jI j i []));rw[aiP,<-m]at w;have w:=w.pick [1,0,2,3,4];have O:=(((dQ.va d).map Prod.fst).nodup_iff).2 a.nd;have P:=d.strs a.k
 repeat refine TC.seq ?_
 refine TC.block<|LI (λm s=>∃(h:List Nat) (d:List (D×M)) (a:List (Nat×List M)) (l:Hp),s=⟨[(28,.m (.it J)),(5,.loc 5 0),(4,.loc 4 0),(2,.loc 2 0)],a,l⟩/\
   Go.Mt.get a 2=some [.mp iv,.mp j,.d (.sl (bW L))]/\Go.Mt.get a 4=some [.d .jJ,.d .jJ,.d (.sl [])]/\Go.Mt.get a 5=some [.mp H.length,.mp (H.length+1),mk]/\
   Seen o c h d/\strKeys d=true/\
   Wk F H (.ob j (.map (fe i o c)):: .ob J (.iter (jI j i h)):: .ob (H.length+1) (.map d):: [.ob H.length (.map k),.ob iv (.map k)]) l/\m=lk c h) (lk c []) _
  ⟨[],[],_,_,rfl,y,z,p,Seen.nil _ _,rfl,w,rfl⟩ W ?_
 rintro U V ⟨C,x,bx,S,rfl,y,z,p,A,q,w,rfl⟩;have n:=w.ob;have s:=(w.pick [1,0,2,3,4]).ob
 repeat refine TC.seq ?_
 refine TC.region<|xF W W s n l N (λQ=>?_) (λX e b h t B=>?_);rotate_left
 .obtain⟨E,R,rfl⟩:=a.IN (d.mem.1 (agN h));refine bZ W W W<|TL.nil ?_
  repeat refine TC.seq ?_
  refine LK W<|TC.skip ?_;have w:=(w.pick [1,0,2,3,4]).set (.iter (jI j i (C++[b])));have s:=w.ob;have w:=w.pick [1,0,2,3,4];have n:=w.ob;have w:=w.pick [2,0,1,3,4];have hC:=w.ob;obtain⟨RL,Ow⟩:=A.step h t B O
  repeat refine TC.seq ?_
  refine TC.block ?_
  repeat refine TC.seq ?_
  refine TC.region<|uN W W s n l v h t<|bZ W W W<|bZ W W W<|aM W W<|ah W W<|aC W W W W W W<|TL.nil ?_
  repeat refine TC.seq ?_
  refine TC.region<|aA W W<|aF W W p W<|ai W W<|aW W W W W W<|fW W W W hC q<|TL.nil ?_;have w:=w.set (.map (dH E (.d (.agg (nG R))) x));have T:=u_ E (.d (.agg (nG R))) q Ow;have UZ:strKeys (dH E (.d (.agg (nG R))) x)=true:=by
   rw[T,cI];intro e h;rcases agG.1 h with G|G
   .exact cI.1 q e G
   .rw[ag9]at G;subst G;exact⟨E,W⟩
  exact again (u9 (agN t) B) ⟨C++[b],_,_,_,W,y,z,p,by rw[T];exact RL,UZ,w.pick [1,2,0,3,4],W⟩ W W
 refine bZ W W W<|TL.nil ?_
 repeat refine TC.seq ?_
 refine Ll W<|TC.exit<|TC.tv n l P d ?_;have w:=w.set (.map u);have w:=w.pick [2,0,1,3,4];refine TC.perm w.ob (xS ((A.all Q v l).trans (dQ.va d)) a.k a.nd) ?_;have w:=w.set (.map u)
 repeat refine TC.seq ?_
 refine TC.region<|dP W W p W W<|aC W W z W W W<|TL.nil<|TC.ret ⟨_,W,W,JR hF w (((w.pick [3,4,0,1,2]).pick [1,0,2,3,4]).ob.trans V1.symm) ((w.pick [1,0,2,3,4]).ob.trans ac.symm) ((w.pick [3,0,1,2,4]).ob) w.ob⟩
def z7(iv a:Nat)(f g:Env)(o:List (Nm×Nm))(mk:M)(t:fj mk=some [mk]):
  Dt prog 259 [l9 iv a o,mk] [cP iv f,cP a g] λx l=>∃b c,x=.agg [.mp b,.mp c,mk]/\l=[cP iv f,cP a g,cP b f,cP c g]:=by
 intro H F p;have u:∀i,F i->i=iv\/i=a:=by
  obtain⟨s,v,c,⟨y,z,k,m,_,n⟩,_,q⟩:=p;intro i r;rcases(q i).1 r with h|h
  .exact .inl (cP.Hs c i h)
  .rcases(n i).1 h with h|h
   .exact .inr (cP.Hs k i h)
   .exact absurd h (m i)
 have w:=Wk.start p;obtain⟨b,d,w⟩:=cP.open w;have w:=w.pick [1,0];obtain⟨e,j,w⟩:=cP.open w;have w:=w.pick [1,0];refine⟨.agg [.mp H.length,.mp (H.length+1),mk],H++[.map b,.map e],⟨_,⟨H.length,H.length+1,W,W⟩,?_⟩,?_⟩
 .have c:=(w.new (.map b)).new (.map e);have h:(H++[Ob.map b]).length=H.length+1:=by simp
  rw[h,ahi]at c;have i:=LQ j ((LQ d (c.pick [2,3,1,0])).pick [1,2,3,0]);have k:=LQ j ((LQ d (i.pick [1,2,3,0])).pick [1,2,3,0]);exact k.pick [1,2,3,0]
 .intro s v i r k m;have n:HB H.length H:=by rw[<-k];exact r.hb
  have y:MB H.length mk:=by
   have c:1<i.size:=by have:=m.1;simp at this;omega
   have:=(m.2 1 mk i[1] W (by simp[c])).mb;rw[k]at this;exact this
  refine CT.drop (post:= λa c=>a=.agg [.mp H.length,.mp (H.length+1),mk]/\c=H++[Ob.map b,Ob.map e]) (H.length+2) (by omega) ((FL w d j u o mk t).mono ?_) s v i r k m;rintro B C ⟨rfl,c,q⟩;refine⟨c,.agg _ ?_,?_,W,q⟩
  .intro x h;simp only[agu,agE,ag0]at h;rcases h with rfl|rfl|rfl
   .exact .mp _ (by omega)
   .exact .mp _ (by omega)
   .exact MB.le (by omega) y
  .rw[q];intro z A;rcases agG.1 A with h|h
   .exact AR.le (by omega) (n z h)
   .simp only[agu,agE,ag0]at h;rcases h with rfl|rfl
    .exact AR.le (by omega) (n _ (agN w.ob))
    .exact AR.le (by omega) (n _ (agN ((w.pick [1,0]).ob)))
end Go.Proofs.Pz
namespace Go.Ps
open Go.Mt Go.Sm
variable{es Nu:List (D×M)}{f:Env}
def ou.mono{en:List En}{f:Nm->Int×Nm}{p q:Nm->Prop}(b:∀x,p x->q x){e:Xp}(h:ou en f p e):ou en f q e:=by
 induction h with
 |mk g c h d=>
  refine .mk d c ?_;rcases h with h|h|h|⟨h,a⟩|⟨h,a⟩|h|h|h|h
  .exact .inl h
  .exact .inr (.inl h)
  .exact .inr (.inr (.inl h))
  .exact .inr (.inr (.inr (.inl ⟨h,b _ a⟩)))
  .exact .inr (.inr (.inr (.inr (.inl ⟨h,b _ a⟩))))
  .exact .inr (.inr (.inr (.inr (.inr (.inl h)))))
  .exact .inr (.inr (.inr (.inr (.inr (.inr (.inl h))))))
  .exact .inr (.inr (.inr (.inr (.inr (.inr (.inr (.inl h)))))))
  .exact .inr (.inr (.inr (.inr (.inr (.inr (.inr (.inr h)))))))
def vd{α:Type}[DecidableEq α]:∀{k l:List α},k.Nodup->(∀x∈k,x∈l)->k.length<=l.length
 |[],l,_,_=>by simp
 |b::k,l,a,c=>by
  rw[ahB]at a;have d:=c b (by simp);have:=vd (l:=l.erase b) a.2 λx b=>(List.mem_erase_of_ne (λe=>a.1 (by rw[<-e];exact b))).2 (c x (by simp[b]))
  rw[List.length_erase_of_mem d]at this;have:=aje d;simp only[agA];omega
def B9(f:Env)(n:Nat):Prop:=∃l:List Nm,l.length<=n/\∀x,(f x).isSome->x∈l
def EH(e:Nm×Bd):D×M:=(.str e.1,.d (.agg (nG e.2)))
def vQ(e:Nm×Bd):Va:=⟨e.1,e.2.tk,e.2.tn,[],false,cg,(0,0)⟩
def iH.mem(h:iH es f){e:Nm×Bd} :EH e∈es↔f e.1=some e.2:=by
 constructor
 .intro c;have:=vc h.k h.nd c;rw[h.l]at this;cases a:f e.1 with
  |none=>rw[a]at this;cases this
  |some b=>
   rw[a]at this;injection this with this
   injection this with this;injection this with this
   obtain⟨x,g⟩:=e;obtain⟨i,j,k,l⟩:=b;obtain⟨n,o,p,q⟩:=g;simp only[nG,List.cons.injEq,D.str.injEq,D.int.injEq,Int.natCast_inj,true_and,aic]at this;obtain⟨rfl,rfl,rfl,rfl⟩:=this;rfl
 .intro j;have c:=h.l e.1;rw[j]at c;have k:∀{l:List (D×M)} {m:M},eP e.1 l=some m->(D.str e.1,m)∈l:=by
   intro l m
   induction l with
   |nil=>intro h;simp[eP]at h
   |cons i r g=>
    intro h;obtain⟨d,n⟩:=i;cases d with
    |str s=>
     rw[gY]at h;by_cases a:s=e.1
     .rw[agK a]at h;injection h with h;subst h;subst a;exact ahn
     .rw[agw a]at h;exact aht _ (g h)
    |_=>exact aht _ (g (by simpa [eP] using h))
  exact k c
def iH.len(h:iH es f){n:Nat}(c:B9 f n):es.length<=n:=by
 obtain⟨l,p,k⟩:=c;obtain⟨g,d⟩:∃a:List Nm,es.map Prod.fst=a.map D.str:=by
  have:∀l:List (D×M),(∀e∈l,∃s,e.1=.str s)->∃a:List Nm,l.map Prod.fst=a.map D.str:=by
   intro l
   induction l with
   |nil=>exactλ_=>⟨[],rfl⟩
   |cons i r m=>
    intro h;obtain⟨s,c⟩:=h i (by simp);obtain⟨g,o⟩:=m λe a=>h e (by simp[a])
    exact⟨s::g,by simp[c,o]⟩
  exact this es (cI.1 h.k)
 have j:=h.nd;rw[d]at j;have q:=vd (l:=l) (List.Pairwise.of_map D.str (λa b h e=>h (by rw[e])) j) (by
  intro x m;have:D.str x∈es.map Prod.fst:=by rw[d];exact ag4 m
  rw[agC]at this;obtain⟨e,i,a⟩:=this;obtain⟨y,b,rfl⟩:=h.IN i;injection a with a;subst a
  have:=(h.mem (e:=(y,b))).1 i;exact k y (by rw[this];rfl))
 have a:=ahA List.length d;simp only[agt]at a;omega
def IP(h:iH es f)(c:Nu.Perm es){l:List (Nm×Bd)}(d:Nu=l.map EH):xQ (l.map vQ) f.ty/\∀x,(f x).isSome->FG (l.map vQ) x:=by
 constructor
 .intro v a;rw[agC]at a;obtain⟨e,g,rfl⟩:=a;have i:=c.mem_iff.1 (by rw[d];exact ag4 g);have j:=h.mem.1 i;simp only[vQ,Env.ty,j]
 .intro x j;obtain⟨b,k⟩:=Option.isSome_iff_exists.1 j;have g:EH (x,b)∈Nu:=c.mem_iff.2 (h.mem.2 k);rw[d,agC]at g;obtain⟨e,i,a⟩:=g;injection a with a _;injection a with a
  exact⟨vQ e,ag4 i,a⟩
def Ht{F:Nat->Prop}{H K:Hp}{l:List As}{iv:Nat}(d:∀i,F i->i=iv)(w:Wk F H l K)(e:K[iv]?=H[iv]?):H.length<=K.length/\K.take H.length=H:=by
 obtain⟨_,_,b⟩:=w;refine⟨b.len,ah7 λi=>?_⟩;rw[ahQ];by_cases a:i<H.length
 .rw[agK a];by_cases c:F i
  .have:=d i c;subst this;exact e
  .exact b.iG i a c
 .rw[agw a,agD (by omega)]
def Seen.len{bs seen:List Nat}(h:Seen es bs seen Nu)(k:bs.length=es.length):Nu.length<=es.length:=by
 obtain⟨a,d,l,b⟩:=h;have e:∀n∈a,n∈List.range es.length:=by
  intro n f;have:(es[n]?)∈a.map (es[·]?):=agC.2 ⟨n,f,rfl⟩;rw[<-b,agC]at this;obtain⟨c,_,g⟩:=this;exact ahZ.2 (ahk.1 g.symm).1
 have i:=vd d e;have j:=ahA List.length b;simp only[agt,aij]at i j;omega
end Go.Ps
namespace Go.Proofs.Pz
open Go.Mt Go.Sm Go.Ps Go.Proofs
open Tryz
def B_(e:Nm×Bd):(vQ e).cells=[.str e.1,.int .u8 e.2.tk,.str e.2.tn,.sl [],.bool false,.int .u8 0,.int .u8 0,.int .i32 0,.str ⟨#[]⟩,.sl [],.sl [],.int .i64 0,.int .i64 0,.int .i64 0,.int .i64 0]:=by rw[Va.aj];rfl
def IQ{F:Nat->Prop}{H:Hp}{iv v a:Nat}{k:List (D×M)}{f:Env}{p:Pg}{mv y:M}(w:Wk F H [.ob iv (.map k)] H)(d:iH k f)(z:∀i,F i->i=iv)(m:H[a]?=some (.box [.d (.sl (p.aG.map En.cells)),.d (.sl (p.nodes.map Nd.cells)),mv,y]))
  (A:List (Nm×Nm)) (P:kL p.aG) (Q:B9 f 10000000) (e:Xp) (R:ou p.aG f.ty (λx=>(f x).isSome=true) e):
  CT prog 292 [.ref a 0,l9 iv v A,.d (.agg e.cells)] H λr K=>r=.d (.agg (fH (dD p.aG f.ty e)))/\H.length<=K.length/\K.take H.length=H:=by
 have B:=w.ob;have S:a≠iv:=by rintro rfl;rw[B]at m;cases m
 rw[e.aj];refine Lf func292 W ntmps292 W λs0 Oo=>?_
 repeat refine TC.seq ?_
 refine TC.region<|dB W W W W<|bp W W<|aM W W<|TL.nil ?_
 repeat refine TC.seq ?_
 refine TC.region<|ah W W<|TL.nil ?_
 repeat refine TC.seq ?_
 refine TC.region<|aA W W<|aF W W W W ?_
 (refine uM W W W W w.ob d.k ?_;intro n h j g i C T)
 refine TL.nil ?_;obtain⟨J,q⟩:∃J,J=H.length:=⟨_,rfl⟩;rw[<-q];have w:=(w.set (.map (fe j n h))).new (.iter (jI iv j []));rw[aiP,<-q]at w;have w:=(w.nil 15).pick [2,1,0];have QE:n.length<=10000000:=by rw[g.len];exact(d.len Q)
 repeat refine TC.seq ?_
 refine TC.block<|LI (λk s=>∃(d:List Nat) (l:List (Nm×Bd)) (g:M) (c:List (Nat×List M)) (i:Hp),s=⟨[(14,.m (.it J)),(7,.m g),(6,.loc 6 0),(5,.m (.d (.ca (xC e) 0))),(4,.loc 4 0),(0,.m (.ref a 0))],c,i⟩/\
   Go.Mt.get c 4=some [.mp iv,.mp v,.d (.sl (bW A))]/\Go.Mt.get c 6=some [.d (.int .u8 0),.d (.str ⟨#[]⟩)]/\
   Seen n h d (l.map EH)/\l.length<=10000000/\
   Wk F H [.ob iv (.map (fe j n h)),.ob J (.iter (jI iv j d)),.acc 15 (aB (l.map vQ)) g] i/\k=lk h d) (lk h []) _
  ⟨[],[],.d (.sl []),_,_,rfl,rfl,rfl,Seen.nil _ _,by simp,w,rfl⟩ W ?_
 rintro ce co ⟨O,l,mc,bx,U,rfl,V,E,G,X,w,rfl⟩;have o:=w.ob;have s:=(w.pick [1,0,2]).ob
 repeat refine TC.seq ?_
 refine TC.region<|xF W W s o i T (λY=>?_) (λd5 e1 b t u I=>?_);rotate_left
 .obtain⟨x,c,rfl⟩:=d.IN (g.mem.1 (agN t));refine bZ W W W<|TL.nil ?_
  repeat refine TC.seq ?_
  refine LK W<|TC.skip ?_;have w:=(w.pick [1,0,2]).set (.iter (jI iv j (O++[b])));have s:=w.ob;have w:=w.pick [1,0,2];have o:=w.ob;have w:=w.pick [2,0,1];obtain⟨L,Ow⟩:=G.step t u I ((((dQ.va g).map Prod.fst).nodup_iff).2 d.nd);have Z:(l++[(x,c)]).length<=10000000:=by
   have:=L.len i;simp only[agq,agt,agB]at this⊢;omega
  repeat refine TC.seq ?_
  refine TC.block ?_
  repeat refine TC.seq ?_
  refine TC.region<|uN W W s o i C t u<|bZ W W W<|bZ W W W<|aM W W<|ah W W<|aC W W W W W W<|TL.nil ?_
  repeat refine TC.seq ?_
  refine TC.region<|ai W W<|ai W W<|aA W W<|aW W W W W W<|bX W W W W W<|aU W W W W W W W W<|cX w W W W W W W (by exact cM W) (by simp[aB];omega)<|ah W W<|TL.nil ?_;have w:=w.app [[.str x,.int .u8 c.tk,.str c.tn,.sl [],.bool false,.int .u8 0,.int .u8 0,.int .i32 0,.str ⟨#[]⟩,.sl [],.sl [],.int .i64 0,.int .i64 0,.int .i64 0,.int .i64 0]];have OP:aB ((l++[(x,c)]).map vQ)=aB (l.map vQ)++[[.str x,.int .u8 c.tk,.str c.tn,.sl [],.bool false,.int .u8 0,.int .u8 0,.int .i32 0,.str ⟨#[]⟩,.sl [],.sl [],.int .i64 0,.int .i64 0,.int .i64 0,.int .i64 0]]:=by
   simp only[aB,agI,agH,ag1,B_]
  rw[<-OP]at w;exact again (u9 (agN u) I) ⟨O++[b],l++[(x,c)],_,_,_,W,V,E,by rw[agI];exact L,Z,w.pick [1,2,0],W⟩ W W
 refine bZ W W W<|TL.nil ?_
 repeat refine TC.seq ?_
 refine Ll W<|TC.exit<|TC.tv o i (g.strs d.k) g ?_;have w:=w.set (.map k);obtain⟨ac,am⟩:=IP d ((G.all Y C i).trans (dQ.va g)) W;refine TC.bg 7 W ((w.pick [2,0,1]).view (bR _)) ?_;have N:=zf P ac (by rw[agt];exact X) e (R.mono am);rw[e.aj]at N;have Mb:(U.set iv (.map k))[a]?=some (.box [.d (.sl (p.aG.map En.cells)),.d (.sl (p.nodes.map Nd.cells)),mv,y]):=by
  obtain⟨_,_,c⟩:=w;rw[c.iG a (ahk.1 m).1 (λh=>S (z a h))];exact m
 repeat refine TC.seq ?_
 refine Na mixed<|aO W W<|bO W W W<|bJ W W<|zA W W Mb W W<|aO W W<|cx W W W<|fO (CT.JN N) W W<|aO W W<|k8 W W W<|k8 W W W<|fk W<|bS W W W W W W<|eX W W<|TF.nil ⟨by kernel_rfl,?_⟩
 repeat refine TC.seq ?_
 refine TC.region<|aW W W W W W<|aC W W E W W W<|TL.nil ?_;subst q;exact TC.ret ⟨_,W,W,Ht z w (w.ob.trans B.symm)⟩
def wJ(iv n a:Nat)(f:Env)(p:Pg)(m:MS)(d:List (Nm×Nm))(o:kL p.aG)(q:B9 f 10000000)(e:Xp)(s:ou p.aG f.ty (λx=>(f x).isSome=true) e):
  Dt prog 292 [.ref a 0,l9 iv n d,.d (.agg e.cells)] [cP iv f,gV a p m] λr l=>r=.d (.agg (fH (dD p.aG f.ty e)))/\l=[cP iv f,gV a p m]:=by
 intro H F b;refine⟨_,H,⟨_,⟨W,W⟩,Wk.start b⟩,?_⟩;have w:=Wk.start b;obtain⟨A,w⟩:=gV.open (w.pick [1,0]);obtain⟨B,C,g,D,E,G⟩:=b;have c:=Wk.start (qd g);obtain⟨I,t,c⟩:=cP.open c;intro k u v j h x;refine CT.drop (post:= λa b=>a=.d (.agg (fH (dD p.aG f.ty e)))/\b=H) H.length (ags _) ((IQ c t (cP.Hs g) w.ob d o q e s).mono ?_) k u v j h x;rintro r z ⟨rfl,y,i⟩;exact⟨y,.d _,by rw[i];exact(by rw[<-h];exact j.hb),W,i⟩
end Go.Proofs.Pz
namespace Go.Ps
open Go.Mt Go.Sm
abbrev l_(v:Va):List Nm:=v.clock.map λo=>o.2
end Go.Ps
namespace Go.Proofs.Pz
open Go.Mt Go.Sm Go.Ps Go.Proofs
open Tryz
def DB(b:bT)(y:b.vars.length<=1000000)(f:∀v∈b.vars,v.clock.length<=1000):
  Dt prog 213 [.d (.agg b.cells)] [] λr l=>r=.d (.sl (aR (b.vars.flatMap l_)))/\l=[]:=by
 intro H F z;have w:=(Wk.start z).nil 1;have u:(aB b.vars).length=b.vars.length:=by simp[aB]
 rw[b.aj];generalize b.vars=a at y f u⊢;have A:∀i,((a.take i).flatMap l_).length<=i*1000:=by
  intro i
  induction i with
  |zero=>simp
  |succ i c=>
   by_cases h:i<a.length
   .rw[agp h,aia,agq];have:=f _ (agx h);have:([a[i]].flatMap l_).length<=1000:=by simpa [l_] using this
    omega
   .rw[ahw (by omega)]at c⊢;omega
 refine Lj func213 W ntmps213 W ?_
 repeat refine DC.seq ?_
 apply KZ
 .intro c e;refine bp W W<|ah W W<|TL.nil W
 repeat refine DC.seq ?_
 apply KZ
 .intro c e;refine ah W W<|TL.nil W
 repeat refine DC.seq ?_
 apply KZ
 .intro c e;refine ay W W<|ax W W W ?_
  (refine aT W W W ?_;rw[u])
  refine ai W W<|TL.nil W
 repeat refine DC.seq ?_
 refine DC.block<|DC.loop (λm e=>∃(i:Nat) (c:M) (f:List (Nat×List M)) (d:Hp),e=⟨[(11,.m (.d (.int .i64 ((i:Nat):Int)))),(10,.m (.d (.int .i64 ((a.length:Nat):Int)))),(9,.m (.d (.sl (aB a)))),(3,.m c)],f,d⟩/\
   Wk F H [.acc 1 (aR ((a.take i).flatMap l_)) c] d/\i<=a.length/\m=a.length-i) a.length _
  ⟨0,.d (.sl []),_,_,rfl,w,by omega,rfl⟩ W ?_
 rintro m B ⟨i,n,C,D,rfl,w,J,rfl⟩
 repeat refine DC.seq ?_
 apply KZ
 .intro c e;refine av W W W W<|TL.nil W
 repeat refine DC.seq ?_
 refine DC.cond W (λd=>?_) (λd=>?_)
 .have g:i<a.length:=by have:=agr d;omega
  have h:=kN g;have E:=A i;have e:(a.take (i+1)).flatMap l_=(a.take i).flatMap l_++l_ a[i]:=by rw[agp g,aia];simp
  have o:=f _ (agx g);generalize a[i]=v at h e o;generalize (a.take i).flatMap l_=k at e w E;rw[v.aj]at h;have p:(bW v.clock).length=v.clock.length:=by simp[bW]
  refine DC.skip ?_
  repeat refine DC.seq ?_
  refine DC.block ?_
  repeat refine DC.seq ?_
  apply KZ
  .intro q s;refine aN W W W (ago i) h W<|aK W W W<|aM W W<|aC W W W W W W<|TL.nil W
  repeat refine DC.seq ?_
  apply KZ
  .intro q s;refine aA W W<|aF W W W W ?_
   (refine aT W W W ?_;rw[p])
   refine ai W W<|TL.nil W
  unfold l_ at e;generalize v.clock=c at p e o
  repeat refine DC.seq ?_
  refine DC.block<|DC.loop (λm f=>∃(j:Nat) (d:M) (g:List (Nat×List M)) (e:Hp),f=⟨[(18,.m (.d (.int .i64 ((j:Nat):Int)))),(17,.m (.d (.int .i64 ((c.length:Nat):Int)))),(16,.m (.d (.sl (bW c)))),(11,.m (.d (.int .i64 ((i:Nat):Int)))),(10,.m (.d (.int .i64 ((a.length:Nat):Int)))),(9,.m (.d (.sl (aB a)))),(3,.m d)],g,e⟩/\
    Wk F H [.acc 1 (aR (k++(c.take j).map λo=>o.2)) d] e/\j<=c.length/\m=c.length-j) c.length _
   ⟨0,n,_,_,rfl,by simpa using w,by omega,rfl⟩ W ?_
  rintro m B ⟨j,n,C,D,rfl,w,K,rfl⟩
  repeat refine DC.seq ?_
  apply KZ
  .intro q s;refine av W W W W<|TL.nil W
  repeat refine DC.seq ?_
  refine DC.cond W (λd=>?_) (λd=>?_)
  .have q:j<c.length:=by have:=agr d;omega
   have s:=tN q;have t:aR (k++(c.take (j+1)).map λo=>o.2)=aR (k++(c.take j).map λo=>o.2)++[[.str c[j].2]]:=by rw[rJ _ _ _ _ _ q];simp[aR]
   generalize c[j]=x at s t;refine DC.skip ?_
   repeat refine DC.seq ?_
   refine DC.block ?_
   repeat refine DC.seq ?_
   apply KZ
   .intro G I;refine aN W W W (ago j) s W<|aK W W W<|aM W W<|aC W W W W W W<|TL.nil W
   repeat refine DC.seq ?_
   apply KZ
   .intro G I;refine ai W W<|aA W W<|aF W W W W<|aU W W W W W W W W<|cX w W W W W W W (by exact cM W) (by simp[aR];omega)<|ah W W<|TL.nil W
   have w:=w.app [[.str x.2]]
   repeat refine DC.seq ?_
   apply KZ
   .intro G I;refine aI W W W (by omega)<|ai W W<|TL.nil W
   exact bH (k':=c.length-(j+1)) (by omega) ⟨j+1,_,_,_,rfl,by rw[t];exact w,by omega,rfl⟩ W W
  .refine DC.exit ?_;obtain rfl:j=c.length:=by have:=agv d;omega
   rw[agz]at w
   repeat refine DC.seq ?_
   apply KZ
   .intro q s;refine aI W W W (by omega)<|ai W W<|TL.nil W
   exact bH (k':=a.length-(i+1)) (by omega) ⟨i+1,_,_,_,rfl,by rw[e];exact w,by omega,rfl⟩ W W
 .refine DC.exit ?_;obtain rfl:i=a.length:=by have:=agv d;omega
  rw[agz]at w
  repeat refine DC.seq ?_
  apply KZ
  .intro c e;refine ai W W<|ah W W<|TL.nil W
  refine DC.bg 2 W (w.view (dq _))<|DC.ret ⟨_,W,_,⟨W,W⟩,w.drop⟩
def FM(it c iv b:Nat)(p:Pg)(en:List En)(s:Sc)(m:MS)(q:aJ)(d:q.kd=1)(k:iW q.ex)(h:dZ s)(n:m.n+cm q.ex+cm q.ex<1000000000)(o:m.vars.length+cm q.ex+cm q.ex<=10000000)(t:cm q.ex<=1000000)(u:q.lhs.length<=1000000):
  Dt prog 215 [.ref c 0,l9 iv b s.ck,.d (.agg q.cells)] (gS it c iv b p ⟨s,m,[]⟩) λx l=>x=.d (.sl (cv (iB en q ⟨s,m,[]⟩).q))/\l=gS it c iv b p (iB en q ⟨s,m,[]⟩):=by
 intro H F v;have y:iB en q ⟨s,m,[]⟩=⟨(cG ⟨s,m,[]⟩ q.ex).s,(cG ⟨s,m,[]⟩ q.ex).m,(cG ⟨s,m,[]⟩ q.ex).q++[.mk 1 (q.lhs.map (cG ⟨s,m,[]⟩ q.ex).s.vars.nm) ⟨#[]⟩ [] false (cA (cG ⟨s,m,[]⟩ q.ex).s q.ex) [] q.ps]⟩:=by
  cases q with|mk C K D M L e E p=>
  rw[iB];simp only[aJ.kd]at d;rw[agK d];rfl
 rw[y];obtain⟨_,G,z,⟨I,rfl,rfl⟩,w,f⟩:=Wk.call (r:=[]) (Wk.start v) (ri it c iv b p s m q.ex k h n o t);have i:=bN.fU (r:=⟨s,m,[]⟩) h q.ex;generalize cG ⟨s,m,[]⟩ q.ex=r at w f i⊢;have j:=i.q
 dsimp only at j
 obtain⟨_,J,z,⟨rfl,rfl⟩,w,A⟩:=Wk.call (a:=[cP iv r.s.vars]) (r:=[_,_,_,_]) (w.pick [3,0,1,2,4]) (zY iv b s.ck r.s.vars q.lhs u);have w:=w.pick [1,2,3,0,4];rw[(cA r.s q.ex).aj,q.ex.aj]at f;rw[q.aj,q.ex.aj,d];have B:cv (r.q++[.mk 1 (q.lhs.map r.s.vars.nm) ⟨#[]⟩ [] false (cA r.s q.ex) [] q.ps])=cv r.q++[eQ 1 (q.lhs.map r.s.vars.nm) ⟨#[]⟩ [] false (xC (cA r.s q.ex)) [] q.ps]:=by
  rw[fw];show cv r.q++[(aJ.mk 1 (q.lhs.map r.s.vars.nm) ⟨#[]⟩ [] false (cA r.s q.ex) [] q.ps).cells]=_;rw[aJ.cells,(cA r.s q.ex).aj];rfl
 have g:=w.app [eQ 1 (q.lhs.map r.s.vars.nm) ⟨#[]⟩ [] false (xC (cA r.s q.ex)) [] q.ps];rw[<-B]at g;refine Lj func215 W ntmps215 W ?_
 repeat refine DC.seq ?_
 apply KZ
 .intro C D;refine dB W W W W<|bp W W<|ah W W<|TL.nil W
 repeat refine DC.seq ?_
 apply KZ
 .intro C D;refine ay W W<|ax W W W<|TL.nil W
 repeat refine DC.seq ?_
 refine DC.block ?_
 repeat refine DC.seq ?_
 apply KZ
 .intro C D;refine av W W W (r:=.bool true) W<|ah W W<|TL.nil W
 repeat refine DC.seq ?_
 refine Lo W ?_
 repeat refine DC.seq ?_
 apply KZ
 .intro C D;refine ai W W<|dP W W W W W<|ay W W<|fA W W W<|aD f W W<|ai W W<|bZ W W W<|bZ W W W<|aM W W<|aC W W W W W W<|ah W W<|TL.nil W
 repeat refine DC.seq ?_
 apply Le mixed
 .intro C D;refine aO W W<|mN W W W W W<|bI W W<|cd W W W<|bt A W W<|bG W W W W W<|bI W W<|gm W W W<|dU W W W W W<|bm W W W W W W W W<|fa w W W W W W W W (by simp[cv]at j⊢;omega)<|eX W W<|TF.nil ⟨by kernel_rfl,rfl⟩
 refine DC.bg 6 W (g.view (dt _))<|DC.ret ⟨_,W,_,⟨W,W⟩,g.drop⟩
end Go.Proofs.Pz
namespace Go.Ps
open Go.Mt Go.Sm
def R.pre(q:List aJ)(r:R):R:=⟨r.s,r.m,q++r.q⟩
def DD(q:List aJ)(r:R)(x:Nm):cO (r.pre q) x=(cO r x).pre q:=by
 rw[mO,mO];simp[R.pre]
def xT(q:List aJ)(r:R)(x:Nm):ff (r.pre q) x=(ff r x).pre q:=by
 rw[lj,lj];simp[R.pre]
def xU(q:List aJ):∀(l:List Nm) (r:R),l.foldl cO (r.pre q)=(l.foldl cO r).pre q
 |[],r=>rfl
 |x::l,r=>by rw[agy,agy,DD,xU q l]
def xV(q:List aJ):∀(l:List Nm) (r:R),l.foldl ff (r.pre q)=(l.foldl ff r).pre q
 |[],r=>rfl
 |x::l,r=>by rw[agy,agy,xT,xV q l]
def ll(q:List aJ)(r:R)(e:Xp):cG (r.pre q) e=(cG r e).pre q:=by
 unfold cG;rw[xU,xV]
def z8(q:List aJ)(r:R)(e:Xp)(t:Int×Nm):gG (r.pre q) e t=(gG r e t).pre q:=by
 unfold gG;rw[ll];simp[R.pre]
def R.pre_nil(r:R):R.pre r.q ⟨r.s,r.m,[]⟩=r:=by simp[R.pre]
def bN.arg{r:R}(h:dZ r.s)(xs:List Xp)(e:Xp):bN r (eZ (r,xs) e).1 (cm e+cm e):=bN.fU h e
def bN.args:∀(l:List Xp) {r:R} (xs:List Xp),dZ r.s->bN r (l.foldl eZ (r,xs)).1 (bF l+bF l)/\(l.foldl eZ (r,xs)).2.length=xs.length+l.length
 |[],r,xs,h=>⟨bN.refl h,rfl⟩
 |e::l,r,xs,h=>by
  have a:=bN.arg h xs e;have b:(eZ (r,xs) e).2.length=xs.length+1:=by simp[eZ]
  rw[agy];generalize eZ (r,xs) e=c at a b⊢;obtain⟨d,g⟩:=c;have a:=a;obtain⟨f,i⟩:=bN.args l (r:=d) g a.sc;have:=a.trans f;simp only[bF,agA]
  dsimp only at b
  exact⟨⟨this.ck,this.sc,by have:=this.n;omega,by have:=this.vs;omega,by have:=this.q;omega⟩,by omega⟩
def FN{l:List Xp}{i:Nat}(h:i<l.length):bF (l.take i)+cm l[i]<=bF l:=by
 have a:bF l=bF (l.take (i+1))+bF (l.drop (i+1)):=by rw[<-kj,ahf]
 rw[agp h,kj]at a;simp only[bF]at a;omega
end Go.Ps
namespace Go.Proofs.Pz
open Go.Mt Go.Sm Go.Ps Go.Proofs
open Tryz
def EI{X:cY}{ops:Array Oper}{rest:List Oper}{sl:List (Nat×V)}{bx:List (Nat×List M)}{H:Hp}{h:List Ef->St->Prop}{d ty:Nat}{pos:String}{af:Array Edge}{u:Nat->Prop}{H0:Hp}{r:List As}{T e n i:Nat}{x y:Operand}{m:M}{rs rows:List (List D)}{z:D}[ht:br X.P T e][E:cc X.P e n][F:jx X.P e i][G:fC X.P e z](w:Wk u H0 (.acc n rs m::r) H)(a:Nat.blt d X.n=true)(b:bj sl x=some (.m m))(c:bj sl y=some (.m (.d (.sl rows))))
  (v:Nat.blt 0 n=true) (j:(bP z).length=n) (l:Nat.ble i 1000=true) (o:∀r∈rows,r.length=n) (p:rs.length+rows.length<=100000000000)
  (k:TF X ops rest ⟨(d,.m (cQ m H rows))::sl,bx,eg n m H rows⟩ λa b=>h (⟨some d,.m (cQ m H rows),[],[],none,true,some (eg n m H rows)⟩::a) b):TF X ops (⟨some d,.call ⟨.builtin .append,#[x,y],#[T,T]⟩,ty,pos,af,none⟩::rest) ⟨sl,bx,H⟩ h:=by
 by_cases q:rows=[]
 .subst q;have I:=ah0 p (agT l);obtain⟨C,A⟩:=w.zH;rcases A with⟨rfl,rfl⟩|⟨J,K,rfl,s⟩
  .refine TF.cons (e:=⟨some d,.m (.d (.sl [])),[],[],none,true,some H⟩) (je.xn W W (bL a) λB f=>?_) W k;have t:=f.H W;simp only at t;have:=tj (X:=X) (st:=B) (dst:=some d) (ty:=ty) (pos:=pos) (af:=af) (g:=none) (T:=T) ((f.ev (x:=x) (by simp[Op.operands,Call.operands])).trans b) ((f.ev (x:=y) (by simp[Op.operands,Call.operands])).trans c);rw[<-t];exact this
  .refine m_ a b c s j o (by simp only[List.length_nil]at*;omega) (by simp only[List.length_nil]at*;omega) ?_;simp only[cQ,eg,s]at k;exact k
 .exact ED w a b c v j l q o p k
abbrev JS(lhs:List Nm)(f:Nm)(ma:M)(has:Bool)(e:List D)(p:Int×Int):List M:=[.d (.int .u8 2),.d (.sl (aR lhs)),.d (.str f),ma,.d (.bool has)]++e.map M.d++[.d (.sl []),.d (.int .i64 p.1),.d (.int .i64 p.2)]
def DE(it g iv f:Nat)(p:Pg)(en:List En)(s:Sc)(m:MS)(q:aJ)(t:q.kd=2)(Q:∀e∈q.args,iW e)(S:iW q.ex)(T:dZ s)(hn:m.n+bF q.args+bF q.args+cm q.ex+cm q.ex<1000000000)(hv:m.vars.length+bF q.args+bF q.args+cm q.ex+cm q.ex<=10000000)(NO:cm q.ex<=400000)(NR:bF q.args<=400000)(U:q.lhs.length<=1000000)(ML:q.args.length<=1000000):
  Dt prog 215 [.ref g 0,l9 iv f s.ck,.d (.agg q.cells)] (gS it g iv f p ⟨s,m,[]⟩) λx l=>x=.d (.sl (cv (iB en q ⟨s,m,[]⟩).q))/\l=gS it g iv f p (iB en q ⟨s,m,[]⟩):=by
 intro N O V;have X:iB en q ⟨s,m,[]⟩=if q.has then⟨(cG (q.args.foldl eZ (⟨s,m,[]⟩,[])).1 q.ex).s,(cG (q.args.foldl eZ (⟨s,m,[]⟩,[])).1 q.ex).m,(cG (q.args.foldl eZ (⟨s,m,[]⟩,[])).1 q.ex).q++[.mk 2 (q.lhs.map s.vars.nm) q.f (q.args.foldl eZ (⟨s,m,[]⟩,[])).2 true (cA (cG (q.args.foldl eZ (⟨s,m,[]⟩,[])).1 q.ex).s q.ex) [] q.ps]⟩
   else⟨(q.args.foldl eZ (⟨s,m,[]⟩,[])).1.s,(q.args.foldl eZ (⟨s,m,[]⟩,[])).1.m,(q.args.foldl eZ (⟨s,m,[]⟩,[])).1.q++[.mk 2 (q.lhs.map s.vars.nm) q.f (q.args.foldl eZ (⟨s,m,[]⟩,[])).2 false cg [] q.ps]⟩:=by
  cases q with|mk P o d E y e h p=>
  rw[iB];simp only[aJ.kd]at t;rw[agw (by omega),agK t];rfl
 rw[X];obtain⟨_,K2,G,⟨rfl,rfl⟩,w,Y⟩:=Wk.call (a:=[cP iv s.vars]) (r:=[_,_,_]) ((Wk.start V).pick [2,0,1,3]) (zY iv f s.ck s.vars q.lhs U);have w:=w.pick [1,2,0,3];have w:=((w.nil 8).pick [0,1,2,3,4]|>.nil 16);rw[q.aj,q.ex.aj,t];have am:(q.args.map Xp.cells).length=q.args.length:=by simp
 have H:= λi=>bN.args (q.args.take i) (r:=⟨s,m,[]⟩) [] T
 refine Lj func215 W ntmps215 W ?_
 repeat refine DC.seq ?_
 apply KZ
 .intro d h;refine dB W W W W<|bp W W<|ah W W<|TL.nil W
 repeat refine DC.seq ?_
 apply KZ
 .intro d h;refine ay W W<|ax W W W<|TL.nil W
 repeat refine DC.seq ?_
 refine DC.block ?_
 repeat refine DC.seq ?_
 apply KZ
 .intro d h;refine av W W W (r:=.bool false) W<|ah W W<|TL.nil W
 repeat refine DC.seq ?_
 refine Lc W ?_
 repeat refine DC.seq ?_
 apply KZ
 .intro d h;refine av W W W (r:=.bool true) W<|ah W W<|TL.nil W
 repeat refine DC.seq ?_
 refine Lo W ?_
 repeat refine DC.seq ?_
 apply KZ
 .intro d h;refine ah W W<|TL.nil W
 repeat refine DC.seq ?_
 apply Le mixed
 .intro d h;refine mN W W W W W<|bI W W<|cd W W W<|bt Y W W<|bI W W<|cd W W W<|bI W W<|cd W W W<|bI W W<|gm W W W<|dU W W W W W<|fk W<|bS W W W W W W<|TF.nil ⟨by kernel_rfl,rfl⟩
 repeat refine DC.seq ?_
 apply KZ
 .intro d h;refine ay W W<|ax W W W ?_
  (refine aT W W W ?_;rw[am])
  refine ai W W<|TL.nil W
 repeat refine DC.seq ?_
 refine DC.block<|DC.loop (λk j=>∃(i:Nat) (c d:M) (b:List (Nat×List M)) (h:Hp),j=⟨[(59,.m (.d (.int .i64 ((i:Nat):Int)))),(58,.m (.d (.int .i64 ((q.args.length:Nat):Int)))),(57,.m (.d (.sl (q.args.map Xp.cells)))),(10,.loc 10 0),(9,.m c),(5,.m (.d (.ca (eQ 2 q.lhs q.f (q.args.map Xp.cells) q.has (xC q.ex) (q.aq.map aP.cells) q.ps) 0))),(4,.loc 4 0),(0,.m (.ref g 0))],b,h⟩/\
   Go.Mt.get b 4=some [.mp iv,.mp f,.d (.sl (bW s.ck))]/\Go.Mt.get b 10=some (JS (q.lhs.map s.vars.nm) q.f d q.has (bD 0 0 0 ⟨#[]⟩ [] [] (0,0)) q.ps)/\
   Wk O N (.acc 16 (cv ((q.args.take i).foldl eZ (⟨s,m,[]⟩,[])).1.q) c:: .acc 8 (((q.args.take i).foldl eZ (⟨s,m,[]⟩,[])).2.map Xp.cells) d::gS it g iv f p ((q.args.take i).foldl eZ (⟨s,m,[]⟩,[])).1) h/\i<=q.args.length/\k=q.args.length-i) q.args.length _
  ⟨0,.d (.sl []),.d (.sl []),_,_,rfl,rfl,rfl,w,by omega,rfl⟩ W ?_
 rintro P s1 ⟨i,me,ma,bx,H1,rfl,u,j,w,hi,rfl⟩
 repeat refine DC.seq ?_
 apply KZ
 .intro d h;refine av W W W W<|TL.nil W
 repeat refine DC.seq ?_
 refine DC.cond W (λv=>?_) (λv=>?_)
 .have o:i<q.args.length:=by have:=agr v;omega
  have y:(q.args.map Xp.cells)[((i:Nat):Int).toNat]?=some q.args[i].cells:=by simp[o]
  have ac:=FN o;have h:(q.args.take (i+1)).foldl eZ (⟨s,m,[]⟩,[])=eZ ((q.args.take i).foldl eZ (⟨s,m,[]⟩,[])) q.args[i]:=by rw[agp o,ag7];rfl
  obtain⟨b,k⟩:=H i;have I:=Q _ (agx o);have Tl:(q.args.take i).length<=q.args.length:=by rw[agM];omega
  generalize (q.args.take i).foldl eZ (⟨s,m,[]⟩,[])=z at w b k h;obtain⟨r,c⟩:=z;generalize q.args[i]=e at y h I ac;have A:=b.n;have B:=b.vs;have C:=b.q;have D:=b.ck;have n:=b.sc
  dsimp only[List.length_nil]at A B C k w
  obtain⟨_,K3,G,⟨mq,rfl,rfl⟩,w,E⟩:=Wk.call (a:=gS it g iv f p ⟨r.s,r.m,[]⟩) (r:=[_,_]) (w.pick [2,3,4,5,0,1]) (ri it g iv f p r.s r.m e I n (by omega) (by omega) (by omega));have J:=bN.fU (r:=⟨r.s,r.m,[]⟩) n e;have Z:cG r e=(cG ⟨r.s,r.m,[]⟩ e).pre r.q:=by rw[<-ll,R.pre_nil]
  simp only[eZ,Z]at h;generalize cG ⟨r.s,r.m,[]⟩ e=d at w E J h;have Qg:=J.q
  dsimp only[List.length_nil]at Qg
  have XY:=w.view (dt _);have w:=(w.drop).pick [4,5,0,1,2,3];rw[D,e.aj,(cA d.s e).aj]at E;rw[e.aj]at y;have w2:=w.app (cv d.q);have K:=w2.pick [1,0,2,3,4,5];refine DC.skip ?_
  repeat refine DC.seq ?_
  refine DC.block ?_
  repeat refine DC.seq ?_
  apply KZ
  .intro s0 Oo;refine aN W W W (ago i) y W<|aK W W W<|aM W W<|aC W W W W W W<|TL.nil W
  repeat refine DC.seq ?_
  apply KZ
  .intro s0 Oo;refine ai W W<|dP W W u W W<|aW W W W W W<|aD E W W<|ai W W<|bZ W W W<|bZ W W W<|aM W W<|aC W W W W W W<|ah W W<|TL.nil W
  refine DC.bg 14 W XY ?_
  repeat refine DC.seq ?_
  apply Le mixed
  .intro s0 Oo;refine aO W W<|aO W W<|EI w W W W W W W (dt _) (by simp only[cv,agt];omega)<|aX W W<|bC W W j W<|bG W W W W W<|bm W W W W W W W W<|fa K W W W W W W W (by rw[agt];omega)<|eX W W<|aX W W<|bS W W j (bQ _ _ _) W W<|TF.nil ⟨by kernel_rfl,rfl⟩
  have F:=K.app [xC (cA d.s e)];rw[<-fw]at F;have U3:(c++[cA d.s e]).map Xp.cells=c.map Xp.cells++[xC (cA d.s e)]:=by rw[agI];simp[(cA d.s e).aj]
  rw[<-U3]at F
  repeat refine DC.seq ?_
  apply KZ
  .intro s0 Oo;refine aI W W W (by omega)<|ai W W<|TL.nil W
  exact bH (k':=q.args.length-(i+1)) (by omega) ⟨i+1,_,_,_,_,rfl,u,rfl,by rw[h];exact F.pick [1,0,2,3,4,5],by omega,rfl⟩ W W
 refine DC.exit ?_;obtain rfl:i=q.args.length:=by have:=agv v;omega
 obtain⟨b,k⟩:=H q.args.length;rw[agz]at w b k;generalize q.args.foldl eZ (⟨s,m,[]⟩,[])=z at w b k⊢;obtain⟨r,c⟩:=z;have A:=b.n;have B:=b.vs;have C:=b.q;have D:=b.ck;have n:=b.sc
 dsimp only[List.length_nil]at A B C k w⊢
 cases L:q.has with
 |false=>
  simp only[ahj,ahL];rw[L]at j;have h:=(w.pick [1,0,2,3,4,5]).view (jc _)
  repeat refine DC.seq ?_
  apply KZ
  .intro E F;refine ay W W<|ax W W W<|TL.nil W
  repeat refine DC.seq ?_
  refine Lc W<|DC.skip<|DC.cZ (Ls:=(eQ 2 (q.lhs.map s.vars.nm) q.f (c.map Xp.cells) false (bD 0 0 0 ⟨#[]⟩ [] [] (0,0)) [] q.ps).map M.d) 10 j (cq (cq (cq (lQ h (cq (cq (cq (cq (cq (cq (cq (cq (cq (cq (cq (cq (po _))))))))))))))))) ?_
  repeat refine DC.seq ?_
  apply KZ
  .intro E F;refine ai W W<|aW W W W W W<|aU W W W W W W W W<|cX w W W W W W W (by exact cM W) (by simp only[cv,agt,agq,agB];omega)<|ah W W<|TL.nil W
  have d:=w.app [eQ 2 (q.lhs.map s.vars.nm) q.f (c.map Xp.cells) false (bD 0 0 0 ⟨#[]⟩ [] [] (0,0)) [] q.ps];have o:cv (r.q++[.mk 2 (q.lhs.map s.vars.nm) q.f c false cg [] q.ps])=cv (r.q)++[eQ 2 (q.lhs.map s.vars.nm) q.f (c.map Xp.cells) false (bD 0 0 0 ⟨#[]⟩ [] [] (0,0)) [] q.ps]:=by
   rw[fw];show cv (r.q)++[(aJ.mk 2 (q.lhs.map s.vars.nm) q.f c false cg [] q.ps).cells]=_;rw[aJ.cells,(cg).aj];rfl
  rw[<-o]at d;have y:=d.view (dt _);refine DC.bg 6 W y<|DC.ret ⟨_,W,_,⟨W,W⟩,(d.drop).pick [0,1,2,3,4]|>.drop⟩
 |true=>
  simp only[ah3];rw[L]at j;obtain⟨_,K3,G,⟨mq,rfl,rfl⟩,w,o⟩:=Wk.call (a:=gS it g iv f p ⟨r.s,r.m,[]⟩) (r:=[_,_]) (w.pick [2,3,4,5,0,1]) (ri it g iv f p r.s r.m q.ex S n (by omega) (by omega) (by omega));have y:=bN.fU (r:=⟨r.s,r.m,[]⟩) n q.ex;have E:cG r q.ex=(cG ⟨r.s,r.m,[]⟩ q.ex).pre r.q:=by rw[<-ll,R.pre_nil]
  rw[E];generalize cG ⟨r.s,r.m,[]⟩ q.ex=d at w o y⊢
  dsimp only[R.pre]
  have F:=y.q
  dsimp only[List.length_nil]at F
  have I:=w.view (dt _);have w:=(w.drop).pick [4,5,0,1,2,3];rw[D,q.ex.aj,(cA d.s q.ex).aj]at o;have h:=w.app (cv d.q);have J:=(h.pick [1,0,2,3,4,5]).view (jc _)
  repeat refine DC.seq ?_
  apply KZ
  .intro s0 Oo;refine ay W W<|ax W W W<|TL.nil W
  repeat refine DC.seq ?_
  refine Lo W ?_
  repeat refine DC.seq ?_
  apply KZ
  .intro s0 Oo;refine ai W W<|dP W W u W W<|ay W W<|fA W W W<|aD o W W<|ai W W<|bZ W W W<|bZ W W W<|aM W W<|aC W W W W W W<|ah W W<|TL.nil W
  refine DC.bg 16 W I ?_
  repeat refine DC.seq ?_
  apply Le mixed
  .intro s0 Oo;refine aO W W<|aO W W<|EI w W W W W W W (dt _) (by simp only[cv,agt];omega)<|bG W W W W W<|eX W W<|aX W W<|bS W W j W W W<|TF.nil ⟨by kernel_rfl,rfl⟩
  rw[<-fw]at h;have w:=h;refine DC.cZ (Ls:=(eQ 2 (q.lhs.map s.vars.nm) q.f (c.map Xp.cells) true (xC (cA d.s q.ex)) [] q.ps).map M.d) 10 W (cq (cq (cq (lQ J (cq (cq (cq (cq (cq (cq (cq (cq (cq (cq (cq (cq (po _))))))))))))))))) ?_
  repeat refine DC.seq ?_
  apply KZ
  .intro s0 Oo;refine ai W W<|aW W W W W W<|aU W W W W W W W W<|cX w W W W W W W (by exact cM W) (by simp only[cv,agt,agq,agB];omega)<|ah W W<|TL.nil W
  have h:=w.app [eQ 2 (q.lhs.map s.vars.nm) q.f (c.map Xp.cells) true (xC (cA d.s q.ex)) [] q.ps];have K:cv (r.q++d.q++[.mk 2 (q.lhs.map s.vars.nm) q.f c true (cA d.s q.ex) [] q.ps])=cv (r.q++d.q)++[eQ 2 (q.lhs.map s.vars.nm) q.f (c.map Xp.cells) true (xC (cA d.s q.ex)) [] q.ps]:=by
   rw[fw];show cv (r.q++d.q)++[(aJ.mk 2 (q.lhs.map s.vars.nm) q.f c true (cA d.s q.ex) [] q.ps).cells]=_;rw[aJ.cells,(cA d.s q.ex).aj];rfl
  rw[<-K]at h;have Z:=h.view (dt _);refine DC.bg 6 W Z<|DC.ret ⟨_,W,_,⟨W,W⟩,(h.drop).pick [0,1,2,3,4]|>.drop⟩
def FO(en:List En)(n:Nm)(b:bT)(u w:List Tr)(p:Int×Int)(a:List aP)(s:Sc)(m:MS):y7 en (.mk n b u w p::a) s m=h_ en false b s m:=by rw[y7.eq_def]
def ve(it a:Nat)(p:Pg)(en:List En)(c:Bool)(b:bT)(s:Sc)(m:MS):Prop:=∀d e,Dt prog 163 [.ref a 0,l9 d e s.ck,.d (.agg b.cells),.d (.bool c)] (gS it a d e p ⟨s,m,[]⟩) λx l=>x=.d (.sl (cv (h_ en c b s m).2))/\l=[.ob it bK,gV a p (h_ en c b s m).1]
def B'(it b iv c:Nat)(p:Pg)(en:List En)(s:Sc)(m:MS)(q:aJ)(a:aP)(B:List aP)(g:q.kd=5)(h:q.aq=a::B)(C:iW q.ex)(n:dZ s)(D:m.n+cm q.ex+cm q.ex<1000000000)(E:m.vars.length+cm q.ex+cm q.ex<=10000000)(F:cm q.ex<=1000000)
  (o:ve it b p en false a.a_ (Ps.gG ⟨s,m,[]⟩ q.ex (1,⟨#[]⟩)).s (Ps.gG ⟨s,m,[]⟩ q.ex (1,⟨#[]⟩)).m):
  Dt prog 215 [.ref b 0,l9 iv c s.ck,.d (.agg q.cells)] (gS it b iv c p ⟨s,m,[]⟩) λx l=>x=.d (.sl (cv (iB en q ⟨s,m,[]⟩).q))/\l=gS it b iv c p (iB en q ⟨s,m,[]⟩):=by
 intro L M G;have H:iB en q ⟨s,m,[]⟩=⟨(Ps.gG ⟨s,m,[]⟩ q.ex (1,⟨#[]⟩)).s,(h_ en false a.a_ (Ps.gG ⟨s,m,[]⟩ q.ex (1,⟨#[]⟩)).s (Ps.gG ⟨s,m,[]⟩ q.ex (1,⟨#[]⟩)).m).1,(Ps.gG ⟨s,m,[]⟩ q.ex (1,⟨#[]⟩)).q++[.mk 5 [] ⟨#[]⟩ [] false (bz (nV (Ps.gG ⟨s,m,[]⟩ q.ex (1,⟨#[]⟩)).m.n)) [.mk ⟨#[]⟩ (.mk [] (h_ en false a.a_ (Ps.gG ⟨s,m,[]⟩ q.ex (1,⟨#[]⟩)).s (Ps.gG ⟨s,m,[]⟩ q.ex (1,⟨#[]⟩)).m).2) [] [] (0,0)] q.ps]⟩:=by
  cases q with|mk N ac O ce am e P p=>
  rw[iB];simp only[aJ.kd]at g;simp only[aJ.aq]at h;subst h;rw[agw (by omega),agw (by omega),agK g];cases a with|mk Q R S T U=>
  simp only[FO];rfl
 rw[H];obtain⟨_,V,t,⟨X,rfl,rfl⟩,w,i⟩:=Wk.call (r:=[]) (Wk.start G) (zZ it b iv c p s m q.ex (1,⟨#[]⟩) C n D E F);have j:=bN.val (r:=⟨s,m,[]⟩) n q.ex (1,⟨#[]⟩);generalize Ps.gG ⟨s,m,[]⟩ q.ex (1,⟨#[]⟩)=r at w i j o⊢;have I:=j.q
 dsimp only[List.length_nil]at I
 obtain⟨_,Y,t,⟨u,v,rfl,rfl⟩,w,J⟩:=Wk.call (a:=[cP iv r.s.vars,cP c r.s.aY]) (r:=[_,_,_]) (w.pick [3,4,0,1,2]) (z7 iv c r.s.vars r.s.aY s.ck (.d (.sl (bW s.ck))) W);obtain⟨_,Z,t,⟨rfl,rfl⟩,w,d⟩:=Wk.call (a:=gS it b u v p ⟨r.s,r.m,[]⟩) (r:=[_,_,_]) (w.pick [5,6,2,3,0,1,4]) (o u v);rw[j.ck]at d;generalize h_ en false a.a_ r.s r.m=A at w d⊢;obtain⟨m2,f⟩:=A
 dsimp only at w d⊢
 have w:=w.pick [4,0,1,2,3];have y:(q.aq.map aP.cells)[((0:Nat):Int).toNat]?=some a.cells:=by rw[h];rfl
 rw[a.aj]at y;rw[a.a_.aj]at d;rw[q.ex.aj]at i;rw[q.aj,q.ex.aj,g];have z:=fB (nV r.m.n);rw[(bz (nV r.m.n)).aj]at z;have k:=w.app [eQ 5 [] ⟨#[]⟩ [] false (bD 4 0 0 (nV r.m.n) [] [] (0,0)) [[.str ⟨#[]⟩,.sl [],.sl (cv f),.sl [],.sl [],.int .i64 0,.int .i64 0]] q.ps];have K:cv (r.q++[.mk 5 [] ⟨#[]⟩ [] false (bz (nV r.m.n)) [.mk ⟨#[]⟩ (.mk [] f) [] [] (0,0)] q.ps])=cv r.q++[eQ 5 [] ⟨#[]⟩ [] false (bD 4 0 0 (nV r.m.n) [] [] (0,0)) [[.str ⟨#[]⟩,.sl [],.sl (cv f),.sl [],.sl [],.int .i64 0,.int .i64 0]] q.ps]:=by
  rw[fw];show cv r.q++[(aJ.mk 5 [] ⟨#[]⟩ [] false (bz (nV r.m.n)) [.mk ⟨#[]⟩ (.mk [] f) [] [] (0,0)] q.ps).cells]=_;rw[aJ.cells,(bz (nV r.m.n)).aj,jp,agH,ag1,aP.aj];rfl
 rw[<-K]at k;refine Lj func215 W ntmps215 W ?_
 repeat refine DC.seq ?_
 apply KZ
 .intro N O;refine dB W W W W<|bp W W<|ah W W<|TL.nil W
 repeat refine DC.seq ?_
 apply KZ
 .intro N O;refine ay W W<|ax W W W<|TL.nil W
 repeat refine DC.seq ?_
 refine DC.block ?_
 repeat refine DC.seq ?_
 apply KZ
 .intro N O;refine av W W W (r:=.bool false) W<|ah W W<|TL.nil W
 repeat refine DC.seq ?_
 refine Lc W ?_
 repeat refine DC.seq ?_
 apply KZ
 .intro N O;refine av W W W (r:=.bool false) W<|ah W W<|TL.nil W
 repeat refine DC.seq ?_
 refine Lc W ?_
 repeat refine DC.seq ?_
 apply KZ
 .intro N O;refine av W W W (r:=.bool true) W<|ah W W<|TL.nil W
 repeat refine DC.seq ?_
 refine Lo W ?_
 repeat refine DC.seq ?_
 apply KZ
 .intro N O;refine ai W W<|dP W W W W W<|ay W W<|fA W W W<|bX W W W W W<|aD i W W<|ai W W<|bZ W W W<|bZ W W W<|ah W W<|ah W W<|TL.nil W
 repeat refine DC.seq ?_
 apply Le mixed
 .intro N O;refine aO W W<|mN W W W W W<|aX W W<|bC W W W W<|bt J W W<|bI W W<|cd W W W<|bE W W W (ago 0) y W<|bI W W<|gm W W W<|bt d W W<|eX W W<|TF.nil ⟨by kernel_rfl,rfl⟩
 repeat refine DC.seq ?_
 apply Le mixed
 .intro N O;refine aO W W<|aO W W<|bc z W W<|aO W W<|dU W W W W W<|dU W W W W W<|bm W W W W W W W W<|bI W W<|gm W W W<|dU W W W W W<|bm W W W W W W W W<|fa w W W W W W W W (by simp only[cv,agt];omega)<|eX W W<|TF.nil ⟨by kernel_rfl,rfl⟩
 refine DC.bg 6 W (k.view (dt _))<|DC.ret ⟨_,W,_,⟨W,W⟩,k.drop⟩
end Go.Proofs.Pz
namespace Go.Ps
open Go.Mt Go.Sm
def FP(q:List aJ)(r:R)(xs:List Xp)(e:Xp):eZ (r.pre q,xs) e=((eZ (r,xs) e).1.pre q,(eZ (r,xs) e).2):=by
 simp only[eZ,ll];rfl
def xW(q:List aJ):∀(l:List Xp) (r:R) (xs:List Xp),l.foldl eZ (r.pre q,xs)=((l.foldl eZ (r,xs)).1.pre q,(l.foldl eZ (r,xs)).2)
 |[],r,xs=>rfl
 |e::l,r,xs=>by
  rw[agy,agy,FP];exact xW q l _ _
def FQ(q:List aJ)(s:Sc)(r:R)(x:Nm):ek s (r.pre q) x=(ek s r x).pre q:=rfl
def vR(q:List aJ)(s:Sc):∀(l:List Nm) (r:R),l.foldl (ek s) (r.pre q)=(l.foldl (ek s) r).pre q
 |[],r=>rfl
 |x::l,r=>by rw[agy,agy,FQ,vR q s l]
def FR(q:List aJ)(p:Int×Int)(r:R)(x:Nm):fq p (r.pre q) x=(fq p r x).pre q:=by
 unfold fq;rw[xT];simp[R.pre]
def vS(q:List aJ)(p:Int×Int):∀(l:List Nm) (r:R),l.foldl (fq p) (r.pre q)=(l.foldl (fq p) r).pre q
 |[],r=>rfl
 |x::l,r=>by rw[agy,agy,FR,vS q p l]
def km(en:List En)(c:Nm)(all:List Nm)(r:R)(a:List (List Nm)):c7 en c all [] r a=(r,a):=by rw[c7.eq_def]
def jY(en:List En)(c:Nm)(all:List Nm)(n:Nm)(b:bT)(u w:List Tr)(p:Int×Int)(l:List aP)(r:R)(d:List (List Nm)):c7 en c all (.mk n b u w p::l) r d=
  (let e:R:=all.foldl (ek r.s) ⟨⟨r.s.vars,r.s.aY,r.s.ck++[(n,c)]⟩,r.m,r.q⟩
  let a:R:=(all.filter λx=> !(di (cE b) x)).foldl (fq p) e
  c7 en c all l ⟨r.s,(h_ en false b a.s a.m).1,a.q++(h_ en false b a.s a.m).2⟩ (d++[all.map e.s.vars.nm])):=by rw[c7.eq_def]
def z_(en:List En)(c:Nm)(all:List Nm)(q:List aJ):∀(l:List aP) (r:R) (a:List (List Nm)),c7 en c all l (r.pre q) a=((c7 en c all l r a).1.pre q,(c7 en c all l r a).2)
 |[],r,a=>by rw[km,km]
 |.mk n b u w p::l,r,g=>by
  rw[jY,jY]
  dsimp only
  have d:all.foldl (ek (r.pre q).s) ⟨⟨(r.pre q).s.vars,(r.pre q).s.aY,(r.pre q).s.ck++[(n,c)]⟩,(r.pre q).m,(r.pre q).q⟩=(all.foldl (ek r.s) ⟨⟨r.s.vars,r.s.aY,r.s.ck++[(n,c)]⟩,r.m,r.q⟩).pre q:=
   vR q r.s all ⟨⟨r.s.vars,r.s.aY,r.s.ck++[(n,c)]⟩,r.m,r.q⟩
  rw[d,vS];generalize all.foldl (ek r.s) ⟨⟨r.s.vars,r.s.aY,r.s.ck++[(n,c)]⟩,r.m,r.q⟩=e;generalize (all.filter λx=> !(di (cE b) x)).foldl (fq p) e=a;have f:(⟨(r.pre q).s,(h_ en false b (a.pre q).s (a.pre q).m).1,(a.pre q).q++(h_ en false b (a.pre q).s (a.pre q).m).2⟩:R)=R.pre q ⟨r.s,(h_ en false b a.s a.m).1,a.q++(h_ en false b a.s a.m).2⟩:=by
   simp[R.pre]
  rw[f];exact z_ en c all q l _ _
def Hu(en:List En)(e:aJ)(r:R)(q:List aJ):iB en e (r.pre q)=(iB en e r).pre q:=by
 cases e with|mk k j h l g e i p=>
 rw[iB,iB];by_cases a:k=1
 .simp only[agK a,ll];simp[R.pre]
 rw[agw a,agw a];by_cases b:k=2
 .simp only[agK b,xW];cases g with
  |true=>simp only[ah3,ll];simp[R.pre]
  |false=>simp[R.pre]
 rw[agw b,agw b];by_cases c:k=5
 .simp only[agK c,z8];simp[R.pre]
 rw[agw c,agw c];have d:(r.pre q).s=r.s:=rfl;simp only[d,z8];have f:∀x:R,(⟨(x.pre q).s,(x.pre q).m,(x.pre q).q⟩:R)=R.pre q ⟨x.s,x.m,x.q⟩:= λ_=>rfl
 rw[f,z_];simp[R.pre]
def z'(en:List En):∀(a b:List aJ) (r:R),gf en (a++b) r=gf en b (gf en a r)
 |[],b,r=>by rw[gf.eq_def en []];rfl
 |e::a,b,r=>by rw[agQ,gf.eq_def en (e::_),gf.eq_def en (e::a)];exact z' en a b _
end Go.Ps
namespace Go.Proofs.Pz
open Go.Mt Go.Sm Go.Ps Go.Proofs
open Tryz
variable{f:Env}{es:List (D×M)}
def DF(k:M)(iv c:Nat)(d:List (Nm×Nm))(n:iH es f)(a:List (Nm×Nm))(s:a.length<=1000000):
  Dt prog 209 [k,l9 iv c d,.d (.sl (bW a))] [.ob iv (.map es)] λr l=>r=.d (.sl (bW (a.map λo=>(o.1,f.nm o.2))))/\l=[.ob iv (.map es)]:=by
 intro H F p;have w:=Wk.start p;have w:=w.nil 2;have q:(bW a).length=a.length:=by simp[bW]
 refine Lj func209 W ntmps209 W ?_
 repeat refine DC.seq ?_
 apply KZ
 .intro g h;refine dB W W W W<|ah W W<|TL.nil W
 repeat refine DC.seq ?_
 apply KZ
 .intro g h;refine ah W W<|TL.nil W
 repeat refine DC.seq ?_
 apply KZ
 .intro g h;refine ai W W ?_
  (refine aT W W W ?_;rw[q])
  refine ai W W<|TL.nil W
 repeat refine DC.seq ?_
 refine DC.block<|DC.loop (λm h=>∃(i:Nat) (b:M) (e:List (Nat×List M)) (g:Hp),h=⟨[(12,.m (.d (.int .i64 ((i:Nat):Int)))),(11,.m (.d (.int .i64 ((a.length:Nat):Int)))),(10,.m (.d (.sl (bW a)))),(7,.m b),(4,.loc 4 0)],e,g⟩/\
   Go.Mt.get e 4=some [.mp iv,.mp c,.d (.sl (bW d))]/\
   Wk F H [.acc 2 (bW ((a.take i).map λo=>(o.1,f.nm o.2))) b,.ob iv (.map es)] g/\i<=a.length/\m=a.length-i) a.length _
  ⟨0,.d (.sl []),_,_,rfl,rfl,w,by omega,rfl⟩ W ?_
 rintro m v ⟨i,x,y,z,rfl,e,w,A,rfl⟩
 repeat refine DC.seq ?_
 apply KZ
 .intro g h;refine av W W W W<|TL.nil W
 repeat refine DC.seq ?_
 refine DC.cond W (λb=>?_) (λb=>?_)
 .have g:i<a.length:=by have:=agr b;omega
  have h:=tN g;have j:bW ((a.take (i+1)).map λo=>(o.1,f.nm o.2))=bW ((a.take i).map λo=>(o.1,f.nm o.2))++[[.str a[i].1,.str (f.nm a[i].2)]]:=by rw[rJ _ _ _ _ _ g];simp[bW]
  generalize a[i]=o at h j;refine DC.skip ?_
  repeat refine DC.seq ?_
  refine DC.block ?_
  repeat refine DC.seq ?_
  apply KZ
  .intro t u;refine aN W W W (ago i) h W<|aK W W W<|aM W W<|aC W W W W W W<|TL.nil W
  repeat refine DC.seq ?_
  apply KZ
  .intro t u;refine ai W W<|aA W W<|aF W W W W<|aA W W<|aF W W e W<|aA W W<|aF W W W W<|kO n ((w.pick [1,0]).ob) W W W<|sD W W W W<|bX W W W W W<|aU W W W W W W W W<|cX w W W W W W W (by exact cM W) (by simp[bW];omega)<|ah W W<|TL.nil W
  have w:=w.app [[.str o.1,.str (f.nm o.2)]]
  repeat refine DC.seq ?_
  apply KZ
  .intro t u;refine aI W W W (by omega)<|ai W W<|TL.nil W
  exact bH (k':=a.length-(i+1)) (by omega) ⟨i+1,_,_,_,rfl,e,by rw[j];exact w,by omega,rfl⟩ W W
 .refine DC.exit ?_;obtain rfl:i=a.length:=by have:=agv b;omega
  rw[agz]at w
  repeat refine DC.seq ?_
  apply KZ
  .intro g h;refine ai W W<|ah W W<|TL.nil W
  refine DC.bg 6 W (w.view (ja _))<|DC.ret ⟨_,W,_,⟨W,W⟩,w.drop⟩
def FT{H:Hp}(c:M)(iv d:Nat)(e:List (Nm×Nm))(l:iH es f)(g:H[iv]?=some (.map es))(a:List (Nm×Nm))(m:a.length<=1000000):
  CT prog 209 [c,l9 iv d e,.d (.sl (bW a))] H λr K=>r=.d (.sl (bW (a.map λo=>(o.1,f.nm o.2))))/\K=H:=by
 obtain⟨r,K,⟨u,⟨rfl,rfl⟩,h⟩,n⟩:=DF c iv d e l a m H (λi=>i=iv) (qd ⟨g,λj=>ail⟩);have b:=Ht (F:= λi=>i=iv) (iv:=iv) (λi h=>h) h (h.ob.trans g.symm);intro k p q j i s;refine CT.drop (post:= λb c=>b=.d (.sl (bW (a.map λo=>(o.1,f.nm o.2))))/\c=H) H.length (ags _) (n.mono ?_) k p q j i s;rintro r t ⟨rfl,rfl⟩;exact⟨b.1,.d _,by rw[b.2];exact(by rw[<-i];exact j.hb),W,b.2⟩
end Go.Proofs.Pz
namespace Go.Ps
open Go.Mt Go.Sm
def bN.bind{r:R}(a:Bool)(h:dZ r.s)(v:Va):bN r (dj a r v) 1:=
 ⟨rfl,⟨h.v.set _ (ags _),h.l,h.n⟩,ags _,ah8 _,ah8 _⟩
def bN.binds(a:Bool):∀(l:List Va) {r:R},dZ r.s->bN r (l.foldl (dj a) r) l.length
 |[],r,h=>.refl h
 |v::l,r,h=>by
  have b:=bN.bind a h v;have:=b.trans (bN.binds a l b.sc);rw[aio]at this;exact this
def vT(a:Bool):∀(l:List Va) (r:R),(l.foldl (dj a) r).m.vars=r.m.vars/\(l.foldl (dj a) r).q=r.q
 |[],r=>⟨rfl,rfl⟩
 |v::l,r=>by rw[agy];exact vT a l _
def xX(q:List aJ)(r:R)(v:Va)(n:Nm):iz (r.pre q) v n=(iz r v n).pre q:=by
 unfold iz;split<;>simp[R.pre]
def bN.decl{r:R}(h:dZ r.s)(v:Va):bN r (dT r v) 2:=by
 have a:=bN.last (r:=⟨r.s,⟨r.m.n,r.m.vars++[⟨r.s.vars.nm v.name,v.tk,v.tn,r.s.ck++v.clock.map λo=>(o.1,r.s.vars.nm o.2),false,cg,v.ps⟩]⟩,r.q⟩) h v (r.s.vars.nm v.name);exact⟨a.ck,a.sc,by have:=a.n;unfold dT;simp only at this;omega,by have:=a.vs;unfold dT;simp only[agq,agB]at this;omega,by have:=a.q;unfold dT;simp only at this;omega⟩
def bN.decls:∀(l:List Va) {r:R},dZ r.s->bN r (l.foldl dT r) (l.length+l.length)
 |[],r,h=>.refl h
 |v::l,r,h=>by
  have a:=bN.decl h v;have:=a.trans (bN.decls l a.sc);simp only[agy,agA];exact⟨this.ck,this.sc,by have:=this.n;omega,by have:=this.vs;omega,by have:=this.q;omega⟩
end Go.Ps
namespace Go.Proofs.Pz
open Go.Mt Go.Sm Go.Ps Go.Proofs
open Tryz
def EJ(it a:Nat)(p:Pg)(en:List En)(q:aJ)(r:R):Prop:=∀b c,Dt prog 215 [.ref a 0,l9 b c r.s.ck,.d (.agg q.cells)] (gS it a b c p ⟨r.s,r.m,[]⟩) λx l=>x=.d (.sl (cv (iB en q ⟨r.s,r.m,[]⟩).q))/\l=gS it a b c p (iB en q ⟨r.s,r.m,[]⟩)
def rj(it e iv g:Nat)(p:Pg)(en:List En)(f:Bool)(b:bT)(s:Sc)(m:MS)(hs:dZ s)(Mw:s.ck.length<=100000)(Ot:b.vars.length<=100000)(V:∀v∈b.vars,v.clock.length<=1000)(hn:m.n+3*b.vars.length+(b.vars.flatMap l_).length<100000000)(hv:m.vars.length+4*b.vars.length+(b.vars.flatMap l_).length<=10000000)(QE:b.eqs.length<=1000000)
  (u:∀(i:Nat) (h:i<b.eqs.length),(gf en (b.eqs.take i) (b.vars.foldl dT ((b.vars.flatMap l_).foldl cO (b.vars.foldl (dj f) ⟨s,m,[]⟩)))).s.ck=s.ck/\EJ it e p en b.eqs[i] (gf en (b.eqs.take i) (b.vars.foldl dT ((b.vars.flatMap l_).foldl cO (b.vars.foldl (dj f) ⟨s,m,[]⟩))))/\
   (iB en b.eqs[i] (gf en (b.eqs.take i) (b.vars.foldl dT ((b.vars.flatMap l_).foldl cO (b.vars.foldl (dj f) ⟨s,m,[]⟩))))).q.length<=100000000):
  Dt prog 163 [.ref e 0,l9 iv g s.ck,.d (.agg b.cells),.d (.bool f)] (gS it e iv g p ⟨s,m,[]⟩) λx l=>x=.d (.sl (cv (h_ en f b s m).2))/\l=[.ob it bK,gV e p (h_ en f b s m).1]:=by
 intro H F hw;have w:=(Wk.start hw).nil 16;have ac:(aB b.vars).length=b.vars.length:=by simp[aB]
 rw[b.aj];have X:= λi=>bN.binds f (b.vars.take i) (r:=⟨s,m,[]⟩) hs
 refine Lj func163 W ntmps163 W ?_
 repeat refine DC.seq ?_
 apply KZ
 .intro k z;refine dB W W W W<|bp W W<|ah W W<|TL.nil W
 repeat refine DC.seq ?_
 apply KZ
 .intro k z;refine ah W W<|TL.nil W
 repeat refine DC.seq ?_
 apply KZ
 .intro k z;refine ay W W<|ax W W W ?_
  (refine aT W W W ?_;rw[ac])
  refine ai W W<|TL.nil W
 repeat refine DC.seq ?_
 refine DC.block<|DC.loop (λk h=>∃(i:Nat) (c:List (Nat×List M)) (d:Hp),h=⟨[(23,.m (.d (.int .i64 ((i:Nat):Int)))),(22,.m (.d (.int .i64 ((b.vars.length:Nat):Int)))),(21,.m (.d (.sl (aB b.vars)))),(9,.m (.d (.sl []))),(6,.m (.d (.ca [.sl (aB b.vars),.sl (b.eqs.map aJ.cells)] 0))),(5,.loc 5 0),(3,.m (.d (.bool f))),(0,.m (.ref e 0))],c,d⟩/\
   Go.Mt.get c 5=some [.mp iv,.mp g,.d (.sl (bW s.ck))]/\
   Wk F H (.acc 16 [] (.d (.sl []))::gS it e iv g p ((b.vars.take i).foldl (dj f) ⟨s,m,[]⟩)) d/\i<=b.vars.length/\k=b.vars.length-i) b.vars.length _
  ⟨0,_,_,rfl,rfl,w,by omega,rfl⟩ W ?_
 rintro G I ⟨i,J,y,rfl,d,w,K,rfl⟩
 repeat refine DC.seq ?_
 apply KZ
 .intro k z;refine av W W W W<|TL.nil W
 repeat refine DC.seq ?_
 refine DC.cond W (λh=>?_) (λh=>?_)
 .have E:i<b.vars.length:=by have:=agr h;omega
  have C:=kN E;have c:=X i;have k:(b.vars.take (i+1)).foldl (dj f) ⟨s,m,[]⟩=dj f ((b.vars.take i).foldl (dj f) ⟨s,m,[]⟩) b.vars[i]:=by rw[agp E,ag7];rfl
  have Tl:(b.vars.take i).length<=b.vars.length:=by rw[agM];omega
  generalize (b.vars.take i).foldl (dj f) ⟨s,m,[]⟩=r at w c k;generalize b.vars[i]=v at C k;rw[v.aj]at C;have Q:=c.n;have L:=c.ck
  dsimp only at Q
  have N:(bW s.ck).length=s.ck.length:=by simp[bW]
  have w:=w.pick [2,1,3,4,0];obtain⟨U,w⟩:=gV.open w;have z:=w.ob;have Y:((r.m.n:Nat):Int)+1=((r.m.n+1:Nat):Int):=by omega
  have O:r.m.n+1<=1000000000:=by omega
  have w:=w.set (.box [.d (.sl (p.aG.map En.cells)),.d (.sl (p.nodes.map Nd.cells)),U,.d (.int .i64 ((r.m.n+1:Nat):Int))]);have ZJ:=w.ob;have w:Wk F H (gV e p ⟨r.m.n+1,r.m.vars⟩:: [.ob it bK,cP iv r.s.vars,cP g r.s.aY,.acc 16 [] (.d (.sl []))]) _:=gV.close w;have w:=w.pick [1,0,2,3,4];have R5:=qo O w.ob;refine DC.skip ?_
  repeat refine DC.seq ?_
  refine DC.block ?_
  repeat refine DC.seq ?_
  apply KZ
  .intro P Oo;refine aN W W W (ago i) C W<|aK W W W<|aM W W<|aC W W W W W W<|TL.nil W
  repeat refine DC.seq ?_
  apply KZ
  .intro P Oo;refine ai W W<|dG W W W<|eB W W<|eC W W z W ?_
   (refine aI W W W (by omega) ?_;rw[Y])
   refine dG W W W<|eB W W<|c8 W W z W W W<|TL.nil W
  have z:=ZJ
  repeat refine DC.seq ?_
  apply KZ
  .intro P Oo;refine aA W W<|aF W W W W<|ah W W<|TL.nil W
  cases f with
  |true=>
   have w:=w.pick [2,0,1,3,4];obtain⟨es,P,w⟩:=cP.open w;have hH:=w.ob
   repeat refine DC.seq ?_
   apply KZ
   .intro s0 Oo;refine ai W W<|fb W W<|TL.nil W
   repeat refine DC.seq ?_
   refine Lc W<|DC.skip ?_
   repeat refine DC.seq ?_
   apply KZ
   .intro s0 Oo;refine aA W W<|aF W W d W<|aA W W<|aF W W W W<|ai W W<|aA W W<|aF W W d W ?_
    (refine aT W W W ?_;rw[N])
    refine aA W W<|aW W W W W W<|bX W W W W W<|fW W W W hH P.k<|TL.nil W
   repeat refine DC.seq ?_
   apply KZ
   .intro s0 Oo;refine aI W W W (by omega)<|ai W W<|TL.nil W
   have w2:=LQ (P.set v.name ⟨v.name,s.ck.length,v.tk,v.tn⟩) (w.set (.map (dH v.name (.d (.agg (nG ⟨v.name,s.ck.length,v.tk,v.tn⟩))) es)));exact bH (k':=b.vars.length-(i+1)) (by omega) ⟨i+1,_,_,rfl,d,by rw[k];unfold dj;rw[L];exact w2.pick [4,1,2,0,3],by omega,rfl⟩ W W
  |false=>
   have w:=w.pick [2,0,1,3,4];obtain⟨es,P,w⟩:=cP.open w;have hH:=w.ob
   repeat refine DC.seq ?_
   apply KZ
   .intro s0 Oo;refine ai W W<|fb W W<|TL.nil W
   repeat refine DC.seq ?_
   refine Lo W ?_
   repeat refine DC.seq ?_
   apply KZ
   .intro s0 Oo;refine ai W W<|dG W W W<|eB W W<|eC W W z W<|aD R5 W W<|jo W W W W (agW (gR (r.m.n+1) O) (by omega:21<=4000000000))<|ah W W<|TL.nil W
   repeat refine DC.seq ?_
   apply KZ
   .intro s0 Oo;refine aA W W<|aF W W d W<|aA W W<|aF W W W W<|ai W W<|aA W W<|aF W W d W ?_
    (refine aT W W W ?_;rw[N])
    refine aA W W<|aW W W W W W<|bX W W W W W<|fW W W W hH P.k<|TL.nil W
   repeat refine DC.seq ?_
   apply KZ
   .intro s0 Oo;refine aI W W W (by omega)<|ai W W<|TL.nil W
   have w2:=LQ (P.set v.name ⟨nV (r.m.n+1),s.ck.length,v.tk,v.tn⟩) (w.set (.map (dH v.name (.d (.agg (nG ⟨nV (r.m.n+1),s.ck.length,v.tk,v.tn⟩))) es)));exact bH (k':=b.vars.length-(i+1)) (by omega) ⟨i+1,_,_,rfl,d,by rw[k];unfold dj;rw[L];exact w2.pick [4,1,2,0,3],by omega,rfl⟩ W W
 refine DC.exit ?_;obtain rfl:i=b.vars.length:=by have:=agv h;omega
 have c:=X b.vars.length;rw[agz]at w c;have D:=(vT f b.vars ⟨s,m,[]⟩).2;have OH:h_ en f b s m=((gf en b.eqs (b.vars.foldl dT ((b.vars.flatMap l_).foldl cO (b.vars.foldl (dj f) ⟨s,m,[]⟩)))).m,(gf en b.eqs (b.vars.foldl dT ((b.vars.flatMap l_).foldl cO (b.vars.foldl (dj f) ⟨s,m,[]⟩)))).q):=by
  cases b;rw[h_];rfl
 rw[OH];generalize b.vars.foldl (dj f) ⟨s,m,[]⟩=j at w c D u⊢;have w:Wk F H (.acc 16 (cv j.q) (.d (.sl []))::gS it e iv g p j) y:=by rw[D];exact w
 obtain⟨_,K1,S,⟨rfl,rfl⟩,w,T⟩:=Wk.call (a:=[]) w (DB b (by omega) V);rw[b.aj]at T;have SF:=c.n;have SG:=c.vs;have Z:j.s.ck=s.ck:=c.ck
 dsimp only at SF SG
 obtain⟨A,hA⟩:∃A,A=b.vars.flatMap l_:=⟨_,rfl⟩;rw[<-hA]at T hn hv u⊢;have Tk:(aR A).length=A.length:=by simp[aR]
 have Qf:= λi=>bN.pz (A.take i) (r:=j) c.sc
 repeat refine DC.seq ?_
 apply KZ
 .intro k z;refine aK W W W<|aD T W W ?_
  (refine aT W W W ?_;rw[Tk])
  refine ai W W<|TL.nil W
 repeat refine DC.seq ?_
 refine DC.block<|DC.loop (λk n=>∃(i:Nat) (h:M) (c:List (Nat×List M)) (d:Hp),n=⟨[(59,.m (.d (.int .i64 ((i:Nat):Int)))),(58,.m (.d (.int .i64 ((A.length:Nat):Int)))),(57,.m (.d (.sl (aR A)))),(9,.m h),(6,.m (.d (.ca [.sl (aB b.vars),.sl (b.eqs.map aJ.cells)] 0))),(5,.loc 5 0),(3,.m (.d (.bool f))),(0,.m (.ref e 0))],c,d⟩/\
   Go.Mt.get c 5=some [.mp iv,.mp g,.d (.sl (bW s.ck))]/\
   Wk F H (.acc 16 (cv ((A.take i).foldl cO j).q) h::gS it e iv g p ((A.take i).foldl cO j)) d/\i<=A.length/\k=A.length-i) A.length _
  ⟨0,.d (.sl []),_,_,rfl,d,w,by omega,rfl⟩ W ?_
 rintro G I ⟨i,B,J,y,rfl,d,w,K,rfl⟩
 repeat refine DC.seq ?_
 apply KZ
 .intro k z;refine av W W W W<|TL.nil W
 repeat refine DC.seq ?_
 refine DC.cond W (λh=>?_) (λh=>?_)
 .have z:i<A.length:=by have:=agr h;omega
  have C:=iC z;have c:=Qf i;have k:(A.take (i+1)).foldl cO j=cO ((A.take i).foldl cO j) A[i]:=by rw[agp z,ag7];rfl
  rw[mO]at k;generalize (A.take i).foldl cO j=r at w c k;generalize A[i]=x at C k;have Y:=c.n;have Qc:=c.vs;have L:=c.q;have E:=c.ck.trans Z;have U:(A.take i).length<=A.length:=by rw[agM];omega
  rw[D]at L;have O:=mP r.s.vars r.s.ck r.m x c.sc.v;obtain⟨_,K2,S,⟨rfl,rfl⟩,w,N⟩:=Wk.call (a:=[.ob it bK,gV e p r.m,cP iv r.s.vars]) (r:=[_,_]) (w.pick [1,2,3,0,4]) (B6 it e p r.m iv g r.s.ck r.s.vars x (by omega) (by omega) c.sc.n (c.sc.v x));rw[E]at N O;have w:=w.pick [3,0,1,2,4];rw[E]at w k;have NW:(cv r.q).length+(cv (eE r.s.vars s.ck r.m x).2.2).length<=100000000:=by
   simp only[cv,agt];simp only[List.length_nil]at L;omega
  refine DC.skip ?_
  repeat refine DC.seq ?_
  refine DC.block ?_
  repeat refine DC.seq ?_
  apply KZ
  .intro P Q;refine aN W W W (ago i) C W<|ax W W W<|ah W W<|TL.nil W
  repeat refine DC.seq ?_
  apply KZ
  .intro P Q;refine ai W W<|ai W W<|dP W W d W W<|ai W W<|aD N W W<|cX w W W W W W W (dt _) (by omega)<|ah W W<|TL.nil W
  have w:=w.app (cv (eE r.s.vars s.ck r.m x).2.2);rw[<-fw]at w
  repeat refine DC.seq ?_
  apply KZ
  .intro P Q;refine aI W W W (by omega)<|ai W W<|TL.nil W
  exact bH (k':=A.length-(i+1)) (by omega) ⟨i+1,_,_,_,rfl,d,by rw[k];exact w,by omega,rfl⟩ W W
 refine DC.exit ?_;obtain rfl:i=A.length:=by have:=agv h;omega
 have n:=Qf A.length;rw[agz]at w n;generalize A.foldl cO j=o at w n u⊢;have ce:=n.n;have co:=n.vs;have ZL:=n.q;rw[D,List.length_nil]at ZL;have U5:= λi=>bN.decls (b.vars.take i) (r:=o) n.sc
 repeat refine DC.seq ?_
 apply KZ
 .intro k z;refine ay W W<|ax W W W ?_
  (refine aT W W W ?_;rw[ac])
  refine ai W W<|TL.nil W
 repeat refine DC.seq ?_
 refine DC.block<|DC.loop (λk h=>∃(i:Nat) (f:M) (c:List (Nat×List M)) (d:Hp),h=⟨[(73,.m (.d (.int .i64 ((i:Nat):Int)))),(72,.m (.d (.int .i64 ((b.vars.length:Nat):Int)))),(71,.m (.d (.sl (aB b.vars)))),(9,.m f),(6,.m (.d (.ca [.sl (aB b.vars),.sl (b.eqs.map aJ.cells)] 0))),(5,.loc 5 0),(0,.m (.ref e 0))],c,d⟩/\
   Go.Mt.get c 5=some [.mp iv,.mp g,.d (.sl (bW s.ck))]/\
   Wk F H (.acc 16 (cv ((b.vars.take i).foldl dT o).q) f::gS it e iv g p ((b.vars.take i).foldl dT o)) d/\i<=b.vars.length/\k=b.vars.length-i) b.vars.length _
  ⟨0,B,_,_,rfl,d,w,by omega,rfl⟩ W ?_
 rintro G I ⟨i,B,J,y,rfl,d,w,K,rfl⟩
 repeat refine DC.seq ?_
 apply KZ
 .intro k z;refine av W W W W<|TL.nil W
 repeat refine DC.seq ?_
 refine DC.cond W (λh=>?_) (λh=>?_)
 .have L:i<b.vars.length:=by have:=agr h;omega
  have N:=kN L;have c:=U5 i;have z:(b.vars.take (i+1)).foldl dT o=dT ((b.vars.take i).foldl dT o) b.vars[i]:=by rw[agp L,ag7];rfl
  have PG:=V _ (agx L);have Tl:(b.vars.take i).length+1<=b.vars.length:=by rw[agM];omega
  generalize (b.vars.take i).foldl dT o=r at w c z;generalize b.vars[i]=v at N z PG;have PO:=c.n;have Qc:=c.vs;have Ou:=c.q;have O:=c.ck.trans (n.ck.trans Z);have N5:=c.sc;have w:=w.pick [3,0,1,2,4];obtain⟨es,P,w⟩:=cP.open w;have Y:=w.ob;obtain⟨E,Mp⟩:∃c,c=s.ck++v.clock.map λo=>(o.1,r.s.vars.nm o.2):=⟨_,rfl⟩
  have Pc:=tS s.ck (v.clock.map λo=>(o.1,r.s.vars.nm o.2)) (by rw[agt];omega);rw[<-Mp]at Pc;have w:=w.pick [3,0,1,2,4];obtain⟨mv,w⟩:=gV.open w;have Mb:=w.ob;have w:=w.pick [1,0,2,3,4,5];rw[v.aj]at N;refine DC.skip ?_
  repeat refine DC.seq ?_
  refine DC.block ?_
  repeat refine DC.seq ?_
  apply KZ
  .intro s0 Oo;refine aN W W W (ago i) N W<|aK W W W<|aM W W<|aC W W W W W W<|TL.nil W
  repeat refine DC.seq ?_
  apply KZ
  .intro s0 Oo;refine aA W W<|aF W W d W<|aA W W<|aF W W W W<|kO P Y W W W<|sD W W W W<|ah W W<|TL.nil W
  have Q:=w.app [[.str (r.s.vars.nm v.name),.int .u8 v.tk,.str v.tn,.sl (bW E),.bool false,.int .u8 0,.int .u8 0,.int .i32 0,.str ⟨#[]⟩,.sl [],.sl [],.int .i64 0,.int .i64 0,.int .i64 v.ps.1,.int .i64 v.ps.2]]
  repeat refine DC.seq ?_
  apply Le mixed
  .intro s0 Oo;refine aO W W<|aO W W<|bO W W W<|bJ W W<|dy W W Mb W<|aO W W<|aX W W<|bG W W W W W<|aX W W<|bC W W d W<|aO W W<|mN W W d W W<|aX W W<|bC W W W W<|fO (FT (.ref e 0) iv g s.ck P Y v.clock (by omega)) W W<|bm W W W W W W W W<|bc Pc W W<|aX W W<|bG W W W W W<|dU W W W W W<|bm W W W W W W W W<|fa w W W W W W W W (by simp only[aB,agt];omega)<|bO W W W<|bJ W W<|iy W W ((Q.pick [1,0,2,3,4,5]).ob) (bQ _ _ _) W W<|TF.nil ⟨by kernel_rfl,rfl⟩
  obtain⟨k,TW⟩:∃c:Va,c=⟨r.s.vars.nm v.name,v.tk,v.tn,E,false,cg,v.ps⟩:=⟨_,rfl⟩;have OP:aB (r.m.vars++[k])=aB r.m.vars++[[.str (r.s.vars.nm v.name),.int .u8 v.tk,.str v.tn,.sl (bW E),.bool false,.int .u8 0,.int .u8 0,.int .i32 0,.str ⟨#[]⟩,.sl [],.sl [],.int .i64 0,.int .i64 0,.int .i64 v.ps.1,.int .i64 v.ps.2]]:=by
   rw[TW];simp only[aB,agI,agH,ag1];rw[Va.aj];rfl
  rw[<-OP]at Q;have w3:Wk F H (gV e p ⟨r.m.n,r.m.vars++[k]⟩:: [.ob iv (.map es),.acc 16 (cv r.q) B,.ob it bK,cP g r.s.aY]) _:=gV.close ((Q.pick [1,0,2,3,4,5]).set (.box [.d (.sl (p.aG.map En.cells)),.d (.sl (p.nodes.map Nd.cells)),cQ mv y [[.str (r.s.vars.nm v.name),.int .u8 v.tk,.str v.tn,.sl (bW E),.bool false,.int .u8 0,.int .u8 0,.int .i32 0,.str ⟨#[]⟩,.sl [],.sl [],.int .i64 0,.int .i64 0,.int .i64 v.ps.1,.int .i64 v.ps.2]],.d (.int .i64 ((r.m.n:Nat):Int))]));have w4:=LQ P (w3.pick [1,0,2,3,4]);obtain⟨_,K5,S,⟨rfl,rfl⟩,C,U⟩:=Wk.call (a:=gS it e iv g p ⟨r.s,⟨r.m.n,r.m.vars++[k]⟩,[]⟩) (r:=[_]) (w4.pick [3,1,0,4,2]) (B8 it e iv g p r.s ⟨r.m.n,r.m.vars++[k]⟩ v (r.s.vars.nm v.name) N5 (by simp only;omega) (by simp only[agq,agB];omega) (by rw[O];omega));have U6:dT r v=(iz ⟨r.s,⟨r.m.n,r.m.vars++[k]⟩,[]⟩ v (r.s.vars.nm v.name)).pre r.q:=by
   rw[<-xX];unfold dT;rw[TW,Mp,<-O];simp[R.pre]
  rw[U6]at z;have XZ:(iz ⟨r.s,⟨r.m.n,r.m.vars++[k]⟩,[]⟩ v (r.s.vars.nm v.name)).q.length<=1:=by
   have:=(bN.last (r:=⟨r.s,⟨r.m.n,r.m.vars++[k]⟩,[]⟩) N5 v (r.s.vars.nm v.name)).q;simpa using this
  generalize iz ⟨r.s,⟨r.m.n,r.m.vars++[k]⟩,[]⟩ v (r.s.vars.nm v.name)=r5 at C U z XZ;rw[O,v.aj]at U;have C:=C.pick [4,0,1,2,3]
  repeat refine DC.seq ?_
  apply KZ
  .intro s0 Oo;refine ai W W<|ai W W<|dP W W d W W<|aW W W W W W<|ai W W<|aD U W W<|cX C W W W W W W (dt _) (by simp only[cv,agt];omega)<|ah W W<|TL.nil W
  have w6:=C.app (cv r5.q);rw[<-fw]at w6
  repeat refine DC.seq ?_
  apply KZ
  .intro s0 Oo;refine aI W W W (by omega)<|ai W W<|TL.nil W
  exact bH (k':=b.vars.length-(i+1)) (by omega) ⟨i+1,_,_,_,rfl,d,by rw[z];exact w6,by omega,rfl⟩ W W
 refine DC.exit ?_;obtain rfl:i=b.vars.length:=by have:=agv h;omega
 rw[agz]at w;clear U5 h;generalize b.vars.foldl dT o=t at w u⊢;have am:(b.eqs.map aJ.cells).length=b.eqs.length:=by simp
 repeat refine DC.seq ?_
 apply KZ
 .intro k z;refine ay W W<|ax W W W ?_
  (refine aT W W W ?_;rw[am])
  refine ai W W<|TL.nil W
 repeat refine DC.seq ?_
 refine DC.block<|DC.loop (λk h=>∃(i:Nat) (f:M) (c:List (Nat×List M)) (d:Hp),h=⟨[(118,.m (.d (.int .i64 ((i:Nat):Int)))),(117,.m (.d (.int .i64 ((b.eqs.length:Nat):Int)))),(116,.m (.d (.sl (b.eqs.map aJ.cells)))),(9,.m f),(5,.loc 5 0),(0,.m (.ref e 0))],c,d⟩/\
   Go.Mt.get c 5=some [.mp iv,.mp g,.d (.sl (bW s.ck))]/\
   Wk F H (.acc 16 (cv (gf en (b.eqs.take i) t).q) f::gS it e iv g p (gf en (b.eqs.take i) t)) d/\i<=b.eqs.length/\k=b.eqs.length-i) b.eqs.length _
  ⟨0,B,_,_,rfl,d,by rw[agS,gf.eq_def];exact w,by omega,rfl⟩ W ?_
 clear w d;rintro G I ⟨i,B,J,y,rfl,d,w,K,rfl⟩
 repeat refine DC.seq ?_
 apply KZ
 .intro k z;refine av W W W W<|TL.nil W
 repeat refine DC.seq ?_
 refine DC.cond W (λh=>?_) (λh=>?_)
 .have E:i<b.eqs.length:=by have:=agr h;omega
  clear h;have L:(b.eqs.map aJ.cells)[((i:Nat):Int).toNat]?=some b.eqs[i].cells:=by simp[E]
  obtain⟨P,O,C⟩:=u i E;have k:gf en (b.eqs.take (i+1)) t=iB en b.eqs[i] (gf en (b.eqs.take i) t):=by rw[agp E,z',gf.eq_def];simp only;rw[gf.eq_def]
  generalize gf en (b.eqs.take i) t=r at w P O C k;generalize b.eqs[i]=q at L O C k;obtain⟨_,K5,S,⟨rfl,rfl⟩,z,N⟩:=Wk.call (a:=gS it e iv g p ⟨r.s,r.m,[]⟩) (r:=[_]) (w.pick [1,2,3,4,0]) (O iv g);have U:iB en q r=(iB en q ⟨r.s,r.m,[]⟩).pre r.q:=by rw[<-Hu,R.pre_nil]
  rw[U]at k C;generalize iB en q ⟨r.s,r.m,[]⟩=Y at z N k C;rw[P,q.aj,q.ex.aj]at N;rw[q.aj,q.ex.aj]at L;have z:=z.pick [4,0,1,2,3];refine DC.skip ?_
  repeat refine DC.seq ?_
  refine DC.block ?_
  repeat refine DC.seq ?_
  apply KZ
  .intro s0 Oo;refine aN W W W (ago i) L W<|aK W W W<|aM W W<|aC W W W W W W<|TL.nil W
  repeat refine DC.seq ?_
  apply KZ
  .intro s0 Oo;refine ai W W<|ai W W<|dP W W d W W<|aW W W W W W<|aD N W W<|cX z W W W W W W (dt _) (by simp only[R.pre,agq]at C;simp only[cv,agt];omega)<|ah W W<|TL.nil W
  have Q:=z.app (cv Y.q);rw[<-fw]at Q
  repeat refine DC.seq ?_
  apply KZ
  .intro s0 Oo;refine aI W W W (by omega)<|ai W W<|TL.nil W
  exact bH (k':=b.eqs.length-(i+1)) (by omega) ⟨i+1,_,_,_,rfl,d,by rw[k];exact Q,by omega,rfl⟩ W W
 refine DC.exit ?_;obtain rfl:i=b.eqs.length:=by have:=agv h;omega
 rw[agz]at w;generalize gf en b.eqs t=r4 at w⊢
 repeat refine DC.seq ?_
 apply KZ
 .intro k z;refine ai W W<|ah W W<|TL.nil W
 refine DC.bg 8 W (w.view (dt _))<|DC.ret ⟨_,W,_,⟨W,W⟩,((w.pick [0,3,4,1,2]).drop.drop).drop⟩
def Bk(it a iv b:Nat)(p:Pg)(s:Sc)(m:MS)(q:aJ)(d:q.kd=3)(z:R)
  (e:Dt prog 260 [.ref a 0,l9 iv b s.ck,.d (.agg q.cells)] (gS it a iv b p ⟨s,m,[]⟩) λx l=>x=.d (.sl (cv z.q))/\l=gS it a iv b p z):
  Dt prog 215 [.ref a 0,l9 iv b s.ck,.d (.agg q.cells)] (gS it a iv b p ⟨s,m,[]⟩) λx l=>x=.d (.sl (cv z.q))/\l=gS it a iv b p z:=by
 intro H F f;obtain⟨_,g,h,⟨rfl,rfl⟩,w,c⟩:=Wk.call (r:=[]) (Wk.start f) e;rw[q.aj,q.ex.aj,d]at c⊢;refine Lj func215 W ntmps215 W ?_
 repeat refine DC.seq ?_
 apply KZ
 .intro i j;refine dB W W W W<|bp W W<|ah W W<|TL.nil W
 repeat refine DC.seq ?_
 apply KZ
 .intro i j;refine ay W W<|ax W W W<|TL.nil W
 repeat refine DC.seq ?_
 refine DC.block ?_
 repeat refine DC.seq ?_
 apply KZ
 .intro i j;refine av W W W (r:=.bool false) W<|ah W W<|TL.nil W
 repeat refine DC.seq ?_
 refine Lc W ?_
 repeat refine DC.seq ?_
 apply KZ
 .intro i j;refine av W W W (r:=.bool false) W<|ah W W<|TL.nil W
 repeat refine DC.seq ?_
 refine Lc W ?_
 repeat refine DC.seq ?_
 apply KZ
 .intro i j;refine av W W W (r:=.bool false) W<|ah W W<|TL.nil W
 repeat refine DC.seq ?_
 refine Lc W<|DC.skip ?_
 repeat refine DC.seq ?_
 apply KZ
 .intro i j;refine ai W W<|dP W W W W W<|aK W W W<|aD c W W<|ah W W<|TL.nil W
 exact DC.ret ⟨_,W,_,⟨W,W⟩,w⟩
def FU(l:List Nd):∀r∈l.map Nd.cells,r.length=7:=by intro r a;obtain⟨_,_,rfl⟩:=agC.1 a;rfl
def zg(it:Nat)(p:Pg)(q:p.nodes.length<=1000000)
  (k:∀d∈p.nodes,Dt prog 110 [.d (.agg p.cells),.d (.agg d.cells)] [.ob it bK] λx l=>x=.d (.agg (nF p.aG d).cells)/\l=[.ob it bK]):
  Dt prog 56 [.d (.agg p.cells)] [.ob it bK] λx l=>x=.d (.agg (tB p).cells)/\l=[.ob it bK]:=by
 intro H F n;have w:=(Wk.start n).nil 7;have o:(p.nodes.map Nd.cells).length=p.nodes.length:=by simp
 refine Lj func56 W ntmps56 W ?_
 repeat refine DC.seq ?_
 apply KZ
 .intro b f;refine bp W W<|aM W W<|TL.nil W
 repeat refine DC.seq ?_
 apply KZ
 .intro b f;refine ay W W<|ax W W W<|bX W W W W W<|aM W W<|aC W W W W W W<|TL.nil W
 repeat refine DC.seq ?_
 apply KZ
 .intro b f;refine ay W W<|ax W W W ?_
  (refine aT W W W ?_;rw[o])
  refine ai W W<|TL.nil W
 repeat refine DC.seq ?_
 refine DC.block<|DC.loop (λm f=>∃(i:Nat) (c:M) (b:List (Nat×List M)) (e:Hp),f=⟨[(12,.m (.d (.int .i64 ((i:Nat):Int)))),(11,.m (.d (.int .i64 ((p.nodes.length:Nat):Int)))),(10,.m (.d (.sl (p.nodes.map Nd.cells)))),(3,.loc 3 0),(2,.loc 2 0),(1,.m (.d (.ca [.sl (p.aG.map En.cells),.sl (p.nodes.map Nd.cells)] 0)))],b,e⟩/\
   Go.Mt.get b 3=some [.d (.sl (p.aG.map En.cells)),c]/\Go.Mt.get b 2=some [.d (.sl []),.d (.sl [])]/\
   Wk F H [.acc 7 (((p.nodes.take i).map (nF p.aG)).map Nd.cells) c,.ob it bK] e/\i<=p.nodes.length/\m=p.nodes.length-i) p.nodes.length _
  ⟨0,.d (.sl []),_,_,rfl,rfl,rfl,w,by omega,rfl⟩ W ?_
 rintro m u ⟨i,v,y,z,rfl,c,h,w,A,rfl⟩
 repeat refine DC.seq ?_
 apply KZ
 .intro b f;refine av W W W W<|TL.nil W
 repeat refine DC.seq ?_
 refine DC.cond W (λe=>?_) (λe=>?_)
 .have f:i<p.nodes.length:=by have:=agr e;omega
  have g:(p.nodes.map Nd.cells)[((i:Nat):Int).toNat]?=some p.nodes[i].cells:=by simp[f]
  have j:((p.nodes.take (i+1)).map (nF p.aG)).map Nd.cells=((p.nodes.take i).map (nF p.aG)).map Nd.cells++[(nF p.aG p.nodes[i]).cells]:=by rw[rJ _ _ _ _ _ f,agI];rfl
  obtain⟨_,B,C,⟨rfl,rfl⟩,w,b⟩:=Wk.call (a:=[_]) (r:=[_]) (w.pick [1,0]) (k _ (agx f));have w:=w.pick [1,0];generalize p.nodes[i]=d at g j b;unfold Nd.cells at g;rw[show(d.cells:List D)=Nd.cells d from rfl]at b;unfold Nd.cells at b;refine DC.skip ?_
  repeat refine DC.seq ?_
  refine DC.block ?_
  repeat refine DC.seq ?_
  apply KZ
  .intro s t;refine aN W W W (ago i) g W<|aK W W W<|aM W W<|aC W W W W W W<|TL.nil W
  repeat refine DC.seq ?_
  apply Le mixed
  .intro s t;refine aX W W<|bC W W c W<|cx W W W<|bG W W W W W<|bt b W W<|bm W W W W W W W W<|fa w W W W W W W W (by simp only[agt,agM];omega)<|aX W W<|bS W W c (bQ _ _ _) W W<|TF.nil ⟨by kernel_rfl,rfl⟩
  have w:=w.app [(nF p.aG d).cells]
  repeat refine DC.seq ?_
  apply KZ
  .intro s t;refine aI W W W (by omega)<|ai W W<|TL.nil W
  exact bH (k':=p.nodes.length-(i+1)) (by omega) ⟨i+1,_,_,_,rfl,rfl,h,by rw[j];exact w,by omega,rfl⟩ W W
 .refine DC.exit ?_;obtain rfl:i=p.nodes.length:=by have:=agv e;omega
  rw[agz]at w;refine DC.cZ (Ls:=[.d (.sl (p.aG.map En.cells)),.d (.sl ((p.nodes.map (nF p.aG)).map Nd.cells))]) 3 c (cq (lQ (w.view (FU _)) (po _))) ?_
  repeat refine DC.seq ?_
  apply KZ
  .intro b f;refine aW W W W W W<|aC W W h W W W<|TL.nil W
  exact DC.ret ⟨_,W,_,⟨W,W⟩,w.drop⟩
end Go.Proofs.Pz
namespace Go.Ps
open Go.Mt Go.Sm
def bN.Hv{r:R}(h:dZ r.s)(v:Va):bN r (e8 r v) 1:=
 let a:=bN.last (r:=⟨{r.s with vars:=r.s.vars.set v.name ⟨v.name,0,v.tk,v.tn⟩},r.m,r.q⟩) ⟨h.v.set _ (ahy _),h.l,h.n⟩ v v.name
 ⟨a.ck,a.sc,a.n,a.vs,a.q⟩
def bN.pN:∀(l:List Va) {r:R},dZ r.s->bN r (l.foldl e8 r) l.length
 |[],r,h=>.refl h
 |v::l,r,h=>by
  have a:=bN.Hv h v;have:=a.trans (bN.pN l a.sc);rw[aio]at this;exact this
abbrev mE:R:=⟨⟨λ_=>none,λ_=>none,[]⟩,⟨0,[]⟩,[]⟩
def wK:dZ mE.s:=⟨(λx b h=>nomatch h),(λx b h=>nomatch h),by simp⟩
end Go.Ps
namespace Go.Proofs.Pz
open Go.Mt Go.Sm Go.Ps Go.Proofs
open Tryz
def Bl(a b:List Va)(h:a.length+b.length<=1000000):PT prog 61 [.sl [[.sl (aB a)],[.sl (aB b)]]] (·=[.sl (aB (a++b))]):=by
 have c:=n5 [aB a,aB b] (by
  intro l d r e;simp only[agu,agE,ag0]at d;rcases d with rfl|rfl<;>exact bR _ r e) (by simp) (by simp[aB];omega)
 have f:[aB a,aB b].flatten=aB (a++b):=by simp[aB]
 rw[f]at c;exact c
abbrev vU(v:Va):Va:=⟨v.name,v.tk,v.tn,v.clock,false,cg,v.ps⟩
def Ca(v:Va):(vU v).cells=[.str v.name,.int .u8 v.tk,.str v.tn,.sl (bW v.clock),.bool false,.int .u8 0,.int .u8 0,.int .i32 0,.str ⟨#[]⟩,.sl [],.sl [],.int .i64 0,.int .i64 0,.int .i64 v.ps.1,.int .i64 v.ps.2]:=by rw[Va.aj];rfl
def DG(it:Nat)(p:Pg)(d:Nd)(S:d.ins.length+d.outs.length<=1000)(E:∀v∈d.ins++d.outs,v.clock.length<=1000)
  (u:∀b,ve it b p p.aG true d.b ((d.ins++d.outs).foldl e8 mE).s ((d.ins++d.outs).foldl e8 mE).m) (o:(h_ p.aG true d.b ((d.ins++d.outs).foldl e8 mE).s ((d.ins++d.outs).foldl e8 mE).m).2.length<=100000000):
  Dt prog 110 [.d (.agg p.cells),.d (.agg d.cells)] [.ob it bK] λx l=>x=.d (.agg (nF p.aG d).cells)/\l=[.ob it bK]:=by
 intro H F T;have w:=Wk.start T;have U:d.cells=[.str d.name,.sl (aB d.ins),.sl (aB d.outs),.sl (aB d.b.vars),.sl (d.b.eqs.map aJ.cells),.int .i64 d.ps.1,.int .i64 d.ps.2]:=by unfold Nd.cells;rfl
 rw[U];have V:(nF p.aG d).cells=[.str d.name,.sl (aB d.ins),.sl (aB (d.outs.map vU)),.sl (aB (h_ p.aG true d.b ((d.ins++d.outs).foldl e8 mE).s ((d.ins++d.outs).foldl e8 mE).m).1.vars),.sl (cv (((d.ins++d.outs).foldl e8 mE).q++(h_ p.aG true d.b ((d.ins++d.outs).foldl e8 mE).s ((d.ins++d.outs).foldl e8 mE).m).2)),.int .i64 d.ps.1,.int .i64 d.ps.2]:=by
  unfold nF Nd.cells;rfl
 rw[V];refine Lj func110 W ntmps110 W ?_
 repeat refine DC.seq ?_
 apply KZ
 .intro k n;refine bp W W<|bp W W<|aM W W<|TL.nil W
 repeat refine DC.seq ?_
 apply KZ
 .intro k n;refine aK W W W<|bX W W W W W<|nP W W W<|ah W W<|TL.nil W
 have w:=w.new (.box [.d (.sl (p.aG.map En.cells)),.d (.sl (p.nodes.map Nd.cells)),.d (.sl []),.d (.int .i64 0)]);have h:(H++[Ob.box [.d (.sl (p.aG.map En.cells)),.d (.sl (p.nodes.map Nd.cells)),.d (.sl []),.d (.int .i64 0)]]).length=H.length+1:=by simp
 generalize ac:H++[Ob.box [.d (.sl (p.aG.map En.cells)),.d (.sl (p.nodes.map Nd.cells)),.d (.sl []),.d (.int .i64 0)]]=y at w h⊢;generalize H.length=b at w h⊢;have w:=(w.new (.map [])).new (.map []);have G:(y++[Ob.map []]).length=b+2:=by simp[h]
 rw[h,G]at w
 repeat refine DC.seq ?_
 apply KZ
 .intro k n;refine jn W<|jn W<|mJ (cs:=[.mp y.length,.mp (y++[Ob.map []]).length,.d (.sl [])]) W W W W<|aM W W<|aC W W W (fu _) W W<|TL.nil W
 rw[h,G];have X:(aB (d.ins++d.outs)).length=(d.ins++d.outs).length:=by simp[aB]
 repeat refine DC.seq ?_
 apply KZ
 .intro k n;refine ah W W<|TL.nil W
 repeat refine DC.seq ?_
 apply KZ
 .intro k n;refine ay W W<|ax W W W<|ay W W<|ax W W W<|aU W W W W W W W W<|aL (Bl d.ins d.outs (by omega)) W W ?_
  (refine aT W W W ?_;rw[X])
  refine ai W W<|TL.nil W
 have Y:(d.ins++d.outs).length<=1000:=by rw[agq];exact S
 generalize d.ins++d.outs=L at E u o Y⊢;have w:=LQ iH.nil (w.pick [1,0,2,3]);have w:=LQ iH.nil (w.pick [1,0,2,3]);have w:=(w.nil 15).pick [3,0,1,2,4];have w:Wk F H (gV b p mE.m:: [cP (b+2) mE.s.aY,cP (b+1) mE.s.vars,.ob it bK]) _:=gV.close w;have w:=(w.pick [3,0,2,1]).nil 16;have I:= λi=>bN.pN (L.take i) wK
 repeat refine DC.seq ?_
 refine DC.block<|DC.loop (λk g=>∃(i:Nat) (e:M) (c:List (Nat×List M)) (f:Hp),g=⟨[(26,.m (.d (.int .i64 ((i:Nat):Int)))),(25,.m (.d (.int .i64 ((L.length:Nat):Int)))),(24,.m (.d (.sl (aB L)))),(7,.m e),(6,.loc 6 0),(5,.m (.ref b 0)),(4,.loc 4 0),(3,.m (.d (.ca [.str d.name,.sl (aB d.ins),.sl (aB d.outs),.sl (aB d.b.vars),.sl (d.b.eqs.map aJ.cells),.int .i64 d.ps.1,.int .i64 d.ps.2] 0)))],c,f⟩/\
   Go.Mt.get c 6=some [.mp (b+1),.mp (b+2),.d (.sl [])]/\Go.Mt.get c 4=some [.d (.str ⟨#[]⟩),.d (.sl []),.d (.sl []),.d (.sl []),.d (.sl []),.d (.int .i64 0),.d (.int .i64 0)]/\
   Wk F H (.acc 16 (cv ((L.take i).foldl e8 mE).q) e::gS it b (b+1) (b+2) p ((L.take i).foldl e8 mE)) f/\i<=L.length/\k=L.length-i) L.length _
  ⟨0,.d (.sl []),_,_,rfl,rfl,rfl,w,by omega,rfl⟩ W ?_
 rintro P Z ⟨i,J,bx,H1,rfl,f,j,w,hi,rfl⟩
 repeat refine DC.seq ?_
 apply KZ
 .intro k n;refine av W W W W<|TL.nil W
 repeat refine DC.seq ?_
 refine DC.cond W (λg=>?_) (λg=>?_)
 .have z:i<L.length:=by have:=agr g;omega
  have A:=kN z;have c:=I i;have k:(L.take (i+1)).foldl e8 mE=e8 ((L.take i).foldl e8 mE) L[i]:=by rw[agp z,ag7];rfl
  have PG:=E _ (agx z);have Tl:(L.take i).length+1<=L.length:=by rw[agM];omega
  generalize (L.take i).foldl e8 mE=r at w c k;generalize L[i]=v at A k PG;have PO:=c.n;have Qc:=c.vs;have B:=c.q;have q:=c.ck;have C:=c.sc
  dsimp only[List.length_nil]at PO Qc B
  have w:=w.pick [3,0,1,2,4];obtain⟨es,K,w⟩:=cP.open w;have m:=LQ (K.set v.name ⟨v.name,0,v.tk,v.tn⟩) (w.set (.map (dH v.name (.d (.agg (nG ⟨v.name,0,v.tk,v.tn⟩))) es)));obtain⟨r',VP⟩:∃b:R,b=⟨{r.s with vars:=r.s.vars.set v.name ⟨v.name,0,v.tk,v.tn⟩},r.m,[]⟩:=⟨_,rfl⟩;have N:dZ (⟨r.s.vars.set v.name ⟨v.name,0,v.tk,v.tn⟩,r.s.aY,r.s.ck⟩:Sc):=⟨C.v.set _ (ahy _),C.l,C.n⟩;obtain⟨_,K5,l',⟨rfl,rfl⟩,n,e⟩:=Wk.call (a:=gS it b (b+1) (b+2) p ⟨⟨r.s.vars.set v.name ⟨v.name,0,v.tk,v.tn⟩,r.s.aY,r.s.ck⟩,r.m,[]⟩) (r:=[_]) (m.pick [2,3,0,4,1]) (B8 it b (b+1) (b+2) p ⟨r.s.vars.set v.name ⟨v.name,0,v.tk,v.tn⟩,r.s.aY,r.s.ck⟩ r.m v v.name N (by omega) (by omega) (by rw[q];simp only[List.length_nil];omega));have U6:e8 r v=(iz ⟨⟨r.s.vars.set v.name ⟨v.name,0,v.tk,v.tn⟩,r.s.aY,r.s.ck⟩,r.m,[]⟩ v v.name).pre r.q:=by
   rw[<-xX];unfold e8;simp[R.pre]
  rw[U6]at k;have XZ:(iz ⟨⟨r.s.vars.set v.name ⟨v.name,0,v.tk,v.tn⟩,r.s.aY,r.s.ck⟩,r.m,[]⟩ v v.name).q.length<=1:=by
   have:=(bN.last (r:=⟨⟨r.s.vars.set v.name ⟨v.name,0,v.tk,v.tn⟩,r.s.aY,r.s.ck⟩,r.m,[]⟩) N v v.name).q;simpa using this
  generalize iz ⟨⟨r.s.vars.set v.name ⟨v.name,0,v.tk,v.tn⟩,r.s.aY,r.s.ck⟩,r.m,[]⟩ v v.name=r5 at n e k XZ
  dsimp only at e
  rw[q,v.aj]at e;rw[v.aj]at A;have n:=n.pick [4,0,1,2,3];refine DC.skip ?_
  repeat refine DC.seq ?_
  refine DC.block ?_
  repeat refine DC.seq ?_
  apply KZ
  .intro s0 Oo;refine aN W W W (ago i) A W<|aK W W W<|aM W W<|aC W W W W W W<|TL.nil W
  repeat refine DC.seq ?_
  apply KZ
  .intro s0 Oo;refine aA W W<|aF W W f W<|aA W W<|aF W W W W<|aA W W<|aF W W W W<|aA W W<|aW W W W W W<|bX W W W W W<|fW W W W w.ob K.k<|TL.nil W
  repeat refine DC.seq ?_
  apply KZ
  .intro s0 Oo;refine ai W W<|ai W W<|dP W W f W W<|aW W W W W W<|aA W W<|aF W W W W<|aD e W W<|cX n W W W W W W (dt _) (by simp only[cv,agt];omega)<|ah W W<|TL.nil W
  have O:=n.app (cv r5.q);rw[<-fw]at O
  repeat refine DC.seq ?_
  apply KZ
  .intro s0 Oo;refine aI W W W (by omega)<|ai W W<|TL.nil W
  exact bH (k':=L.length-(i+1)) (by omega) ⟨i+1,_,_,_,rfl,f,j,by rw[k];exact O,by omega,rfl⟩ W W
 refine DC.exit ?_;obtain rfl:i=L.length:=by have:=agv g;omega
 have c:=I L.length;rw[agz]at w c;generalize L.foldl e8 mE=r at w c u o⊢;have B:=c.q;have q:=c.ck
 dsimp only[List.length_nil]at B
 have hO:(aB d.outs).length=d.outs.length:=by simp[aB]
 repeat refine DC.seq ?_
 apply KZ
 .intro k n;refine ay W W<|ax W W W<|ay W W<|ax W W W<|ay W W<|fA W W W<|bX W W W W W<|aM W W<|aC W W W W W W<|TL.nil W
 repeat refine DC.seq ?_
 apply KZ
 .intro k n;refine ay W W<|ax W W W ?_
  (refine aT W W W ?_;rw[hO])
  refine ai W W<|TL.nil W
 have w:=w.nil 15
 repeat refine DC.seq ?_
 refine DC.block<|DC.loop (λk g=>∃(i:Nat) (f:M) (c:List (Nat×List M)) (e:Hp),g=⟨[(58,.m (.d (.int .i64 ((i:Nat):Int)))),(57,.m (.d (.int .i64 ((d.outs.length:Nat):Int)))),(56,.m (.d (.sl (aB d.outs)))),(10,.loc 10 0),(7,.m J),(6,.loc 6 0),(5,.m (.ref b 0)),(4,.loc 4 0),(3,.m (.d (.ca [.str d.name,.sl (aB d.ins),.sl (aB d.outs),.sl (aB d.b.vars),.sl (d.b.eqs.map aJ.cells),.int .i64 d.ps.1,.int .i64 d.ps.2] 0)))],c,e⟩/\
   Go.Mt.get c 6=some [.mp (b+1),.mp (b+2),.d (.sl [])]/\Go.Mt.get c 4=some [.d (.str ⟨#[]⟩),.d (.sl []),.d (.sl []),.d (.sl []),.d (.sl []),.d (.int .i64 0),.d (.int .i64 0)]/\
   Go.Mt.get c 10=some [.d (.str d.name),.d (.sl (aB d.ins)),f,.d (.sl []),.d (.sl []),.d (.int .i64 d.ps.1),.d (.int .i64 d.ps.2)]/\
   Wk F H (.acc 15 (aB ((d.outs.take i).map vU)) f:: .acc 16 (cv r.q) J::gS it b (b+1) (b+2) p r) e/\i<=d.outs.length/\k=d.outs.length-i) d.outs.length _
  ⟨0,.d (.sl []),_,_,rfl,f,j,rfl,w,by omega,rfl⟩ W ?_
 rintro P Z ⟨i,mo,bx,H1,rfl,f,j,D,w,hi,rfl⟩
 repeat refine DC.seq ?_
 apply KZ
 .intro k n;refine av W W W W<|TL.nil W
 repeat refine DC.seq ?_
 refine DC.cond W (λg=>?_) (λg=>?_)
 .have z:i<d.outs.length:=by have:=agr g;omega
  have k:=kN z;have n:aB ((d.outs.take (i+1)).map vU)=aB ((d.outs.take i).map vU)++[(vU d.outs[i]).cells]:=by rw[rJ _ _ _ _ _ z];simp[aB]
  generalize d.outs[i]=v at k n;rw[Ca]at n;rw[v.aj]at k;refine DC.skip ?_
  repeat refine DC.seq ?_
  refine DC.block ?_
  repeat refine DC.seq ?_
  apply KZ
  .intro A C;refine aN W W W (ago i) k W<|aK W W W<|aM W W<|aC W W W W W W<|TL.nil W
  repeat refine DC.seq ?_
  apply KZ
  .intro A C;refine bX W W W W W<|aA W W<|aC W W W W W W<|aA W W<|aC W W W W W W<|TL.nil W
  repeat refine DC.seq ?_
  apply KZ
  .intro A C;refine aA W W<|aF W W D W<|aW W W W W W<|aU W W W W W W W W<|cX w W W W W W W (by exact cM W) (by simp only[aB,agt,agM,agB];omega)<|aA W W<|aC W W D (bQ _ _ _) W W<|TL.nil W
  have w:=w.app [[.str v.name,.int .u8 v.tk,.str v.tn,.sl (bW v.clock),.bool false,.int .u8 0,.int .u8 0,.int .i32 0,.str ⟨#[]⟩,.sl [],.sl [],.int .i64 0,.int .i64 0,.int .i64 v.ps.1,.int .i64 v.ps.2]]
  repeat refine DC.seq ?_
  apply KZ
  .intro A C;refine aI W W W (by omega)<|ai W W<|TL.nil W
  exact bH (k':=d.outs.length-(i+1)) (by omega) ⟨i+1,_,_,_,rfl,f,j,rfl,by rw[n];exact w,by omega,rfl⟩ W W
 refine DC.exit ?_;obtain rfl:i=d.outs.length:=by have:=agv g;omega
 rw[agz]at w;refine DC.cZ (Ls:=[.d (.str d.name),.d (.sl (aB d.ins)),.d (.sl (aB (d.outs.map vU))),.d (.sl []),.d (.sl []),.d (.int .i64 d.ps.1),.d (.int .i64 d.ps.2)]) 10 D (cq (cq (lQ (w.view (bR _)) (cq (cq (cq (cq (po _)))))))) ?_;have w:=w.drop;obtain⟨_,K5,l',⟨rfl,rfl⟩,w,e⟩:=Wk.call (a:=gS it b (b+1) (b+2) p ⟨r.s,r.m,[]⟩) (r:=[_]) (w.pick [1,2,3,4,0]) (u b (b+1) (b+2));rw[q,d.b.aj]at e;generalize h_ p.aG true d.b r.s r.m=Q at w e o⊢;obtain⟨m2,s⟩:=Q
 dsimp only at w e o⊢
 have w:=w.pick [2,1,0];have PN:(cv r.q).length+(cv s).length<=200000000:=by simp only[cv,agt];omega
 repeat refine DC.seq ?_
 apply KZ
 .intro k n;refine ai W W<|ai W W<|dP W W f W W<|ay W W<|fA W W W<|aD e W W<|cX w W W W W W W (dt _) (by omega)<|ah W W<|TL.nil W
 have m:=w.app (cv s);rw[<-fw]at m;obtain⟨mv,t⟩:=gV.open (m.pick [1,0,2]);refine DC.bg 7 W (m.view (dt _)) ?_;have Qh:=t.ob
 repeat refine DC.seq ?_
 apply KZ
 .intro k n;refine ai W W<|dG W W W<|eB W W<|eC W W Qh W<|ai W W<|mJ (cs:=[mv,.d (.sl (cv (r.q++s)))]) W W W (by simp only[jH];rw[(t.pick [1,0,2,3]).zS];rfl)<|aA W W<|aC W W W (fu _) W W<|TL.nil W
 refine DC.cZ (Ls:=[.d (.str d.name),.d (.sl (aB d.ins)),.d (.sl (aB (d.outs.map vU))),.d (.sl (aB m2.vars)),.d (.sl (cv (r.q++s))),.d (.int .i64 d.ps.1),.d (.int .i64 d.ps.2)]) 10 W (cq (cq (cq (lQ ((t.pick [1,0,2,3]).view (bR _)) (cq (cq (cq (po _)))))))) ?_
 repeat refine DC.seq ?_
 apply KZ
 .intro k n;refine aW W W W W W<|aC W W j W W W<|TL.nil W
 exact DC.ret ⟨_,W,_,⟨W,W⟩,((t.drop).drop).drop⟩
end Go.Proofs.Pz
namespace Go.Ps
open Go.Mt Go.Sm
variable{r:R}{s:Sc}{n:Nat}{x:Nm}
abbrev TE:=Nm->Option (Int×Nm)
variable{T:TE}
def TE.ty(T:TE)(x:Nm):Int×Nm:=match T x with|some t=>t|none=>(0,⟨#[]⟩)
def TE.add(T:TE)(v:Va):TE:= λy=>if y=v.name then some (v.tk,v.tn)else T y
def dI(s:Sc)(T:TE):Prop:=∀x,(s.vars x).map (λb=>(b.tk,b.tn))=T x
def kP(T:TE)(n:Nat):Prop:=∃l:List Nm,l.length<=n/\∀x,(T x).isSome->x∈l
def kP.add(h:kP T n)(v:Va):kP (T.add v) (n+1):=by
 obtain⟨l,c,b⟩:=h;refine⟨v.name::l,by simp;omega,λx a=>?_⟩;unfold TE.add at a;split at a
 .rename_i e;rw[e];simp
 .exact aht _ (b x a)
def kP.vV:∀(l:List Va) {T:TE} {n:Nat},kP T n->kP (l.foldl TE.add T) (n+l.length)
 |[],T,n,h=>h
 |v::l,T,n,h=>by
  have:=kP.vV l (h.add v);rw[agy,agA];have e:n+(l.length+1)=n+1+l.length:=by omega
  rw[e];exact this
def dI.ty(h:dI s T):s.vars.ty=T.ty:=by
 funext x
 have:=h x;unfold Env.ty TE.ty;rw[<-this];cases s.vars x<;>rfl
def dI.some(h:dI s T)(x:Nm):(s.vars x).isSome=(T x).isSome:=by
 rw[<-h x];cases s.vars x<;>rfl
def dI.Kq(h:dI s T)(a:kP T n):B9 s.vars n:=by
 obtain⟨l,b,c⟩:=a;exact⟨l,b,λx a=>c x (by rw[<-h.some];exact a)⟩
def dI.set(h:dI s T){b:Bd}(a:T x=Option.some (b.tk,b.tn)):dI {s with vars:=s.vars.set x b} T:=by
 intro y;show((Env.set s.vars x b) y).map _=_;unfold Env.set;by_cases e:y=x
 .rw[agK e,e,a];rfl
 .rw[agw e];exact h y
def dI.cO(h:dI r.s T)(x:Nm):dI (cO r x).s T:=by
 unfold Go.Ps.cO;split
 .exact h
 .rename_i b a;split
  .exact h
  .exact h.set (by rw[<-h x,a];rfl)
def dI.pz:∀(l:List Nm) {r:R},dI r.s T->dI (l.foldl Go.Ps.cO r).s T
 |[],r,h=>h
 |x::l,r,h=>by rw[agy];exact dI.pz l (h.cO x)
def dI.vars{a:Sc}(h:dI s T)(e:a.vars=s.vars):dI a T:=by intro x;rw[e];exact h x
def dI.fU(h:dI r.s T)(e:Xp):dI (cG r e).s T:=by
 unfold cG;exact(dI.pz _ h).vars (vP _ _)
def dI.val(h:dI r.s T)(e:Xp)(t:Int×Nm):dI (gG r e t).s T:=h.fU e
def dI.arg:∀(l:List Xp) {r:R} {xs:List Xp} {T:TE},dI r.s T->dI (l.foldl eZ (r,xs)).1.s T
 |[],r,xs,T,h=>h
 |e::l,r,xs,T,h=>by
  rw[agy];exact dI.arg l (r:=(eZ (r,xs) e).1) (xs:=(eZ (r,xs) e).2) (h.fU e)
def dI.ek(b:dI s T)(h:dI r.s T)(a:(T x).isSome):dI (ek s r x).s T:=by
 unfold Go.Ps.ek;refine h.set ?_;rw[b.ty];unfold TE.ty;cases e:T x with
 |none=>rw[e]at a;cases a
 |some t=>rfl
def dI.ov(a:dI s T):∀(l:List Nm) {r:R},(∀x∈l,(T x).isSome)->dI r.s T->dI (l.foldl (Go.Ps.ek s) r).s T
 |[],r,_,h=>h
 |x::l,r,b,h=>by rw[agy];exact dI.ov a l (λy a=>b y (by simp[a])) (a.ek h (b x (by simp)))
def DH(p:Int×Int)(r:R)(x:Nm):(fq p r x).s.vars=r.s.vars:=by unfold fq;rw[lj]
def qv(p:Int×Int):∀(l:List Nm) (r:R),(l.foldl (fq p) r).s.vars=r.s.vars
 |[],r=>rfl
 |x::l,r=>by rw[agy,qv p l,DH]
def dI.bind(a:Bool)(h:dI r.s T)(v:Va):dI (dj a r v).s (T.add v):=by
 intro y;show((Env.set r.s.vars v.name _) y).map _=_;unfold Env.set TE.add;by_cases e:y=v.name
 .rw[agK e,agK e];rfl
 .rw[agw e,agw e];exact h y
def dI.binds(a:Bool):∀(l:List Va) {r:R} {T:TE},dI r.s T->dI (l.foldl (dj a) r).s (l.foldl TE.add T)
 |[],r,T,h=>h
 |v::l,r,T,h=>by rw[agy,agy];exact dI.binds a l (h.bind a v)
def vW(r:R)(v:Va)(n:Nm):(iz r v n).s.vars=r.s.vars:=by unfold iz;split<;>rfl
def Cb(r:R)(v:Va):(dT r v).s.vars=r.s.vars:=by unfold dT;rw[vW]
def vX:∀(l:List Va) (r:R),(l.foldl dT r).s.vars=r.s.vars
 |[],r=>rfl
 |x::l,r=>by rw[agy,vX l,Cb]
def dI.open(b:Bool)(h:dI r.s T)(a:List Va):dI (iA b r a).s (a.foldl TE.add T):=
 (dI.pz _ (h.binds b a)).vars (vX _ _)
def bN.gN{a:R}{i j:Nat}(h:bN r a i)(b:i<=j):bN r a j:=⟨h.ck,h.sc,by have:=h.n;omega,by have:=h.vs;omega,by have:=h.q;omega⟩
def bN.ek(h:dZ r.s)(s:Sc)(x:Nm):bN r (ek s r x) 1:=
 ⟨rfl,⟨h.v.set x (ags _),h.l,h.n⟩,ags _,by simp[Go.Ps.ek,MS.fresh],ah8 _⟩
def bN.ov(s:Sc):∀(l:List Nm) {r:R},dZ r.s->bN r (l.foldl (Go.Ps.ek s) r) l.length
 |[],r,h=>.refl h
 |x::l,r,h=>by
  have a:=bN.ek h s x;have:=a.trans (bN.ov s l a.sc);rw[aio]at this;exact this
def bN.fq(h:dZ r.s)(p:Int×Int)(x:Nm):bN r (fq p r x) 2:=by
 have a:=bN.ff h x;exact⟨a.ck,a.sc,by have:=a.n;unfold Go.Ps.fq;dsimp only;omega,by have:=a.vs;unfold Go.Ps.fq;dsimp only;omega,by have:=a.q;unfold Go.Ps.fq;simp only[agq,agB];omega⟩
def bN.DI(p:Int×Int):∀(l:List Nm) {r:R},dZ r.s->bN r (l.foldl (Go.Ps.fq p) r) (l.length+l.length)
 |[],r,h=>.refl h
 |x::l,r,h=>by
  have a:=bN.fq h p x;have:=a.trans (bN.DI p l a.sc);rw[agy,agA];exact this.gN (by omega)
def bN.open(h:dZ r.s)(c:Bool)(a:List Va):bN r (iA c r a) (3*a.length+(a.flatMap l_).length):=by
 have b:=bN.binds c a h;have c:=bN.pz (a.flatMap l_) b.sc;exact((b.trans c).trans (bN.decls a c.sc)).gN (by omega)
abbrev eb(c:Nm)(all:List Nm)(n:Nm)(r:R):R:=all.foldl (ek r.s) ⟨⟨r.s.vars,r.s.aY,r.s.ck++[(n,c)]⟩,r.m,r.q⟩
abbrev eM(all:List Nm)(b:bT)(p:Int×Int)(i0:R):R:=(all.filter λx=> !(di (cE b) x)).foldl (fq p) i0
def dZ.more(h:dZ s)(o:Nm×Nm)(a:s.ck.length<1000000):dZ ⟨s.vars,s.aY,s.ck++[o]⟩:=
 ⟨λx b a=>by have:=h.v x b a;simp;omega,λx b a=>by have:=h.l x b a;simp;omega,by simp;omega⟩
def bN.jZ(h:dZ r.s)(d:r.s.ck.length<1000000)(c:Nm)(all:List Nm)(n:Nm)(b:bT)(p:Int×Int):
  bN ⟨⟨r.s.vars,r.s.aY,r.s.ck++[(n,c)]⟩,r.m,r.q⟩ (eM all b p (eb c all n r)) (3*all.length):=by
 have a:=bN.ov r.s all (r:=⟨⟨r.s.vars,r.s.aY,r.s.ck++[(n,c)]⟩,r.m,r.q⟩) (h.more _ d);have d:=aif (λx=> !(di (cE b) x)) all;exact(a.trans (bN.DI p (all.filter λx=> !(di (cE b) x)) a.sc)).gN (by omega)
mutual
def ib:bT->Nat
 |.mk a b=>4*a.length+(a.flatMap l_).length+gg b
def gg:List aJ->Nat
 |[]=>0
 |q::l=>mg q+gg l
def mg:aJ->Nat
 |.mk _ b _ c _ e a _=>2+2*cm e+2*bF c+b.length+c.length+(aZ b a).length+fL (aZ b a).length a
def fL(n:Nat):List aP->Nat
 |[]=>0
 |.mk _ b _ _ _::l=>1+3*n+ib b+fL n l
end
mutual
def iX:bT->Nat
 |.mk _ a=>eH a
def eH:List aJ->Nat
 |[]=>0
 |q::l=>max (nh q) (eH l)
def nh:aJ->Nat
 |.mk _ _ _ _ _ _ a _=>dJ a
def dJ:List aP->Nat
 |[]=>0
 |.mk _ b _ _ _::l=>max (1+iX b) (dJ l)
end
section
variable(en:List En)
mutual
def zh(T:TE):bT->Prop
 |.mk a b=>(∀v∈a,v.clock.length<=1000)/\a.length<=100000/\b.length<=1000000/\kW (a.foldl TE.add T) b
def kW(T:TE):List aJ->Prop
 |[]=>True
 |q::l=>Cc T q/\kW T l
def Cc(T:TE):aJ->Prop
 |.mk k b _ c _ e a _=>iW e/\(∀a∈c,iW a)/\(cm e<=400000/\bF c<=400000/\b.length<=400000/\c.length<=400000)/\(k=1\/k=2\/(k=5/\a≠[])\/(k=3/\ou en T.ty (λx=>(T x).isSome=true) e/\(∀x∈aZ b a,(T x).isSome=true)/\a.length<=1000/\(∀b∈a,yZ b.a_)/\b.length+jX a<=1000000/\b.Nodup))/\kn T a
def kn(T:TE):List aP->Prop
 |[]=>True
 |.mk _ b _ _ _::l=>zh T b/\kn T l
end
structure KQ(a:Bool)(b:bT)(s:Sc)(m:MS):Prop where
 n:(h_ en a b s m).1.n<=m.n+ib b
 vs:(h_ en a b s m).1.vars.length<=m.vars.length+ib b
 q:(h_ en a b s m).2.length<=ib b
mutual
def wL:∀(b:bT) (a:Bool) (s:Sc) (m:MS) (T:TE),dZ s->dI s T->zh en T b->s.ck.length+iX b<=100000->KQ en a b s m
 |.mk a o,d,s,m,T,h,i,e,f=>by
  rw[zh]at e;rw[iX]at f;have c:=bN.open (r:=⟨s,m,[]⟩) h d a;obtain⟨j,_⟩:=xY o (iA d ⟨s,m,[]⟩ a) (a.foldl TE.add T) c.sc (dI.open (r:=⟨s,m,[]⟩) d i a) e.2.2.2 (by rw[c.ck];exact f);have g:=c.trans j;have k:=g.n;have l:=g.vs;have n:=g.q
  dsimp only[List.length_nil]at k l n
  constructor<;>rw[h_,ib]<;>dsimp only<;>omega
def xY:∀(l:List aJ) (r:R) (T:TE),dZ r.s->dI r.s T->kW en T l->r.s.ck.length+eH l<=100000->bN r (gf en l r) (gg l)/\dI (gf en l r).s T
 |[],r,T,a,b,c,d=>by rw[gf,gg];exact⟨.refl a,b⟩
 |q::l,r,T,c,d,a,e=>by
  rw[kW]at a;rw[eH]at e;rw[gf,gg];obtain⟨b,f⟩:=EK q r T c d a.1 (by omega);obtain⟨g,h⟩:=xY l (iB en q r) T b.sc f a.2 (by rw[b.ck];omega);exact⟨b.trans g,h⟩
def EK:∀(q:aJ) (r:R) (T:TE),dZ r.s->dI r.s T->Cc en T q->r.s.ck.length+nh q<=100000->bN r (iB en q r) (mg q)/\dI (iB en q r).s T
 |.mk k d z s y e a A,r,T,f,i,p,l=>by
  rw[Cc]at p;rw[nh]at l;rw[iB,mg];obtain⟨B,C,_,u,q⟩:=p;by_cases m:k=1
  .rw[agK m]
   dsimp only
   have g:=bN.fU f e;exact⟨⟨g.ck,g.sc,by have:=g.n;dsimp only;omega,by have:=g.vs;dsimp only;omega,by have:=g.q;simp only[agq,agB];omega⟩,i.fU e⟩
  rw[agw m];by_cases n:k=2
  .rw[agK n]
   dsimp only
   obtain⟨g,D⟩:=bN.args s (r:=r) [] f;have h:=dI.arg s (xs:=[]) i;cases y with
   |true=>
    simp only[ah3];have b:=g.trans (bN.fU g.sc e);exact⟨⟨b.ck,b.sc,by have:=b.n;dsimp only;omega,by have:=b.vs;dsimp only;omega,by have:=b.q;simp only[agq,agB];omega⟩,h.fU e⟩
   |false=>
    simp only[ahj,ahL];exact⟨⟨g.ck,g.sc,by have:=g.n;dsimp only;omega,by have:=g.vs;dsimp only;omega,by have:=g.q;simp only[agq,agB];omega⟩,h⟩
  rw[agw n];by_cases o:k=5
  .rw[agK o]
   dsimp only
   have g:=bN.val f e (1,⟨#[]⟩);have t:=i.val e (1,⟨#[]⟩);have b:=IR a (gG r e (1,⟨#[]⟩)).s (gG r e (1,⟨#[]⟩)).m T g.sc t q (by rw[g.ck];exact l) (aZ d a).length;exact⟨⟨g.ck,g.sc,by have:=g.n;have:=b.1;dsimp only;omega,by have:=g.vs;have:=b.2;dsimp only;omega,by have:=g.q;simp only[agq,agB];omega⟩,t⟩
  rw[agw o];obtain⟨_,_,v,_⟩:k=3/\ou en T.ty (λx=>(T x).isSome=true) e/\(∀x∈aZ d a,(T x).isSome=true)/\a.length<=1000/\(∀b∈a,yZ b.a_)/\d.length+jX a<=1000000/\d.Nodup:=by
   rcases u with h|h|⟨h,_⟩|h
   .exact absurd h m
   .exact absurd h n
   .exact absurd h o
   .exact h
  dsimp only
  have g:=bN.val f e (dD en r.s.vars.ty e);have t:=i.val e (dD en r.s.vars.ty e);generalize gG r e (dD en r.s.vars.ty e)=j at g t⊢;obtain⟨w,x⟩:=qw a (nV j.m.n) (aZ d a) ⟨j.s,j.m,j.q⟩ [] T g.sc t v q (by dsimp only;rw[g.ck];exact l);have c:=g.trans w;refine⟨⟨c.ck,c.sc,by have:=c.n;dsimp only;omega,by have:=c.vs;dsimp only;omega,by have:=c.q;simp only[agq,agt,aij];omega⟩,?_⟩;rw[x];exact t
def IR:∀(l:List aP) (s:Sc) (m:MS) (T:TE),dZ s->dI s T->kn en T l->s.ck.length+dJ l<=100000->∀n,(y7 en l s m).1.n<=m.n+fL n l/\(y7 en l s m).1.vars.length<=m.vars.length+fL n l
 |[],s,m,T,a,c,d,e,n=>by rw[y7.eq_def,fL];exact⟨ags _,ags _⟩
 |.mk f b u w p::l,s,m,T,c,d,a,e,n=>by
  rw[kn]at a;rw[dJ]at e;have g:=wL b false s m T c d a.1 (by omega);rw[y7.eq_def,fL];have:=g.n;have:=g.vs
  dsimp only
  constructor<;>omega
def qw:∀(l:List aP) (c:Nm) (all:List Nm) (r:R) (a:List (List Nm)) (T:TE),dZ r.s->dI r.s T->(∀x∈all,(T x).isSome=true)->kn en T l->r.s.ck.length+dJ l<=100000->
  bN r (c7 en c all l r a).1 (fL all.length l)/\(c7 en c all l r a).1.s=r.s
 |[],c,all,r,d,T,a,e,f,g,h=>by rw[km,fL];exact⟨.refl a,W⟩
 |.mk n b z A p::l,c,all,r,o,T,j,f,k,g,q=>by
  rw[kn]at g;rw[dJ]at q;rw[jY,fL]
  dsimp only
  have a:=bN.jZ (r:=r) j (by omega) c all n b p;have h:dI (eM all b p (eb c all n r)).s T:=(dI.ov f all (r:=⟨⟨r.s.vars,r.s.aY,r.s.ck++[(n,c)]⟩,r.m,r.q⟩) k (f.vars W)).vars (qv _ _ _)
  dsimp only[eb,eM]at a h
  generalize (all.filter λx=> !(di (cE b) x)).foldl (fq p) (all.foldl (ek r.s) ⟨⟨r.s.vars,r.s.aY,r.s.ck++[(n,c)]⟩,r.m,r.q⟩)=d at a h⊢;have i:=wL b false d.s d.m T a.sc h g.1 (by rw[a.ck];simp only[agq,agB];omega);have s:=a.n;have t:=a.vs;have u:=a.q;have B:=i.n;have C:=i.vs;have D:=i.q
  dsimp only at s t u
  obtain⟨e,v⟩:=qw l c all ⟨r.s,(h_ en false b d.s d.m).1,d.q++(h_ en false b d.s d.m).2⟩ (o++[all.map (all.foldl (ek r.s) ⟨⟨r.s.vars,r.s.aY,r.s.ck++[(n,c)]⟩,r.m,r.q⟩).s.vars.nm]) T j f k g.2 (by dsimp only;omega);have w:=e.n;have y:=e.vs;have m:=e.q
  dsimp only at w y m
  rw[agq]at m;exact⟨⟨e.ck,e.sc,by omega,by omega,by omega⟩,v⟩
end
end
end Go.Ps
