/- A part of the proof of the last text of this claim, without conditions. -/
import Derived.Test.YtbafhpblecdbbaaGreatDoorG
set_option maxRecDepth 4000
set_option maxHeartbeats 4000000
set_option linter.all false
namespace Go.Ps
open Go.Mt Go.Sm
variable{es:List (D×M)}{F0:Nat->Prop}{H0 H:Hp}{u:NS}{r:List As}
structure ll(es:List (D×M))(f:Nm->Int×Nm):Prop where
 k:strKeys es=true
 l:∀x,(match ek x es with|some m=>m|none=>M.d (.agg [.int .u8 0,.str ⟨#[]⟩]))=.d (.agg (fL (f x)))
def ll.nil:ll [] (λ_=>(0,⟨#[]⟩)):=⟨rfl,λ_=>rfl⟩
def ll.set{f:Nm->Int×Nm}(h:ll es f)(x:Nm)(t:Int×Nm):ll (dK x (.d (.agg (fL t))) es) (λy=>if y=x then t else f y):=by
 have c:=cC.1 h.k;have d:strKeys (dK x (.d (.agg (fL t))) es)=true:=by
  rcases lz (k:=x) (v:=.d (.agg (fL t))) c with a|⟨a,l⟩
  .refine cC.2 λe b=>?_
   have:e.1∈es.map Prod.fst:=a▸aiN b;rw[aij]at this;obtain⟨g,i,j⟩:=this;rw[<-j];exact c g i
  .refine cC.2 λe g=>?_
   have:e.1∈es.map Prod.fst++[.str x]:=a▸aiN g;rw[ain,aiR]at this;rcases this with b|b
   .rw[aij]at b;obtain⟨i,b,j⟩:=b;rw[<-j];exact c i b
   .exact⟨x,b⟩
 refine⟨d,λy=>?_⟩;rw[pU x y _ h.k];by_cases a:y=x
 .rw[air a,air a]
 .rw[aid a,aid a];exact h.l y
structure Fc where
 en:List En
 nm:Nm
 ins:List Va
 outs:List Va
 im:Nat
 ic:Nat
variable{c:Fc}
abbrev Fc.cs(c:Fc)(mv me:M)(n:Nat):List M:=[.d (.sl (c.en.map En.cells)),.d (.str c.nm),.d (.sl (ax c.ins)),.d (.sl (ax c.outs)),mv,me,.mp c.ic,.d (.int .i64 ((n:Nat):Int))]
def jZ(c:Fc)(u:NS):As:=.ex λx:(M×M)×List (D×M)=>Sep [.ob c.im (.box (c.cs x.1.1 x.1.2 u.n)),.acc 15 (ax u.vars) x.1.1,.acc 22 (ff u.eqs) x.1.2,.ob c.ic (.map x.2),.fact (ll x.2 u.ty)]
def jZ.close{mv me:M}(h:ll es u.ty)(w:Wk F0 H0 (.ob c.im (.box (c.cs mv me u.n)):: .acc 15 (ax u.vars) mv:: .acc 22 (ff u.eqs) me:: .ob c.ic (.map es)::r) H):Wk F0 H0 (jZ c u::r) H:=by
 refine OH (φ:= λx:(M×M)×List (D×M)=>Sep [.ob c.im (.box (c.cs x.1.1 x.1.2 u.n)),.acc 15 (ax u.vars) x.1.1,.acc 22 (ff u.eqs) x.1.2,.ob c.ic (.map x.2),.fact (ll x.2 u.ty)]) ((mv,me),es) (Oa (a:=[_,_,_,_,_]) ?_);refine(Wk.Ar h w).perm<|(@aiW _ (As.fact (ll es u.ty)) [.ob c.im (.box (c.cs mv me u.n)),.acc 15 (ax u.vars) mv,.acc 22 (ff u.eqs) me,.ob c.ic (.map es)] r).symm
def jZ.open(w:Wk F0 H0 (jZ c u::r) H):∃mv me es,ll es u.ty/\Wk F0 H0 (.ob c.im (.box (c.cs mv me u.n)):: .acc 15 (ax u.vars) mv:: .acc 22 (ff u.eqs) me:: .ob c.ic (.map es)::r) H:=by
 obtain⟨⟨⟨mv,me⟩,es⟩,w⟩:=w.open;have w:=Wk.split (a:=[_,_,_,_,_]) w;have w:=w.perm (@aiW _ (As.fact (ll es u.ty)) [.ob c.im (.box (c.cs mv me u.n)),.acc 15 (ax u.vars) mv,.acc 22 (ff u.eqs) me,.ob c.ic (.map es)] r);exact⟨mv,me,es,w.Cu,w.drop⟩
end Go.Ps
namespace Go.Proofs.Pz
open Go.Mt Go.Sm Go.Ps Go.Proofs
open Tryz
def EJ(l:List (Nm×Nm))(a:l.length<=1000000):PT prog 175 [.sl (bA l)] (·=[.sl (bA l)]):=
 PT.ro (ds:=[_]) ((pP l (by omega)).pb (jp l))
def lO(c:Fc)(u:NS)(q:Fq)(i:u.eqs.length<=100000000):
  Dt prog 122 [.ref c.im 0,.d (.agg q.cells)] [jZ c u] λr l=>l=[jZ c (u.put q)]:=by
 intro H F d;have w:=Wk.start d;obtain⟨e,f,j,g,w⟩:=jZ.open w;have h:ff (u.eqs++[q])=ff u.eqs++[kP q.kd q.lhs q.f (xC q.first) (xC q.e) (q.args.map Xp.cells) q.ck q.rs]:=by
  simp only[ff,aio,aiq,aiL];rw[Fq.ah,q.first.ah,q.e.ah]
 have b:=w.pick [2,0,1,3];have a:=b.app [kP q.kd q.lhs q.f (xC q.first) (xC q.e) (q.args.map Xp.cells) q.ck q.rs];rw[q.ah,q.first.ah,q.e.ah];refine MG func122 W ntmps122 W ?_;refine Mx ?_;refine Mo ?_;apply Mz mixed
 .intro k m;refine TF.go ?_;refine dj W W w.ob W<|TF.go ?_;refine eV b W W W W W W W (by simp only[ff,ah8];omega)<|TF.go ?_;refine fC W W ((a.pick [1,0,2,3]).ob) (aN _ _ _) W W<|TF.au
 rw[<-h]at a;exact⟨_,W,_,W,jZ.close (u:=u.put q) g ((a.pick [1,2,0,3]).set (.box (c.cs e (cJ f H [kP q.kd q.lhs q.f (xC q.first) (xC q.e) (q.args.map Xp.cells) q.ck q.rs]) u.n)))⟩
def oA(it:Nat)(c:Fc)(u:NS)(t:Int×Nm)(a:List (Nm×Nm))(C:u.n<1000000000)(E:u.vars.length<=100000000)(v:a.length<=1000000):
  Dt prog 171 [.ref c.im 0,.d (.agg (fL t)),.d (.sl (bA a))] [.ob it bg,jZ c u] λr l=>r=.d (.str (nX (u.n+1)))/\l=[.ob it bg,jZ c (u.new t a)]:=by
 intro H F x;have w:=Wk.start x;obtain⟨b,d,y,m,w⟩:=jZ.open (w.pick [1,0]);have e:=w.ob;have n:((u.n:Nat):Int)+1=((u.n+1:Nat):Int):=by omega
 have i:u.n+1<=1000000000:=by omega
 unfold NS.new;generalize G:u.n+1=k at n i⊢;refine MG func171 W ntmps171 W ?_;refine Mx ?_;refine Mo ?_;apply Mn
 .intro I J;refine aq W W<|iX W W W<|dh W W<|bK W W e W ?_
  (refine bc W W W (by omega) ?_;rw[n])
  refine TL.au
 have w:=w.set (.box (c.cs b d k));generalize H.set c.im (.box (c.cs b d k))=f at w⊢;have e:=w.ob;have K:=qO i ((w.pick [4,0,1,2,3]).ob);refine Mo ?_;apply Mz mixed
 .intro I J;refine TF.go ?_;refine th W W W W (aiz (hU k i) (by omega:21<=4000000000))<|TF.go ?_;refine bm (EJ a v) W W<|TF.au
 have o:=w.pick [1,0,2,3,4];obtain⟨row,j⟩:∃row:List D,row=[.str (nX k),.int .u8 t.1,.str t.2,.sl (bA a),.bool false,.int .u8 0,.int .u8 0,.int .i32 0,.str ⟨#[]⟩,.sl [],.sl [],.int .i64 0,.int .i64 0,.int .i64 0,.int .i64 0]:=⟨_,rfl⟩;have p:ax (u.vars++[⟨nX k,t.1,t.2,a,false,bR,(0,0)⟩])=ax u.vars++[row]:=by
  rw[j];simp only[ax,aio,aiq,aiL];rw[Va.ah];rfl
 have g:=o.app [row];have q:=(g.pick [1,0,2,3,4]).ob;rw[j]at g q;refine Mo ?_;apply Mz mixed
 .intro I J;refine bG W W<|bG W W<|dJ W W W<|bW W W<|bW W W<|dj W W e W<|cY W W W W W<|cr W W W W W W W W<|eV o W W W W W W W (by simp only[ax,ah8];omega)<|dJ W W W<|bW W W<|bW W W<|fC W W q (aN _ _ _) W W<|TF.nil ⟨by kernel_rfl,rfl⟩
 rw[j]at p;rw[<-p]at g;have h:=(g.pick [1,0,2,3,4]).set (.box (c.cs (cJ b f [[.str (nX k),.int .u8 t.1,.str t.2,.sl (bA a),.bool false,.int .u8 0,.int .u8 0,.int .i32 0,.str ⟨#[]⟩,.sl [],.sl [],.int .i64 0,.int .i64 0,.int .i64 0,.int .i64 0]]) d k));obtain⟨L,z⟩:∃d,d=cJ b f [[.str (nX k),.int .u8 t.1,.str t.2,.sl (bA a),.bool false,.int .u8 0,.int .u8 0,.int .i32 0,.str ⟨#[]⟩,.sl [],.sl [],.int .i64 0,.int .i64 0,.int .i64 0,.int .i64 0]]:=⟨_,rfl⟩;obtain⟨A,s⟩:∃e,e=(ef 15 b f [[.str (nX k),.int .u8 t.1,.str t.2,.sl (bA a),.bool false,.int .u8 0,.int .u8 0,.int .i32 0,.str ⟨#[]⟩,.sl [],.sl [],.int .i64 0,.int .i64 0,.int .i64 0,.int .i64 0]]).set c.im (.box (c.cs (cJ b f [[.str (nX k),.int .u8 t.1,.str t.2,.sl (bA a),.bool false,.int .u8 0,.int .u8 0,.int .i32 0,.str ⟨#[]⟩,.sl [],.sl [],.int .i64 0,.int .i64 0,.int .i64 0,.int .i64 0]]) d k)):=⟨_,rfl⟩;rw[<-s,<-z]at h;have e:=h.ob;have B:Wk F H (jZ c ⟨k,u.vars++[⟨nX k,t.1,t.2,a,false,bR,(0,0)⟩],u.eqs,λy=>if y=nX k then t else u.ty y⟩:: [.ob it bg]) _:=jZ.close (m.set (nX k) t) (((h.pick [3,0,1,2,4]).set (.map (dK (nX k) (.d (.agg (fL t))) y))).pick [1,2,3,0,4]);refine Nq [(7,.loc 7 0),(4,.m (.d (.bM (fL t) 0))),(0,.m (.ref c.im 0))] _ A W (λ_=>rfl) s.symm ?_;refine Mo ?_;apply Mz mixed
 .intro I J;refine TF.go ?_;refine mQ W W W ((h.pick [3,0,1,2,4]).ob) m.k<|TF.au
 refine Mx ?_;exact DC.ret ⟨_,W,_,⟨W,W⟩,B.pick [1,0]⟩
end Go.Proofs.Pz
namespace Go.Ps
open Go.Mt Go.Sm
variable{en:List En}{f:Nm->Int×Nm}{op n k:Int}{x:Nm}{names:List Nm}{p:Int×Int}{kids:List Xp}
mutual
def B2(en:List En):Xp->Prop
 |.mk k op _ x _ kids _=>(1<=k/\k<=13/\k≠5/\(k=3->kids=[])/\(k=6\/k=7->1<=op/\op<=16)/\(k=8->2<=kids.length))/\uD en kids
def uD(en:List En):List Xp->Prop
 |[]=>True
 |e::l=>B2 en e/\uD en l
end
def uD.mem:∀{l:List Xp},uD en l->∀e∈l,B2 en e
 |b::l,h,e,a=>by
  rw[uD]at h;rcases aib.1 a with rfl|a
  .exact h.1
  .exact uD.mem h.2 e a
def EK(h:en.find? (λt=>cW t.fu x)=none):h_ en f (.mk 3 op n x names kids p)=(0,⟨#[]⟩):=by rw[h_.eq_def];simp only;rw[h];rfl
def EL{t:En}(h:en.find? (λt=>cW t.fu x)=some t):h_ en f (.mk 3 op n x names kids p)=(3,t.name):=by rw[h_.eq_def];simp only[ow];rw[h];rfl
def IR:h_ en f (.mk 1 op n x names kids p)=(2,⟨#[]⟩):=by rw[h_.eq_def];rfl
def Hg:h_ en f (.mk 2 op n x names kids p)=(1,⟨#[]⟩):=by rw[h_.eq_def];rfl
def IS:h_ en f (.mk 4 op n x names kids p)=f x:=by rw[h_.eq_def];rfl
def FN(h:k=6\/k=7):h_ en f (.mk k op n x names kids p)=(qM op,⟨#[]⟩):=by
 rw[h_.eq_def];simp only;rw[aid (by omega),aid (by omega),aid (by omega),aid (by omega),air h]
def IT(h:9<=k):h_ en f (.mk k op n x names [] p)=(0,⟨#[]⟩):=by
 rw[h_.eq_def];simp only;rw[aid (by omega),aid (by omega),aid (by omega),aid (by omega),aid (by omega)]
def Hh{a:Xp}{r:List Xp}(h:9<=k):h_ en f (.mk k op n x names (a::r) p)=h_ en f a:=by
 rw[h_.eq_def];simp only;rw[aid (by omega),aid (by omega),aid (by omega),aid (by omega),aid (by omega),aid (by omega)]
end Go.Ps
namespace Go.Proofs.Pz
open Go.Mt Go.Sm Go.Ps Go.Proofs
open Tryz
variable{es:List (D×M)}{f:Nm->Int×Nm}{en:List En}
section
variable{X:cQ}{ops:Array Oper}{rest:List Oper}{post:St->Prop}{sl:List (Nat×V)}{bx:List (Nat×List M)}{H:Hp}{d ty:Nat}{pos:String}{af:Array Edge}
def IU{T e:Nat}{x y:Operand}{i:Nat}{a:Nm}[ht:ie X.P T e][l:fk X.P e (.agg [.int .u8 0,.str ⟨#[]⟩])](b:ll es f)(c:H[i]?=some (.map es))(g:Nat.blt d X.n=true)(h:aS sl x=some (.m (.mp i)))(j:aS sl y=some (.m (.d (.str a))))
  (k:TL X ops rest ⟨(d,.m (.d (.agg (fL (f a)))))::sl,bx,H⟩ post):TL X ops (⟨some d,.lookup T x y false,ty,pos,af,none⟩::rest) ⟨sl,bx,H⟩ post:=
 lB g h j c b.k (by rw[<-b.l]at k;exact k)
end
def AR(m:k8 en){H:Hp}{c:Nat}(n:ll es f)(o:H[c]?=some (.map es))(e:Xp)(d:B2 en e):
  CT prog 72 [.d (.sl (en.map En.cells)),.mp c,.d (.agg e.cells)] H λr K=>r=.d (.agg (fL (h_ en f e)))/\K=H:=by
 have a:∀k∈e.kids,CT prog 72 [.d (.sl (en.map En.cells)),.mp c,.d (.agg k.cells)] H λr K=>r=.d (.agg (fL (h_ en f k)))/\K=H:=
  λk g=>
   have:=Od g
   AR m n o k (by cases e;rw[B2]at d;exact d.2.mem k g)
 obtain⟨k,i,t,x,A,g,u⟩:=e;rw[B2]at d;obtain⟨⟨B,C,E,v,s,w⟩,_⟩:=d;replace a:∀k∈g,CT prog 72 [.d (.sl (en.map En.cells)),.mp c,.d (.agg k.cells)] H λr K=>r=.d (.agg (fL (h_ en f k)))/\K=H:=a
 rw[Xp.ah];simp only[Xp.kd,Xp.op,Xp.num,Xp.nm,Xp.names,Xp.kids,Xp.ps];refine My func72 W ntmps72 W λF G=>?_
 have y:k=1\/k=2\/k=3\/k=4\/k=6\/k=7\/k=8\/k=9\/k=10\/k=11\/k=12\/k=13:=by omega
 rcases y with rfl|rfl|rfl|rfl|rfl|rfl|rfl|rfl|rfl|rfl|rfl|rfl
 .rw[IR]
  repeat refine MD ?_
  refine Ms ?_;refine TC.block ?_;refine MD ?_;refine Ms ?_;refine MZ W ?_;refine Ms ?_;refine TC.region<|TL.go ?_;refine TL.nil<|TC.ret ⟨_,W,W,W⟩
 .rw[Hg]
  repeat refine MD ?_
  refine Ms ?_;refine TC.block ?_;refine MD ?_;refine Ms ?_;refine MJ W ?_;refine MD ?_;refine Ms ?_;refine MZ W ?_;refine Ms ?_;refine TC.region<|TL.go ?_;refine TL.nil<|TC.ret ⟨_,W,W,W⟩
 .obtain rfl:g=[]:=v W;have p:=um m x;rcases rJ en (λt=>cW t.fu x)with⟨h,j⟩|⟨l,z,h,j⟩
  .rw[EK j];rw[h]at p
   repeat refine MD ?_
   refine Ms ?_;refine TC.block ?_;refine MD ?_;refine Ms ?_;refine MJ W ?_;refine MD ?_;refine Ms ?_;refine MJ W ?_;refine MD ?_;refine Ms ?_;refine MZ W ?_
   repeat refine MD ?_
   refine Ms ?_;refine MJ W<|TC.skip ?_;refine MD ?_;refine Ms ?_;refine MJ W<|TC.skip ?_;refine Ms ?_;refine TC.region<|TL.go ?_;refine TL.nil<|TC.ret ⟨_,W,W,W⟩
  .rw[EL j];rw[h]at p;have q:=yB z;generalize en[l]=I at q;unfold En.cells at q
   repeat refine MD ?_
   refine Ms ?_;refine TC.block ?_;refine MD ?_;refine Ms ?_;refine MJ W ?_;refine MD ?_;refine Ms ?_;refine MJ W ?_;refine MD ?_;refine Ms ?_;refine MZ W ?_;refine MD ?_;refine Ms ?_;refine TC.region<|aq W W ?_
   (refine ay W W W (r:=.bool true) (by show some (D.bool (decide ((0:Int)<=lh (some l))))=_;rw[aiS (by simp only[lh];omega)]) ?_)
   refine TL.nil ?_;refine Ms ?_;refine MZ W ?_;refine Ms ?_;refine TC.region<|TL.go ?_;refine TL.nil<|TC.ret ⟨_,W,W,W⟩
 .repeat refine MD ?_
  refine Ms ?_;refine TC.block ?_;refine MD ?_;refine Ms ?_;refine MJ W ?_;refine MD ?_;refine Ms ?_;refine MJ W ?_;refine MD ?_;refine Ms ?_;refine MJ W ?_;refine MD ?_;refine Ms ?_;refine MZ W ?_;refine Ms ?_;refine TC.region<|TL.go ?_;refine IU n o W W W<|MX ?_;rw[IS];exact TC.ret ⟨_,W,W,W⟩
 .have h:=oK i (s (by omega))
  repeat refine MD ?_
  refine Ms ?_;refine TC.block ?_;refine MD ?_;refine Ms ?_;refine MJ W ?_;refine MD ?_;refine Ms ?_;refine MJ W ?_;refine MD ?_;refine Ms ?_;refine MJ W ?_;refine MD ?_;refine Ms ?_;refine MJ W ?_;refine MD ?_;refine Ms ?_;refine MZ W<|TC.skip ?_;refine Ms ?_;refine MZ W ?_;refine Ms ?_;refine TC.region<|TL.go ?_
  (refine tQ h W W ?_;rintro _ rfl)
  refine MX ?_;refine MD ?_;rw[FN (by omega)];exact TC.ret ⟨_,W,W,W⟩
 .have h:=oK i (s (by omega))
  repeat refine MD ?_
  refine Ms ?_;refine TC.block ?_;refine MD ?_;refine Ms ?_;refine MJ W ?_;refine MD ?_;refine Ms ?_;refine MJ W ?_;refine MD ?_;refine Ms ?_;refine MJ W ?_;refine MD ?_;refine Ms ?_;refine MJ W ?_;refine MD ?_;refine Ms ?_;refine MJ W ?_;refine MD ?_;refine Ms ?_;refine MZ W ?_;refine Ms ?_;refine TC.region<|TL.go ?_
  (refine tQ h W W ?_;rintro _ rfl)
  refine MX ?_;refine MD ?_;rw[FN (by omega)];exact TC.ret ⟨_,W,W,W⟩
 .match g,w W,a with
  |h::b::r,_,a=>
   have j:=a b (by simp);rw[show h_ en f (.mk 8 i t x A (h::b::r) u)=h_ en f b from rfl];simp;rw[b.ah]at j⊢
   repeat refine MD ?_
   refine Ms ?_;refine TC.block ?_;refine MD ?_;refine Ms ?_;refine MJ W ?_;refine MD ?_;refine Ms ?_;refine MJ W ?_;refine MD ?_;refine Ms ?_;refine MJ W ?_;refine MD ?_;refine Ms ?_;refine MJ W ?_;refine MD ?_;refine Ms ?_;refine MJ W ?_;refine MD ?_;refine Ms ?_;refine MJ W ?_;refine MD ?_;refine Ms ?_;refine MZ W ?_;refine Ms ?_;refine TC.region<|TL.go ?_;refine TL.nil<|TC.ret ⟨_,W,W,W⟩
 iterate 5
  .cases g with
   |nil=>
    rw[IT (by decide)]
    repeat refine MD ?_
    refine Ms ?_;refine TC.block ?_;refine MD ?_;refine Ms ?_;refine MJ W ?_;refine MD ?_;refine Ms ?_;refine MJ W ?_;refine MD ?_;refine Ms ?_;refine MJ W ?_;refine MD ?_;refine Ms ?_;refine MJ W ?_;refine MD ?_;refine Ms ?_;refine MJ W ?_;refine MD ?_;refine Ms ?_;refine MJ W ?_;refine MD ?_;refine Ms ?_;refine MJ W<|TC.skip ?_;refine MD ?_;refine Ms ?_;refine MJ W<|TC.skip ?_;refine Ms ?_;refine TC.region<|TL.go ?_;refine TL.nil<|TC.ret ⟨_,W,W,W⟩
   |cons h r=>
    have l:=a h (by simp);rw[Hh (by decide)];have j:(((h::r).map Xp.cells).length)=r.length+1:=by simp
    simp only[aiq]at j⊢;rw[h.ah]at l j⊢
    repeat refine MD ?_
    refine Ms ?_;refine TC.block ?_;refine MD ?_;refine Ms ?_;refine MJ W ?_;refine MD ?_;refine Ms ?_;refine MJ W ?_;refine MD ?_;refine Ms ?_;refine MJ W ?_;refine MD ?_;refine Ms ?_;refine MJ W ?_;refine MD ?_;refine Ms ?_;refine MJ W ?_;refine MD ?_;refine Ms ?_;refine MJ W ?_;refine MD ?_;refine Ms ?_;refine MJ W<|TC.skip ?_;refine Ms ?_;refine TC.region<|aG W W<|aI W W W ?_
    (refine aY W W W ?_;rw[j])
    (refine ay W W W (r:=.bool true) (by show some (D.bool (decide ((0:Int)<((r.length+1:Nat):Int))))=_;rw[aiS (by omega)]) ?_)
    refine TL.nil ?_;refine Ms ?_;refine MZ W ?_;refine Ms ?_;refine TC.region<|TL.go ?_;refine TL.nil<|TC.ret ⟨_,W,W,W⟩
termination_by SizeOf.sizeOf e
def Hi(en:List En)(t:Int×Nm)(b:t.1≠1)(d:t.1≠2):vS en t=match kY en t.1 t.2 with|c::_=>gI c|[]=>ss 0:=by
 unfold vS kY;rw[aid d,aid b,aid b];by_cases a:t.1=3
 .rw[air a,air a];cases en.find? (λu=>decide (u.name=t.2))<;>rfl
 .rw[aid a,aid a]
def EM(h:k8 en)(t:Int×Nm):PT prog 26 [.sl (en.map En.cells),.agg (fL t)] (·=[.agg (vS en t).cells]):=by
 obtain⟨a,b⟩:=t;have i:=Il 0;have n:=nc false;rw[Xp.ah]at i n;refine ML (My func26 W ntmps26 W λo p=>?_)
 repeat refine MD ?_
 refine Ms ?_;refine TC.block ?_;by_cases d:a=2
 .subst d;refine MD ?_;refine Ms ?_;refine MZ W ?_;refine Ms ?_;refine TC.region<|TL.go ?_;refine TL.nil<|TC.ret ⟨_,W,[_],W,W⟩
 by_cases e:a=1
 .subst e;refine MD ?_;refine Ms ?_;refine MJ W ?_;refine MD ?_;refine Ms ?_;refine MZ W ?_;refine Ms ?_;refine TC.region<|TL.go ?_;refine TL.nil<|TC.ret ⟨_,W,[_],W,W⟩
 have j:(a==1)=false:=by simp[e]
 have k:(a==2)=false:=by simp[d]
 have f:=GM h a b;rw[Hi en (a,b) e d];simp only;refine Ms ?_;refine TC.region ?_
 (refine ay W W W (r:=.bool false) (by show some (D.bool (a==2))=_;rw[k]) ?_)
 refine MX ?_;refine Ms ?_;refine MJ W ?_;refine Ms ?_;refine TC.region ?_
 (refine ay W W W (r:=.bool false) (by show some (D.bool (a==1))=_;rw[j]) ?_)
 refine MX ?_;refine Ms ?_;refine MJ W<|TC.skip ?_;cases g:kY en a b with
 |nil=>
  rw[g]at f
  repeat refine MD ?_
  refine Ms ?_;refine MJ W<|TC.skip ?_;refine Ms ?_;refine TC.region<|TL.go ?_;refine TL.nil<|TC.ret ⟨_,W,[_],W,W⟩
 |cons c r=>
  rw[g]at f;have l:=AB c;rw[Xp.ah]at l;have m:(aE (c::r)).length=r.length+1:=by simp
  refine MD ?_;refine Ms ?_;refine TC.region<|aq W W ?_
  (refine aY W W W ?_;rw[m])
  (refine ay W W W (r:=.bool true) (by show some (D.bool (decide ((0:Int)<((r.length+1:Nat):Int))))=_;rw[aiS (by omega)]) ?_)
  refine TL.nil ?_;refine Ms ?_;refine MZ W ?_;refine Ms ?_;refine TC.region<|TL.go ?_;refine TL.nil<|TC.ret ⟨_,W,[_],W,W⟩
end Go.Proofs.Pz
namespace Go.Ps
open Go.Mt Go.Sm
def C8(o:Nm×Nm)(l:List Xp):jH o l=l.map (spread o):=by
 induction l with
 |nil=>rw[jH];rfl
 |cons b l a=>rw[jH,a];rfl
def y7(o:Nm×Nm)(e:Xp):spread o e=if e.kd=4\/e.kd=12 then gS e o else .mk e.kd e.op e.num e.nm e.names (e.kids.map (spread o)) e.ps:=by
 cases e;rw[spread,C8];rfl
def fG.spread{e:Xp}(o:Nm×Nm)(h:fG e):fG (spread o e):=by
 have d:∀k∈e.kids,fG (Ps.spread o k):= λk a=>
  have:=Od a
  fG.spread o (by cases h with|mk _ _ _ b=>exact b k a)
 rw[y7];by_cases a:e.kd=4\/e.kd=12
 .rw[air a];exact .mk (λ_=>⟨e,rfl⟩) (by simp[Xp.kids]) (by simp[Xp.names]) (λk b=>by simp only[Xp.kids,aiR]at b;subst b;exact h)
 .rw[aid a];cases h with
  |mk _ f g _=>
   refine .mk (λh=>absurd (.inr h) a) (by simpa [Xp.kids] using f) g λk b=>?_
   simp only[Xp.kids,aij]at b;obtain⟨c,i,rfl⟩:=b;exact d c i
termination_by SizeOf.sizeOf e
end Go.Ps
namespace Go.Proofs.Pz
open Go.Mt Go.Sm Go.Ps Go.Proofs
open Tryz
def y8(o:Nm×Nm)(e:Xp)(g:fG e):PT prog 174 [.agg e.cells,.agg [.str o.1,.str o.2]] (·=[.agg (spread o e).cells]):=by
 have n:∀k∈e.kids,PT prog 174 [.agg k.cells,.agg [.str o.1,.str o.2]] (·=[.agg (spread o k).cells]):=
  λk a=>
   have:=Od a
   y8 o k (by cases g with|mk _ _ _ d=>exact d k a)
 have x:e.kids.length<=1000000:=by cases g with|mk _ p _ _=>exact p
 have b:=AC e o;refine PT.ro (ds:=[_,_]) ?_;intro H F q;have w:=(Wk.start q).nil 8;have v:(e.kids.map Xp.cells).length=e.kids.length:=by simp
 rw[y7];rw[Xp.ah (gS e o),e.ah]at b;rw[e.ah];refine MG func174 W ntmps174 W ?_;by_cases a:e.kd=4\/e.kd=12
 .rw[air a];rcases a with a|a
  .rw[a]at b⊢
   repeat refine Mx ?_
   refine Mo ?_;refine MM W ?_;refine Mx ?_;rw[Xp.ah];exact DC.ret ⟨_,W,_,⟨W,W⟩,w.drop⟩
  .rw[a]at b⊢;refine Mx ?_;refine Mo ?_;apply Mn
   .intro d f;refine aG W W<|aI W W W<|ay W W W (r:=.bool false) W<|aq W W<|az W ?_;refine aG W W ?_;refine az W ?_;refine aI W W W ?_;refine az W ?_;refine ay W W W (r:=.bool true) W ?_;refine TL.au
   refine Mo ?_;refine MM W ?_;refine Mx ?_;rw[Xp.ah];exact DC.ret ⟨_,W,_,⟨W,W⟩,w.drop⟩
 rw[aid a];have s:(e.kd==4)=false:=by simp;omega
 have t:(e.kd==12)=false:=by simp;omega
 refine Mo ?_;apply Mn
 .intro d f;refine gy W W W W<|gZ W W<|cG W W<|TL.nil W
 refine Mo ?_;apply Mn
 .intro d f;refine aF W W<|aJ W W W W ?_
  (refine ay W W W (r:=.bool false) (by show some (D.bool (e.kd==4))=_;rw[s]) ?_)
  refine aq W W<|az W ?_;refine aF W W ?_;refine az W ?_;refine aJ W W W W ?_;refine az W ?_;refine ay W W W (r:=.bool false) (by show some (D.bool (e.kd==12))=_;rw[t]) ?_;refine gR W W W<|TL.nil W
 refine Mo ?_;refine Mw W<|DC.skip ?_;refine Mo ?_;apply Mn
 .intro d f;refine aj W W<|TL.nil W
 refine Mo ?_;apply Mn
 .intro d f;refine aF W W<|aJ W W W W ?_
  (refine aY W W W ?_;rw[v])
  refine aq W W<|TL.nil W
 refine Mo ?_;refine DC.block<|DC.loop (λm d=>∃(i:Nat) (b:M) (a:List (Nat×List M)) (c:Hp),d=⟨[(22,.m (.d (.int .i64 ((i:Nat):Int)))),(21,.m (.d (.int .i64 ((e.kids.length:Nat):Int)))),(20,.m (.d (.sl (e.kids.map Xp.cells)))),(5,.m b),(4,.loc 4 0),(3,.m (.d (.bM [.str o.1,.str o.2] 0))),(2,.loc 2 0)],a,c⟩/\
   Go.Mt.get a 2=some ((xC e).map M.d)/\Go.Mt.get a 4=some ((bh 0 0 0 ⟨#[]⟩ [] [] (0,0)).map M.d)/\
   Wk F H [.acc 8 (((e.kids.take i).map (spread o)).map Xp.cells) b] c/\i<=e.kids.length/\m=e.kids.length-i) e.kids.length _
  ⟨0,.d (.sl []),_,_,rfl,rfl,rfl,w,by omega,rfl⟩ W ?_
 rintro m A ⟨i,B,C,E,rfl,h,u,w,G,rfl⟩;refine Mx ?_;refine Mo ?_;refine DC.cond W (λc=>?_) (λc=>?_)
 .have d:i<e.kids.length:=by have:=aic c;omega
  have j:(e.kids.map Xp.cells)[((i:Nat):Int).toNat]?=some e.kids[i].cells:=by simp[d]
  have f:((e.kids.take (i+1)).map (spread o)).map Xp.cells=((e.kids.take i).map (spread o)).map Xp.cells++[(spread o e.kids[i]).cells]:=by rw[qQ _ _ _ _ _ d,aio];rfl
  have l:=n _ (aif d);generalize e.kids[i]=k at j f l;rw[(spread o k).ah]at f;rw[k.ah]at j;rw[k.ah,(spread o k).ah]at l;refine DC.skip ?_;refine Mo ?_;refine DC.block ?_;refine Mx ?_;refine Mo ?_;apply Mn
  .intro y z;refine TL.go ?_;refine cT w W W W W W W (by exact bS W) (by simp only[ah8,ait,aik];omega)<|TL.au
  have w:=w.app [xC (spread o k)];refine Mx ?_;exact bf (k':=e.kids.length-(i+1)) (by omega) ⟨i+1,_,_,_,rfl,h,u,by rw[f];exact w,by omega,rfl⟩ W W
 .refine DC.exit ?_;obtain rfl:i=e.kids.length:=by have:=aie c;omega
  rw[aih]at w;refine DC.aR 5 W (w.view (jq _)) ?_;have w:=w.drop;have d:xC e=bh e.kd e.op e.num e.nm e.names (e.kids.map Xp.cells) e.ps:=rfl;rw[d]at h
  repeat refine Mx ?_
  rw[Xp.ah];exact DC.ret ⟨_,W,_,⟨W,W⟩,w⟩
termination_by SizeOf.sizeOf e
end Go.Proofs.Pz
namespace Go.Ps
open Go.Mt Go.Sm
variable{u v:NS}{k a:Nat}{en:List En}{t:Int×Nm}{ck:List (Nm×Nm)}{q:Fq}
mutual
def dZ:Xp->Nat
 |.mk k _ _ _ _ a _=>(if k=9\/k=10\/k=11\/k=13 then 1 else 0)+bC a
def bC:List Xp->Nat
 |[]=>0
 |e::l=>dZ e+bC l
end
mutual
def dV(en:List En):Xp->Nat->Prop
 |.mk k d n x b a p,c=>(1<=k/\k<=13/\k≠5/\(k=3->a=[])/\(k=6\/k=7->1<=d/\d<=16)/\(k=8->2<=a.length)/\(k=9\/k=10->a≠[])/\(k=11->a.length=2)/\
   (k=12->1<=c/\b≠[]/\a.length=1/\bC a=0)/\(k=13->a.length<=b.length)/\a.length<=1000000/\b.length<=1000000)/\fg en a (if k=12 then c-1 else if k=13 then c+1 else c)
def fg(en:List En):List Xp->Nat->Prop
 |[],_=>True
 |e::l,c=>dV en e c/\fg en l c
end
def fg.mem:∀{l:List Xp} {c:Nat},fg en l c->∀e∈l,dV en e c
 |b::l,c,h,e,a=>by
  rw[fg]at h;rcases aib.1 a with rfl|a
  .exact h.1
  .exact fg.mem h.2 e a
mutual
def dV.ty:∀{e:Xp} {c:Nat},dV en e c->B2 en e
 |.mk k a n x d b p,c,h=>by
  rw[dV]at h;rw[B2];exact⟨⟨h.1.1,h.1.2.1,h.1.2.2.1,h.1.2.2.2.1,h.1.2.2.2.2.1,h.1.2.2.2.2.2.1⟩,fg.ty h.2⟩
def fg.ty:∀{l:List Xp} {c:Nat},fg en l c->uD en l
 |[],_,_=>by rw[uD];trivial
 |a::l,c,h=>by rw[fg]at h;rw[uD];exact⟨dV.ty h.1,fg.ty h.2⟩
end
def Gr(u v:NS)(k:Nat):Prop:=v.n<=u.n+k/\v.vars.length<=u.vars.length+k/\v.eqs.length<=u.eqs.length+k
def Gr.refl(u:NS)(k:Nat):Gr u u k:=⟨by omega,by omega,by omega⟩
def Gr.trans{w:NS}{b:Nat}(h:Gr u v a)(c:Gr v w b)(d:a+b<=k):Gr u w k:=by
 obtain⟨e,f,g⟩:=h;obtain⟨i,j,l⟩:=c;exact⟨by omega,by omega,by omega⟩
def Gr.np(h:Gr (u.new t ck) v k):Gr u (v.put q) (1+k):=by
 obtain⟨a,b,c⟩:=h;simp only[NS.new,ah6,aik]at a b c;exact⟨by simp only[NS.put];omega,by simp only[NS.put];omega,by simp only[NS.put,ah6,aik];omega⟩
def Gr.pn(h:Gr ((u.new t ck).put q) v k):Gr u v (1+k):=by
 obtain⟨a,b,c⟩:=h;simp only[NS.new,NS.put,ah6,aik]at a b c;exact⟨by omega,by omega,by omega⟩
section
variable(en:List En)
mutual
theorem j0:∀(e:Xp) a rs u,Gr u (c8 en e a rs u).2 (dZ e)
 |.mk k o n x l d p,a,rs,u=>by
  rw[c8.eq_def,dZ];simp only;by_cases f:k=9\/k=10
  .rw[air f,air (by omega)];exact(ri d a rs _).np
  rw[aid f];by_cases g:k=11
  .rw[air g,air (by omega)];exact(lP d a rs _).pn
  rw[aid g];by_cases h:k=13
  .rw[air h,air (by omega)];exact(nj x l d a rs _).np
  rw[aid h];have j:¬(k=9\/k=10\/k=11\/k=13):=by omega
  rw[aid j];by_cases i:k=12
  .rw[air i];obtain⟨m,b,c⟩:=EO d a.dropLast rs u;exact⟨by grind,by grind,by grind⟩
  .rw[aid i];obtain⟨m,b,c⟩:=lP d a rs u;exact⟨by grind,by grind,by grind⟩
theorem EO:∀(l:List Xp) a rs u,Gr u (mT en l a rs u).2 (bC l)
 |[],a,rs,u=>by rw[mT.eq_def];exact Gr.refl u _
 |e::l,a,rs,u=>by
  rw[mT.eq_def,bC];obtain⟨d,b,c⟩:=j0 e a rs u;simp only;exact⟨by omega,by omega,by omega⟩
theorem ri:∀(l:List Xp) a rs u,Gr u (gr en l a rs u).2 (bC l)
 |[],a,rs,u=>by rw[gr.eq_def];exact Gr.refl u _
 |[e],a,rs,u=>by
  rw[gr.eq_def,bC];obtain⟨d,b,c⟩:=j0 e a rs u;simp only;exact⟨by omega,by omega,by omega⟩
 |e::d::l,a,rs,u=>by
  rw[gr.eq_def,bC];obtain⟨f,b,c⟩:=ri (d::l) a rs u;simp only;exact⟨by omega,by omega,by omega⟩
theorem lP:∀(l:List Xp) a rs u,Gr u (dm en l a rs u).2 (bC l)
 |[],a,rs,u=>by rw[dm.eq_def];exact Gr.refl u _
 |e::l,a,rs,u=>by
  rw[dm.eq_def,bC];exact(j0 e a rs u).trans (lP l a rs _) (ah9 _)
theorem nj:∀(x:Nm) (b:List Nm) (l:List Xp) a rs u,Gr u (ey en x b l a rs u).2 (bC l)
 |x,b,[],a,rs,u=>by rw[ey.eq_def];exact Gr.refl u _
 |x,b,e::l,a,rs,u=>by
  rw[ey.eq_def,bC];exact(j0 e _ rs u).trans (nj x b.tail l a rs _) (ah9 _)
end
end
def gV(u:NS)(k:Nat):Prop:=u.n+k<=90000000/\u.vars.length+k<=90000000/\u.eqs.length+k<=90000000
def O7(h:gV u (a+k))(g:Gr u v a):gV v k:=by
 obtain⟨b,c,d⟩:=h;obtain⟨e,f,i⟩:=g;exact⟨by omega,by omega,by omega⟩
def gV.le(h:gV u a)(b:k<=a):gV u k:=by
 obtain⟨c,d,e⟩:=h;exact⟨by omega,by omega,by omega⟩
def nQ:∀{l:List Xp} {i:Nat} (h:i<l.length),bC (l.take i)+(dZ l[i]+bC (l.drop (i+1)))=bC l
 |a::l,0,h=>by simp only[aiD,bC,ajv,ai8,aky,akC]
 |a::l,i+1,h=>by
  have:=nQ (l:=l) (i:=i) (by simpa using h);simp only[aiU,bC,ajg,aky];omega
def AS{l:List Xp}{e:Xp}(h:e∈l):dZ e<=bC l:=by
 obtain⟨i,a,rfl⟩:=ai4 h;have:=nQ a;omega
section
variable(en:List En)
mutual
theorem y9:∀(e:Xp) (c:Nat) a rs u,dV en e c->dZ e=0->fG (c8 en e a rs u).1
 |.mk k m n x o d p,c,g,rs,u,h,a=>by
  rw[dV]at h;rw[dZ]at a;have i:¬(k=9\/k=10\/k=11\/k=13):=by grind
  rw[aid i,ai8]at a;rw[c8.eq_def];simp only;rw[aid (by omega),aid (by omega),aid (by omega)];by_cases b:k=12
  .rw[air b]
   match d,h,a with
   |[],h,_=>have:=(h.1.2.2.2.2.2.2.2.2.1 b).2.2.1;simp at this
   |f::l,h,a=>
    rw[mT.eq_def];rw[bC]at a;rw[fg]at h;exact(y9 f _ _ rs u h.2.1 (by omega)).spread _
  .rw[aid b];obtain⟨f,j⟩:=AT d _ g rs u h.2 a;exact .mk (λh=>absurd h b) (by simp only[Xp.kids];rw[j];exact h.1.2.2.2.2.2.2.2.2.2.2.1) h.1.2.2.2.2.2.2.2.2.2.2.2 f
theorem AT:∀(l:List Xp) (c:Nat) a rs u,fg en l c->bC l=0->(∀e∈(dm en l a rs u).1,fG e)/\(dm en l a rs u).1.length=l.length
 |[],c,a,rs,u,h,b=>by rw[dm.eq_def];exact⟨λe a=>by simp at a,rfl⟩
 |d::l,c,a,rs,u,h,f=>by
  rw[fg]at h;rw[bC]at f;rw[dm.eq_def];simp only;obtain⟨g,i⟩:=AT l c a rs (c8 en d a rs u).2 h.2 (by omega);exact⟨λe b=>by rcases aib.1 b with rfl|b;exact(y9 d c a rs u h.1 (by omega));exact g e b,by grind⟩
end
end
end Go.Ps
namespace Go.Ps
open Go.Mt Go.Sm
def ZK(z:D)(a:List (Nm×Nm))(n:Nat):Prop:=z=.sl (bA a)\/(a=[]/\z=.oD/\n=0)
def ZK.cut(a:List (Nm×Nm)):ZK (zN ((bA a).take (a.length-1))) a.dropLast 0:=by
 rw[List.dropLast_eq_take];have b:bA (a.take (a.length-1))=(bA a).take (a.length-1):=by simp[bA]
 cases c:(bA a).take (a.length-1)with
 |nil=>
  refine .inr ⟨?_,W,W⟩;rw[c]at b;simpa [bA] using b
 |cons d r=>exact .inl (by rw[b,c];rfl)
end Go.Ps
namespace Go.Proofs.Pz
open Go.Mt Go.Sm Go.Ps Go.Proofs
abbrev mU(q:Fq)(z:D):List D:=[.int .u8 q.kd,.sl (aE q.lhs),.str q.f]++xC q.first++xC q.e++[.sl (q.args.map Xp.cells),z,.sl (aE q.rs)]
def ez(q:Fq):q.cells=mU q (.sl (bA q.ck)):=by rw[Fq.ah,q.first.ah,q.e.ah]
section
variable{X:cQ}{ops:Array Oper}{rest:List Oper}{post:St->Prop}{sl:List (Nat×V)}{bx:List (Nat×List M)}{H:Hp}{d ty:Nat}{pos:String}{af:Array Edge}
def EP{t e n h:Nat}{x y:Operand}{rows:List (List D)}{b:IntKind}[ht:aU X.P t e][s:bQ X.P e n](c:Nat.blt d X.n=true)(f:aS sl x=some (.m (.d (.sl rows))))(i:aS sl y=some (.m (.d (.int b ((h:Nat):Int)))))(j:rows≠[])(p:h<=rows.length)(m:∀r∈rows,r.length=n)
  (k:TL X ops rest ⟨(d,.m (.d (zN (rows.take h))))::sl,bx,H⟩ post):TL X ops (⟨some d,.slice t x none (some y) none,ty,pos,af,none⟩::rest) ⟨sl,bx,H⟩ post:=by
 refine M3 (v:=.m (.d (zN (rows.take h)))) (M8:=sl) (Ns:=bx) (H':=H) W W c ?_ k;have this:=s8 (X:=X) (st:=⟨sl,bx,H⟩) (dst:=some d) (ty:=ty) (pos:=pos) (af:=af) (g:=none) (t:=t) (lo:=none) (hi:=some y) (l:=none) (h:=some h) f W (by simp only[s7,St.ev,i]) j (aja _) p m;have o:(rows.drop ((none:Option Nat).getD 0)).take (((some h:Option Nat).getD rows.length)-(none:Option Nat).getD 0)=rows.take h:=by simp
 rw[o]at this;cases a:rows.take h with
 |nil=>rw[a]at this;exact this
 |cons q r=>rw[a]at this;exact this
end
def EQ(rows:List (List D)):fr (.d (zN rows))=some [.d (zN rows)]:=by cases rows<;>rfl
end Go.Proofs.Pz
namespace Go.Mt
def LR(H:Hp):∀ds:List D,dw H (ds.map M.d)=some (ds.map M.d)
 |[]=>rfl
 |d::r=>bY (LR H r)
def LU{H:Hp}{m:M}{d:D}(h:ep H m=some d)(r:List D):∀ds:List D,dw H (ds.map M.d++m::r.map M.d)=some (ds.map M.d++.d d::r.map M.d)
 |[]=>lJ h (LR H r)
 |_::ds=>bY (LU h r ds)
end Go.Mt
namespace Go.Ps
open Go.Mt Go.Sm
theorem wT(en:List En):∀{l:List Xp} (h:l≠[]) a rs u,gr en l a rs u=c8 en (l.getLast h) a rs u
 |[e],_,a,rs,u=>by rw[gr.eq_def];rfl
 |_::b::l,_,a,rs,u=>by rw[gr.eq_def];simp only;rw[wT en (by grind)];rfl
def pY(en:List En)(x:Nm)(a:List Nm) ck rs u:ey en x a [] ck rs u=([],u):=by rw[ey.eq_def]
def oB(en:List En)(x:Nm)(a:List Nm)(e:Xp)(l:List Xp) ck rs u:ey en x a (e::l) ck rs u=((c8 en e (ck++[(a.head?.getD ⟨#[]⟩,x)]) rs u).1::(ey en x a.tail l ck rs (c8 en e (ck++[(a.head?.getD ⟨#[]⟩,x)]) rs u).2).1,(ey en x a.tail l ck rs (c8 en e (ck++[(a.head?.getD ⟨#[]⟩,x)]) rs u).2).2):=by rw[ey.eq_def]
def wU(en:List En)(x:Nm)(e:Xp):∀(l:List Xp) (b:List Nm) a rs u,ey en x b (l++[e]) a rs u=
  ((ey en x b l a rs u).1++[(c8 en e (a++[((b.drop l.length).head?.getD ⟨#[]⟩,x)]) rs (ey en x b l a rs u).2).1],(c8 en e (a++[((b.drop l.length).head?.getD ⟨#[]⟩,x)]) rs (ey en x b l a rs u).2).2)
 |[],b,a,rs,u=>by rw[aiK,oB,pY,pY];rfl
 |b::l,a,c,rs,u=>by
  have c:a.tail.drop l.length=a.drop (b::l).length:=by simp_all
  rw[aiA,oB,oB,wU en x e l a.tail,c];rfl
def y_(en:List En)(x:Nm):∀(l:List Xp) (b:List Nm) a rs u,(ey en x b l a rs u).1.length=l.length
 |[],b,a,rs,u=>by rw[pY]
 |a::l,c,b,rs,u=>by rw[oB,aia,aia,y_ en x l]
def IV(en:List En)(x:Nm)(e:Xp)(a:List (Nm×Nm))(rs:List Nm)(u:NS):NS:=(gr en e.kids a rs u).2.put (oz x (rP en u.ty e) (gr en e.kids a rs u).1 a rs)
end Go.Ps
namespace Go.Proofs.Pz
open Go.Mt Go.Sm Go.Ps Go.Proofs
open Tryz
def Hj{α:Type}{a:Nat}{x y z:α}{r:List (Nat×α)}(t:Nat):Go.Mt.get ((a,x)::r) t=Go.Mt.get ((a,x)::(a,y)::(a,z)::r) t:=by
 by_cases h:a.beq t=true
 .simp[Go.Mt.get,h]
 .simp[Go.Mt.get,akL.2 h]
def B3(it:Nat)(c:Fc)(e:Xp):Prop:=∀(q:Fq) (u:NS) (z:D),dV c.en e q.ck.length->q.ck.length+dZ e<=900000->gV u (dZ e+1)->ZK z q.ck (dZ e)->
  Dt prog 119 [.ref c.im 0,.d (.agg e.cells),.d (.agg (Go.Proofs.Pz.mU q z))] [.ob it bg,jZ c u] λr l=>r=.d (.agg (c8 c.en e q.ck q.rs u).1.cells)/\l=[.ob it bg,jZ c (c8 c.en e q.ck q.rs u).2]
def uE{F:Nat->Prop}{H K:Hp}{r:List As}{c:Fc}{u:NS}(a:k8 c.en)(w:Wk F H (jZ c u::r) K)(e:Xp)(b:B2 c.en e):
  CT prog 172 [.ref c.im 0,.d (.agg e.cells)] K λr a=>r=.d (.agg (fL (h_ c.en u.ty e)))/\a=K:=by
 obtain⟨i,j,d,f,w⟩:=jZ.open w;have k:=w.ob;have g:K[c.ic]?=some (.map d):=by
  have w:=w.drop.drop.drop;exact w.ob
 have h:=AR a f g e b;rw[e.ah]at h⊢;refine My func172 W ntmps172 W λl m=>?_
 refine MD ?_;refine TC.sF ?_;exact TC.ret ⟨_,W,W,W⟩
theorem rQ(it:Nat)(c:Fc)(o:k8 c.en)(e:Xp)(A:∀k∈e.kids,B3 it c k)(d:e.kids≠[])(Y:e.kids.length<=1000000)(B:B2 c.en e)(x:Nm)(q:Fq)(u:NS)(C:∀k∈e.kids,dV c.en k q.ck.length)(Z:q.ck.length+bC e.kids<=900000)(p:gV u (bC e.kids+1)):
  Dt prog 120 [.ref c.im 0,.d (.str x),.d (.agg e.cells),.d (.agg (mU q (.sl (bA q.ck))))] [.ob it bg,jZ c u] λr l=>l=[.ob it bg,jZ c (IV c.en x e q.ck q.rs u)]:=by
 intro H X E;have w:=Wk.start E;have F:=uE o (w.pick [1,0]) e B;have z:=EM o (h_ c.en u.ty e);have j:=List.getLast_mem d;have G:=AS j;have s:(e.kids.map Xp.cells)[((e.kids.length-1:Nat):Int).toNat]?=some (e.kids.getLast d).cells:=by
  grind
 have UZ:=List.length_pos_iff.2 d;have I:((e.kids.length:Nat):Int)-1=((e.kids.length-1:Nat):Int):=by omega
 have V:(e.kids.map Xp.cells).length=e.kids.length:=by simp
 unfold IV;rw[wT c.en d];have t:=A _ j q u _ (C _ j) (by omega) (p.le (by omega)) (.inl W);have m:=j0 c.en (e.kids.getLast d) q.ck q.rs u;obtain⟨_,K1,J,⟨rfl,rfl⟩,g,h⟩:=Wk.call (r:=[]) (by rw[aiu];exact w) t;rw[aiu]at g;have k:gV (c8 c.en (e.kids.getLast d) q.ck q.rs u).2 1:=O7 (p.le (by omega)) m;obtain⟨b,n⟩:∃b,b=rP c.en u.ty e:=⟨_,rfl⟩;have U:e.kd=9->∃a r,e.kids=a::r/\b=a:=by
  intro f
  match K:e.kids,d with
  |a::r,_=>exact⟨a,r,W,by rw[n];unfold rP;rw[air f,K]⟩
 have v:e.kd≠9->b=vS c.en (h_ c.en u.ty e):=by intro f;rw[n];unfold rP;rw[aid f]
 rw[<-n];generalize vS c.en (h_ c.en u.ty e)=L at z v;generalize e.kids.getLast d=y at s h m k g t j G;generalize c8 c.en y q.ck q.rs u=N at h m k g;obtain⟨i,O⟩:=N;simp only at h k g⊢;obtain⟨_,K2,J,rfl,P,Q⟩:=Wk.call (a:=[_]) (r:=[_]) (g.pick [1,0]) (lO c O (oz x b i q.ck q.rs) (by have:=k.2.2;omega));have R:(oz x b i q.ck q.rs).cells=kP 2 [x] ⟨#[]⟩ (xC b) (xC i) [] q.ck q.rs:=by rw[Fq.ah,b.ah,i.ah];rfl
 rw[R]at Q;rw[i.ah]at h;rw[y.ah]at h s;rw[e.ah]at F⊢;rw[L.ah]at z;refine MG func120 W ntmps120 W ?_;obtain⟨mv,me,es,hm,S⟩:=jZ.open (w.pick [1,0]);refine Mx ?_;refine Mo ?_;apply Mz mixed
 .intro K T;refine TF.go ?_;refine dj W W S.ob W<|TF.au
 refine DC.seq<|DC.D8 ⟨[(8,.loc 8 0),(7,.m (.d (.bM (mU q (.sl (bA q.ck))) 0))),(6,.m (.d (.bM (xC e) 0))),(1,.m (.d (.str x))),(0,.m (.ref c.im 0))],[(8,(xC b).map M.d)],H⟩ ?_ ?_
 .by_cases f:e.kd=9
  .obtain⟨a,r,K,rfl⟩:=U f;have T:(e.kd==9)=true:=by simp[f]
   have R9:(e.kids.map Xp.cells)[((0:Nat):Int).toNat]?=some (xC b):=by rw[K,aiq,b.ah];rfl
   refine Mo ?_;apply Mn
   .intro s0 Oo;refine aG W W<|aI W W W ?_
    (refine ay W W W (r:=.bool true) (by show some (D.bool (e.kd==9))=_;rw[T]) ?_)
    exact TL.nil W
   refine Mo ?_;refine MM W ?_;refine Mx ?_;exact BC Hj W W
  .have T:=v f;subst T;have K:(e.kd==9)=false:=by simp[f]
   refine Mo ?_;apply Mn
   .intro s0 Oo;refine aG W W<|aI W W W ?_
    (refine ay W W W (r:=.bool false) (by show some (D.bool (e.kd==9))=_;rw[K]) ?_)
    exact TL.nil W
   refine Mo ?_;refine Mw W<|DC.skip<|BC yX W W
 refine Mo ?_;apply Mz mixed
 .intro K T;refine bG W W<|cm W W<|di W W W<|cm W W<|di W W W ?_
  (refine lY W W W ?_;rw[V])
  (refine fO W W W (by omega) ?_;rw[I])
  refine TF.au
 refine Mx ?_;exact⟨_,W,_,W,P.pick [1,0]⟩
theorem AU(it:Nat)(c:Fc)(e:Xp)(z:∀k∈e.kids,B3 it c k)(T:e.kids.length<=1000000)(U:e.kids.length<=e.names.length)(q:Fq)(u:NS)(V:∀k∈e.kids,dV c.en k (q.ck.length+1))(X:q.ck.length+1+bC e.kids<=900000)(A:gV u (bC e.kids+1)):
  Dt prog 121 [.ref c.im 0,.d (.agg e.cells),.d (.agg (mU q (.sl (bA q.ck))))] [.ob it bg,jZ c u] λr l=>r=.d (.agg (Xp.mk e.kd e.op e.num e.nm e.names (ey c.en e.nm e.names e.kids q.ck q.rs u).1 e.ps).cells)/\l=[.ob it bg,jZ c (ey c.en e.nm e.names e.kids q.ck q.rs u).2]:=by
 intro H F B;have w:=(Wk.start B).nil 8;have S:(e.kids.map Xp.cells).length=e.kids.length:=by simp
 have ac:(bA q.ck).length=q.ck.length:=by simp[bA]
 rw[e.ah];refine MG func121 W ntmps121 W ?_;refine Mo ?_;apply Mn
 .intro b d;refine gy W W W W<|gZ W W<|cG W W<|TL.nil W
 refine Mo ?_;apply Mn
 .intro b d;refine aj W W<|TL.nil W
 refine Mo ?_;apply Mn
 .intro b d;refine aF W W<|aJ W W W W ?_
  (refine aY W W W ?_;rw[S])
  refine aq W W<|TL.nil W
 refine Mo ?_;refine DC.block<|DC.loop (λm g=>∃(i:Nat) (d:M) (b:List (Nat×List M)) (f:Hp),g=⟨[(14,.m (.d (.int .i64 ((i:Nat):Int)))),(13,.m (.d (.int .i64 ((e.kids.length:Nat):Int)))),(12,.m (.d (.sl (e.kids.map Xp.cells)))),(7,.m d),(6,.loc 6 0),(5,.m (.d (.bM (mU q (.sl (bA q.ck))) 0))),(4,.loc 4 0),(0,.m (.ref c.im 0))],b,f⟩/\
   Go.Mt.get b 4=some ((xC e).map M.d)/\Go.Mt.get b 6=some ((bh 0 0 0 ⟨#[]⟩ [] [] (0,0)).map M.d)/\
   Wk F H [.acc 8 ((ey c.en e.nm e.names (e.kids.take i) q.ck q.rs u).1.map Xp.cells) d,.ob it bg,jZ c (ey c.en e.nm e.names (e.kids.take i) q.ck q.rs u).2] f/\i<=e.kids.length/\m=e.kids.length-i) e.kids.length _
  ⟨0,.d (.sl []),_,_,rfl,rfl,rfl,by rw[aiD,pY];exact w,by omega,rfl⟩ W ?_
 rintro m s1 ⟨i,mc,bx,H1,rfl,s,C,w,hi,rfl⟩;refine Mx ?_;refine Mo ?_;refine DC.cond W (λE=>?_) (λE=>?_)
 .have k:i<e.kids.length:=by grind
  have t:i<e.names.length:=by omega
  have v:(e.kids.map Xp.cells)[((i:Nat):Int).toNat]?=some e.kids[i].cells:=by simp[k]
  have G:=fF t;have d:=wU c.en e.nm e.kids[i] (e.kids.take i) e.names q.ck q.rs u;rw[<-ah5 k,ait,ajw (by omega),ajd t,akw,akn]at d;have am:=nQ k;have I:gV (ey c.en e.nm e.names (e.kids.take i) q.ck q.rs u).2 (dZ e.kids[i]+1):=O7 (a:=bC (e.kids.take i)) (A.le (by omega)) (nj c.en e.nm e.names (e.kids.take i) q.ck q.rs u);have J:((ey c.en e.nm e.names (e.kids.take i) q.ck q.rs u).1.map Xp.cells).length=i:=by
   rw[ah8,y_,ait];omega
  obtain⟨y,K⟩:∃y,y=e.names[i]:=⟨_,rfl⟩;rw[<-K]at G d;obtain⟨f,L⟩:∃b,b=q.ck++[(y,e.nm)]:=⟨_,rfl⟩;have ce:f.length=q.ck.length+1:=by grind
  rw[<-L]at d;have N:=aif k;have x:=z _ N ⟨q.kd,q.lhs,q.f,q.first,q.e,q.args,f,q.rs⟩ _ _ (by grind) (by grind) I (.inl W);simp only at x;obtain⟨mk,K1,O,rfl,g,MT⟩:=Wk.call (a:=[]) w (pP q.ck (by omega));have g:=g;have n:=g.app [[.str y,.str e.nm]];have P:bA q.ck++[[.str y,.str e.nm]]=bA f:=by grind
  rw[P]at n;obtain⟨_,K2,O,⟨rfl,rfl⟩,b,h⟩:=Wk.call (a:=[_,_]) (r:=[_]) (n.drop.pick [1,2,0]) x;have b:=b.pick [2,0,1];generalize ey c.en e.nm e.names (e.kids.take i) q.ck q.rs u=o at d J g n b w h;generalize c8 c.en e.kids[i] f q.rs o.2=Q at d b h;obtain⟨j,u1⟩:=Q;generalize e.kids[i]=p at v h;simp only at h b d;rw[j.ah,p.ah]at h;rw[p.ah]at v;refine DC.skip ?_;refine Mo ?_;refine DC.block ?_
  repeat refine Mx ?_
  refine Mo ?_;apply Mz mixed
  .intro Y Z;refine TF.go ?_;refine eV g W W W W W W W (by omega)<|cF W W<|cv W W W (aN _ _ _) W W<|TF.au
  refine DC.cA (MP:=(mU q (.sl (bA f))).map M.d) 10 W (by exact LU (n.view (jp _)) [D.sl (aE q.rs)] ([D.int .u8 q.kd,D.sl (aE q.lhs),D.str q.f]++xC q.first++xC q.e++[D.sl (q.args.map Xp.cells)])) ?_;refine Mo ?_;apply Mn
  .intro Y Z;refine TL.go ?_;refine cT b W W W W W W (by exact bS W) (by grind)<|TL.au
  have b:=b.app [xC j];have R:o.1.map Xp.cells++[xC j]=(o.1++[j]).map Xp.cells:=by rw[aio,aiq,j.ah];rfl
  refine Mx ?_;exact bf (k':=e.kids.length-(i+1)) (by omega) ⟨i+1,_,_,_,rfl,s,C,by rw[d,<-R];exact b,by omega,rfl⟩ W W
 .refine DC.exit ?_;obtain rfl:i=e.kids.length:=by grind
  rw[aih]at w;refine DC.aR 7 W (w.view (jq _)) ?_;have w:=w.drop;have b:xC e=bh e.kd e.op e.num e.nm e.names (e.kids.map Xp.cells) e.ps:=rfl;rw[b]at s
  repeat refine Mx ?_
  rw[Xp.ah];exact DC.ret ⟨_,W,_,⟨W,W⟩,w⟩
end Go.Proofs.Pz
namespace Go.Ps
open Go.Mt Go.Sm
variable{u:NS}{t:Int×Nm}{ck:List (Nm×Nm)}{k:Nat}{a:Xp}
def gV.new(h:gV u (k+1)):gV (u.new t ck) k:=by
 obtain⟨a,b,c⟩:=h;exact⟨by simp only[NS.new];omega,by simp only[NS.new,ah6,aik];omega,by simp only[NS.new];omega⟩
def gV.np{q:Fq}(h:gV u (k+1)):gV ((u.new t ck).put q) k:=by
 obtain⟨a,b,c⟩:=h;exact⟨by simp only[NS.new,NS.put];omega,by simp only[NS.new,NS.put,ah6,aik];omega,by simp only[NS.new,NS.put,ah6,aik];omega⟩
def rR(e:Xp):dZ e=(if e.kd=9\/e.kd=10\/e.kd=11\/e.kd=13 then 1 else 0)+bC e.kids:=by cases e;rw[dZ];rfl
section
variable(en:List En){e:Xp}{ck:List (Nm×Nm)}{rs:List Nm}{u:NS}
def lQ:dm en [] ck rs u=([],u):=by rw[dm.eq_def]
def kI(a:Xp)(l:List Xp):dm en (a::l) ck rs u=((c8 en a ck rs u).1::(dm en l ck rs (c8 en a ck rs u).2).1,(dm en l ck rs (c8 en a ck rs u).2).2):=by rw[dm.eq_def]
def wV(a:e.kd=9\/e.kd=10)(b:e.kids≠[]):c8 en e ck rs u=(aZ (nX (u.n+1)),IV en (nX (u.n+1)) e ck rs (u.new (h_ en u.ty e) ck)):=by
 obtain⟨k,c,n,x,f,d,p⟩:=e;rw[c8.eq_def];simp only;rw[air (show k=9\/k=10 from a)];rfl
def C9(c:e.kd=11){b:Xp}(d:e.kids=[a,b]):c8 en e ck rs u=
  (.mk 8 0 0 ⟨#[]⟩ [] [aZ (nX (u.n+1)),(c8 en a ck rs ((u.new (1,⟨#[]⟩) ck).put (oz (nX (u.n+1)) (dD true) (dD false) ck rs))).1,(c8 en b ck rs (c8 en a ck rs ((u.new (1,⟨#[]⟩) ck).put (oz (nX (u.n+1)) (dD true) (dD false) ck rs))).2).1] e.ps,
   (c8 en b ck rs (c8 en a ck rs ((u.new (1,⟨#[]⟩) ck).put (oz (nX (u.n+1)) (dD true) (dD false) ck rs))).2).2):=by
 obtain⟨k,f,n,x,h,g,p⟩:=e;simp only[Xp.kd,Xp.kids]at c d;subst c d;rw[c8.eq_def];simp only;rw[aid (by decide),air trivial,kI,kI,lQ];rfl
def C_(a:e.kd=13):c8 en e ck rs u=(aZ (nX (u.n+1)),(ey en e.nm e.names e.kids ck rs (u.new (h_ en u.ty e) ck)).2.put ⟨1,[nX (u.n+1)],⟨#[]⟩,bR,.mk e.kd e.op e.num e.nm e.names (ey en e.nm e.names e.kids ck rs (u.new (h_ en u.ty e) ck)).1 e.ps,[],ck,[]⟩):=by
 obtain⟨k,b,n,x,d,c,p⟩:=e;simp only[Xp.kd]at a;subst a;rw[c8.eq_def];simp only;rw[aid (by decide),aid (by decide),air trivial];rfl
def ER(b:e.kd=12)(c:e.kids=[a]){y:Nm}{f:List Nm}(d:e.names=y::f):c8 en e ck rs u=(spread (y,e.nm) (c8 en a ck.dropLast rs u).1,(c8 en a ck.dropLast rs u).2):=by
 obtain⟨k,g,n,x,i,h,p⟩:=e;simp only[Xp.kd,Xp.kids,Xp.names]at b c d;subst b c d;rw[c8.eq_def];simp only;rw[aid (by decide),aid (by decide),aid (by decide),air trivial,mT.eq_def];rfl
def C'(h:¬(e.kd=9\/e.kd=10))(a:e.kd≠11)(b:e.kd≠13)(c:e.kd≠12):c8 en e ck rs u=(.mk e.kd e.op e.num e.nm e.names (dm en e.kids ck rs u).1 e.ps,(dm en e.kids ck rs u).2):=by
 obtain⟨k,d,n,x,g,f,p⟩:=e;simp only[Xp.kd]at h a b c;rw[c8.eq_def];simp only;rw[aid h,aid a,aid b,aid c];rfl
end
def rj(en:List En)(e:Xp):∀(l:List Xp) a rs u,dm en (l++[e]) a rs u=((dm en l a rs u).1++[(c8 en e a rs (dm en l a rs u).2).1],(c8 en e a rs (dm en l a rs u).2).2)
 |[],a,rs,u=>by rw[aiK,kI,lQ,lQ];rfl
 |a::l,b,rs,u=>by rw[aiA,kI,kI,rj en e l];rfl
def tw(en:List En):∀(l:List Xp) a rs u,(dm en l a rs u).1.length=l.length
 |[],a,rs,u=>by rw[lQ]
 |a::l,b,rs,u=>by rw[kI,aia,aia,tw en l]
end Go.Ps
namespace Go.Proofs.Pz
open Go.Mt Go.Sm Go.Ps Go.Proofs
open Tryz
def kr(it:Nat)(c:Fc)(o:k8 c.en)(e:Xp):B3 it c e:=by
 have n:∀k∈e.kids,B3 it c k:= λk f=>
  have:=Od f
  kr it c o k
 intro q u z E NR h p;have v:=dV.ty E;have g:=rR e;have ac:(1<=e.kd/\e.kd<=13/\e.kd≠5/\(e.kd=3->e.kids=[])/\(e.kd=6\/e.kd=7->1<=e.op/\e.op<=16)/\(e.kd=8->2<=e.kids.length)/\(e.kd=9\/e.kd=10->e.kids≠[])/\(e.kd=11->e.kids.length=2)/\
   (e.kd=12->1<=q.ck.length/\e.names≠[]/\e.kids.length=1/\bC e.kids=0)/\(e.kd=13->e.kids.length<=e.names.length)/\e.kids.length<=1000000/\e.names.length<=1000000)/\fg c.en e.kids (if e.kd=12 then q.ck.length-1 else if e.kd=13 then q.ck.length+1 else q.ck.length):=by
  cases e;rw[dV]at E;exact E
 obtain⟨⟨h1,Qq,h5,_,_,_,N,V,am,ce,F,P2⟩,s⟩:=ac;intro K L X;have w:=Wk.start X;by_cases t:e.kd=12
 .obtain⟨H,P,Q,A⟩:=am t;have g:dZ e=bC e.kids:=by rw[g,aid (by omega),ai8]
  have k:q.ck≠[]:=by intro l;rw[l]at H;simp at H
  obtain rfl:z=.sl (bA q.ck):=p.resolve_right (by rintro⟨l,_,_⟩;exact k l);obtain⟨a,x⟩:∃a,e.kids=[a]:=by
   match Y:e.kids,Q with
   |[a],_=>exact⟨a,W⟩
  obtain⟨y,Z,I⟩:=ajJ P;have j:=s;rw[air t,x,fg]at j;rw[x]at A;simp only[bC,ajO]at A;have R:q.ck.dropLast.length=q.ck.length-1:=List.length_dropLast;rw[ER c.en t x I];have S:=y8 (y,e.nm) (c8 c.en a q.ck.dropLast q.rs u).1 (y9 c.en a _ q.ck.dropLast q.rs u j.1 A);obtain⟨_,K1,l',⟨rfl,rfl⟩,G,O⟩:=Wk.call (r:=[]) (by rw[aiu];exact w) (n a (by rw[x];simp) ⟨q.kd,q.lhs,q.f,q.first,q.e,q.args,q.ck.dropLast,q.rs⟩ u _ (by rw[R];exact j.1) (by simp;omega) (h.le (by omega)) (by rw[A];exact ZK.cut q.ck));rw[aiu]at G;simp only at O G;generalize c8 c.en a q.ck.dropLast q.rs u=B at*;have C:(bA q.ck).length=q.ck.length:=by simp
  have T:((q.ck.length:Nat):Int)-1=((q.ck.length-1:Nat):Int):=by omega
  have R9:(e.kids.map Xp.cells)[((0:Nat):Int).toNat]?=some (xC a):=by rw[x,aiq,a.ah];rfl
  have Ry:(aE e.names)[((0:Nat):Int).toNat]?=some [.str y]:=by rw[I];rfl
  rw[a.ah,B.1.ah]at O;rw[B.1.ah,(spread (y,e.nm) B.1).ah]at S;rw[e.ah,(spread (y,e.nm) B.1).ah,t];refine MG func119 W ntmps119 W ?_
  repeat refine Mx ?_
  refine Mo ?_;refine DC.block ?_;refine Mx ?_;refine Mo ?_;refine Mw W ?_;refine Mx ?_;refine Mo ?_;refine Mw W ?_;refine Mx ?_;refine Mo ?_;refine Mw W ?_;refine Mx ?_;refine Mo ?_;refine Mw W ?_;refine Mx ?_;refine Mo ?_;refine MM W ?_;refine Mx ?_;refine Mo ?_;apply Mn
  .intro Y Oo;refine aG W W<|aI W W W<|aG W W<|aI W W W ?_
   (refine aY W W W ?_;rw[C])
   (refine cj W W W (by omega) ?_;rw[T])
   refine EP W W W (by intro l;rw[<-ajC,C]at l;omega) (by omega) (jp q.ck)<|aF W W<|aK W W W (EQ _) W W<|TL.nil W
  refine Pp ?_;exact DC.ret ⟨_,W,_,⟨W,W⟩,G⟩
 by_cases f:e.kd=9
 .rw[f]at g;have g:dZ e=1+bC e.kids:=g;obtain rfl:z=.sl (bA q.ck):=p.resolve_right (by rintro⟨_,_,O⟩;omega);have k:=N (by omega);have j:∀k∈e.kids,dV c.en k q.ck.length:= λk f=>by have:=s.mem k f;rwa [aid (by omega),aid (by omega)]at this
  rw[wV c.en (by omega) k];have x:=uE o (w.pick [1,0]) e v;obtain⟨_,Q,G,⟨rfl,rfl⟩,l,H⟩:=Wk.call (r:=[]) (by rw[aiu];exact w) (oA it c u (h_ c.en u.ty e) q.ck (by have:=h.1;omega) (by have:=h.2.1;omega) (by omega));rw[aiu]at l;have I:gV (u.new (h_ c.en u.ty e) q.ck) (bC e.kids+1):=gV.new (h.le (by rw[g];omega));obtain⟨_,R,G,rfl,y,A⟩:=Wk.call (r:=[]) (by rw[aiu];exact l) (rQ it c o e n k F v (nX (u.n+1)) q _ j (by omega) I);rw[aiu]at y;have B:=fE (nX (u.n+1));rw[Xp.ah (aZ _)]at B;rw[e.ah]at x A⊢;generalize h_ c.en u.ty e=P at x H A l y⊢;rw[f];rw[f]at x A;refine MG func119 W ntmps119 W ?_
  repeat refine Mx ?_
  refine Mo ?_;refine DC.block ?_;refine Mx ?_;refine Mo ?_;refine MM W<|DC.skip ?_;refine Mo ?_;refine MM W ?_;refine Pp ?_
  repeat refine Mx ?_
  rw[Xp.ah];exact DC.ret ⟨_,W,_,⟨W,W⟩,y⟩
 by_cases f:e.kd=10
 .rw[f]at g;have g:dZ e=1+bC e.kids:=g;obtain rfl:z=.sl (bA q.ck):=p.resolve_right (by rintro⟨_,_,O⟩;omega);have k:=N (by omega);have j:∀k∈e.kids,dV c.en k q.ck.length:= λk f=>by have:=s.mem k f;rwa [aid (by omega),aid (by omega)]at this
  rw[wV c.en (by omega) k];have x:=uE o (w.pick [1,0]) e v;obtain⟨_,Q,G,⟨rfl,rfl⟩,l,H⟩:=Wk.call (r:=[]) (by rw[aiu];exact w) (oA it c u (h_ c.en u.ty e) q.ck (by have:=h.1;omega) (by have:=h.2.1;omega) (by omega));rw[aiu]at l;have I:gV (u.new (h_ c.en u.ty e) q.ck) (bC e.kids+1):=gV.new (h.le (by rw[g];omega));obtain⟨_,R,G,rfl,y,A⟩:=Wk.call (r:=[]) (by rw[aiu];exact l) (rQ it c o e n k F v (nX (u.n+1)) q _ j (by omega) I);rw[aiu]at y;have B:=fE (nX (u.n+1));rw[Xp.ah (aZ _)]at B;rw[e.ah]at x A⊢;generalize h_ c.en u.ty e=P at x H A l y⊢;rw[f];rw[f]at x A;refine MG func119 W ntmps119 W ?_
  repeat refine Mx ?_
  refine Mo ?_;refine DC.block ?_;refine Mx ?_;refine Mo ?_;refine Mw W ?_;refine Mx ?_;refine Mo ?_;refine MM W ?_;refine Pp ?_
  repeat refine Mx ?_
  rw[Xp.ah];exact DC.ret ⟨_,W,_,⟨W,W⟩,y⟩
 by_cases f:e.kd=11
 .rw[f]at g;have g:dZ e=1+bC e.kids:=g;obtain rfl:z=.sl (bA q.ck):=p.resolve_right (by rintro⟨_,_,d5⟩;omega);obtain⟨a,b,l⟩:∃a b,e.kids=[a,b]:=by
   have:=V f
   match x:e.kids,this with
   |[a,b],_=>exact⟨a,b,W⟩
  have j:=s;rw[aid (by omega),aid (by omega),l,fg,fg]at j;have d6:bC e.kids=dZ a+dZ b:=by rw[l];simp only[bC];omega
  rw[C9 c.en f l];obtain⟨_,K1,A,⟨rfl,rfl⟩,P,Vk⟩:=Wk.call (r:=[]) (by rw[aiu];exact w) (oA it c u (1,⟨#[]⟩) q.ck (by have:=h.1;omega) (by have:=h.2.1;omega) (by omega));rw[aiu]at P;have B:gV ((u.new (1,⟨#[]⟩) q.ck).put (oz (nX (u.n+1)) (dD true) (dD false) q.ck q.rs)) (dZ a+dZ b+1):=gV.np (h.le (by omega));obtain⟨_,K2,A,rfl,Q,Y⟩:=Wk.call (a:=[_]) (r:=[_]) (P.pick [1,0]) (lO c (u.new (1,⟨#[]⟩) q.ck) (oz (nX (u.n+1)) (dD true) (dD false) q.ck q.rs) (by have:=h.2.2;simp only[NS.new];omega));have Z:(oz (nX (u.n+1)) (dD true) (dD false) q.ck q.rs).cells=kP 2 [nX (u.n+1)] ⟨#[]⟩ (xC (dD true)) (xC (dD false)) [] q.ck q.rs:=by rw[Fq.ah,(dD true).ah,(dD false).ah];rfl
  rw[Z]at Y;generalize (u.new (1,⟨#[]⟩) q.ck).put (oz (nX (u.n+1)) (dD true) (dD false) q.ck q.rs)=x at Q B⊢;obtain⟨_,K3,A,⟨rfl,rfl⟩,G,R⟩:=Wk.call (r:=[]) (by rw[aiu];exact Q.pick [1,0]) (n a (by rw[l];simp) q x _ j.1 (by omega) (B.le (by omega)) (.inl W));rw[aiu]at G;have S:gV (c8 c.en a q.ck q.rs x).2 (dZ b+1):=O7 (a:=dZ a) (B.le (by omega)) (j0 c.en a q.ck q.rs x);generalize c8 c.en a q.ck q.rs x=y at G R S⊢;obtain⟨_,K4,A,⟨rfl,rfl⟩,H,I⟩:=Wk.call (r:=[]) (by rw[aiu];exact G) (n b (by rw[l];simp) q y.2 _ j.2.1 (by omega) S (.inl W));rw[aiu]at H;generalize c8 c.en b q.ck q.rs y.2=T at H I⊢;have O:=fE (nX (u.n+1));have Vd:=nc true;have V3:=nc false;have R9:(e.kids.map Xp.cells)[((0:Nat):Int).toNat]?=some (xC a):=by rw[l,aiq,a.ah];rfl
  rw[Xp.ah (aZ _)]at O;rw[Xp.ah (dD _)]at Vd V3;rw[a.ah,y.1.ah]at R;rw[b.ah,T.1.ah]at I;rw[e.ah,f];refine MG func119 W ntmps119 W ?_
  repeat refine Mx ?_
  refine Mo ?_;refine DC.block ?_;refine Mx ?_;refine Mo ?_;refine Mw W ?_;refine Mx ?_;refine Mo ?_;refine Mw W ?_;refine Mx ?_;refine Mo ?_;refine MM W ?_;refine Mx ?_;refine Pp ?_;refine Pp ?_;refine Mo ?_;apply Mz mixed
  .intro s0 Oo;refine cm W W<|jL W W W<|bG W W<|bm O W W<|cY W W W W W<|bG W W<|cm W W<|di W W W<|bE W W W (by decide) (by rw[l,aiq,aiq,b.ah];rfl) W<|dY W W W<|dY W W W<|bB I W W<|cr W W W W W W W W<|tV W W W W W<|cv W W W W W W<|TF.nil ⟨by kernel_rfl,rfl⟩
  rw[Xp.ah];simp only[Xp.kd,Xp.op,Xp.num,Xp.nm,Xp.names,Xp.kids,Xp.ps,aiq,aiL];rw[Xp.ah (aZ _),y.1.ah,T.1.ah];exact DC.ret ⟨_,W,_,⟨W,W⟩,H⟩
 by_cases f:e.kd=13
 .rw[f]at g;have g:dZ e=1+bC e.kids:=g;obtain rfl:z=.sl (bA q.ck):=p.resolve_right (by rintro⟨_,_,Y⟩;omega);have j:∀k∈e.kids,dV c.en k (q.ck.length+1):= λk g=>by have:=s.mem k g;rwa [aid (by omega),air f]at this
  rw[C_ c.en f];have x:=uE o (w.pick [1,0]) e v;obtain⟨_,K1,A,⟨rfl,rfl⟩,B,Q⟩:=Wk.call (r:=[]) (by rw[aiu];exact w) (oA it c u (h_ c.en u.ty e) q.ck (by have:=h.1;omega) (by have:=h.2.1;omega) (by omega));rw[aiu]at B;have G:gV (u.new (h_ c.en u.ty e) q.ck) (bC e.kids+1):=gV.new (h.le (by omega));obtain⟨_,K2,A,⟨rfl,rfl⟩,H,y⟩:=Wk.call (r:=[]) (by rw[aiu];exact B) (AU it c e n F (ce f) q _ j (by omega) G);rw[aiu]at H;have T:gV (ey c.en e.nm e.names e.kids q.ck q.rs (u.new (h_ c.en u.ty e) q.ck)).2 1:=O7 (a:=bC e.kids) G (nj c.en _ _ _ _ _ _);generalize u.new (h_ c.en u.ty e) q.ck=S at*;generalize h_ c.en u.ty e=Z at x Q;generalize ey c.en e.nm e.names e.kids q.ck q.rs S=l at*;obtain⟨_,K3,A,rfl,O,I⟩:=Wk.call (a:=[_]) (r:=[_]) (H.pick [1,0]) (lO c l.2 ⟨1,[nX (u.n+1)],⟨#[]⟩,bR,.mk e.kd e.op e.num e.nm e.names l.1 e.ps,[],q.ck,[]⟩ (by have:=T.2.2;omega));have R:(Fq.mk 1 [nX (u.n+1)] ⟨#[]⟩ bR (.mk e.kd e.op e.num e.nm e.names l.1 e.ps) [] q.ck []).cells=kP 1 [nX (u.n+1)] ⟨#[]⟩ (bh 0 0 0 ⟨#[]⟩ [] [] (0,0)) (bh e.kd e.op e.num e.nm e.names (l.1.map Xp.cells) e.ps) [] q.ck []:=by rw[Fq.ah,bR.ah,Xp.ah];rfl
  rw[R]at I;rw[Xp.ah (.mk e.kd e.op e.num e.nm e.names l.1 e.ps)]at y;have P:=fE (nX (u.n+1));rw[Xp.ah (aZ _)]at P;rw[e.ah]at x y⊢;rw[f]at x y I O⊢;refine MG func119 W ntmps119 W ?_
  repeat refine Mx ?_
  refine Mo ?_;refine DC.block ?_;refine Mx ?_;refine Mo ?_;refine Mw W ?_;refine Mx ?_;refine Mo ?_;refine Mw W ?_;refine Mx ?_;refine Mo ?_;refine Mw W ?_;refine Mx ?_;refine Mo ?_;refine MM W ?_;refine Pp ?_;refine Pp ?_;refine Mx ?_;rw[Xp.ah];exact DC.ret ⟨_,W,_,⟨W,W⟩,O.pick [1,0]⟩
 have k:¬(e.kd=9\/e.kd=10\/e.kd=11\/e.kd=13):=by omega
 rw[aid k,ai8]at g;have j:∀k∈e.kids,dV c.en k q.ck.length:= λk f=>by have:=s.mem k f;rwa [aid t,aid (by omega)]at this
 rw[C' c.en (by omega) (by omega) (by omega) t];have b9:(e.kd==9)=false:=by simp;omega
 have Wb:(e.kd==10)=false:=by simp;omega
 have co:(e.kd==11)=false:=by simp;omega
 have RQ:(e.kd==12)=false:=by simp;omega
 have Q0:(e.kd==13)=false:=by simp;omega
 have C:(e.kids.map Xp.cells).length=e.kids.length:=by simp
 have w:=w.nil 8;rw[e.ah];refine MG func119 W ntmps119 W ?_;refine Mo ?_;apply Mn
 .intro l x;refine gy W W W W<|gZ W W<|cG W W<|TL.nil W
 refine Mo ?_;apply Mn
 .intro l x;refine aF W W<|aJ W W W W<|TL.nil W
 refine Mo ?_;refine DC.block ?_;refine Mo ?_;apply Mn
 .intro l x
  (refine ay W W W (r:=.bool false) (by show some (D.bool (e.kd==9))=_;rw[b9]) ?_)
  refine aj W W<|TL.nil W
 refine Mo ?_;refine Mw W ?_;refine Mo ?_;apply Mn
 .intro l x
  (refine ay W W W (r:=.bool false) (by show some (D.bool (e.kd==10))=_;rw[Wb]) ?_)
  refine aj W W<|TL.nil W
 refine Mo ?_;refine Mw W ?_;refine Mo ?_;apply Mn
 .intro l x
  (refine ay W W W (r:=.bool false) (by show some (D.bool (e.kd==11))=_;rw[co]) ?_)
  refine aj W W<|TL.nil W
 refine Mo ?_;refine Mw W ?_;refine Mo ?_;apply Mn
 .intro l x
  (refine ay W W W (r:=.bool false) (by show some (D.bool (e.kd==13))=_;rw[Q0]) ?_)
  refine aj W W<|TL.nil W
 refine Mo ?_;refine Mw W ?_;refine Mo ?_;apply Mn
 .intro l x
  (refine ay W W W (r:=.bool false) (by show some (D.bool (e.kd==12))=_;rw[RQ]) ?_)
  refine aj W W<|TL.nil W
 refine Mo ?_;refine Mw W<|DC.skip ?_;refine Mo ?_;apply Mn
 .intro l x;refine aj W W<|TL.nil W
 refine Mo ?_;apply Mn
 .intro l x;refine aF W W<|aJ W W W W ?_
  (refine aY W W W ?_;rw[C])
  refine aq W W<|TL.nil W
 refine Mo ?_;refine DC.block<|DC.loop (λm j=>∃(i:Nat) (g:M) (f:List (Nat×List M)) (h:Hp),j=⟨[(124,.m (.d (.int .i64 ((i:Nat):Int)))),(123,.m (.d (.int .i64 ((e.kids.length:Nat):Int)))),(122,.m (.d (.sl (e.kids.map Xp.cells)))),(12,.m g),(6,.loc 6 0),(5,.m (.d (.bM (mU q z) 0))),(4,.loc 4 0),(0,.m (.ref c.im 0))],f,h⟩/\
   Go.Mt.get f 4=some ((xC e).map M.d)/\Go.Mt.get f 6=some ((bh 0 0 0 ⟨#[]⟩ [] [] (0,0)).map M.d)/\
   Wk L K [.acc 8 ((dm c.en (e.kids.take i) q.ck q.rs u).1.map Xp.cells) g,.ob it bg,jZ c (dm c.en (e.kids.take i) q.ck q.rs u).2] h/\i<=e.kids.length/\m=e.kids.length-i) e.kids.length _
  ⟨0,.d (.sl []),_,_,rfl,rfl,rfl,by rw[aiD,lQ];exact w,by omega,rfl⟩ W ?_
 rintro m s1 ⟨i,mc,bx,H1,rfl,U,Pj,w,hi,rfl⟩;refine Mx ?_;refine Mo ?_;refine DC.cond W (λJ=>?_) (λJ=>?_)
 .have B:i<e.kids.length:=by have:=aic J;omega
  have O:(e.kids.map Xp.cells)[((i:Nat):Int).toNat]?=some e.kids[i].cells:=by simp[B]
  have y:=rj c.en e.kids[i] (e.kids.take i) q.ck q.rs u;rw[<-ah5 B]at y;have d5:=nQ B;have S:gV (dm c.en (e.kids.take i) q.ck q.rs u).2 (dZ e.kids[i]+1):=O7 (a:=bC (e.kids.take i)) (h.le (by omega)) (lP c.en (e.kids.take i) q.ck q.rs u);have P:((dm c.en (e.kids.take i) q.ck q.rs u).1.map Xp.cells).length=i:=by
   rw[ah8,tw,ait];omega
  have H:=aif B;have Q:=n _ H q _ z (j _ H) (by omega) S (p.imp id λ⟨a,b,d⟩=>⟨a,b,by have:=AS H;omega⟩);obtain⟨_,R,Z,⟨rfl,rfl⟩,l,x⟩:=Wk.call (a:=[_,_]) (r:=[_]) (w.pick [1,2,0]) Q;have l:Wk L K [.acc 8 ((dm c.en (e.kids.take i) q.ck q.rs u).1.map Xp.cells) mc,.ob it bg,jZ c (c8 c.en e.kids[i] q.ck q.rs (dm c.en (e.kids.take i) q.ck q.rs u).2).2] R:=l.pick [2,0,1];generalize dm c.en (e.kids.take i) q.ck q.rs u=G at y P l w x;generalize c8 c.en e.kids[i] q.ck q.rs G.2=T at y l x;obtain⟨A,u1⟩:=T;generalize e.kids[i]=I at O x;simp only at x l y;rw[A.ah,I.ah]at x;rw[I.ah]at O;refine DC.skip ?_;refine Mo ?_;refine DC.block ?_;refine Mx ?_;refine Mo ?_;apply Mn
  .intro s0 Oo;refine TL.go ?_;refine cT l W W W W W W (by exact bS W) (by rw[P];simp;omega)<|TL.au
  have l:=l.app [xC A];have Y:G.1.map Xp.cells++[xC A]=(G.1++[A]).map Xp.cells:=by rw[aio,aiq,A.ah];rfl
  refine Mx ?_;exact bf (k':=e.kids.length-(i+1)) (by omega) ⟨i+1,_,_,_,rfl,U,Pj,by rw[y,<-Y];exact l,by omega,rfl⟩ W W
 .refine DC.exit ?_;obtain rfl:i=e.kids.length:=by have:=aie J;omega
  rw[aih]at w;refine DC.aR 12 W (w.view (jq _)) ?_;have w:=w.drop;have l:xC e=bh e.kd e.op e.num e.nm e.names (e.kids.map Xp.cells) e.ps:=rfl;rw[l]at U
  repeat refine Mx ?_
  rw[Xp.ah];exact DC.ret ⟨_,W,_,⟨W,W⟩,w⟩
termination_by SizeOf.sizeOf e
end Go.Proofs.Pz
namespace Go.Ps
open Go.Mt Go.Sm
variable{en:List En}{e:Xp}{n:Nat}
def pZ(q:Fq):Nat:=dZ q.e+bC q.args
def J4(en:List En)(q:Fq):Prop:=(q.kd=3->q.args.length<=1000000/\∀a∈q.args,dV en a q.ck.length)/\(q.kd≠3->dV en q.e q.ck.length)/\(q.kd≠2->q.kd≠3->q.lhs≠[])/\q.ck.length+pZ q<=800000
def dV.facts(h:dV en e n):(e.kd=9\/e.kd=10->e.kids≠[])/\e.kids.length<=1000000/\(e.kd≠12->e.kd≠13->∀k∈e.kids,dV en k n):=by
 obtain⟨k,a,m,x,c,b,p⟩:=e;rw[dV]at h;exact⟨h.1.2.2.2.2.2.2.1,h.1.2.2.2.2.2.2.2.2.2.2.1,λa b j c=>by have:=h.2.mem j c;rwa [aid (show ¬k=12 from a),aid (show ¬k=13 from b)]at this⟩
def dV.IW(h:dV en e n)(a:e.kd=13):e.kids.length<=e.names.length/\∀k∈e.kids,dV en k (n+1):=by
 obtain⟨k,b,m,x,d,c,p⟩:=e;simp only[Xp.kd]at a;rw[dV]at h;exact⟨h.1.2.2.2.2.2.2.2.2.2.1 a,λj b=>by have:=h.2.mem j b;rwa [aid (by omega),air a]at this⟩
end Go.Ps
namespace Go.Proofs.Pz
open Go.Mt Go.Sm Go.Ps Go.Proofs
open Tryz
theorem IX(it:Nat)(c:Fc)(n:k8 c.en)(q:Fq)(u:NS)(T:J4 c.en q)(g:gV u (pZ q+1)):
  Dt prog 62 [.ref c.im 0,.d (.agg q.cells)] [.ob it bg,jZ c u] λr l=>l=[.ob it bg,jZ c (pe c.en u q)]:=by
 obtain⟨U,V,O,X⟩:=T;intro R S Y;have w:=Wk.start Y;unfold pZ at g X;unfold pe;by_cases o:q.kd=3
 .obtain⟨N5,ac⟩:=U o;rw[air o];have s:(q.kd==3)=true:=by simp[o]
  have w:=w.nil 8;have ce:(q.args.map Xp.cells).length=q.args.length:=by simp
  rw[ez];refine MG func62 W ntmps62 W ?_;refine O0 ?_;refine Mo ?_;refine DC.block ?_;refine Mo ?_;apply Mn
  .intro k B;refine aF W W<|aJ W W W W ?_
   (refine ay W W W (r:=.bool true) (by show some (D.bool (q.kd==3))=_;rw[s]) ?_)
   refine TL.au
  refine Mo ?_;refine MM W ?_
  repeat refine Mx ?_
  refine Mo ?_;refine DC.block<|DC.loop (λm g=>∃(i:Nat) (b:M) (d:List (Nat×List M)) (f:Hp),g=⟨[(21,.m (.d (.int .i64 ((i:Nat):Int)))),(20,.m (.d (.int .i64 ((q.args.length:Nat):Int)))),(19,.m (.d (.sl (q.args.map Xp.cells)))),(4,.m b),(3,.loc 3 0),(0,.m (.ref c.im 0))],d,f⟩/\
    Go.Mt.get d 3=some ((mU q (.sl (bA q.ck))).map M.d)/\
    Wk S R [.acc 8 ((dm c.en (q.args.take i) q.ck q.rs u).1.map Xp.cells) b,.ob it bg,jZ c (dm c.en (q.args.take i) q.ck q.rs u).2] f/\i<=q.args.length/\m=q.args.length-i) q.args.length _
   ⟨0,.d (.sl []),_,_,rfl,rfl,by rw[aiD,lQ];exact w,by omega,rfl⟩ W ?_
  rintro m s1 ⟨i,mc,bx,H1,rfl,Z,w,hi,rfl⟩;refine Mx ?_;refine Mo ?_;refine DC.cond W (λhc=>?_) (λhc=>?_)
  .have F:i<q.args.length:=by grind
   have P:(q.args.map Xp.cells)[((i:Nat):Int).toNat]?=some q.args[i].cells:=by simp[F]
   have B:=rj c.en q.args[i] (q.args.take i) q.ck q.rs u;rw[<-ah5 F]at B;have h:=lP c.en (q.args.take i) q.ck q.rs u;have am:=nQ F;have N7:((dm c.en (q.args.take i) q.ck q.rs u).1.map Xp.cells).length=i:=by
    rw[ah8,tw,ait];omega
   obtain⟨_,G,j,⟨rfl,rfl⟩,k,b⟩:=Wk.call (a:=[_,_]) (r:=[_]) (w.pick [1,2,0]) (kr it c n _ q _ _ (ac _ (aif F)) (by omega) (O7 (a:=bC (q.args.take i)) (g.le (by omega)) h) (.inl W));have k:=k.pick [2,0,1];generalize dm c.en (q.args.take i) q.ck q.rs u=J at B N7 k w b;generalize c8 c.en q.args[i] q.ck q.rs J.2=d at B k b;obtain⟨C,u1⟩:=d;generalize q.args[i]=N at P b;simp only at b k B;rw[C.ah,N.ah]at b;rw[N.ah]at P;refine DC.skip ?_;refine Mo ?_;refine DC.block ?_;refine Mx ?_;refine Mo ?_;apply Mn
   .intro s0 Oo;refine TL.go ?_;refine cT k W W W W W W (by exact bS W) (by grind)<|TL.au
   have k:=k.app [xC C];have NE:J.1.map Xp.cells++[xC C]=(J.1++[C]).map Xp.cells:=by rw[aio,aiq,C.ah];rfl
   refine Mx ?_;exact bf (k':=q.args.length-(i+1)) (by omega) ⟨i+1,_,_,_,rfl,Z,by rw[B,<-NE];exact k,by omega,rfl⟩ W W
  refine DC.exit ?_;obtain rfl:i=q.args.length:=by grind
  rw[aih]at w;refine DC.aR 4 W (w.view (jq _)) ?_;have w:=w.drop;have h:=lP c.en q.args q.ck q.rs u;have t:gV (dm c.en q.args q.ck q.rs u).2 1:=O7 (a:=bC q.args) (g.le (by omega)) h;generalize dm c.en q.args q.ck q.rs u=d at*;obtain⟨_,G,j,rfl,v,x⟩:=Wk.call (a:=[_]) (r:=[_]) (w.pick [1,0]) (lO c d.2 {q with args:=d.1} (by have:=t.2.2;omega));rw[ez]at x
  repeat refine Mx ?_
  exact⟨_,W,_,W,v.pick [1,0]⟩
 rw[aid o];have p:=V o;have s:(q.kd==3)=false:=by simp[o]
 by_cases y:q.kd=2
 .rw[air y];have z:(q.kd==2)=true:=by simp[y]
  have h:=j0 c.en q.e q.ck q.rs u;obtain⟨_,H,j,⟨rfl,rfl⟩,f,b⟩:=Wk.call (r:=[]) (by rw[aiu];exact w) (kr it c n q.e q u _ p (by omega) (g.le (by omega)) (.inl W));rw[aiu]at f;have t:gV (c8 c.en q.e q.ck q.rs u).2 1:=O7 (a:=dZ q.e) (g.le (by omega)) h;generalize c8 c.en q.e q.ck q.rs u=d at*;obtain⟨_,G,j,rfl,v,x⟩:=Wk.call (a:=[_]) (r:=[_]) (f.pick [1,0]) (lO c d.2 {q with e:=d.1} (by have:=t.2.2;omega));rw[ez]at x;rw[q.e.ah,d.1.ah]at b;rw[ez];refine MG func62 W ntmps62 W ?_;refine O0 ?_;refine Mo ?_;refine DC.block ?_;refine Mo ?_;apply Mn
  .intro i k;refine aF W W<|aJ W W W W ?_
   (refine ay W W W (r:=.bool false) (by show some (D.bool (q.kd==3))=_;rw[s]) ?_)
   refine TL.au
  refine Mo ?_;refine Mw W ?_;refine Mo ?_;apply Mn
  .intro i k;refine aF W W<|aJ W W W W ?_
   (refine ay W W W (r:=.bool true) (by show some (D.bool (q.kd==2))=_;rw[z]) ?_)
   refine TL.au
  refine Mo ?_;refine MM W ?_
  repeat refine Mx ?_
  exact⟨_,W,_,W,v.pick [1,0]⟩
 rw[aid y];have z:(q.kd==2)=false:=by simp[y]
 by_cases K:q.e.kd=9
 .have A:(q.e.kd==9)=true:=by simp[K]
  have B:q.e.kd=9\/q.e.kd=10:=by omega
  rw[air B];have N:dZ q.e=1+bC q.e.kids:=by rw[rR,air (by omega)]
  have i:=dV.facts p;obtain⟨k,P,C⟩:=ajJ (O y o);have Z:(aE q.lhs)[((0:Nat):Int).toNat]?=some [.str k]:=by rw[C];rfl
  obtain⟨_,H,j,rfl,f,b⟩:=Wk.call (r:=[]) (by rw[aiu];exact w) (rQ it c n q.e (λk _=>kr it c n k) (i.1 B) i.2.1 (dV.ty p) k q u (i.2.2 (by omega) (by omega)) (by omega) (g.le (by omega)));rw[aiu]at f;rw[C,akw,akn];rw[q.e.ah]at b;rw[ez];refine MG func62 W ntmps62 W ?_;refine O0 ?_;refine Mo ?_;refine DC.block ?_;refine Mo ?_;apply Mn
  .intro F J;refine aF W W<|aJ W W W W ?_
   (refine ay W W W (r:=.bool false) (by show some (D.bool (q.kd==3))=_;rw[s]) ?_)
   refine TL.au
  refine Mo ?_;refine Mw W ?_;refine Mo ?_;apply Mn
  .intro F J;refine aF W W<|aJ W W W W ?_
   (refine ay W W W (r:=.bool false) (by show some (D.bool (q.kd==2))=_;rw[z]) ?_)
   refine TL.au
  refine Mo ?_;refine Mw W ?_;refine Mo ?_;apply Mn
  .intro F J;refine aF W W<|aF W W<|aJ W W W W ?_
   (refine ay W W W (r:=.bool true) (by show some (D.bool (q.e.kd==9))=_;rw[A]) ?_)
   refine TL.au
  refine Mo ?_;refine MM W ?_;refine Pp ?_;exact DC.ret ⟨_,W,_,W,f⟩
 by_cases Q:q.e.kd=10
 .have A:(q.e.kd==9)=false:=by simp[K]
  have I:(q.e.kd==10)=true:=by simp[Q]
  have B:q.e.kd=9\/q.e.kd=10:=by omega
  rw[air B];have N:dZ q.e=1+bC q.e.kids:=by rw[rR,air (by omega)]
  have i:=dV.facts p;obtain⟨k,P,C⟩:=ajJ (O y o);have Z:(aE q.lhs)[((0:Nat):Int).toNat]?=some [.str k]:=by rw[C];rfl
  obtain⟨_,H,j,rfl,f,b⟩:=Wk.call (r:=[]) (by rw[aiu];exact w) (rQ it c n q.e (λk _=>kr it c n k) (i.1 B) i.2.1 (dV.ty p) k q u (i.2.2 (by omega) (by omega)) (by omega) (g.le (by omega)));rw[aiu]at f;rw[C,akw,akn];rw[q.e.ah]at b;rw[ez];refine MG func62 W ntmps62 W ?_;refine O0 ?_;refine Mo ?_;refine DC.block ?_;refine Mo ?_;apply Mn
  .intro F J;refine aF W W<|aJ W W W W ?_
   (refine ay W W W (r:=.bool false) (by show some (D.bool (q.kd==3))=_;rw[s]) ?_)
   refine TL.au
  refine Mo ?_;refine Mw W ?_;refine Mo ?_;apply Mn
  .intro F J;refine aF W W<|aJ W W W W ?_
   (refine ay W W W (r:=.bool false) (by show some (D.bool (q.kd==2))=_;rw[z]) ?_)
   refine TL.au
  refine Mo ?_;refine Mw W ?_;refine Mo ?_;apply Mn
  .intro F J;refine aF W W<|aF W W<|aJ W W W W ?_
   (refine ay W W W (r:=.bool false) (by show some (D.bool (q.e.kd==9))=_;rw[A]) ?_)
   refine aq W W<|az W ?_;refine aF W W ?_;refine az W ?_;refine aF W W ?_;refine az W ?_;refine aJ W W W W ?_;refine az W ?_;refine ay W W W (r:=.bool true) (by show some (D.bool (q.e.kd==10))=_;rw[I]) ?_;refine TL.au
  refine Mo ?_;refine MM W ?_;refine Pp ?_;exact DC.ret ⟨_,W,_,W,f⟩
 rw[aid (by omega)];have A:(q.e.kd==9)=false:=by simp[K]
 have I:(q.e.kd==10)=false:=by simp[Q]
 by_cases E:q.e.kd=13
 .rw[air E];have L:(q.e.kd==13)=true:=by simp[E]
  have k:=dV.facts p;have i:=dV.IW p E;have F:dZ q.e=1+bC q.e.kids:=by rw[rR,air (by omega)]
  have h:=nj c.en q.e.nm q.e.names q.e.kids q.ck q.rs u;obtain⟨_,H,j,⟨rfl,rfl⟩,f,b⟩:=Wk.call (r:=[]) (by rw[aiu];exact w) (AU it c q.e (λk _=>kr it c n k) k.2.1 i.1 q u i.2 (by omega) (g.le (by omega)));rw[aiu]at f;have t:gV (ey c.en q.e.nm q.e.names q.e.kids q.ck q.rs u).2 1:=O7 (a:=bC q.e.kids) (g.le (by omega)) h;generalize ey c.en q.e.nm q.e.names q.e.kids q.ck q.rs u=d at*;obtain⟨_,G,j,rfl,v,x⟩:=Wk.call (a:=[_]) (r:=[_]) (f.pick [1,0]) (lO c d.2 {q with e:=.mk q.e.kd q.e.op q.e.num q.e.nm q.e.names d.1 q.e.ps,rs:=[]} (by have:=t.2.2;omega));rw[ez]at x;rw[q.e.ah,Xp.ah]at b;rw[ez];refine MG func62 W ntmps62 W ?_;refine O0 ?_;refine Mo ?_;refine DC.block ?_;refine Mo ?_;apply Mn
  .intro B C;refine aF W W<|aJ W W W W ?_
   (refine ay W W W (r:=.bool false) (by show some (D.bool (q.kd==3))=_;rw[s]) ?_)
   refine TL.au
  refine Mo ?_;refine Mw W ?_;refine Mo ?_;apply Mn
  .intro B C;refine aF W W<|aJ W W W W ?_
   (refine ay W W W (r:=.bool false) (by show some (D.bool (q.kd==2))=_;rw[z]) ?_)
   refine TL.au
  refine Mo ?_;refine Mw W ?_;refine Mo ?_;apply Mn
  .intro B C;refine aF W W<|aF W W<|aJ W W W W ?_
   (refine ay W W W (r:=.bool false) (by show some (D.bool (q.e.kd==9))=_;rw[A]) ?_)
   refine aq W W<|az W ?_;refine aF W W ?_;refine az W ?_;refine aF W W ?_;refine az W ?_;refine aJ W W W W ?_;refine az W ?_;refine ay W W W (r:=.bool false) (by show some (D.bool (q.e.kd==10))=_;rw[I]) ?_;refine TL.au
  refine Mo ?_;refine Mw W ?_;refine Mo ?_;apply Mn
  .intro B C;refine aF W W<|aF W W<|aJ W W W W ?_
   (refine ay W W W (r:=.bool true) (by show some (D.bool (q.e.kd==13))=_;rw[L]) ?_)
   refine TL.au
  refine Mo ?_;refine MM W ?_
  repeat refine Mx ?_
  exact⟨_,W,_,W,v.pick [1,0]⟩
 rw[aid E];have L:(q.e.kd==13)=false:=by simp[E]
 have h:=j0 c.en q.e q.ck q.rs u;obtain⟨_,H,j,⟨rfl,rfl⟩,f,b⟩:=Wk.call (r:=[]) (by rw[aiu];exact w) (kr it c n q.e q u _ p (by omega) (g.le (by omega)) (.inl W));rw[aiu]at f;have t:gV (c8 c.en q.e q.ck q.rs u).2 1:=O7 (a:=dZ q.e) (g.le (by omega)) h;generalize c8 c.en q.e q.ck q.rs u=d at*;obtain⟨_,G,j,rfl,v,x⟩:=Wk.call (a:=[_]) (r:=[_]) (f.pick [1,0]) (lO c d.2 {q with e:=d.1,rs:=[]} (by have:=t.2.2;omega));rw[ez]at x;rw[q.e.ah,d.1.ah]at b;rw[ez];refine MG func62 W ntmps62 W ?_;refine O0 ?_;refine Mo ?_;refine DC.block ?_;refine Mo ?_;apply Mn
 .intro i k;refine aF W W<|aJ W W W W ?_
  (refine ay W W W (r:=.bool false) (by show some (D.bool (q.kd==3))=_;rw[s]) ?_)
  refine TL.au
 refine Mo ?_;refine Mw W ?_;refine Mo ?_;apply Mn
 .intro i k;refine aF W W<|aJ W W W W ?_
  (refine ay W W W (r:=.bool false) (by show some (D.bool (q.kd==2))=_;rw[z]) ?_)
  refine TL.au
 refine Mo ?_;refine Mw W ?_;refine Mo ?_;apply Mn
 .intro i k;refine aF W W<|aF W W<|aJ W W W W ?_
  (refine ay W W W (r:=.bool false) (by show some (D.bool (q.e.kd==9))=_;rw[A]) ?_)
  refine aq W W<|az W ?_;refine aF W W ?_;refine az W ?_;refine aF W W ?_;refine az W ?_;refine aJ W W W W ?_;refine az W ?_;refine ay W W W (r:=.bool false) (by show some (D.bool (q.e.kd==10))=_;rw[I]) ?_;refine TL.au
 refine Mo ?_;refine Mw W ?_;refine Mo ?_;apply Mn
 .intro i k;refine aF W W<|aF W W<|aJ W W W W ?_
  (refine ay W W W (r:=.bool false) (by show some (D.bool (q.e.kd==13))=_;rw[L]) ?_)
  refine TL.au
 refine Mo ?_;refine Mw W ?_
 repeat refine Mx ?_
 exact⟨_,W,_,W,v.pick [1,0]⟩
end Go.Proofs.Pz
namespace Go.Ps
open Go.Mt Go.Sm
variable{i k:Nat}{F0:Nat->Prop}{H0 H:Hp}{f:Nm->Int×Nm}{r:List As}{u v:NS}
def zH(i:Nat)(f:Nm->Int×Nm):As:=.ex λa:List (D×M)=>Sep [.ob i (.map a),.fact (ll a f)]
def zH.close{es:List (D×M)}(h:ll es f)(w:Wk F0 H0 (.ob i (.map es)::r) H):Wk F0 H0 (zH i f::r) H:=
 OH (φ:= λes:List (D×M)=>Sep [.ob i (.map es),.fact (ll es f)]) es (Oa (a:=[_,_]) ((Wk.Ar h w).perm (List.Perm.swap _ _ _)))
def zH.open(w:Wk F0 H0 (zH i f::r) H):∃es,ll es f/\Wk F0 H0 (.ob i (.map es)::r) H:=by
 obtain⟨es,w⟩:=w.open;have w:=Wk.split (a:=[_,_]) w;have w:=w.perm (List.Perm.swap _ _ _);exact⟨es,w.Cu,w.drop⟩
def Hk:jT []= λ_=>(0,⟨#[]⟩):=rfl
def ES(l:List Va)(v:Va):jT (l++[v])= λy=>if y=v.name then(v.tk,v.tn)else jT l y:=by
 funext y
 unfold jT;rw[akz,ak0,ak8,ak3];by_cases h:v.name=y
 .grind
 .grind
structure Gq(u v:NS)(k j:Nat):Prop where
 n:v.n<=u.n+k
 vs:v.vars.length<=u.vars.length+k
 q:v.eqs.length<=u.eqs.length+k+j
def Gr.gq{q:Fq}(h:Gr u v k):Gq u (v.put q) k 1:=by
 obtain⟨a,b,c⟩:=h;exact⟨by simp only[NS.put];omega,by simp only[NS.put];omega,by simp only[NS.put,ah6,aik];omega⟩
def Gq.le{k' j:Nat}(h:Gq u v k j)(d:k<=k'):Gq u v k' j:=by
 obtain⟨a,b,c⟩:=h;exact⟨by omega,by omega,by omega⟩
def J5(en:List En)(u:NS)(q:Fq):Gq u (pe en u q) (pZ q) 1:=by
 unfold pe pZ;split
 .exact((lP en q.args q.ck q.rs u).gq).le (by omega)
 split
 .exact((j0 en q.e q.ck q.rs u).gq).le (by omega)
 split
 .rename_i h;exact((ri en q.e.kids q.ck q.rs u).gq).le (by rw[rR];omega)
 split
 .exact((nj en q.e.nm q.e.names q.e.kids q.ck q.rs u).gq).le (by rw[rR];omega)
 .exact((j0 en q.e q.ck q.rs u).gq).le (by omega)
def za(en:List En):∀(l:List Fq) (u:NS),Gq u (l.foldl (pe en) u) (l.map pZ).sum l.length
 |[],u=>⟨by simp,by simp,by simp⟩
 |q::l,u=>by
  obtain⟨a,b,c⟩:=J5 en u q;obtain⟨d,e,f⟩:=za en l (pe en u q);simp only[aii,aiq,alb,aia];exact⟨by omega,by omega,by omega⟩
def Hl{l:List Fq}(h:i<l.length):((l.take i).map pZ).sum+pZ l[i]<=(l.map pZ).sum:=by
 induction l generalizing i with
 |nil=>simp at h
 |cons b l a=>
  cases i with
  |zero=>simp
  |succ i=>simp only[aia,Nat.add_lt_add_iff_right]at h;have:=a h;simp only[aiU,aiq,alb,ajg];omega
def Hm(en:List En)(f:Fl):Prop:=f.ins.length+f.outs.length+f.vars.length<=20000000/\f.eqs.length<=20000000/\(f.eqs.map pZ).sum<=40000000/\∀q∈f.eqs,J4 en q
end Go.Ps
namespace Go.Proofs.Pz
open Go.Mt Go.Sm Go.Ps Go.Proofs
open Tryz
def ET(it:Nat)(en:List En)(C:k8 en)(f:Fl)(D:Hm en f):
  Dt prog 19 [.d (.sl (en.map En.cells)),.d (.agg f.cells)] [.ob it bg] λr l=>r=.d (.agg (yZ en f).cells)/\l=[.ob it bg]:=by
 obtain⟨E,Y,Z,G⟩:=D;intro H F I;have w:=Wk.start I;rw[Fl.ah,ff];obtain⟨L,p⟩:∃L,L=f.ins++f.outs++f.vars:=⟨_,rfl⟩;have Zi:L.length<=20000000:=by rw[p];simp only[ah6];exact E
 have J:=q_ f.ins f.outs f.vars (by omega);rw[<-p]at J;have am:(ax L).length=L.length:=by simp[ax]
 have ac:(f.eqs.map Fq.cells).length=f.eqs.length:=by simp
 have K:yZ en f=⟨f.name,f.ins,f.outs,(f.eqs.foldl (pe en) ⟨0,f.vars,[],jT L⟩).vars,(f.eqs.foldl (pe en) ⟨0,f.vars,[],jT L⟩).eqs⟩:=by rw[p];rfl
 rw[K];obtain⟨c,g⟩:∃c:Fc,c=⟨en,f.name,f.ins,f.outs,H.length+1,H.length⟩:=⟨_,rfl⟩;have q:c.en=en:=by rw[g]
 have U:c.ic=H.length:=by rw[g]
 have V:c.im=H.length+1:=by rw[g]
 have w:=(w.new (.map []));have y:(H++[Ob.map []]).length=c.im:=by rw[V];simp
 have w:=w.new (.box (c.cs (.d (.sl [])) (.d (.sl [])) 0));rw[y,<-U]at w;refine MG func19 W ntmps19 W ?_;refine Mx ?_;refine Mo ?_;apply Mn
 .intro n o;refine TL.go ?_;refine m_ (cs:=[.d (.sl (en.map En.cells)),.d (.str f.name),.d (.sl (ax f.ins)),.d (.sl (ax f.outs)),.d (.sl []),.d (.sl []),.mp H.length,.d (.int .i64 0)]) W W W W<|oi W W (fx _)<|TL.au
 obtain⟨m,z⟩:∃g,g=H++[Ob.map []]++[Ob.box (c.cs (.d (.sl [])) (.d (.sl [])) 0)]:=⟨_,rfl⟩;rw[<-z]at w;refine M5 [(5,.m (.ref c.im 0)),(4,.loc 4 0),(3,.m (.d (.bM [.str f.name,.sl (ax f.ins),.sl (ax f.outs),.sl (ax f.vars),.sl (f.eqs.map Fq.cells)] 0)))] m (by rw[<-y];rfl) (by rw[z,g];rfl) ?_;obtain⟨s,K1,N,rfl,w,O⟩:=Wk.call (a:=[]) w (pO f.vars (by omega));have w:=w;have P:=w.AA;have w:=w.pick [1,0,2,3];have h:=w.ob;have w:=w.set (.box (c.cs s (.d (.sl [])) 0));refine Mo ?_;apply Mn
 .intro n o;refine aq W W<|aG W W<|aI W W W<|aA O W W<|iX W W W<|dh W W<|dh W W<|cd W W h P W W<|TL.nil W
 refine Mx ?_;have w:=zH.close ll.nil (w.pick [2,0,1,3]);refine Mo ?_;refine DC.block<|DC.loop (λk j=>∃(i:Nat) (h:List (Nat×List M)) (g:Hp),j=⟨[(37,.m (.d (.int .i64 ((i:Nat):Int)))),(36,.m (.d (.int .i64 ((L.length:Nat):Int)))),(35,.m (.d (.sl (ax L)))),(5,.m (.ref c.im 0)),(4,.loc 4 0),(3,.m (.d (.bM [.str f.name,.sl (ax f.ins),.sl (ax f.outs),.sl (ax f.vars),.sl (f.eqs.map Fq.cells)] 0)))],h,g⟩/\Go.Mt.get h 4=some [.d (.str ⟨#[]⟩),.d (.sl []),.d (.sl []),.d (.sl []),.d (.sl [])]/\
   Wk F H [zH c.ic (jT (L.take i)),.ob c.im (.box (c.cs s (.d (.sl [])) 0)),.acc 15 (ax f.vars) s,.ob it bg] g/\i<=L.length/\k=L.length-i) L.length _
  ⟨0,_,_,rfl,rfl,by rw[aiD,Hk];exact w,by omega,rfl⟩ W ?_
 rintro B Q ⟨i,R,m,rfl,j,w,S,rfl⟩;refine Mx ?_;refine Mo ?_;refine DC.cond W (λg=>?_) (λg=>?_)
 .have o:i<L.length:=by have:=aic g;omega
  have t:=k_ o;have n:jT (L.take (i+1))= λy=>if y=L[i].name then(L[i].tk,L[i].tn)else jT (L.take i) y:=by rw[ah5 o,ES]
  generalize jT (L.take i)=X at w n;generalize L[i]=v at t n;rw[v.ah]at t;obtain⟨x,k,w⟩:=zH.open w;have h:=(w.pick [1,0,2,3]).ob;refine DC.skip ?_;refine Mo ?_;refine DC.block ?_;refine Mx ?_;refine Mo ?_;apply Mz mixed
  .intro A T;refine TF.go ?_;refine mQ W W W w.ob k.k<|TF.au
  refine Mx ?_;exact bf (k':=L.length-(i+1)) (by omega) ⟨i+1,_,_,rfl,j,by rw[n];exact(zH.close (k.set v.name (v.tk,v.tn)) (w.set (.map (dK v.name (.d (.agg (fL (v.tk,v.tn)))) x)))),by omega,rfl⟩ W W
 refine DC.exit ?_;obtain rfl:i=L.length:=by have:=aie g;omega
 rw[aih]at w;clear g;have w:Wk F H [.ob it bg,jZ c ⟨0,f.vars,[],jT L⟩] m:=by
  obtain⟨x,k,w⟩:=zH.open w;have w:=(w.nil 22).pick [2,3,0,1,4];exact(jZ.close (u:=⟨0,f.vars,[],jT L⟩) k w).pick [1,0]
 refine Mx ?_;refine Mo ?_;refine DC.block<|DC.loop (λk j=>∃(i:Nat) (h:List (Nat×List M)) (g:Hp),j=⟨[(53,.m (.d (.int .i64 ((i:Nat):Int)))),(52,.m (.d (.int .i64 ((f.eqs.length:Nat):Int)))),(51,.m (.d (.sl (f.eqs.map Fq.cells)))),(5,.m (.ref c.im 0)),(4,.loc 4 0)],h,g⟩/\Go.Mt.get h 4=some [.d (.str ⟨#[]⟩),.d (.sl []),.d (.sl []),.d (.sl []),.d (.sl [])]/\
   Wk F H [.ob it bg,jZ c ((f.eqs.take i).foldl (pe en) ⟨0,f.vars,[],jT L⟩)] g/\i<=f.eqs.length/\k=f.eqs.length-i) f.eqs.length _
  ⟨0,_,_,rfl,j,w,by omega,rfl⟩ W ?_
 rintro B Q ⟨i,R,m,rfl,j,w,S,rfl⟩;refine Mx ?_;refine Mo ?_;refine DC.cond W (λg=>?_) (λg=>?_)
 .have n:i<f.eqs.length:=by have:=aic g;omega
  have A:(f.eqs.map Fq.cells)[((i:Nat):Int).toNat]?=some f.eqs[i].cells:=by simp[n]
  have t:(f.eqs.take (i+1)).foldl (pe en) ⟨0,f.vars,[],jT L⟩=pe en ((f.eqs.take i).foldl (pe en) ⟨0,f.vars,[],jT L⟩) f.eqs[i]:=by
   rw[ah5 n,aiC];rfl
  have o:=IX it c (by rw[q];exact C) f.eqs[i] ((f.eqs.take i).foldl (pe en) ⟨0,f.vars,[],jT L⟩) (by rw[q];exact G _ (aif n)) (by
   obtain⟨a,b,d⟩:=za en (f.eqs.take i) ⟨0,f.vars,[],jT L⟩;have h1:=Hl n;have h2:(f.eqs.take i).length<=20000000:=by rw[ait];omega
   simp only[List.length_nil]at a b d;exact⟨by omega,by omega,by omega⟩)
  rw[q]at o;generalize (f.eqs.take i).foldl (pe en) ⟨0,f.vars,[],jT L⟩=u1 at w t o;generalize f.eqs[i]=e at A t o;obtain⟨X,K3,N,rfl,w,T⟩:=Wk.call (r:=[]) (by rw[aiu];exact w) o;rw[aiu]at w;rw[ez]at A T;refine DC.skip ?_;refine Mo ?_;refine DC.block ?_
  repeat refine Mx ?_
  exact bf (k':=f.eqs.length-(i+1)) (by omega) ⟨i+1,_,_,rfl,j,by rw[t];exact w,by omega,rfl⟩ W W
 refine DC.exit ?_;obtain rfl:i=f.eqs.length:=by have:=aie g;omega
 rw[aih]at w;clear g;generalize f.eqs.foldl (pe en) ⟨0,f.vars,[],jT L⟩=u at w⊢;obtain⟨SJ,ZA,x,k,w⟩:=jZ.open (w.pick [1,0]);have h:=w.ob;rw[g]at h;refine Mo ?_;apply Mn
 .intro n o;refine TL.go ?_;refine AO W W (by rw[g];exact h) W<|aK W W j (fx _) W W<|TL.nil W
 refine DC.cA (MP:=[.d (.str f.name),.d (.sl (ax f.ins)),.d (.sl (ax f.outs)),.d (.sl (ax u.vars)),.d (.sl (ff u.eqs))]) 4 W (bY (bY (bY (lJ ((w.pick [1,0,2,3,4]).view (bD _)) (lJ ((w.pick [2,0,1,3,4]).view (yT _)) (o7 _))))))<|DC.ret ⟨_,W,_,⟨W,W⟩,((w.pick [4,0,1,2,3]).pick [1,2,3,4,0]).drop.drop.drop.drop⟩
def J6(it:Nat)(p:Wh)(k:k8 p.aB)(u:p.nodes.length<=1000000)(n:∀f∈p.nodes,Hm p.aB f):
  Dt prog 20 [.d (.agg p.cells)] [.ob it bg] λx l=>x=.d (.agg (Hf p).cells)/\l=[.ob it bg]:=by
 intro H F o;have w:=(Wk.start o).nil 5;have t:(p.nodes.map Fl.cells).length=p.nodes.length:=by simp
 refine MG func20 W ntmps20 W ?_
 repeat refine DC.seq ?_
 apply Mn
 .intro f g
  first|refine gZ W W ?_|refine gy W W W W ?_
  refine cG W W ?_;exact TL.nil W
 repeat refine DC.seq ?_
 apply Mn
 .intro f g
  first|refine aG W W ?_|refine aF W W ?_|refine dh W W ?_|refine gE W W ?_
  first|refine aI W W W ?_|refine aJ W W W W ?_|refine bK W W W W ?_|refine aJ W W Sh W ?_|refine bK W W Ox W ?_
  refine g_ W W W W W ?_;refine cG W W ?_
  first|refine aK W W W W W W ?_|refine aK W W W (aN _ _ _) W W ?_|refine aK W W b W W W ?_|refine aK W W b (aN _ _ _) W W ?_|refine cd W W Oz W W W ?_|refine cd W W Oz (aN _ _ _) W W ?_
  exact TL.nil W
 repeat refine DC.seq ?_
 apply Mn
 .intro f g
  first|refine aG W W ?_|refine aF W W ?_|refine dh W W ?_|refine gE W W ?_
  first|refine aI W W W ?_|refine aJ W W W W ?_|refine bK W W W W ?_|refine aJ W W Sh W ?_|refine bK W W Ox W ?_
  (refine aY W W W ?_;rw[t])
  refine aq W W ?_;exact TL.nil W
 refine Nq [(12,.m (.d (.int .i64 ((0:Nat):Int)))),(11,.m (.d (.int .i64 ((p.nodes.length:Nat):Int)))),(10,.m (.d (.sl (p.nodes.map Fl.cells)))),(3,.loc 3 0),(2,.loc 2 0),(1,.m (.d (.bM [.sl (p.aB.map En.cells),.sl (p.nodes.map Fl.cells)] 0)))] _ _ W (λ_=>rfl) W ?_
 repeat refine DC.seq ?_
 refine DC.block ?_;refine DC.loop (λm f=>∃(i:Nat) (c:M) (b:List (Nat×List M)) (e:Hp),f=⟨[(12,.m (.d (.int .i64 ((i:Nat):Int)))),(11,.m (.d (.int .i64 ((p.nodes.length:Nat):Int)))),(10,.m (.d (.sl (p.nodes.map Fl.cells)))),(3,.loc 3 0),(2,.loc 2 0),(1,.m (.d (.bM [.sl (p.aB.map En.cells),.sl (p.nodes.map Fl.cells)] 0)))],b,e⟩/\
   Go.Mt.get b 3=some [.d (.sl (p.aB.map En.cells)),c]/\Go.Mt.get b 2=some [.d (.sl []),.d (.sl [])]/\
   Wk F H [.acc 5 (((p.nodes.take i).map (yZ p.aB)).map Fl.cells) c,.ob it bg] e/\i<=p.nodes.length/\m=p.nodes.length-i) p.nodes.length _
  ⟨0,.d (.sl []),_,_,rfl,rfl,rfl,w,by omega,rfl⟩ W ?_
 clear w;rintro m z ⟨i,q,A,B,rfl,b,e,w,C,rfl⟩
 repeat refine DC.seq ?_
 apply Mn
 .intro f g
  first|refine ay W W W (r:=.bool true) W ?_|refine ay W W W (r:=.bool false) W ?_|refine ay W W W W ?_
  exact TL.nil W
 repeat refine DC.seq ?_
 refine DC.cond W (λc=>?_) (λc=>?_)
 .have f:i<p.nodes.length:=by have:=aic c;omega
  clear c;have g:(p.nodes.map Fl.cells)[((i:Nat):Int).toNat]?=some p.nodes[i].cells:=by simp[f]
  have j:((p.nodes.take (i+1)).map (yZ p.aB)).map Fl.cells=((p.nodes.take i).map (yZ p.aB)).map Fl.cells++[(yZ p.aB p.nodes[i]).cells]:=by rw[qQ _ _ _ _ _ f,aio];rfl
  obtain⟨_,s,D,⟨rfl,rfl⟩,w,h⟩:=Wk.call (a:=[_]) (r:=[_]) (w.pick [1,0]) (ET it p.aB k p.nodes[i] (n _ (aif f)));have w:Wk F H [.acc 5 (((p.nodes.take i).map (yZ p.aB)).map Fl.cells) q,.ob it bg] s:=w.pick [1,0];generalize p.nodes[i]=d at g j h;rw[Fl.ah]at g h;refine DC.skip ?_
  repeat refine DC.seq ?_
  refine DC.block ?_
  repeat refine DC.seq ?_
  apply Mn
  .intro v y;refine bH W W W (ah7 i) g W ?_
   first|refine ca W W W ?_|refine eh W W W ?_|refine bp W W W W W ?_|refine cK W W W W W ?_|refine bp W W NU W W ?_|refine cK W W RY W W ?_|refine cx W W W W W ?_|refine cx W W NU W W ?_
   refine cG W W ?_
   first|refine aK W W W W W W ?_|refine aK W W W (aN _ _ _) W W ?_|refine aK W W N2 W W W ?_|refine aK W W N2 (aN _ _ _) W W ?_|refine cd W W Qs W W W ?_|refine cd W W Qs (aN _ _ _) W W ?_
   exact TL.nil W
  repeat refine DC.seq ?_
  apply Mz mixed
  .intro v y
   first|refine cm W W ?_|refine cF W W ?_|refine bW W W ?_|refine gA W W ?_
   first|refine di W W W ?_|refine cO W W W W ?_|refine dj W W W W ?_|refine cO W W b W ?_|refine dj W W Oz W ?_
   first|refine cm W W ?_|refine cF W W ?_|refine bW W W ?_|refine gA W W ?_
   first|refine di W W W ?_|refine cO W W W W ?_|refine dj W W W W ?_|refine cO W W Sh W ?_|refine dj W W Ox W ?_
   first|refine dY W W W ?_|refine jL W W W ?_|refine cY W W W W W ?_|refine iq W W W W W ?_|refine cY W W N2 W W ?_|refine iq W W Qs W W ?_|refine gW W W W W W ?_|refine gW W W N2 W W ?_
   refine bB h W W ?_;refine cr W W W W W W W W ?_;refine eV w W W W W W W W (by simp only[ah8,ait];omega) ?_
   first|refine cm W W ?_|refine cF W W ?_|refine bW W W ?_|refine gA W W ?_
   first|refine cv W W W W W W ?_|refine cv W W W (aN _ _ _) W W ?_|refine cv W W b W W W ?_|refine cv W W b (aN _ _ _) W W ?_|refine fC W W Oz W W W ?_|refine fC W W Oz (aN _ _ _) W W ?_
   exact TF.nil ⟨by kernel_rfl,rfl⟩
  have w:=w.app [(yZ p.aB d).cells]
  repeat refine DC.seq ?_
  apply Mn
  .intro v y;refine bc W W W (by omega) ?_;refine aq W W ?_;exact TL.nil W
  exact bf (k':=p.nodes.length-(i+1)) (by omega) ⟨i+1,_,_,_,rfl,rfl,e,by rw[j];exact w,by omega,rfl⟩ W W
 .refine DC.exit ?_;obtain rfl:i=p.nodes.length:=by have:=aie c;omega
  rw[aih]at w;have f:=w.view (AQ _);refine DC.cA (MP:=[.d (.sl (p.aB.map En.cells)),.d (.sl ((p.nodes.map (yZ p.aB)).map Fl.cells))]) 3 b (bY (lJ f (o7 _))) ?_
  repeat refine DC.seq ?_
  apply Mn
  .intro g h
   first|refine ca W W W ?_|refine eh W W W ?_|refine bp W W W W W ?_|refine cK W W W W W ?_|refine bp W W b W W ?_|refine cK W W Oz W W ?_|refine cx W W W W W ?_|refine cx W W b W W ?_
   first|refine aK W W W W W W ?_|refine aK W W W (aN _ _ _) W W ?_|refine aK W W e W W W ?_|refine aK W W e (aN _ _ _) W W ?_|refine cd W W PR W W W ?_|refine cd W W PR (aN _ _ _) W W ?_
   exact TL.nil W
  exact DC.ret ⟨_,W,_,⟨W,W⟩,w.drop⟩
end Go.Proofs.Pz
namespace Go.Mk
open Go.Mt
abbrev Nm:=ByteArray
inductive Ty where
 |bool|int|jh
 deriving DecidableEq
abbrev mj:Nm:=⟨#[99,111,108]⟩
def Ty.kind:Ty->Int
 |.bool=>1|.int=>2|.jh=>3
def Ty.nm:Ty->Nm
 |.bool=>⟨#[]⟩|.int=>⟨#[]⟩|.jh=>mj
abbrev Ty.cells(t:Ty):List D:=[.int .u8 t.kind,.str t.nm]
abbrev cR:Nm:=⟨#[82,101,100]⟩
abbrev bT:Nm:=⟨#[71,114,101,101,110]⟩
abbrev eK:Nm:=⟨#[66,108,117,101]⟩
inductive E where
 |nil
 |int (n:Int)|bool (n:Int)|ctor (s:Nm)|var (s:Nm)|last (s:Nm)
 |un (op:Int) (a:E)|bin (op:Int) (a b:E)|ite (a b c:E)
 |sg (a b:E)|pre (a:E)|arrow (a b:E)
 |mm (x c:Nm) (a:E)|merge (x d e f:Nm) (a b c:E)
abbrev bh(k op n:Int)(s:Nm)(names kids:List (List D)):List D:=[.int .u8 k,.int .u8 op,.int .i32 n,.str s,.sl names,.sl kids,.int .i64 0,.int .i64 0]
def E.cells:E->List D
 |.nil=>bh 0 0 0 ⟨#[]⟩ [] []
 |.int n=>bh 1 0 n ⟨#[]⟩ [] []
 |.bool n=>bh 2 0 n ⟨#[]⟩ [] []
 |.ctor s=>bh 3 0 0 s [] []
 |.var s=>bh 4 0 0 s [] []
 |.last s=>bh 5 0 0 s [] []
 |.un d a=>bh 6 d 0 ⟨#[]⟩ [] [a.cells]
 |.bin d a b=>bh 7 d 0 ⟨#[]⟩ [] [a.cells,b.cells]
 |.ite a b c=>bh 8 0 0 ⟨#[]⟩ [] [a.cells,b.cells,c.cells]
 |.sg a b=>bh 9 0 0 ⟨#[]⟩ [] [a.cells,b.cells]
 |.pre a=>bh 10 0 0 ⟨#[]⟩ [] [a.cells]
 |.arrow a b=>bh 11 0 0 ⟨#[]⟩ [] [a.cells,b.cells]
 |.mm x c a=>bh 12 0 0 x [[.str c]] [a.cells]
 |.merge x d e f a b c=>bh 13 0 0 x [[.str d],[.str e],[.str f]] [a.cells,b.cells,c.cells]
def E.shape(e:E):∃k op n s b a,e.cells=bh k op n s b a:=by cases e<;>exact⟨_,_,_,_,_,_,W⟩
def E.len(e:E):e.cells.length=8:=by obtain⟨k,c,n,s,a,b,h⟩:=e.shape;rw[h];rfl
structure Va where
 name:Nm
 ty:Ty
 clock:Option (Nm×Nm)
 last:Bool
 first:E
def bA:Option (Nm×Nm)->List (List D)
 |none=>[]
 |some (c,x)=>[[.str c,.str x]]
def Va.cells(v:Va):List D:=[.str v.name,.int .u8 v.ty.kind,.str v.ty.nm,.sl (bA v.clock),.bool v.last]++v.first.cells++[.int .i64 0,.int .i64 0]
def Va.len(v:Va):v.cells.length=15:=by simp[Va.cells,E.len]
def ax(l:List Va):List (List D):=l.map Va.cells
def br(l:List Va):(ax l).length=l.length:=by simp[ax]
def bD(l:List Va):∀r∈ax l,r.length=15:=by intro r a;obtain⟨_,_,rfl⟩:=aij.1 a;exact Va.len _
def gU(a b:List Va):ax (a++b)=ax a++ax b:=by simp[ax]
def jP{l:List Va}{i:Nat}(h:i<l.length):(ax l)[(i:Int).toNat]?=some l[i].cells:=by simp[ax,h]
structure Tr where
 e:E
 to:Nm
 BN:Bool
def Tr.cells(t:Tr):List D:=t.e.cells++[.str t.to,.bool t.BN,.int .i64 0,.int .i64 0]
mutual
inductive aD where
 |df (x:Nm) (e:E)
 |call (x y f:Nm) (a b:E) (c:Bool) (e:E)
 |sw (e:E) (ai:List aH)
 |wW (ai:List aH)
 |reset (e:E) (b:bF)
inductive aH where
 |mk (d:Nm) (b:bF) (a c:List Tr)
inductive bF where
 |mk (b:List Va) (a:List aD)
end
abbrev eW(k:Int)(lhs:List (List D))(name:Nm)(args:List (List D))(has:Bool)(e:List D)(ai:List (List D)):List D:=[.int .u8 k,.sl lhs,.str name,.sl args,.bool has]++e++[.sl ai,.int .i64 0,.int .i64 0]
def eL(l:List Tr):List (List D):=l.map Tr.cells
mutual
def aD.cells:aD->List D
 |.df x e=>eW 1 [[.str x]] ⟨#[]⟩ [] false e.cells []
 |.call x y f a b c e=>eW 2 [[.str x],[.str y]] f [a.cells,b.cells] c e.cells []
 |.sw e a=>eW 3 [] ⟨#[]⟩ [] false e.cells (b_ a)
 |.wW a=>eW 4 [] ⟨#[]⟩ [] false E.nil.cells (b_ a)
 |.reset e b=>eW 5 [] ⟨#[]⟩ [] false e.cells [[.str ⟨#[]⟩]++b.cells++[.sl [],.sl [],.int .i64 0,.int .i64 0]]
def aH.cells:aH->List D
 |.mk d b a c=>[.str d]++b.cells++[.sl (eL a),.sl (eL c),.int .i64 0,.int .i64 0]
def b_:List aH->List (List D)
 |[]=>[]
 |a::l=>a.cells::b_ l
def bF.cells:bF->List D
 |.mk b a=>[.sl (ax b),.sl (bI a)]
def bI:List aD->List (List D)
 |[]=>[]
 |q::l=>q.cells::bI l
end
def jF(l:List aH):b_ l=l.map aH.cells:=by induction l with
 |nil=>rfl
 |cons b l a=>simp[b_,a]
def kC(l:List aD):bI l=l.map aD.cells:=by induction l with
 |nil=>rfl
 |cons b l a=>simp[bI,a]
def bF.shape(b:bF):∃v q,b.cells=[.sl v,.sl q]:=by cases b;exact⟨_,_,by rw[bF.cells]⟩
def aD.len(q:aD):q.cells.length=16:=by cases q<;>rw[aD.cells]<;>simp[eW,E.len]
def aH.len(a:aH):a.cells.length=7:=by
 obtain⟨c,b,u,w⟩:=a;obtain⟨v,q,h⟩:=b.shape;rw[aH.cells,h];rfl
structure Nd where
 name:Nm
 ins:List Va
 outs:List Va
 b:bF
def Nd.cells(n:Nd):List D:=[.str n.name,.sl (ax n.ins),.sl (ax n.outs)]++n.b.cells++[.int .i64 0,.int .i64 0]
def kJ(l:List Nd):List (List D):=l.map Nd.cells
abbrev Da:List D:=[.str mj,.sl [[.str cR],[.str bT],[.str eK]],.int .i64 0,.int .i64 0]
abbrev IY(l:List Nd):List D:=[.sl [Da],.sl (kJ l)]
def dg(n:Nat):Nm:=if h:n<10 then strOfNums [IntKind.u8.wrap (48+(n:Int))]else dg (n/10)++strOfNums [IntKind.u8.wrap (48+((n%10:Nat):Int))]
def hU(n:Nat):(dg n).size<=n+1:=by
 induction n using Nat.strongRecOn with
 |ind n a=>
  rw[dg];split
  .simp[strOfNums,ByteArray.size]
  .have:=a (n/10) (by omega);rw[ajM];have b:(strOfNums [IntKind.u8.wrap (48+((n%10:Nat):Int))]).size=1:=by simp[strOfNums,ByteArray.size]
   omega
def nm(c:UInt8)(k:Nat):Nm:=⟨#[c]⟩++dg k
structure Sc where
 ready:List Va
 all:List Va
 aO:List Va
abbrev Sc.cells(s:Sc):List D:=[.sl (ax s.ready),.sl (ax s.all),.sl (ax s.aO)]
def Sc.more(s:Sc)(l:List Va):Sc:=⟨s.ready++l,s.all,s.aO⟩
inductive GC:Ty->E->Prop where
 |bool {n:Int} (h:n=0\/n=1):GC .bool (.bool n)
 |int {n:Int} (h:n∈[(0:Int),1,2,-1,7,-2147483648]):GC .int (.int n)
 |jh {s:Nm} (h:s∈[cR,bT,eK]):GC .jh (.ctor s)
def FO(l:List Va)(t:Ty)(x:Nm):Prop:=∃v∈l,v.ty=t/\v.clock=none/\v.name=x
inductive GV(l:List Va)(t:Ty):E->Prop where
 |Lp {e:E} (h:GC t e):GV l t e
 |var {x:Nm} (h:FO l t x):GV l t (.var x)
inductive GE:Sc->Ty->Bool->Nat->E->Prop where
 |v {s t st d e} (h:GV s.ready t e):GE s t st d e
 |c {s t st d e} (h:GC t e):GE s t st (d+1) e
 |ite {s t st d c a b} (f:GE s .bool st d c) (g:GE s t st d a) (i:GE s t st d b):GE s t st (d+1) (.ite c a b)
 |sg {s t d c a} (f:GC t c) (g:GE ⟨s.all,s.all,s.aO⟩ t true d a):GE s t true (d+1) (.sg c a)
 |arrow {s t d a b} (f:GE s t true d a) (g:GE ⟨s.all,s.all,s.aO⟩ t true d b):GE s t true (d+1) (.arrow a (.pre b))
 |last {s t st d x} (h:FO s.aO t x):GE s t st (d+1) (.last x)
 |neg {s st d a} (f:GE s .int st d a):GE s .int st (d+1) (.un 2 a)
 |arith {s st d a b} (op:Int) (i:op∈[(3:Int),4,5,6,7]) (f:GE s .int st d a) (g:GE s .int st d b):GE s .int st (d+1) (.bin op a b)
 |not {s st d a} (f:GE s .bool st d a):GE s .bool st (d+1) (.un 1 a)
 |rk {s st d a b} (op:Int) (u:Ty) (i:op∈[(8:Int),9,10]/\u=.bool\/op∈[(13:Int),16]/\u=.int\/op=11) (f:GE s u st d a) (g:GE s u st d b):GE s .bool st (d+1) (.bin op a b)
end Go.Mk
namespace Go.Proofs
open Go.Mt Go.Mk
open Tryz
structure GS where
 i:Nat
 n:Nat
 q:Int
abbrev fo(v:D)(i:Nat):List M:=[.d v,.d (.int .i64 ((i:Nat):Int))]
abbrev jI(n:Nat)(q:Int)(av:Nat)(main:Bool):List M:=[.ref 0 0,.d (.int .i64 ((n:Nat):Int)),.d (.int .i64 q),.d (.int .i64 ((av:Nat):Int)),.d (.bool main)]
abbrev GH(v:D)(av:Nat)(main:Bool)(g:GS):Hp:=[.box (fo v g.i),.box (jI g.n g.q av main)]
structure Tape(a:List Int)(v:D):Prop where
 jc:La .u8 a v
 hl:a.length<=1000
structure Rd(a:List Int)(k j:Nat)(g g':GS):Prop where
 lt:j<k
 n:g'.n=g.n
 q:g'.q=g.q
 i:g.i<=g'.i
 le:g'.i<=a.length
 oO:j≠0->g.i<g'.i
def IZ{n:Int}(h:(Lit.int .u8 n).wf=true):0<=n/\n<256:=by
 simp only[Lit.wf,aiI,decide_eq_true_eq]at h;have a:IntKind.u8.min=0:=by decide
 have a:IntKind.u8.max=255:=by decide
 omega
section
variable{zs:List Int}{v:D}(ht:Tape zs v)(av:Nat)(main:Bool)
include ht
theorem fh(k:Nat)(b:0<k)(s:k<=1000)(g:GS)(c:g.i<=zs.length):DT prog 58 [.ref 0 0,.d (.int .i64 ((k:Nat):Int))] (GH v av main g) λr K=>∃(j:Nat) (g':GS),r=.d (.int .i64 ((j:Nat):Int))/\K=GH v av main g'/\Rd zs k j g g':=by
 obtain⟨⟨f,h,l⟩,t⟩:=ht;obtain⟨i,n,q⟩:=g;simp only at c;refine DT.ob func58 W ntmps58 W ?_;show DC _ _ _ _ ⟨_,_,[.box (fo v i),.box (jI n q av main)]⟩ _;refine dC [2] W ?_;rcases ais i zs.length with a|a
 rotate_left
 .have d:decide (((i:Nat):Int)>=(zs.length:Int))=true:=aiS (by omega);refine dC [] W ?_;apply Mz fK
  .intro e m;refine fR 8 W<|lY W W f<|kV W W W (r:=.bool true) (by show some (D.bool (decide _))=_;rw[d])<|TF.nil ⟨by kernel_rfl,rfl⟩
  refine dC [1,2] W<|DC.ret ⟨_,W,0,⟨i,n,q⟩,W,W,b,W,W,ah9 _,c,λh=>absurd W h⟩
 .have m:decide (((i:Nat):Int)>=(zs.length:Int))=false:=ai1 (by omega);obtain rfl:v=.sl (kW .u8 zs):=h.resolve_left (by grind);have d:(kW .u8 zs)[((i:Nat):Int).toNat]?=some [.int .u8 zs[i]]:=yk (aiM a);have e:=IZ (l zs[i] (aif a));generalize zs[i]=z at d e;obtain⟨z,rfl⟩:=akT e.1;have o:((i:Nat):Int)+1-1=(i:Int):=by omega
  have p:Int.tmod (z:Int) (k:Int)=((z%k:Nat):Int):=rfl;refine dC [] W ?_;apply Mz fK
  .intro u w;refine fR 8 W<|lY W W f<|kV W W W (r:=.bool false) (by show some (D.bool (decide _))=_;rw[m])<|TF.nil ⟨by kernel_rfl,rfl⟩
  refine dO [0,2,23] W<|Mq (bc W W W (by omega))<|dR [999] W<|Mq (cd W W W W W W)<|dL [] W ?_;apply Mz fK
  .intro u w;refine fR 8 W<|fO W W W (by omega) ?_;rw[o];refine bE W W W (ah7 i) d W<|fR 1 W<|Cl W W ?_;rw[IntWalk.i64_in _ ⟨by omega,by omega⟩];refine fR 1 W<|DU W W W (by simp;omega) ?_;rw[p];refine fR 1 W<|TF.nil ⟨by kernel_rfl,rfl⟩
  exact DC.ret ⟨_,W,z%k,⟨i+1,n,q⟩,W,W,aj1 _ b,W,W,ajR _,a,λ_=>ajU _⟩
end
def lR:∀(k n:Nat),n<k->n<=1000000->PT prog 113 [.int .i64 ((n:Nat):Int)] (·=[.str (dg n)])
 |0,n,h,_=>by omega
 |k+1,n,h,e=>by
  refine ML (CT.ob func113 W ntmps113 W λf g=>?_);refine tC [2] W ?_;rcases ais n 10 with a|a
  .have b:dg n=strOfNums [IntKind.u8.wrap (48+(n:Int))]:=by rw[dg,dif_pos a]
   refine tO [2,8] W<|ay W W W (r:=.bool true) (by show some (D.bool (decide _))=_;rw[show decide ((n:Int)<10)=true from aiS (by omega)])<|tR [1,2,10] W<|bc W W W (by omega)<|tR [13] W<|KY W W W<|tL [] W<|TC.ret ⟨_,rfl,[_],rfl,by rw[b]⟩
  .have b:dg n=dg (n/10)++strOfNums [IntKind.u8.wrap (48+((n%10:Nat):Int))]:=by rw[dg,dif_neg (by omega)]
   have c:IntKind.i64.wrap (Int.tdiv (n:Int) 10)=((n/10:Nat):Int):=by
    rw[show Int.tdiv (n:Int) 10=((n/10:Nat):Int)from rfl];exact IntWalk.i64_in _ ⟨by omega,by omega⟩
   have d:Int.tmod (n:Int) 10=((n%10:Nat):Int):=rfl;have i:=hU (n/10);have j:(strOfNums [IntKind.u8.wrap (48+((n%10:Nat):Int))]).size=1:=by simp[strOfNums,ByteArray.size]
   refine tO [2,8] W<|ay W W W (r:=.bool false) (by show some (D.bool (decide _))=_;rw[show decide ((n:Int)<10)=false from ai1 (by omega)])<|tL [0] W<|OP fK<|fR 1 W<|KW W W W W ?_;rw[c];refine bm ((lR k (n/10)) (by omega) (by omega)) W W<|fR 1 W<|DU W W W W ?_;rw[d];refine HJ W W W (by omega)<|fR 2 W<|KZ W W W<|oX W W W (by omega)<|fR 1 W<|TF.nil ⟨by kernel_rfl,?_⟩;exact TC.ret ⟨_,W,[_],W,by rw[b]⟩
def dQ:PT prog 114 [] (·=[.agg Ty.int.cells]):=by
 refine ML (CT.ob func114 W ntmps114 W λa b=>?_);refine tC [2,2] W<|TC.ret ⟨_,W,[_],W,W⟩
def jr:PT prog 115 [] (·=[.agg Ty.bool.cells]):=by
 refine ML (CT.ob func115 W ntmps115 W λa b=>?_);refine tC [2,2] W<|TC.ret ⟨_,W,[_],W,W⟩
def j5:PT prog 27 [] (·=[.agg Ty.jh.cells]):=by
 refine ML (CT.ob func27 W ntmps27 W λa b=>?_);refine tC [2,2] W<|TC.ret ⟨_,W,[_],W,W⟩
instance:t_ prog 53:=⟨by kernel_rfl⟩
instance:aW prog 58:=dM (by kernel_rfl)
instance:aW prog 113:=dM (by kernel_rfl)
instance:aW prog 114:=dM (by kernel_rfl)
instance:aW prog 115:=dM (by kernel_rfl)
instance:aW prog 27:=dM (by kernel_rfl)
structure Mv(a:List Int)(g g':GS):Prop where
 n:g'.n=g.n
 q:g'.q=g.q
 i:g.i<=g'.i
 le:g'.i<=a.length
def Rd.mv{a:List Int}{k j:Nat}{g g':GS}(h:Rd a k j g g'):Mv a g g':=⟨h.n,h.q,h.i,h.le⟩
def Mv.trans{d:List Int}{a b c:GS}(h:Mv d a b)(k:Mv d b c):Mv d a c:=⟨k.n.trans h.n,k.q.trans h.q,aiz h.i k.i,k.le⟩
def nU(v:D)(av:Nat)(a:Bool)(g:GS):HB 2 (GH v av a g):=JC (H:=GH v av a g) W
section
variable{zs:List Int}{v:D}(ht:Tape zs v)(av:Nat)(main:Bool)
include ht
theorem pf(c:UInt8)(g:GS)(b:g.i<=zs.length)(a:g.n<=100000):DT prog 166 [.ref 1 0,.d (.str ⟨#[c]⟩)] (GH v av main g) λr K=>r=.d (.str (nm c (g.n+1)))/\K=GH v av main ⟨g.i,g.n+1,g.q⟩:=by
 obtain⟨i,n,q⟩:=g;have d:=hU (n+1);simp only at a;refine DT.ob func166 W ntmps166 W ?_;show DC _ _ _ _ ⟨_,_,[.box (fo v i),.box (jI n q av main)]⟩ _;refine dO [2,2,13] W<|Mq (bc W W W (by omega))<|dR [999] W<|Mq (cd W W W W W W)<|dR [2,21] W<|Mq (aX (lR (n+2) (n+1) (by omega) (by grind)) W W)<|dR [22] W<|Mq (ky W W W (by have:(⟨#[c]⟩:ByteArray).size=1:=rfl;omega))<|dL [] W<|DC.ret ⟨_,rfl,rfl,rfl⟩
def xv(g:GS)(b:g.i<=zs.length):DT prog 167 [.ref 1 0] (GH v av main g) λr K=>∃(t:Ty) (g':GS),r=.d (.agg t.cells)/\K=GH v av main g'/\Mv zs g g':=by
 obtain⟨r,K,⟨j,g',rfl,rfl,a⟩,c⟩:=fh ht av main 4 (by omega) (by omega) g b;refine DT.ob func167 W ntmps167 W<|dO [2,2,11] W<|Mq (aA c W W)<|dL [] W ?_;have d:j=0\/j=1\/j=2\/j=3:=by have:=a.lt;omega
 refine dC [3] W ?_;rcases d with rfl|rfl|rfl|rfl
 .refine dO [2,1,1,2,15] W<|Mq (aX dQ W W)<|dL [] W<|DC.ret ⟨_,W,.int,g',W,W,a.mv⟩
 .refine dO [2,0,2,1,2,15] W<|Mq (aX dQ W W)<|dL [] W<|DC.ret ⟨_,W,.int,g',W,W,a.mv⟩
 .refine dO [2,0,2,0,2,1,2,18] W<|Mq (aX jr W W)<|dL [] W<|DC.ret ⟨_,W,.bool,g',W,W,a.mv⟩
 .refine dO [2,0,2,0,2,0,2,19] W<|Mq (aX j5 W W)<|dL [] W<|DC.ret ⟨_,W,.jh,g',W,W,a.mv⟩
def iA(t:Ty)(g:GS)(d:g.i<=zs.length):DT prog 116 [.ref 1 0,.d (.agg t.cells)] (GH v av main g) λr K=>∃(e:E) (g':GS),r=.d (.agg e.cells)/\K=GH v av main g'/\GC t e/\Mv zs g g':=by
 obtain⟨r,K,⟨j,g',rfl,rfl,c⟩,f⟩:=fh ht av main 6 (by omega) (by omega) g d;refine DT.ob func116 W ntmps116 W<|dO [2,2,16] W<|Mq (aA f W W)<|dL [2,3] W ?_;have n:=c.lt;have a:=c.mv;cases t with
 |bool=>
  have h:∃b:Int,(b=0\/b=1)/\IntKind.i32.wrap (((j:Nat):Int).tmod 2)=b:=by
   have:j=0\/j=1\/j=2\/j=3\/j=4\/j=5:=by omega
   rcases this with rfl|rfl|rfl|rfl|rfl|rfl
   .exact⟨0,.inl W,by decide⟩
   .exact⟨1,.inr W,by decide⟩
   .exact⟨0,.inl W,by decide⟩
   .exact⟨1,.inr W,by decide⟩
   .exact⟨0,.inl W,by decide⟩
   .exact⟨1,.inr W,by decide⟩
  obtain⟨b,i,k⟩:=h;refine dO [2,1,2,22] W<|Mq (DP W W W W)<|dR [23] W<|Mq (HM W W) ?_;rw[k];refine dL [] W<|DC.ret ⟨_,W,.bool b,g',W,W,.bool i,a⟩
 |int=>
  have h:∃z:Int,z∈[(0:Int),1,2,-1,7,-2147483648]/\([[D.int .i32 0],[.int .i32 1],[.int .i32 2],[.int .i32 (-1)],[.int .i32 7],[.int .i32 (-2147483648)]]:List (List D))[((j:Nat):Int).toNat]?=some [.int .i32 z]:=by
   have:j=0\/j=1\/j=2\/j=3\/j=4\/j=5:=by omega
   rcases this with rfl|rfl|rfl|rfl|rfl|rfl
   .exact⟨0,by simp,rfl⟩
   .exact⟨1,by simp,rfl⟩
   .exact⟨2,by simp,rfl⟩
   .exact⟨-1,by simp,rfl⟩
   .simp_all
   .simp_all
  obtain⟨z,k,i⟩:=h;refine dO [2,0,2,1,2,2,30] W<|Mq (bH W W W (ah7 j) i W)<|dL [] W<|DC.ret ⟨_,W,.int z,g',W,W,.int k,a⟩
 |jh=>
  have i:∃s:Nm,s∈[cR,bT,eK]/\([[D.str cR],[.str bT],[.str eK]]:List (List D))[(((j%3:Nat):Int)).toNat]?=some [.str s]:=by
   have:j%3=0\/j%3=1\/j%3=2:=by omega
   rcases this with h|h|h<;>rw[h]
   .simp_all
   .simp_all
   .simp_all
  obtain⟨s,l,k⟩:=i;have m:Int.tmod (j:Int) 3=((j%3:Nat):Int):=rfl;refine dO [2,0,2,0,2,2,36] W<|Mq (DP W W W W) ?_;rw[m];refine dR [37] W<|Mq (bH W W W (ah7 _) k W)<|dL [] W<|DC.ret ⟨_,W,.ctor s,g',W,W,.jh l,a⟩
end
def jQ(w:Va):∃a c d e f g h i,w.cells=[.str w.name,.int .u8 w.ty.kind,.str w.ty.nm,.sl (bA w.clock),.bool w.last,a,c,d,e,f,g,h,i,.int .i64 0,.int .i64 0]/\w.first.cells=[a,c,d,e,f,g,h,i]:=by
 obtain⟨k,c,n,s,a,b,h⟩:=w.first.shape;exact⟨_,_,_,_,_,_,_,_,by simp only[Va.cells,h,bh];rfl,h⟩
def I0(a b:Ty):(decide (a.kind=b.kind)&&decide (a.nm=b.nm))=decide (a=b):=by cases a<;>cases b<;>rfl
def kf(k op:Int)(a b:E):PT prog 264 [.int .u8 k,.int .u8 op,.agg a.cells,.agg b.cells] (·=[.agg (bh k op 0 ⟨#[]⟩ [] [a.cells,b.cells])]):=by
 obtain⟨e,f,g,h,i,j,c⟩:=a.shape;obtain⟨l,m,n,o,p,q,d⟩:=b.shape;rw[c,d];refine ML (CT.ob func264 W ntmps264 W λr s=>?_);refine tC [2,2] W<|TC.ret ⟨_,W,[_],W,W⟩
theorem J7(l:List Va)(x:Nm)(h:l.length<=100000):PT prog 168 [.sl (ax l),.str x] (·=[.bool (l.any λw=>decide (w.name=x))]):=by
 refine ML (CT.ob func168 W ntmps168 W λj m=>?_);refine tC [2,2] W<|Pa [(5,.m (.d (.int .i64 ((0:Nat):Int)))),(1,.m (.d (.str x))),(0,.m (.d (.sl (ax l))))] [] W W<|tC [3] W<|TC.lp (λk s=>∃(i:Nat),s=⟨[(5,.m (.d (.int .i64 (i:Int)))),(1,.m (.d (.str x))),(0,.m (.d (.sl (ax l))))],[],[]⟩/\i<=l.length/\(∀w∈l.take i,¬w.name=x)/\k=l.length-i) l.length _
  ⟨0,rfl,by omega,by simp,rfl⟩ W ?_
 rintro k s ⟨i,rfl,n,d,rfl⟩;refine tO [2,12] W<|aY W W W ?_;rw[br];refine tL [] W<|TC.cond W (λa=>?_) (λa=>?_)
 .have b:i<l.length:=by grind
  have c:=jP b;have e:=aif b;have f:=ah5 b;generalize l[i]=w at c e f;obtain⟨o,p,q,r,t,u,v,y,g,_⟩:=jQ w;rw[g]at c;refine tO [3,2,18] W<|bH W W W (ah7 i) c W<|tL [] W<|TC.cond W (λa=>?_) (λa=>?_)
  .have z:=aic a;refine tC [2] W<|TC.ret ⟨_,W,[_],W,by grind⟩
  .have z:=aie a;refine tO [2,15] W<|bc W W W (by omega)<|tL [] W<|again (k':=l.length-(i+1)) (by omega) ⟨i+1,rfl,by omega,by grind,rfl⟩ W W
 .refine TC.exit ?_;have b:i=l.length:=by grind
  subst b;rw[aih]at d;refine tC [2] W<|TC.ret ⟨_,W,[_],W,by grind⟩
def rl(s:Sc)(l:List Va)(a:s.ready.length<=10000)(b:l.length<=10000):PT prog 170 [.agg s.cells,.sl (ax l)] (·=[.agg (s.more l).cells]):=by
 refine ML (CT.ob func170 W ntmps170 W λa b=>?_);refine tO [2,2,2,13] W<|Ft (n:=15) W W W W (by rfl) (bD _) (by rw[br];omega)<|tR [2,16] W<|JE (r1:=ax s.ready) (r2:=ax l) W W W W (by rfl) (bD _) (bD _) (by rw[br,br];omega) (by rw[br,br];omega)<|tL [2] W<|TC.ret ⟨_,rfl,[_],rfl,by rw[<-gU];rfl⟩
section
variable{zs:List Int}{v:D}(ht:Tape zs v)(av:Nat)(main:Bool)
include ht
theorem Db(l:List Va)(A:l.length<=100000)(t:Ty)(g:GS)(m:g.i<=zs.length):DT prog 265 [.ref 1 0,.d (.sl (ax l)),.d (.agg t.cells)] (GH v av main g) λr K=>∃(x:Nm) (b:Bool) (g':GS),r=.c_ [.d (.str x),.d (.bool b)]/\K=GH v av main g'/\Mv zs g g'/\(b=true->FO l t x):=by
 obtain⟨r,K,⟨j,g',rfl,rfl,e⟩,a⟩:=fh ht av main 7 (by omega) (by omega) g m;have B:=e.lt;have f:=e.mv;refine DT.ob func265 W ntmps265 W<|dO [2,2,19] W<|Mq (aA a W W)<|dL [] W<|dC [2] W<|M5 [(9,.m (.d (.int .i64 ((0:Nat):Int)))),(8,.m (.d (.int .i64 ((j:Nat):Int)))),(5,.m (.d (.bM t.cells 0))),(1,.m (.d (.sl (ax l))))] (GH v av main g') W W<|dC [3] W<|OY (λk s=>∃(i:Nat) (a:List (Nat×List M)),s=⟨[(9,.m (.d (.int .i64 (i:Int)))),(8,.m (.d (.int .i64 ((j:Nat):Int)))),(5,.m (.d (.bM t.cells 0))),(1,.m (.d (.sl (ax l))))],a,GH v av main g'⟩/\i<=l.length/\k=l.length-i) l.length _
  ⟨0,_,rfl,by omega,rfl⟩ W ?_
 rintro u y ⟨i,C,rfl,D,rfl⟩;refine dO [2,22] W<|Mq (aY W W W) ?_;rw[br];refine dL [] W<|DC.cond W (λa=>?_) (λa=>?_)
 .have E:i<l.length:=by grind
  have h:(i+j)%l.length<l.length:=aj1 _ (by omega);have d:=jP h;have k:=aif h;generalize l[(i+j)%l.length]=w at d k;obtain⟨F,G,H,I,J,L,N,O,n,_⟩:=jQ w;rw[n]at d;have o:((i:Nat):Int)+(j:Int)=((i+j:Nat):Int):=by omega
  have p:Int.tmod ((i+j:Nat):Int) (l.length:Int)=(((i+j)%l.length:Nat):Int):=rfl;refine dO [3,2,29] W<|Mq (bc W W W (by omega)) ?_;rw[o];refine dR [31] W<|Mq (aY W W W) ?_;rw[br];refine dR [32] W<|Mq (DP W W W (ajo.2 (by omega))) ?_;rw[p];refine dR [33] W<|Mq (bH W W W (ah7 _) d W)<|dL [] W ?_;rcases Classical.em (w.ty=t)with c|c
  .refine dO [2,38] W<|Mq (Fu W W W) ?_;rw[I0,aiS c];refine dL [] W<|DC.cond W (λa=>?_) (λa=>?_)
   .have q:w.clock=none:=by
     rcases s:w.clock with _|⟨z,b⟩
     .rfl
     .rw[s]at a;cases a
    refine dC [2] W<|DC.ret ⟨_,W,w.name,true,g',W,W,f,λ_=>⟨w,k,c,q,rfl⟩⟩
   .refine dO [2,25] W<|Mq (bc W W W (by omega))<|dL [] W<|bf (k':=l.length-(i+1)) (by omega) ⟨i+1,_,rfl,by omega,rfl⟩ W W
  .refine dO [2,38] W<|Mq (Fu W W W) ?_;rw[I0,ai1 c];refine dR [0,2,25] W<|Mq (bc W W W (by omega))<|dL [] W<|bf (k':=l.length-(i+1)) (by omega) ⟨i+1,_,rfl,by omega,rfl⟩ W W
 .refine DC.exit<|dC [2] W<|DC.ret ⟨_,W,_,false,g',W,W,f,λh=>by cases h⟩
end
instance:aW prog 265:=dM (by kernel_rfl)
instance:aW prog 116:=dM (by kernel_rfl)
section
variable{zs:List Int}{v:D}(ht:Tape zs v)(av:Nat)(main:Bool)
include ht
def mV(l:List Va)(h:l.length<=100000)(t:Ty)(g:GS)(i:g.i<=zs.length):DT prog 263 [.ref 1 0,.d (.sl (ax l)),.d (.agg t.cells)] (GH v av main g) λr K=>∃(e:E) (g':GS),r=.d (.agg e.cells)/\K=GH v av main g'/\GV l t e/\Mv zs g g':=by
 obtain⟨r,K,⟨x,b,g',rfl,rfl,a,j⟩,k⟩:=Db ht av main l h t g i;obtain⟨p,q,⟨c,m,rfl,rfl,n,o⟩,d⟩:=iA ht av main t g' a.le;refine DT.ob func263 W ntmps263 W<|dO [2,2,17] W<|Mq (aA k W W)<|dL [] W ?_;cases b with
 |false=>
  obtain⟨s,u,w,y,z,A,f⟩:=c.shape;rw[f]at d;refine dO [2,1,2,24] W<|Mq (aA d W W)<|dL [] W<|DC.ret ⟨_,W,c,m,by rw[f];rfl,rfl,.Lp n,a.trans o⟩
 |true=>
  refine dC [2,0,2] W<|DC.ret ⟨_,W,.var x,g',W,W,.var (j W),a⟩
end
instance:aW prog 263:=dM (by kernel_rfl)
instance:aW prog 264:=dM (by kernel_rfl)
instance:aW prog 223:=dM (by kernel_rfl)
instance:aW prog 266:=dM (by kernel_rfl)
instance:aW prog 167:=dM (by kernel_rfl)
structure vT(s:Sc):Prop where
 ready:s.ready.length<=100000
 all:s.all.length<=100000
 aO:s.aO.length<=100000
def vT.wide{s:Sc}(h:vT s):vT ⟨s.all,s.all,s.aO⟩:=⟨h.all,h.all,h.aO⟩
section
variable(zs:List Int)(v:D)(av:Nat)(main:Bool)
def uF(d:Nat):Prop:=∀(s:Sc),vT s->∀(t:Ty) (a:Bool) (g:GS),g.i<=zs.length->DT prog 223 [.ref 1 0,.d (.agg s.cells),.d (.agg t.cells),.d (.int .i64 ((d:Nat):Int)),.d (.bool a)] (GH v av main g) λr K=>∃(e:E) (b:GS),r=.d (.agg e.cells)/\K=GH v av main b/\GE s t a d e/\Mv zs g b
def J8(d:Nat):Prop:=∀(s:Sc),vT s->∀(t:Ty) (a:Bool) (g:GS),g.i<=zs.length->DT prog 266 [.ref 1 0,.d (.agg s.cells),.d (.agg t.cells),.d (.int .i64 ((d:Nat):Int)),.d (.bool a)] (GH v av main g) λr K=>∃(e:E) (b:GS),r=.d (.agg e.cells)/\K=GH v av main b/\GE s t a d e/\Mv zs g b
end
section
variable{zs:List Int}{v:D}(ht:Tape zs v)(av:Nat)(main:Bool)
include ht
def I1(d:Nat)(O:d<=100)(g:uF zs v av main d):J8 zs v av main (d+1):=by
 intro s c F f u G;obtain⟨P,Q,⟨j,i,rfl,rfl,w⟩,h⟩:=fh ht av main 6 (by omega) (by omega) u G;have R:=w.lt;have a:=w.mv;have b:((d+1:Nat):Int)-1=(d:Int):=by omega
 cases F with
 |jh=>
  obtain⟨t,x,⟨k,n,rfl,rfl,o,q⟩,l⟩:=mV ht av main s.ready c.ready .jh i a.le;obtain⟨y,z,A,B,C,H,m⟩:=k.shape;rw[m]at l;refine DT.ob func266 W ntmps266 W<|dO [2,2,25] W<|Mq (aA h W W)<|dR [2,3,2,0,2,0,2,116] W<|Mq (aA l W W)<|dL [] W<|DC.ret ⟨_,W,k,n,by rw[m];rfl,rfl,.v o,a.trans q⟩
 |int=>
  obtain⟨N,S,⟨k,x,rfl,rfl,y,m⟩,n⟩:=g s c .int f i a.le;obtain⟨r2,K2,⟨o,B,rfl,rfl,C,H⟩,z⟩:=g s c .int f x m.le;obtain⟨T,U,V,X,Y,Z,l⟩:=k.shape;obtain⟨k2,SL,n2,s2,a2,b2,q⟩:=o.shape;have A:= λa=>kf 7 a k o
  rw[l]at n;rw[q]at z;rw[l,q]at A;rcases ais j 5 with I|I
  .have J:∃a:Int,a∈[(3:Int),4,5,6,7]/\([[D.int .u8 3],[.int .u8 4],[.int .u8 5],[.int .u8 6],[.int .u8 7]]:List (List D))[((j:Nat):Int).toNat]?=some [.int .u8 a]:=by
    have:j=0\/j=1\/j=2\/j=3\/j=4:=by omega
    rcases this with rfl|rfl|rfl|rfl|rfl
    .grind
    .grind
    .grind
    .grind
    .grind
   obtain⟨t,K,L⟩:=J;have M:(((j:Nat):Int)==5)=false:=ajo.2 (by omega);refine DT.ob func266 W ntmps266 W<|dO [2,2,25] W<|Mq (aA h W W)<|dR [2,3,2,1,2,2,32] W<|Mq (dW M W W W W)<|dR [0,2,46] W<|Mq (cj W W W (by omega)) ?_;rw[b];refine dR [48] W<|Mq (aA n W W)<|dL [] W ?_;apply Mz fK
   .intro s0 Oo;refine fR 2 W<|bE W W W (ah7 j) L W<|fR 6 W<|fO W W W (by omega) ?_;rw[b];refine fR 1 W<|bB z W W<|bm (A t) W W<|fR 1 W<|TF.nil ⟨by kernel_rfl,rfl⟩
   exact DC.ret ⟨_,W,.bin t k o,B,by rw[E.cells,l,q];rfl,rfl,.arith t K y C,a.trans (m.trans H)⟩
  .obtain rfl:j=5:=by omega
   refine DT.ob func266 W ntmps266 W<|dO [2,2,25] W<|Mq (aA h W W)<|dR [2,3,2,1,2,2,1,2,37] W<|Mq (cj W W W (by omega)) ?_;rw[b];refine dR [39] W<|Mq (aA n W W)<|dL [] W<|DC.ret ⟨_,W,.un 2 k,x,by rw[E.cells,l];rfl,rfl,.neg y,a.trans m⟩
 |bool=>
  refine DT.mono (p:= λr K=>∃(e:E) (a:GS),r=.d (.agg e.cells)/\K=GH v av main a/\GE s .bool f (d+1) e/\Mv zs u a) ?_ (λ_ _ h=>h);have L:j=0\/j=1\/j=2\/j=3\/j=4\/j=5:=by omega
  rcases L with rfl|rfl|rfl|rfl|rfl|rfl
  .skip
   obtain⟨r3,K3,⟨B,M,rfl,rfl,N⟩,C⟩:=fh ht av main 3 (by omega) (by omega) i a.le;have t:=N.mv;obtain⟨S,T,⟨k,x,rfl,rfl,y,m⟩,n⟩:=g s c .bool f M t.le;obtain⟨r2,K2,⟨o,H,rfl,rfl,I,J⟩,z⟩:=g s c .bool f x m.le;obtain⟨U,V,X,Y,Z,b1,l⟩:=k.shape;obtain⟨k2,SL,n2,s2,a2,b2,q⟩:=o.shape;rw[l]at n;rw[q]at z;rcases aiO B with rfl|ac
   .skip
    refine DT.ob func266 W ntmps266 W<|dO [2,2,25] W<|Mq (aA h W W)<|dR [2,3,2,0,2,1,2,2,2,0,2,0,2,80] W ?_
    first|refine Mq (bN W W) ?_|(refine Mq (az W) ?_;refine Mq (aA C W W) ?_)
    refine dR [1,2,87] W<|Mq (cj W W W (by omega)) ?_;rw[b];refine dR [89] W<|Mq (aA n W W)<|dL [] W<|DC.ret ⟨_,W,.un 1 k,x,by rw[E.cells,l];rfl,rfl,.not y,a.trans (t.trans m)⟩
   .skip
    have K:(((B:Nat):Int)==0)=false:=ajo.2 (by omega);refine DT.ob func266 W ntmps266 W<|dO [2,2,25] W<|Mq (aA h W W)<|dR [2,3,2,0,2,1,2,2,2,0,2,0,2,80] W ?_
    first|refine Mq (bN W W) ?_|(refine Mq (az W) ?_;refine Mq (aA C W W) ?_)
    refine dR [81] W ?_
    first|refine Mq (bN W W) ?_|(refine Mq (az W) ?_;refine Mq (dW K W W W W) ?_)
    refine dL [0] W ?_;have A:=kf 7 8 k o;rw[l,q]at A;refine dO [2,96] W<|Mq (cj W W W (by omega)) ?_;rw[b];refine dR [98] W<|Mq (aA n W W)<|dL [] W ?_;apply Mz fK
    .intro s0 Oo;refine fR 2 W<|bE W W W (by decide) (r:=[.int .u8 8]) W W<|fR 6 W<|fO W W W (by omega) ?_;rw[b];refine fR 1 W<|bB z W W<|bm A W W<|fR 1 W<|TF.nil ⟨by kernel_rfl,rfl⟩
    exact DC.ret ⟨_,W,.bin 8 k o,H,by rw[E.cells,l,q];rfl,rfl,.rk 8 _ (.inl ⟨by simp,rfl⟩) y I,a.trans (t.trans (m.trans J))⟩
  .skip
   obtain⟨H,I,⟨k,y,rfl,rfl,z,o⟩,q⟩:=g s c .bool f i a.le;obtain⟨U,V,⟨m,A,rfl,rfl,B,C⟩,t⟩:=g s c .bool f y o.le;obtain⟨J,K,M,N,S,T,l⟩:=k.shape;obtain⟨X,Y,Z,s2,a2,b2,n⟩:=m.shape;rw[l]at q;rw[n]at t;refine DT.ob func266 W ntmps266 W<|dO [2,2,25] W<|Mq (aA h W W)<|dL [2,3,2,0,2,1,2,2,2,0,2,0,2,0] W ?_;have x:=kf 7 9 k m;rw[l,n]at x;refine dO [2,96] W<|Mq (cj W W W (by omega)) ?_;rw[b];refine dR [98] W<|Mq (aA q W W)<|dL [] W ?_;apply Mz fK
   .intro s0 Oo;refine fR 2 W<|bE W W W (by decide) (r:=[.int .u8 9]) W W<|fR 6 W<|fO W W W (by omega) ?_;rw[b];refine fR 1 W<|bB t W W<|bm x W W<|fR 1 W<|TF.nil ⟨by kernel_rfl,rfl⟩
   exact DC.ret ⟨_,W,.bin 9 k m,A,by rw[E.cells,l,n];rfl,rfl,.rk 9 _ (.inl ⟨by simp,rfl⟩) z B,a.trans (o.trans C)⟩
  .skip
   obtain⟨H,I,⟨k,y,rfl,rfl,z,o⟩,q⟩:=g s c .bool f i a.le;obtain⟨U,V,⟨m,A,rfl,rfl,B,C⟩,t⟩:=g s c .bool f y o.le;obtain⟨J,K,M,N,S,T,l⟩:=k.shape;obtain⟨X,Y,Z,s2,a2,b2,n⟩:=m.shape;rw[l]at q;rw[n]at t;refine DT.ob func266 W ntmps266 W<|dO [2,2,25] W<|Mq (aA h W W)<|dL [2,3,2,0,2,1,2,2,2,0,2,0,2,0] W ?_;have x:=kf 7 10 k m;rw[l,n]at x;refine dO [2,96] W<|Mq (cj W W W (by omega)) ?_;rw[b];refine dR [98] W<|Mq (aA q W W)<|dL [] W ?_;apply Mz fK
   .intro s0 Oo;refine fR 2 W<|bE W W W (by decide) (r:=[.int .u8 10]) W W<|fR 6 W<|fO W W W (by omega) ?_;rw[b];refine fR 1 W<|bB t W W<|bm x W W<|fR 1 W<|TF.nil ⟨by kernel_rfl,rfl⟩
   exact DC.ret ⟨_,W,.bin 10 k m,A,by rw[E.cells,l,n];rfl,rfl,.rk 10 _ (.inl ⟨by simp,rfl⟩) z B,a.trans (o.trans C)⟩
  .skip
   obtain⟨H,I,⟨k,y,rfl,rfl,z,o⟩,q⟩:=g s c .int f i a.le;obtain⟨U,V,⟨m,A,rfl,rfl,B,C⟩,t⟩:=g s c .int f y o.le;obtain⟨J,K,M,N,S,T,l⟩:=k.shape;obtain⟨X,Y,Z,s2,a2,b2,n⟩:=m.shape;rw[l]at q;rw[n]at t;refine DT.ob func266 W ntmps266 W<|dO [2,2,25] W<|Mq (aA h W W)<|dR [2,3,2,0,2,1,2,2,2,1,2,68] W<|Mq (aX dQ W W)<|dL [2,0,2,0] W ?_;have x:=kf 7 13 k m;rw[l,n]at x;refine dO [2,96] W<|Mq (cj W W W (by omega)) ?_;rw[b];refine dR [98] W<|Mq (aA q W W)<|dL [] W ?_;apply Mz fK
   .intro s0 Oo;refine fR 2 W<|bE W W W (by decide) (r:=[.int .u8 13]) W W<|fR 6 W<|fO W W W (by omega) ?_;rw[b];refine fR 1 W<|bB t W W<|bm x W W<|fR 1 W<|TF.nil ⟨by kernel_rfl,rfl⟩
   exact DC.ret ⟨_,W,.bin 13 k m,A,by rw[E.cells,l,n];rfl,rfl,.rk 13 _ (.inr (.inl ⟨by simp,rfl⟩)) z B,a.trans (o.trans C)⟩
  .skip
   obtain⟨H,I,⟨k,y,rfl,rfl,z,o⟩,q⟩:=g s c .int f i a.le;obtain⟨U,V,⟨m,A,rfl,rfl,B,C⟩,t⟩:=g s c .int f y o.le;obtain⟨J,K,M,N,S,T,l⟩:=k.shape;obtain⟨X,Y,Z,s2,a2,b2,n⟩:=m.shape;rw[l]at q;rw[n]at t;refine DT.ob func266 W ntmps266 W<|dO [2,2,25] W<|Mq (aA h W W)<|dR [2,3,2,0,2,1,2,2,2,1,2,68] W<|Mq (aX dQ W W)<|dL [2,0,2,0] W ?_;have x:=kf 7 16 k m;rw[l,n]at x;refine dO [2,96] W<|Mq (cj W W W (by omega)) ?_;rw[b];refine dR [98] W<|Mq (aA q W W)<|dL [] W ?_;apply Mz fK
   .intro s0 Oo;refine fR 2 W<|bE W W W (by decide) (r:=[.int .u8 16]) W W<|fR 6 W<|fO W W W (by omega) ?_;rw[b];refine fR 1 W<|bB t W W<|bm x W W<|fR 1 W<|TF.nil ⟨by kernel_rfl,rfl⟩
   exact DC.ret ⟨_,W,.bin 16 k m,A,by rw[E.cells,l,n];rfl,rfl,.rk 16 _ (.inr (.inl ⟨by simp,rfl⟩)) z B,a.trans (o.trans C)⟩
  .skip
   obtain⟨r3,K3,⟨o,J,rfl,rfl,z⟩,K⟩:=xv ht av main i a.le;obtain⟨M,N,⟨k,A,rfl,rfl,B,q⟩,t⟩:=g s c o f J z.le;obtain⟨Z,K2,⟨m,C,rfl,rfl,H,I⟩,x⟩:=g s c o f A q.le;obtain⟨S,T,U,V,X,Y,l⟩:=k.shape;obtain⟨k2,SL,n2,s2,a2,b2,n⟩:=m.shape;rw[l]at t;rw[n]at x;refine DT.ob func266 W ntmps266 W<|dO [2,2,25] W<|Mq (aA h W W)<|dR [2,3,2,0,2,1,2,2,2,1,2,68] W<|Mq (aX dQ W W)<|dR [2,1,2,72] W<|Mq (aA K W W)<|dL [2,0] W ?_;have y:=kf 7 11 k m;rw[l,n]at y;refine dO [2,96] W<|Mq (cj W W W (by omega)) ?_;rw[b];refine dR [98] W<|Mq (aA t W W)<|dL [] W ?_;apply Mz fK
   .intro s0 Oo;refine fR 2 W<|bE W W W (by decide) (r:=[.int .u8 11]) W W<|fR 6 W<|fO W W W (by omega) ?_;rw[b];refine fR 1 W<|bB x W W<|bm y W W<|fR 1 W<|TF.nil ⟨by kernel_rfl,rfl⟩
   exact DC.ret ⟨_,W,.bin 11 k m,C,by rw[E.cells,l,n];rfl,rfl,.rk 11 _ (.inr (.inr W)) B H,a.trans (z.trans (q.trans I))⟩
def Hn:uF zs v av main 0:=by
 intro s d t j g e;obtain⟨k,l,⟨a,f,rfl,rfl,h,i⟩,b⟩:=mV ht av main s.ready d.ready t g e;obtain⟨m,n,o,p,q,r,c⟩:=a.shape;rw[c]at b;refine DT.ob func223 W ntmps223 W<|dO [2,2,1,2,30] W<|Mq (aA b W W)<|dL [] W<|DC.ret ⟨_,W,a,f,by rw[c];rfl,rfl,.v h,i⟩
def Ho(d:Nat)(C:d<=100)(i:uF zs v av main d):uF zs v av main (d+1):=by
 have k:=I1 ht av main d C i;intro s c t h B D;obtain⟨N,O,⟨j,g,rfl,rfl,q⟩,e⟩:=fh ht av main 12 (by omega) (by omega) B D;have P:=q.lt;have a:=q.mv;have l:((d+1:Nat):Int)-1=(d:Int):=by omega
 have f:decide (((d+1:Nat):Int)<=0)=false:=ai1 (by omega);have F:j=0\/j=1\/j=2\/j=3\/j=4\/j=5\/j=6\/j=7\/j=8\/j=9\/j=10\/j=11:=by omega
 rcases F with rfl|rfl|rfl|rfl|rfl|rfl|rfl|rfl|rfl|rfl|rfl|rfl
 .skip
  obtain⟨w,x,⟨m,p,rfl,rfl,r,u⟩,n⟩:=iA ht av main t g a.le;obtain⟨y,z,A,G,H,I,o⟩:=m.shape;rw[o]at n;refine DT.ob func223 W ntmps223 W<|dO [2,2,25] W<|Mq (dW f W W W W)<|dR [0,2,35] W<|Mq (aA e W W)<|dR [3,2,1,2,40] W<|Mq (aA n W W)<|dL [] W<|DC.ret ⟨_,W,m,p,by rw[o];rfl,rfl,.c r,a.trans u⟩
 .skip
  obtain⟨w,x,⟨m,p,rfl,rfl,u,r⟩,n⟩:=mV ht av main s.ready c.ready t g a.le;obtain⟨y,z,A,G,H,I,o⟩:=m.shape;rw[o]at n;refine DT.ob func223 W ntmps223 W<|dO [2,2,25] W<|Mq (dW f W W W W)<|dR [0,2,35] W<|Mq (aA e W W)<|dR [3,2,0,2,1,1,2,48] W<|Mq (aA n W W)<|dL [] W<|DC.ret ⟨_,W,m,p,by rw[o];rfl,rfl,.v u,a.trans r⟩
 .skip
  obtain⟨w,x,⟨m,p,rfl,rfl,u,r⟩,n⟩:=mV ht av main s.ready c.ready t g a.le;obtain⟨y,z,A,G,H,I,o⟩:=m.shape;rw[o]at n;refine DT.ob func223 W ntmps223 W<|dO [2,2,25] W<|Mq (dW f W W W W)<|dR [0,2,35] W<|Mq (aA e W W)<|dR [3,2,0,2,0,2,1,2,48] W<|Mq (aA n W W)<|dL [] W<|DC.ret ⟨_,W,m,p,by rw[o];rfl,rfl,.v u,a.trans r⟩
 .skip
  obtain⟨Q,R,⟨m,G,rfl,rfl,H,n⟩,o⟩:=i s c .bool h g a.le;obtain⟨S,T,U,V,X,Y,p⟩:=m.shape;rw[p]at o;obtain⟨Z,K2,⟨r,I,rfl,rfl,J,u⟩,w⟩:=i s c t h G n.le;obtain⟨k2,SL,n2,s2,a2,b2,x⟩:=r.shape;rw[x]at w;obtain⟨r3,K3,⟨y,K,rfl,rfl,M,L⟩,z⟩:=i s c t h I u.le;obtain⟨k3,ac,n3,s3,a3,b3,A⟩:=y.shape;rw[A]at z;refine DT.ob func223 W ntmps223 W<|dO [2,2,25] W<|Mq (dW f W W W W)<|dR [0,2,35] W<|Mq (aA e W W)<|dL [3,2,0,2,0,2,0,2,1] W ?_;apply Mz fK
  .intro s0 Oo;refine fR 2 W<|bm jr W W<|fR 1 W<|fO W W W (by omega) ?_;rw[l];refine fR 1 W<|bB o W W<|fR 2 W<|TF.nil ⟨by kernel_rfl,rfl⟩
  refine dO [2,62] W<|Mq (cj W W W (by omega)) ?_;rw[l];refine dR [64] W<|Mq (aA w W W)<|dL [] W ?_;apply Mz fK
  .intro s0 Oo;refine fR 6 W<|fO W W W (by omega) ?_;rw[l];refine fR 1 W<|bB z W W<|fR 3 W<|TF.nil ⟨by kernel_rfl,rfl⟩
  exact DC.ret ⟨_,W,.ite m r y,K,by rw[E.cells,p,x,A];rfl,rfl,.ite H J M,a.trans (n.trans (u.trans L))⟩
 .skip
  cases h with
  |true=>
   obtain⟨I,J,⟨m,y,rfl,rfl,z,r⟩,u⟩:=iA ht av main t g a.le;obtain⟨K,L,M,Q,R,S,n⟩:=m.shape;rw[n]at u;obtain⟨T,U,⟨o,A,rfl,rfl,G,H⟩,w⟩:=i ⟨s.all,s.all,s.aO⟩ c.wide t true y r.le;obtain⟨V,X,Y,Z,a2,b2,p⟩:=o.shape;rw[p]at w;have x:=kf 9 0 m o;rw[n,p]at x;refine DT.ob func223 W ntmps223 W<|dO [2,2,25] W<|Mq (dW f W W W W)<|dR [0,2,35] W<|Mq (aA e W W)<|dR [3,2,0,2,0,2,0,2,0,2,1,1,2,1,2,82] W<|Mq (aA u W W)<|dL [2] W ?_;apply Mz fK
   .intro s0 Oo;refine fR 5 W<|fO W W W (by omega) ?_;rw[l];refine fR 1 W<|bB w W W<|bm x W W<|fR 1 W<|TF.nil ⟨by kernel_rfl,rfl⟩
   exact DC.ret ⟨_,W,.sg m o,A,by rw[E.cells,n,p];rfl,rfl,.sg z G,a.trans (r.trans H)⟩
  |false=>
   obtain⟨u,w,⟨m,go,rfl,rfl,p,r⟩,n⟩:=k s c t false g a.le;obtain⟨x,y,no,z,A,G,o⟩:=m.shape;rw[o]at n;refine DT.ob func223 W ntmps223 W<|dO [2,2,25] W<|Mq (dW f W W W W)<|dR [0,2,35] W<|Mq (aA e W W)<|dR [3,2,0,2,0,2,0,2,0,2,1,1,2,0,2,146] W<|Mq (aA n W W)<|dL [] W<|DC.ret ⟨_,W,m,go,by rw[o];rfl,rfl,p,a.trans r⟩
 .skip
  cases h with
  |true=>
   obtain⟨I,J,⟨m,y,rfl,rfl,z,r⟩,u⟩:=iA ht av main t g a.le;obtain⟨K,L,M,Q,R,S,n⟩:=m.shape;rw[n]at u;obtain⟨T,U,⟨o,A,rfl,rfl,G,H⟩,w⟩:=i ⟨s.all,s.all,s.aO⟩ c.wide t true y r.le;obtain⟨V,X,Y,Z,a2,b2,p⟩:=o.shape;rw[p]at w;have x:=kf 9 0 m o;rw[n,p]at x;refine DT.ob func223 W ntmps223 W<|dO [2,2,25] W<|Mq (dW f W W W W)<|dR [0,2,35] W<|Mq (aA e W W)<|dR [3,2,0,2,0,2,0,2,0,2,0,2,1,2,1,2,82] W<|Mq (aA u W W)<|dL [2] W ?_;apply Mz fK
   .intro s0 Oo;refine fR 5 W<|fO W W W (by omega) ?_;rw[l];refine fR 1 W<|bB w W W<|bm x W W<|fR 1 W<|TF.nil ⟨by kernel_rfl,rfl⟩
   exact DC.ret ⟨_,W,.sg m o,A,by rw[E.cells,n,p];rfl,rfl,.sg z G,a.trans (r.trans H)⟩
  |false=>
   obtain⟨u,w,⟨m,go,rfl,rfl,p,r⟩,n⟩:=k s c t false g a.le;obtain⟨x,y,no,z,A,G,o⟩:=m.shape;rw[o]at n;refine DT.ob func223 W ntmps223 W<|dO [2,2,25] W<|Mq (dW f W W W W)<|dR [0,2,35] W<|Mq (aA e W W)<|dR [3,2,0,2,0,2,0,2,0,2,0,2,1,2,0,2,146] W<|Mq (aA n W W)<|dL [] W<|DC.ret ⟨_,W,m,go,by rw[o];rfl,rfl,p,a.trans r⟩
 .skip
  cases h with
  |true=>
   obtain⟨I,J,⟨m,y,rfl,rfl,z,r⟩,u⟩:=i s c t true g a.le;obtain⟨K,L,M,Q,R,S,n⟩:=m.shape;rw[n]at u;obtain⟨T,U,⟨o,A,rfl,rfl,G,H⟩,w⟩:=i ⟨s.all,s.all,s.aO⟩ c.wide t true y r.le;obtain⟨V,X,Y,Z,a2,b2,p⟩:=o.shape;rw[p]at w;have x:=kf 11 0 m (.pre o);rw[E.cells,n,p]at x;refine DT.ob func223 W ntmps223 W<|dO [2,2,25] W<|Mq (dW f W W W W)<|dR [0,2,35] W<|Mq (aA e W W)<|dR [3,2,0,2,0,2,0,2,0,2,0,2,0,2,1,2,1,2,106] W<|Mq (cj W W W (by omega)) ?_;rw[l];refine dR [108] W<|Mq (aA u W W)<|dR [2,2,120] W<|Mq (cj W W W (by omega)) ?_;rw[l];refine dR [122] W<|Mq (aA w W W)<|dR [2,127] W<|Mq (aX x W W)<|dL [] W<|DC.ret ⟨_,W,.arrow m (.pre o),A,by rw[E.cells,E.cells,n,p];rfl,rfl,.arrow z G,a.trans (r.trans H)⟩
  |false=>
   obtain⟨u,w,⟨m,go,rfl,rfl,p,r⟩,n⟩:=k s c t false g a.le;obtain⟨x,y,no,z,A,G,o⟩:=m.shape;rw[o]at n;refine DT.ob func223 W ntmps223 W<|dO [2,2,25] W<|Mq (dW f W W W W)<|dR [0,2,35] W<|Mq (aA e W W)<|dR [3,2,0,2,0,2,0,2,0,2,0,2,0,2,1,2,0,2,146] W<|Mq (aA n W W)<|dL [] W<|DC.ret ⟨_,W,m,go,by rw[o];rfl,rfl,p,a.trans r⟩
 .skip
  obtain⟨M,Q,⟨x,b,r,rfl,rfl,m,z⟩,u⟩:=Db ht av main s.aO c.aO t g a.le;cases b with
  |true=>
   refine DT.ob func223 W ntmps223 W<|dO [2,2,25] W<|Mq (dW f W W W W)<|dR [0,2,35] W<|Mq (aA e W W)<|dR [3,2,0,2,0,2,0,2,0,2,0,2,0,2,0,2,1,2,135] W<|Mq (aA u W W)<|dL [2,1,2] W<|DC.ret ⟨_,W,.last x,r,W,W,.last (z W),a.trans m⟩
  |false=>
   obtain⟨A,G,⟨n,go,rfl,rfl,w,y⟩,o⟩:=k s c t h r m.le;obtain⟨H,I,no,J,K,L,p⟩:=n.shape;rw[p]at o;refine DT.ob func223 W ntmps223 W<|dO [2,2,25] W<|Mq (dW f W W W W)<|dR [0,2,35] W<|Mq (aA e W W)<|dR [3,2,0,2,0,2,0,2,0,2,0,2,0,2,0,2,1,2,135] W<|Mq (aA u W W)<|dR [2,0,2,146] W<|Mq (aA o W W)<|dL [] W<|DC.ret ⟨_,W,n,go,by rw[p];rfl,rfl,w,a.trans (m.trans y)⟩
 .skip
  obtain⟨u,w,⟨m,go,rfl,rfl,p,r⟩,n⟩:=k s c t h g a.le;obtain⟨x,y,no,z,A,G,o⟩:=m.shape;rw[o]at n;refine DT.ob func223 W ntmps223 W<|dO [2,2,25] W<|Mq (dW f W W W W)<|dR [0,2,35] W<|Mq (aA e W W)<|dR [3,2,0,2,0,2,0,2,0,2,0,2,0,2,0,2,0,2,146] W<|Mq (aA n W W)<|dL [] W<|DC.ret ⟨_,W,m,go,by rw[o];rfl,rfl,p,a.trans r⟩
 .skip
  obtain⟨u,w,⟨m,go,rfl,rfl,p,r⟩,n⟩:=k s c t h g a.le;obtain⟨x,y,no,z,A,G,o⟩:=m.shape;rw[o]at n;refine DT.ob func223 W ntmps223 W<|dO [2,2,25] W<|Mq (dW f W W W W)<|dR [0,2,35] W<|Mq (aA e W W)<|dR [3,2,0,2,0,2,0,2,0,2,0,2,0,2,0,2,0,2,146] W<|Mq (aA n W W)<|dL [] W<|DC.ret ⟨_,W,m,go,by rw[o];rfl,rfl,p,a.trans r⟩
 .skip
  obtain⟨u,w,⟨m,go,rfl,rfl,p,r⟩,n⟩:=k s c t h g a.le;obtain⟨x,y,no,z,A,G,o⟩:=m.shape;rw[o]at n;refine DT.ob func223 W ntmps223 W<|dO [2,2,25] W<|Mq (dW f W W W W)<|dR [0,2,35] W<|Mq (aA e W W)<|dR [3,2,0,2,0,2,0,2,0,2,0,2,0,2,0,2,0,2,146] W<|Mq (aA n W W)<|dL [] W<|DC.ret ⟨_,W,m,go,by rw[o];rfl,rfl,p,a.trans r⟩
 .skip
  obtain⟨u,w,⟨m,go,rfl,rfl,p,r⟩,n⟩:=k s c t h g a.le;obtain⟨x,y,no,z,A,G,o⟩:=m.shape;rw[o]at n;refine DT.ob func223 W ntmps223 W<|dO [2,2,25] W<|Mq (dW f W W W W)<|dR [0,2,35] W<|Mq (aA e W W)<|dR [3,2,0,2,0,2,0,2,0,2,0,2,0,2,0,2,0,2,146] W<|Mq (aA n W W)<|dL [] W<|DC.ret ⟨_,W,m,go,by rw[o];rfl,rfl,p,a.trans r⟩
def fy:∀(d:Nat),d<=100->uF zs v av main d
 |0,_=>Hn ht av main
 |d+1,h=>Ho ht av main d (by omega) (fy d (by omega))
end
end Go.Proofs
namespace Go.Mk
open Go.Mt
inductive NV(n:Nat):List Va->Nat->Prop where
 |nil:NV n [] n
 |snoc {b:List Va} {a:Nat} (h:NV n b a) (w:Va) (c:w.name=nm 118 (a+1)) (d:w.clock=none) (e:w.last=false/\w.first=.nil\/w.last=true/\GC w.ty w.first):NV n (b++[w]) (a+1)
def fj(l:List Va):List Va->List Va
 |[]=>l
 |w::r=>fj (if w.last&& !(l.any λu=>decide (u.name=w.name))then l++[w]else l) r
def zd(l:List Va)(r:List Va)(w:Va):fj l (r++[w])=(if w.last&& !((fj l r).any λu=>decide (u.name=w.name))then fj l r++[w]else fj l r):=by
 induction r generalizing l with
 |nil=>rfl
 |cons b r a=>simp only[aiA,fj];exact a _
inductive LS:List Va->List Va->Prop where
 |nil:LS [] []
 |fY {a b:List Va} (h:LS a b) (w:Va):LS (a++[w]) (b++[w])
 |drop {a b:List Va} (h:LS a b) (w:Va) (c:w.last=true):LS (a++[w]) b
def LS.AV:∀l:List Va,LS l.reverse l.reverse
 |[]=>.nil
 |a::l=>by rw[List.reverse_cons];exact .fY (AV l) a
def LS.refl(l:List Va):LS l l:=by have:=LS.AV l.reverse;simpa using this
def LS.len{a b:List Va}(h:LS a b):b.length<=a.length:=by
 induction h with
 |nil=>simp
 |fY h w c=>simp;omega
 |drop h w d c=>simp;omega
def LS.mem{a b:List Va}(h:LS a b):∀w∈b,w∈a:=by
 induction h with
 |nil=>intro w c;exact c
 |fY h w c=>intro u d;rcases ain.1 d with h|h;exact ai6 _ (c u h);exact ajq _ h
 |drop h w e c=>intro u d;exact ai6 _ (c u d)
abbrev Sc.kq(s:Sc):Sc:=⟨s.ready,[],s.aO⟩
def B4(s:Sc)(N:Nat)(l:List Tr):Prop:=l.length<=2/\∀t∈l,GE s.kq .bool false 2 t.e/\∃k,k<N/\t.to=nm 83 k
abbrev qL:Nm:=⟨#[116,114,117,101]⟩
abbrev ov:Nm:=⟨#[102,97,108,115,101]⟩
section
variable(Sub:Sc->List Va->Nat->Nat->bF->Prop)
inductive rm(s:Sc)(a:List Va)(d:List Nm)(n:Nat):List aH->Nat->Prop where
 |nil:rm s a d n [] n
 |snoc {ai:List aH} {e f:Nat} (h:rm s a d n ai e) (c:Nm) (g:d[ai.length]?=some c) (l:List Va) (i:LS a l) (j:ai=[]->l=a) (b:bF) (k:Sub s.kq l e f b):rm s a d n (ai++[.mk c b [] []]) f
inductive AW(s:Sc)(a:List Va)(N:Nat)(n:Nat):List aH->Nat->Prop where
 |nil:AW s a N n [] n
 |snoc {ai:List aH} {c d:Nat} (h:AW s a N n ai c) (l:List Va) (g:LS a l) (i:ai=[]->l=a) (e:List Tr) (j:B4 s N e) (b:bF) (k:Sub s.kq l c d b) (f:List Tr) (m:B4 (s.more l) N f):AW s a N n (ai++[.mk (nm 83 ai.length) b e f]) d
inductive sC(s:Sc):List Va->List aD->Prop where
 |nil:sC s [] []
 |snoc {l:List Va} {q:List aD} (h:sC s l q) (w:Va) (e:E) (a:GE s w.ty true 3 e):sC s (l++[w]) (q++[.df w.name e])
abbrev eD(c:UInt8)(k:Nat)(t:Ty):Va:=⟨nm c k,t,none,false,.nil⟩
inductive GQ(av:Nat):Sc->List Va->Nat->Nat->List aD->List Va->Prop where
 |uG {s outs n q} (h:sC s outs q):GQ av s outs n n q []
 |I2 {s outs n n' e ai} (c:GE s .jh true 2 e) (d:rm Sub s outs [eK,cR,bT] n ai n') (f:ai.length=3):GQ av s outs n n' [.sw e ai] []
 |FP {s outs n n' e ai} (c:GE s .bool true 2 e) (d:rm Sub s outs [qL,ov] n ai n') (f:ai.length=2):GQ av s outs n n' [.sw e ai] []
 |wW {s outs n n' ai} (N:Nat) (f:1<=N/\N<=3) (c:AW Sub s outs N n ai n') (d:ai.length=N):GQ av s outs n n' [.wW ai] []
 |reset {s outs n n' e b} (c:GE s .bool true 2 e) (d:Sub s outs n n' b):GQ av s outs n n' [.reset e b] []
 |call {s outs n n' l vs} (j:Nat) (i:j<av) (a b:E) (f:GE s .int true 2 a) (g:GE s .bool true 2 b) (c:Bool) (e:E) (d:c=false/\e=.nil\/c=true/\GE s .bool true 2 e)
   (h:GQ av (s.more [eD 117 (n+1) .int,eD 117 (n+2) .jh]) outs (n+2) n' l vs):
   GQ av s outs n n' (.call (nm 117 (n+1)) (nm 117 (n+2)) (nm 102 j) a b c e::l) (eD 117 (n+1) .int::eD 117 (n+2) .jh::vs)
 |ze {s outs n n' l vs} (a b k c e fY:E) (f:GE s .int false 2 a) (g:GE s .int false 2 b) (i:GC .int k) (m:GC .int c) (d:GE s .jh true 3 e)
   (Ss:fY=.mm (nm 99 (n+1)) cR a\/fY=.sg c (.bin 3 (.var (nm 119 (n+2))) (.mm (nm 99 (n+1)) cR a)))
   (h:GQ av (s.more [eD 99 (n+1) .jh,eD 122 (n+3) .int]) outs (n+3) n' l vs):
   GQ av s outs n n' (.df (nm 99 (n+1)) e:: .df (nm 119 (n+2)) fY:: .df (nm 122 (n+3)) (.merge (nm 99 (n+1)) bT cR eK (.mm (nm 99 (n+1)) bT b) (.var (nm 119 (n+2))) k)::l)
    (eD 99 (n+1) .jh::⟨nm 119 (n+2),.int,some (cR,nm 99 (n+1)),false,.nil⟩::eD 122 (n+3) .int::vs)
end
inductive GL(Q:Sc->List Va->Nat->Nat->List aD->List Va->Prop)(a:Sc)(b:List Va)(c:Nat):Sc->List Va->Nat->List aD->List Va->Prop where
 |start:GL Q a b c a b c [] []
 |step {s todo n n1 q vs q1 S6} (h:GL Q a b c s todo n q vs) (k:Nat) (d:1<=k) (e:k<=3) (f:k<=todo.length) (g:Q s (todo.take k) n n1 q1 S6):GL Q a b c (s.more (todo.take k)) (todo.drop k) n1 (q++q1) (vs++S6)
def J9(s:Sc)(a b:List Va):Sc:=⟨s.ready,s.ready++a++b,fj s.aO (a++b)⟩
def J_(Q:Sc->List Va->Nat->Nat->List aD->List Va->Prop)(s:Sc)(d:List Va)(n f:Nat)(b:bF):Prop:=
 ∃a c g q e,NV n a c/\a.length<=3/\GL Q (J9 s a d) (a++d) c g [] f q e/\b=.mk (a++e) q
def GB(av:Nat):Nat->Sc->List Va->Nat->Nat->bF->Prop
 |0=>J_ (GQ (λ_ _ _ _ _=>False) av)
 |d+1=>J_ (GQ (GB av d) av)
def aV:Va:=⟨⟨#[97]⟩,.int,none,false,.nil⟩
def bV:Va:=⟨⟨#[98]⟩,.bool,none,false,.nil⟩
def yV:Va:=⟨⟨#[121]⟩,.jh,none,false,.nil⟩
def GN(k:Nat)(d:Nd):Prop:=d.name=nm 102 k/\d.ins=[aV,bV]/\(∃(last:Bool) (first:E),(last=false/\first=.nil\/last=true/\GC .int first)/\d.outs=[⟨⟨#[120]⟩,.int,none,last,first⟩,yV])/\∃a,a<=3000/\GB k 3 ⟨d.ins,[],[]⟩ d.outs 0 a d.b
def GP(l:List Nd):Prop:=1<=l.length/\l.length<=3/\∀(k:Nat) (d:Nd),l[k]?=some d->GN k d
end Go.Mk
namespace Go.Mt
variable{P:Program}{H:Hp}{n:Nat}
theorem DT.drop{f:Nat}{ms:List M}{post:M->Hp->Prop}(n:Nat)(a:H.length<=n)
  (h:DT P f ms H λr K=>n<=K.length/\MB n r/\HB n (K.take n)/\post r (K.take n)):DT P f ms H post:=by
 obtain⟨r,K,⟨g,i,j,c⟩,d⟩:=h;exact⟨r,K.take n,c,CT.drop n a (post:= λa k=>a=r/\k=K.take n) (d.mono λl k ⟨e,b⟩=>by grind)⟩
def I3(n:Nat)(rs:List (List D)):Hp:=match rs with
 |[]=>[]
 |q::r=>[.row true n r.length (aM (q::r))]
def Dc(H0:Hp)(n:Nat)(rs:List (List D)):d_ H0 n rs=H0++I3 n rs:=by cases rs<;>simp[d_,I3]
def xz{B:Nat}{I:Nat->St->Prop}{k k':Nat}{sl M8:List (Nat×V)}{bx Ns:List (Nat×List M)}{H':Hp}(a:k'<k)(b:I k' ⟨M8,Ns,H'⟩)(c:∀t,get Ns t=get bx t)(d:H=H')(e:keeps sl M8):yl P n B I k ⟨sl,bx,H⟩:=
 ⟨k',_,a,b,λ_ _ _ _ _ f=>by subst d;exact f.gL (fS e) c⟩
section
variable{X:cQ}{ops:Array Oper}{rest:List Oper}{sl:List (Nat×V)}{bx:List (Nat×List M)}{MU:List Ef->St->Prop}{d ty:Nat}{pos:String}{af:Array Edge}
theorem l9{T e a:Nat}{x y:Operand}{H0:Hp}{rs:List (List D)}{r:List D}{z:D}[ht:aU X.P T e][j:bQ X.P e n][l:jD X.P e a][m:fk X.P e z](b:Nat.blt d X.n=true)
  (c:aS sl x=some (.m (gB H0.length rs))) (f:aS sl y=some (.m (.d (.sl [r])))) (h:Nat.blt 0 n=true) (g:(bz z).length=n) (o:r.length=n) (p:(rs.length+1)*a<=140737488355328) (s:rs.length+1<=140737488355328)
  (k:TF X ops rest ⟨(d,.m (gB H0.length (rs++[r])))::sl,bx,d_ H0 n (rs++[r])⟩ λa b=>MU (⟨some d,.m (gB H0.length (rs++[r])),[],[],none,true,some (d_ H0 n (rs++[r]))⟩::a) b):
  TF X ops (⟨some d,.call ⟨.builtin .append,#[x,y],#[T,T]⟩,ty,pos,af,none⟩::rest) ⟨sl,bx,d_ H0 n rs⟩ MU:=by
 cases rs with
 |nil=>exact nI true b c f h g (by simp) (by grind) (by grind) k
 |cons q rs=>
  refine lD (acc:=true) (cs:=aM (q::rs)) b c f (by simp[d_]) g (by grind) (by grind) (by grind) ?_;have e:(d_ H0 n (q::rs)).set H0.length (.row true n (rs.length+1) (aM (q::rs)++aM [r]))=d_ H0 n (q::rs++[r]):=by simp[d_,aM]
  have i:M.bZ H0.length (rs.length+1) (rs.length+1+1)=gB H0.length (q::rs++[r]):=by simp[gB]
  rw[<-e,<-i]at k;exact k
end
end Go.Mt
namespace Go.Proofs
open Go.Mt Go.Mk
open Tryz
def eO{P:Program}{f:Nat}{ms:List M}{v:D}{av:Nat}{a:Bool}{g g':GS}{r:M}(h:(ms.all (Bv 2))=true)(i:CT P f ms (GH v av a g) λc d=>c=r/\d=GH v av a g')(n:Nat)(rs:List (List D)):
  CT P f ms (d_ (GH v av a g) n rs) λc d=>c=r/\d=d_ (GH v av a g') n rs:=by
 rw[Dc,Dc];refine(CT.suffix (I3 n rs) (H:=GH v av a g) (nU v av a g) (λm a=>jd (ajm.1 h m a)) (i.mono λc d ⟨e,b⟩=>(⟨by rw[b];rfl,e,b⟩:d.length=(GH v av a g).length/\(c=r/\d=GH v av a g')))).mono ?_;rintro c k ⟨j,rfl,_,rfl,rfl⟩;exact⟨W,W⟩
def l_(v:D)(av:Nat)(a:Bool)(g:GS)(n:Nat)(rs:List (List D)):2<=(d_ (GH v av a g) n rs).length/\HB 2 ((d_ (GH v av a g) n rs).take 2)/\(d_ (GH v av a g) n rs).take 2=GH v av a g:=by
 have b:=D7 (GH v av a g) n rs;exact⟨(Gm (GH v av a g) n rs),by rw[show(2:Nat)=(GH v av a g).length from rfl,b];exact nU _ _ _ _,b⟩
section
variable{zs:List Int}{v:D}(ht:Tape zs v)(av:Nat)(main:Bool)
include ht
theorem zf(a:List Va)(B:a.length<=1000)(g:GS)(s:g.i<=zs.length):DT prog 261 [.ref 1 0,.d (.sl (ax a))] (GH v av main g) λr K=>∃(l:List Va) (g':GS),r=.d (.sl (ax l))/\K=GH v av main g'/\Mv zs g g'/\LS a l:=by
 refine DT.drop 2 (ah9 _)<|DT.ob func261 W ntmps261 W<|dC [2,2,2] W<|M5 [(6,.m (.d (.int .i64 ((0:Nat):Int)))),(5,.m (gB 2 (ax []))),(1,.m (.d (.sl (ax a)))),(0,.m (.ref 1 0))] (d_ (GH v av main g) 15 (ax [])) W W<|dC [3] W<|OY (λk s=>∃(i:Nat) (l:List Va) (g':GS),s=⟨[(6,.m (.d (.int .i64 (i:Int)))),(5,.m (gB 2 (ax l))),(1,.m (.d (.sl (ax a)))),(0,.m (.ref 1 0))],[],d_ (GH v av main g') 15 (ax l)⟩/\i<=a.length/\LS (a.take i) l/\Mv zs g g'/\k=a.length-i) a.length _
  ⟨0,[],g,rfl,by omega,.nil,⟨rfl,rfl,ah9 _,s⟩,rfl⟩ W ?_
 rintro z A ⟨i,l,d,rfl,C,e,f,rfl⟩;refine dO [2,13] W<|Mq (aY W W W) ?_;rw[br];refine dL [] W<|DC.cond W (λj=>?_) (λj=>?_)
 .have o:i<a.length:=by grind
  have b:=jP o;have h:=ah5 o;generalize a[i]=w at b h;have t:=e.len;rw[ait]at t;obtain⟨D,E,F,G,H,I,J,L,u,_⟩:=jQ w;have c:ax (l++[w])=ax l++[w.cells]:=by rw[gU];rfl
  rw[u]at b c;obtain⟨r,K,⟨n,k,rfl,rfl,x⟩,j⟩:=fh ht av main 2 (by omega) (by omega) d f.le;have p:=eO W j 15 (ax l);have q:=x.mv;refine dC [3] W ?_;cases m:w.last with
  |false=>
   rw[m]at b c;refine dO [2,19] W<|Mq (bH W W W (ah7 i) b W)<|dR [1,2,34] W<|Mq (bH W W W (ah7 i) b W)<|dR [37] W<|Mq (xq (H0:=GH v av main d) W W W W (by rfl) W (by rw[br];omega) (by rw[br];omega))<|dR [2,16] W<|Mq (bc W W W (by omega))<|dL [] W<|bf (k':=a.length-(i+1)) (by omega) ⟨i+1,l++[w],d,rfl,by omega,by rw[h];exact .fY e w,f,W⟩ (by rw[c];rfl) (kc W (kc (by rw[c];rfl) W))
  |true=>
   rw[m]at b c;rcases aiO n with rfl|M
   .refine dO [2,19] W<|Mq (bH W W W (ah7 i) b W)<|dR [27] W ?_
    first|refine Mq (bN W W) ?_|(refine Mq (az W) ?_;refine Mq (bK W W ((vo _ _ _ 1 (ah9 _)).trans W) W) ?_)
    refine dR [28] W ?_
    first|refine Mq (bN W W) ?_|(refine Mq (az W) ?_;refine Mq (aA p W W) ?_)
    refine dR [1,2,34] W<|Mq (bH W W W (ah7 i) b W)<|dR [37] W<|Mq (xq (H0:=GH v av main k) W W W W (by rfl) W (by rw[br];omega) (by rw[br];omega))<|dR [2,16] W<|Mq (bc W W W (by omega))<|dL [] W<|bf (k':=a.length-(i+1)) (by omega) ⟨i+1,l++[w],k,rfl,by omega,by rw[h];exact .fY e w,f.trans q,W⟩ (by rw[c];rfl) (kc W (kc (by rw[c];rfl) W))
   .have y:(((n:Nat):Int)==0)=false:=ajo.2 (by omega);refine dO [2,19] W<|Mq (bH W W W (ah7 i) b W)<|dR [27] W ?_
    first|refine Mq (bN W W) ?_|(refine Mq (az W) ?_;refine Mq (bK W W ((vo _ _ _ 1 (ah9 _)).trans W) W) ?_)
    refine dR [28] W ?_
    first|refine Mq (bN W W) ?_|(refine Mq (az W) ?_;refine Mq (aA p W W) ?_)
    refine dR [29] W ?_
    first|refine Mq (bN W W) ?_|(refine Mq (az W) ?_;refine Mq (dW y W W W W) ?_)
    refine dR [0,2,16] W<|Mq (bc W W W (by omega))<|dL [] W<|bf (k':=a.length-(i+1)) (by omega) ⟨i+1,l,k,rfl,by omega,by rw[h];exact .drop e w m,f.trans q,W⟩ W W
 .refine DC.exit ?_;have b:i=a.length:=by grind
  subst b;rw[aih]at e;obtain⟨c,h,k⟩:=l_ v av main d 15 (ax l);refine dC [2] W<|DC.aR 4 W (jo (GH v av main d) 15 (ax l) (bD l))<|DC.ret ⟨_,W,c,.d _,h,l,d,W,k,f,e⟩
end
end Go.Proofs
