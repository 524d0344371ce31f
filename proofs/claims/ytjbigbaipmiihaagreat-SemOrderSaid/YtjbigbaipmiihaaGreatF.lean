/- A part of the proof of the last text of this claim, without conditions. -/
import Derived.Test.YtjbigbaipmiihaaGreatE
set_option maxRecDepth 4000
set_option linter.all false
namespace Go.Mt
variable{x y:Operand}{xt yt:Nat}{v u:V}{z:Bool}
section
variable{P:Program}{n B:Nat}{post:Exit->St->Prop}
def DC.freeze{c:Code}(t:Nat){ds:List D}{sl:List (Nat×V)}{bx:List (Nat×List M)}{H:Hp}(d:get bx t=some (ds.map .d))(e:get sl t=some (.loc t 0))(k:DC P n B c ⟨(t,.m (.d (.aZ ds 0)))::sl,del bx t,H⟩ post):DC P n B c ⟨sl,bx,H⟩ post:=
 Qg _ (λ_ _ _ i w a=>by
  obtain⟨j,f,rfl,a⟩:=a;obtain⟨b,g,h⟩:=a.freeze d e;exact⟨b,f,g,h⟩) k
end
section
variable{X:bW}{ops:Array Oper}{rest:List Oper}{sl:List (Nat×V)}{bx:List (Nat×List M)}{H:Hp}{OZ:List Ef->St->Prop}{d ty:Nat}{pos:String}{af:Array Edge}
def oP{f:Nat}{a:List M}{args:List Operand}{RE:Array Nat}{ms:List M}{r:M}{H':Hp}[hf:bw X.P f](h:CT X.P f (ms++a) H λa b=>a=r/\b=H')(b:Nat.blt d X.n=true)(c:bh sl x=some (.m (.fn f a)))(g:ga sl args=some ms)
  (k:TF X ops rest ⟨(d,.m r)::sl,bx,H'⟩ λa b=>OZ (⟨some d,.m r,[],[],none,true,some H'⟩::a) b):TF X ops (⟨some d,.call ⟨.value x,args.toArray,RE⟩,ty,pos,af,none⟩::rest) ⟨sl,bx,H⟩ OZ:=by
 refine TF.cons (e:=⟨some d,.m r,[],[],none,true,some H'⟩) (Qf W W (bN b) λb a=>?_) W k;have b:=a.H W;simp only at b;exact yA (w_ (by exact(a.ev (x:=x) (by simp[Op.operands,Call.operands])).trans c) (by rw[a.ga (λy a=>by simp[Op.operands,Call.operands];exact .inr a),nA];exact g)) (by rw[b];exact h)
def oQ(b:lE X.P xt=1)(a:Nat.blt d X.n=true)(c:bh sl x=some v)(f:bh sl y=some u)(g:gU 1 v=some z)(h:gU 1 u=some true)
  (k:TF X ops rest ⟨(d,.m (.d (.bool (!z))))::sl,bx,H⟩ λa b=>OZ (⟨some d,.m (.d (.bool (!z))),[],[],none,false,none⟩::a) b):TF X ops (⟨some d,.binOp .neq xt x y yt,ty,pos,af,none⟩::rest) ⟨sl,bx,H⟩ OZ:=by
 refine TF.cons (e:=⟨some d,.m (.d (.bool (!z))),[],[],none,false,none⟩) (OU W W (bN a) λi a=>?_) W k;exact xG (.inr W) b (.inl W) ((a.ev (x:=x) (by simp[Op.operands])).trans c) ((a.ev (x:=y) (by simp[Op.operands])).trans f) g h
def vP(b:lE X.P xt=1)(a:Nat.blt d X.n=true)(c:bh sl x=some v)(f:bh sl y=some u)(g:gU 1 v=some z)(h:gU 1 u=some true)
  (k:TF X ops rest ⟨(d,.m (.d (.bool z)))::sl,bx,H⟩ λa b=>OZ (⟨some d,.m (.d (.bool z)),[],[],none,false,none⟩::a) b):TF X ops (⟨some d,.binOp .eql xt x y yt,ty,pos,af,none⟩::rest) ⟨sl,bx,H⟩ OZ:=by
 refine TF.cons (e:=⟨some d,.m (.d (.bool z)),[],[],none,false,none⟩) (OU W W (bN a) λi a=>?_) W k;exact xG (.inl W) b (.inl W) ((a.ev (x:=x) (by simp[Op.operands])).trans c) ((a.ev (x:=y) (by simp[Op.operands])).trans f) g h
end
end Go.Mt
namespace Go.Proofs.Sz
open Go.Mt Go.Sm Go.Proofs
open Tryz
variable{π:Path}{x:Nm}{σ:Path×Nat}{Y:av}{K:Hp}{r i:Nat}
section
variable{P:Pg}{n:Nat}{c:aI}{d:Nd}{u:US}{X:av}{H:Hp}
def cT(P:Pg)(n:Nat)(c:aI)(d:Nd)(u:US)(X:av)(H:Hp)(t:Nat)(w:List (Nat×Int))(Y:av)(K:Hp):Prop:=
 cS P n c d u Y K/\bf c (λ_=>False) X H Y K/\Y.T c<=X.T c+t/\∀p∈w,Y.S c p.1 p.2
def cT.trans{Z:av}{L:Hp}{t s:Nat}{w v:List (Nat×Int)}(h:cT P n c d u X H t w Y K)(k:cT P n c d u Y K s v Z L):cT P n c d u X H (t+s) (w++v) Z L:=by
 obtain⟨_,e,l,f⟩:=h;obtain⟨g,b,m,i⟩:=k;refine⟨g,e.trans b,by omega,λp j=>?_⟩;rcases ast.1 j with a|a
 .exact b.S _ _ (f p a)
 .exact i p a
def lH.next(h:lH c X r)(k:bf c (λ_=>False) X H Y K):lH c Y r:=by
 refine⟨λa i d=>h.c1 a i ((k.c1 a i (λh=>h)).2 d),λj a e=>h.f1 j a ((k.f1 _).2 e),λa i=>?_,h.tp⟩;rcases asp 3 (Y.cs a i)with b|b
 .have f:=(k.c4 a i _ (λh=>h) (Nat.succ_le_of_lt b)).2 W;have:=h.c4 a i;omega
 .exact b
def ta(b:Pu P c d u X)(hf:X.fs π=2)(h:c.find π x=some σ):X.fs σ.1=2/\fN (c.fr σ.1).vars x=some σ.2:=by
 induction π with
 |nil=>
  change Option.map _ _=_ at h;cases a:fN (c.fr []).vars x with
  |none=>rw[a]at h;cases h
  |some k=>rw[a]at h;injection h with h;subst h;exact⟨hf,a⟩
 |cons j π e=>
  rw[uS]at h;cases a:fN (c.fr (j::π)).vars x with
  |none=>rw[a]at h;exact e (b.KZ hf) h
  |some k=>rw[a]at h;injection h with h;subst h;exact⟨hf,a⟩
theorem Dz{l:List Va}(h:fN l x=some i):∃v,l[i]?=some v/\v.name=x:=by
 unfold fN at h;rw[as4]at h;obtain⟨a,b,_⟩:=h;exact⟨l[i],aso a,by grind⟩
def lJ(b:cS P n c d u X H)(hf:X.fs π=2)(h:c.find π x=some σ):X.fs σ.1=2/\∃v a eq,(c.fr σ.1).vars[σ.2]?=some v/\v.name=x/\(c.fr σ.1).cK[σ.2]?=some a/\H[X.A (.ce σ.1 σ.2)]?=some (.box (c_ v a eq (X.A (.fr σ.1)) (nF (X.cs σ.1 σ.2)) (if zB (X.cs σ.1 σ.2)then c.get (σ.1,σ.2)else 0)))/\∀j,ic (c.fr σ.1) σ.2 v j->eq=.ref (X.A (.pl σ.1 j)) 0:=by
 obtain⟨e,g⟩:=ta b.pu hf h;obtain⟨v,f,i⟩:=Dz g;obtain⟨a,eq,k,l,m⟩:=b.lay.cell e f;exact⟨e,v,a,eq,f,i,k,l,m⟩
def Jr(P:Pg)(n:Nat)(c:aI)(d:Nd)(u:US)(X:av)(H:Hp)(σ:Path×Nat)(r:M)(K:Hp):Prop:=
 r=.di [.d (.int .i32 (c.get σ)),.d (.bool (c.val σ.1 σ.2).isSome)]/\∃Y,cT P n c d u X H 0 [] Y K/\(Y.cs σ.1 σ.2=2\/Y.cs σ.1 σ.2=3)
def eH(P:Pg)(n:Nat)(c:aI)(d:Nd)(u:US)(r:Nat):Prop:=∀(X:av) (H:Hp),cS P n c d u X H->X.T c<=1000000000000->lH c X r->∀(a:Path) (x:Nm) (b:Path×Nat),X.fs a=2->c.find a x=some b->c.jE b<r->
 DT prog 45 [.ref (X.A .it) 0,.ref (X.A (.fr a)) 0,.d (.str x)] H (Jr P n c d u X H b)
theorem HR(E:qH P.aG)(S:∀π,(c.fr π).vars.length<=1000000)(T:eH P n c d u r)(U:cS P n c d u X H)(V:X.T c<=1000000000000)(Z:lH c X r)(hf:X.fs π=2){e:Xp}(P2:jD e)(t:c.find π e.nm=some σ)(hr:c.jE σ<r)
  {cn:Nm} (hi:e.names[i]?=some cn) (hn:k_ (c.c9 P.aG σ) cn=c.get σ) (F:∀(b:Nat) (x:Nm),b<i->e.names[b]?=some x->k_ (c.c9 P.aG σ) x≠c.get σ)
  {km:M} {a:Nat} (o:X.sZ c H km π e a) {post:M->Hp->Prop}
  (ih:∀Y K,cT P n c d u X H 0 [] Y K->∀f g,km=.fn 120 [.d (.aZ [.int .i64 (a:Int)] 0),.d (.aZ e.cells 0),.ref f 0,.ref g 0]->K[f]?=some (.box [.ref (X.A .it) 0])->K[g]?=some (.box [.ref (X.A (.fr π)) 0])->
   DT prog 120 [dN i,.d (.aZ [.int .i64 (a:Int)] 0),.d (.aZ e.cells 0),.ref f 0,.ref g 0] K post):
  DT prog 126 [.ref (X.A .it) 0,.ref (X.A (.fr π)) 0,.d (.agg e.cells),km] H post:=by
 obtain⟨r1,K,⟨rfl,Y,w,co⟩,Tp⟩:=T X H U V Z π e.nm σ hf t hr;have k:=w.1;have l:=w.2.1;have G:=l.f2 π hf;have y:=pv k.lay k.pu S π G e.nm;rw[(l.A (.fr π) (by show 1<=X.fs π;omega)).2]at y;have S8:Y.gC c π e.nm=.ref (Y.A (.ce σ.1 σ.2)) 0:=by unfold av.gC;rw[t]
 rw[S8]at y;obtain⟨Pn,v,lp,eq,hv,T4,O8,I,_⟩:=lJ k G t;have J:c.c9 P.aG σ=eU P.aG v.tk v.tn:=by unfold aI.c9;rw[hv]
 have z:=wD E v.tk v.tn;rw[<-J]at z;obtain⟨_,f,g,o,h4,h5⟩:=o;have Uf:=ih Y K w f g o ((h4.up l.iD).2) ((h5.up l.iD).2);obtain⟨r2,ah,Px,p⟩:=Uf;have A:=k.lay.inst;rw[(l.A .it trivial).2]at A;have L:=k.lay.unit;have Sl:=P2.names;rw[o];rw[e.aA]at p⊢;generalize e.names=b at hi F Sl p⊢;refine DT.ob func126 W ntmps126 W<|dO [2,2,23] W<|Oq (au Tp W W)<|dR [2,29] W<|Oq (au y W W)<|dR [2,32] W<|Oq (bK W W W) ?_;rw[asD];refine dL [] W ?_;obtain⟨h,B⟩:∃h,h=bQ e.kd e.op e.num e.nm b (e.kids.map Xp.cells) e.ps:=⟨_,rfl⟩;refine OB [nN 29 0,nN 28 b.length,nD 27 (.sl (dM b)),nR 11 (Y.A (.ce σ.1 σ.2)),nD 9 (.int .i32 (c.get σ)),nD 6 (.aZ h 0),nR 0 (X.A .it),nR 1 (X.A (.fr π)),nM 3 (.fn 120 [.d (.aZ [.int .i64 (a:Int)] 0),.d (.aZ h 0),.ref f 0,.ref g 0])] K (kc W (kc W (kc W (kc W (kc W (kc (by rw[B];rfl) (kc W (kc W (kc (by rw[B];rfl) W))))))))) W ?_;rw[<-B]at p;have dj:i<b.length:=by
  grind
 refine dC [3] W<|DC.lp (λC s=>∃(j:Nat) (N:List (Nat×List M)),s=⟨[nN 29 j,nN 28 b.length,nD 27 (.sl (dM b)),nR 11 (Y.A (.ce σ.1 σ.2)),nD 9 (.int .i32 (c.get σ)),nD 6 (.aZ h 0),nR 0 (X.A .it),nR 1 (X.A (.fr π)),nM 3 (.fn 120 [.d (.aZ [.int .i64 (a:Int)] 0),.d (.aZ h 0),.ref f 0,.ref g 0])],N,K⟩/\j<=i/\C=b.length-j) b.length _
  ⟨0,_,rfl,by omega,rfl⟩ W ?_
 rintro C s1 ⟨j,N,rfl,hj,rfl⟩;refine dO [2,34] W<|Oq (aQ (asP (by omega)) W W W W)<|dL [1] W ?_;have O:j<b.length:=by omega
 have q:=kK O;have m:=aso O;have s:=yT (c.c9 P.aG σ) b[j] (by rw[J];exact vI E _ _);refine dC [3] W ?_;rcases asp j i with Q|Q
 .have R:=F j _ Q m;generalize b[j]=x at q s R;have hb:=asY.2 R;refine dO [2,36] W<|Oq (aP W W W (asm j) q W)<|dL [] W ?_;apply Ow bX
  .intro s0 Oo;refine fR 1 W<|oQ (by kernel_rfl) W W W W W<|fR 4 W ?_
   first|refine bj W W W W ?_|refine bm W W W ?_|(refine aX W W ?_;(refine aw W W A W ?_))
   refine fR 3 W ?_
   first|refine bj W W W W ?_|refine bm W W W ?_|(refine aX W W ?_;(refine aw W W L W ?_))
   refine fR 4 W ?_
   first|refine bj W W W W ?_|refine bm W W W ?_|(refine aX W W ?_;(refine fJ W W I W W ?_))
   first|refine bj W W W W ?_|refine bm W W W ?_|(refine aX W W ?_;(refine aW z W W ?_))
   refine fR 1 W ?_
   first|refine bj W W W W ?_|refine bm W W W ?_|(refine aX W W ?_;(refine aW s W W ?_))
   refine fR 1 W ?_
   first|refine bj W W W W ?_|refine bm W W W ?_|(refine aX W W ?_;(refine mG W W W (r:=.bool false) (by show some (D.bool (_==_))=_;rw[hb]) ?_))
   refine fR 1 W<|TF.nil ⟨by kernel_rfl,rfl⟩
  refine dO [0,2,63] W<|Oq (ay W W W (by omega))<|dL [] W<|bG (k':=b.length-(j+1)) (by omega) ⟨j+1,_,rfl,by omega,rfl⟩ W W
 .have ac:j=i:=by omega
  subst ac;rw[hi]at m;injection m with m
  rw[<-m]at q s;have R:(k_ (c.c9 P.aG σ) cn==c.get σ)=true:=by rw[hn];simp
  refine dO [2,36] W<|Oq (aP W W W (asm j) q W)<|dL [] W ?_;apply Ow bX
  .intro s0 Oo;refine fR 1 W<|oQ (by kernel_rfl) W W W W W<|fR 4 W ?_
   first|refine bj W W W W ?_|refine bm W W W ?_|(refine aX W W ?_;(refine aw W W A W ?_))
   refine fR 3 W ?_
   first|refine bj W W W W ?_|refine bm W W W ?_|(refine aX W W ?_;(refine aw W W L W ?_))
   refine fR 4 W ?_
   first|refine bj W W W W ?_|refine bm W W W ?_|(refine aX W W ?_;(refine fJ W W I W W ?_))
   first|refine bj W W W W ?_|refine bm W W W ?_|(refine aX W W ?_;(refine aW z W W ?_))
   refine fR 1 W ?_
   first|refine bj W W W W ?_|refine bm W W W ?_|(refine aX W W ?_;(refine aW s W W ?_))
   refine fR 1 W ?_
   first|refine bj W W W W ?_|refine bm W W W ?_|(refine aX W W ?_;(refine mG W W W (r:=.bool true) (by show some (D.bool (_==_))=_;rw[R]) ?_))
   refine fR 1 W<|TF.nil ⟨by kernel_rfl,rfl⟩
  refine dO [1,2,62] W<|Oq (lR p W W W)<|dL [] W<|DC.ret ⟨_,W,Px⟩
end
end Go.Proofs.Sz
namespace Go.Proofs.Sz
open Go.Mt Go.Sm Go.Proofs
open Tryz
variable{K:Hp}{Y:av}{π:Path}{i:Nat}{e:Xp}
section
variable{P:Pg}{n:Nat}{c:aI}{d:Nd}{u:US}{X:av}{H:Hp}
structure nG(P:Pg)(n:Nat)(c:aI)(d:Nd)(u:US):Prop where
 en:qH P.aG
 sz:∀π,(c.fr π).vars.length<=1000000
 Au:c.sz=bT d
 cl:∀(π:Path) (k:Nat) (v:Va),c.ok π->(c.fr π).vars[k]?=some v->v.clock.length<=1000000
 Js:bT d<=900000000
 rd:∀X,Pu P c d u X->∀π k,X.fs π=2->xw c π k->k<bT d->X.x.m k=c.rd k
 Cd:c.ok []
 lo:∀(π:Path) (k q:Nat),c.ok π->(c.fr π).cK[k]?=some (some q)->xw c π q
 gh:∀(π:Path) (j:Nat) (q:aB),(c.fr π).aq[j]?=some q->q.kd=2->c.sb (j::π) 0=c.ek π j/\c.val (j::π) 0=none
 Cq:∀(π:Path) (j:Nat) (q:aB),c.ok π->(c.fr π).aq[j]?=some q->jD q.ex/\q.args.length<=1000000/\(∀e∈q.args,jD e)/\q.aj.length<=1000/\(∀a∈q.aj,uc a.cy/\a.fm.length<=1000000/\a.fo.length<=1000000)/\q.lhs.length<=1000000/\pk q<=1000000
 Lb:∀π,(c.fr π).aq.length<=1000000
 je:∀(π:Path) (j:Nat) (q:aB),c.ok π->(c.fr π).aq[j]?=some q->∀a∈q.aj,∀t:Tr,(t∈a.fm\/t∈a.fo)->jD t.e/\xP t.e=0
 pq:∀(π:Path) (j:Nat) (q:aB) (p:Nat),c.ok π->(c.fr π).aq[j]?=some q->(c.fr π).pos[j]?=some p->p+qP q<=bT d
 oq:∀(π:Path) (j:Nat) (q:aB) (p:Nat),c.ok π->(c.fr π).aq[j]?=some q->(c.fr π).pos[j]?=some p->∀k,p<=k->k<p+(gR q.kd+xP q.ex+aR (q.args.map xP))->xw c π k
 ML:∀(π:Path) (k q:Nat),c.ok π->(c.fr π).cK[k]?=some (some q)->q<bT d
 rs:∀X,Pu P c d u X->∀(π:Path) (j:Nat) (q:aB) (p:Nat),X.fs π=2->(c.fr π).aq[j]?=some q->q.kd=2->(c.fr π).pos[j]?=some p->X.dn π j=false->X.x.s p=c.rs p
 rp:∀X,Pu P c d u X->∀(π:Path) (j:Nat) (q:aB) (p:Nat),X.fs π=2->(c.fr π).aq[j]?=some q->q.kd=4->(c.fr π).pos[j]?=some p->X.x.p p=c.rp p
 lh:∀(π:Path) (j:Nat) (q:aB),c.ok π->(c.fr π).aq[j]?=some q->∀x∈q.lhs,∀σ,c.find π x=some σ->σ.1=[]->d.ins.length<=σ.2
 NE:∀(π:Path) (i:Nat) (b:Option Nat),c.ok π->(c.fr π).cK[i]?=some b->∃v,(c.fr π).vars[i]?=some v
 NF:∀(i k:Nat),(c.fr []).cK[i]?=some (some k)->d.ins.length<=i
 inj:∀(π:Path) (j:Nat) (q:aB) (b:Path) (j':Nat) (q':aB) (p:Nat),c.ok π->c.ok b->(c.fr π).aq[j]?=some q->(c.fr b).aq[j']?=some q'->q.kd=2->q'.kd=2->(c.fr π).pos[j]?=some p->(c.fr b).pos[j']?=some p->b=π/\j'=j
def t_(P:Pg)(n:Nat)(c:aI)(d:Nd)(u:US)(X:av)(H:Hp)(v:Int)(w:List (Nat×Int))(r:M)(K:Hp):Prop:=r=.d (.int .i32 v)/\∃Y,cT P n c d u X H w.length w Y K
def Pu.ok(S:nG P n c d u)(h:Pu P c d u X)(hf:X.fs π=2):c.ok π:=by
 cases π with
 |nil=>exact S.Cd
 |cons j π=>exact(h.fp j π (by rw[hf];simp)).2
def bf.box{E:Path×Nat->Prop}(h:bf c E X H Y K){b:Nat}{m:M}(a:X.box H b m):Y.box K b m:=a.up h.iD
def um{L:Hp}{d f b a':Nat}{k:Xp}(h:jD e)(j:b+aR (e.kids.map xP)<=1000000000)(l:e.kids[i]?=some k)(m:X.box K d (.ref (X.A .it) 0))(n:X.box K f (.ref (X.A (.fr π)) 0))(hf:X.fs π=2)(a:bf c (λ_=>False) X K Y L)
  (o:a'=b+aR ((e.kids.take i).map xP)) {post:M->Hp->Prop} (g:DT prog 91 [.ref (Y.A .it) 0,.ref (Y.A (.fr π)) 0,.d (.agg k.cells),dN a'] L post):
  DT prog 120 [dN i,.d (.aZ [.int .i64 (b:Int)] 0),.d (.aZ e.cells 0),.ref d 0,.ref f 0] L post:=by
 subst o;refine Gr h j l (a.box m).2 (a.box n).2 ?_;rw[(a.A .it trivial).2,(a.A (.fr π) (by show 1<=X.fs π;omega)).2]at g;exact g
theorem cT.refl(a:cS P n c d u X H)(b:bf c (λ_=>False) X H X K)(e:cD P n c d X K):cT P n c d u X H 0 [] X K:=⟨⟨e,a.pu⟩,b,asj _,by grind⟩
def cT.pre{K L:Hp}{Y:av}{t:Nat}{w:List (Nat×Int)}(a:bf c (λ_=>False) X H X K)(h:cT P n c d u X K t w Y L):cT P n c d u X H t w Y L:=⟨h.1,a.trans h.2.1,h.2.2⟩
def cT.le{t a:Nat}{w:List (Nat×Int)}(h:cT P n c d u X H t w Y K)(l:t<=a):cT P n c d u X H a w Y K:=⟨h.1,h.2.1,ata h.2.2.1 (Nat.add_le_add_left l _),h.2.2.2⟩
def Lc{kids:List Xp}(h:kids[i]?=some e):aR ((kids.take i).map xP)+xP e<=aR (kids.map xP):=by
 induction kids generalizing i with
 |nil=>cases h
 |cons x l a=>cases i with
  |zero=>injection h with h;subst h;simp[aR]
  |succ i=>have:=a (i:=i) h;simp only[atZ,asT,aR,auZ]at this⊢;omega
def dD(S:nG P n c d u){r:Nat}(hV:eH P n c d u r)(π:Path)(e:Xp)(A:jD e)(a:Nat)(v:Int)(w:List (Nat×Int))(Qx:gI P.aG c π r e a v w)(X:av)(H:Hp)(z:cS P n c d u X H)(hT:X.T c+w.length<=1000000000000)(F:lH c X r)(hf:X.fs π=2)
  (hb:a+xP e<=1000000000) (E:∀k,a<=k->k<a+xP e->xw c π k) (B:∀p∈w,mQ c p.1 p.2):
  DT prog 91 [.ref (X.A .it) 0,.ref (X.A (.fr π)) 0,.d (.agg e.cells),dN a] H (t_ P n c d u X H v w):=by
 have L:∀o∈e.kids,∀(a:Nat) (v:Int) (w:List (Nat×Int)),gI P.aG c π r o a v w->∀(X:av) (H:Hp),cS P n c d u X H->X.T c+w.length<=1000000000000->lH c X r->X.fs π=2->a+xP o<=1000000000->(∀q,a<=q->q<a+xP o->xw c π q)->(∀p∈w,mQ c p.1 p.2)->
   DT prog 91 [.ref (X.A .it) 0,.ref (X.A (.fr π)) 0,.d (.agg o.cells),dN a] H (t_ P n c d u X H v w):= λo y a v w Qx X H=>
  have:=Xp.Ca y
  dD S hV π o (A.sZ y) a v w Qx X H
 have m:=z.lay;have O1:=qK m;have d7:X.T c<=1000000000000:=by omega
 have k:(H++[Ob.box [.ref (X.A .it) 0]]++[Ob.box [.ref (X.A (.fr π)) 0]])[H.length]?=some (Ob.box [.ref (X.A .it) 0]):=by simp
 have l:(H++[Ob.box [.ref (X.A .it) 0]]++[Ob.box [.ref (X.A (.fr π)) 0]])[(H++[Ob.box [M.ref (X.A .it) 0]]).length]?=some (Ob.box [.ref (X.A (.fr π)) 0]):=by simp
 have g:=(m.grow [Ob.box [.ref (X.A .it) 0]]).grow [Ob.box [.ref (X.A (.fr π)) 0]];have s:=(bf.grow c (λ_=>False) X H [Ob.box [.ref (X.A .it) 0]]).trans (bf.grow c (λ_=>False) X _ [Ob.box [.ref (X.A (.fr π)) 0]]);have C:=EZ e;obtain⟨h,x⟩:∃b,b=H.length:=⟨_,rfl⟩;obtain⟨j,t⟩:∃b,b=(H++[Ob.box [M.ref (X.A .it) 0]]).length:=⟨_,rfl⟩;have G:X.own h=none:=O1 _ (by omega);have I:X.own j=none:=O1 _ (by rw[t];simp);refine DT.ob func91 W ntmps91 W ?_;by_cases Z:e.kd=9\/e.kd=10\/e.kd=11
 .have f4:dh e.kd=1:=by unfold dh;rw[asB Z]
  have d6:=E a (asj _) (by omega);have P5:((a:Nat):Int)+1=((a+1:Nat):Int):=by omega
  rw[f4]at C;cases Qx<;>simp only[Xp.kd]at Z<;>try (exfalso;omega)
  .rename_i Q ac O ah J N p v1 R ha hy;have T:a<bT d:=by rw[<-S.Au];exact ha
   have Ta:=S.rd X z.pu π a hf d6 T;rw[Xp.aA];refine dO [2,8] W<|Oq (cF W W W)<|dR [9] W<|Oq (cF W W W)<|dR [11] W<|Oq (BP W W W W)<|dL [] W ?_;rw[<-x,<-t];rw[<-x]at k;rw[<-t]at l;generalize hK:H++[Ob.box [M.ref (X.A .it) 0]]++[Ob.box [M.ref (X.A (.fr π)) 0]]=K at k l g s⊢;have Rb:X.box K h (.ref (X.A .it) 0):=⟨G,k⟩;have R_:X.box K j (.ref (X.A (.fr π)) 0):=⟨I,l⟩;refine dO [2,2,1,2,43] W<|Oq (ay W W W (by omega)) ?_;rw[P5];refine dL [] W<|DC.freeze 7 (ds:=[iN (a+1)]) W W ?_;obtain⟨y,U⟩:∃y,y=bQ 9 Q ac O ah ([J,N].map Xp.cells) p:=⟨_,rfl⟩;refine dO [2,44] W<|Oq (ez W W)<|dR [14] W<|Oq (wy W)<|dR [999] W<|Oq (cc W W (uT _ _) W W W)<|dL [] W ?_;have X4:∀h g:Ob,(K++[h]).set K.length g=K++[g]:= λh g=>by rw[att _ _ (asj _),aur];rfl
   refine OB [nR 4 h,nR 5 j,nD 6 (.aZ y 0),(9,.loc 9 0),nR 10 K.length] (K++[Ob.box [(M.fn 120 [.d (.aZ [iN (a+1)] 0),.d (.aZ y 0),.ref h 0,.ref j 0])]]) (kc W (kc W (kc (by rw[U];rfl) W))) (by rw[U];exact X4 _ _) ?_;have f8:=qK g _ (asj _);have Tq:=g.grow [Ob.box [(M.fn 120 [.d (.aZ [iN (a+1)] 0),.d (.aZ y 0),.ref h 0,.ref j 0])]];have d8:=s.trans (bf.grow c (λ_=>False) X K [Ob.box [(M.fn 120 [.d (.aZ [iN (a+1)] 0),.d (.aZ y 0),.ref h 0,.ref j 0])]]);have hg:=bf.grow c (λ_=>False) X K [Ob.box [(M.fn 120 [.d (.aZ [iN (a+1)] 0),.d (.aZ y 0),.ref h 0,.ref j 0])]];have V:=hg.box Rb;have d9:=hg.box R_;have WJ:X.box (K++[Ob.box [(M.fn 120 [.d (.aZ [iN (a+1)] 0),.d (.aZ y 0),.ref h 0,.ref j 0])]]) K.length (M.fn 120 [.d (.aZ [iN (a+1)] 0),.d (.aZ y 0),.ref h 0,.ref j 0]):=⟨f8,uT _ _⟩;generalize K++[Ob.box [(M.fn 120 [.d (.aZ [iN (a+1)] 0),.d (.aZ y 0),.ref h 0,.ref j 0])]]=K3 at Tq d8 V d9 WJ⊢;have WU:X.sZ c K3 (M.fn 120 [.d (.aZ [iN (a+1)] 0),.d (.aZ y 0),.ref h 0,.ref j 0]) π (.mk 9 Q ac O ah [J,N] p) (a+1):=⟨by show 1<=X.fs π;omega,h,j,by rw[Xp.aA,U];rfl,V,d9⟩;have f9:MK c X K3 (.fn 124 [.ref K.length 0,.d (.aZ [iN 1] 0)]) ⟨π,N,a+1+xP J,a,v1,R⟩ K.length (M.fn 120 [.d (.aZ [iN (a+1)] 0),.d (.aZ y 0),.ref h 0,.ref j 0]) (.mk 9 Q ac O ah [J,N] p) 1 (a+1):=⟨rfl,WJ,WU,A,rfl,rfl,by simp[Xp.kids,aR]⟩;have WY:xP (Xp.mk 9 Q ac O ah [J,N] p)=1+(xP J+(xP N+0)):=C;have gc:a+1+xP J+xP N<=1000000000:=by omega
   have VO:∀o,a+1+xP J<=o->o<a+1+xP J+xP N->xw c π o:= λo g g=>E o (by omega) (by omega)
   have ge:AI.ok P c d X ⟨π,N,a+1+xP J,a,v1,R⟩:=⟨hy,hf,T,⟨B _ (asV ..),λq g=>B q (asI _ g)⟩,A.sZ (by simp[Xp.kids]),VO,gc⟩;obtain⟨r1,i8,⟨co,Y,Pz,_,Qj,_,_,i6,_,Ug,i7⟩,P1⟩:=A2 ⟨Tq,z.pu⟩ (by have:=Jl z.pu;simp at hT;omega) f9 ge;refine dO [2,46] W ?_;subst U;refine Oq (AF W W W)<|dR [3,2,0,2,0,2,0,2,0,2,0,2,0,2,0,2,0,2,1,1,2,142] W<|Oq (cI W W W (by simp))<|dL [] W<|DC.freeze 20 (ds:=[iN 1]) W W<|dO [2,143] W<|Oq (ax W W V.2 W)<|dR [144] W<|Oq (ez W W)<|dR [146] W<|Oq (au P1 W W)<|dL [] W ?_;have Yk:=(Pz.box V).2;have dj:=Y.lay.inst;rw[(Pz.A .it trivial).2]at dj;have Q5:=Y.lay.unit;have Rz:=Y.lay.mem;have S_:=iO (n:=bT d) (f:=iP co.x.m) T;rw[show iP co.x.m a=.d (.int .i32 (c.rd a)) by rw[<-Ta,i6]]at S_;apply Ow bX
   .intro s0 Oo;refine aw W W Yk W<|fR 2 W<|aw W W dj W<|fR 2 W<|aw W W Q5 W<|fR 1 W<|cZ W W W Rz (asm a) (by exact atG.2 T)<|jK W W Rz S_<|fR 1 W<|TF.nil ⟨by kernel_rfl,rfl⟩
   exact DC.ret ⟨_,W,W,co,Y,d8.trans Pz,ata Ug (by show _+(1+R.length)<=_+(R.length+1);omega),λq g=>i7 q.1 q.2 g⟩
  .rename_i O Y N ac J p v1 Q ha hy;have R:a<bT d:=by rw[<-S.Au];exact ha
   have Ta:=S.rd X z.pu π a hf d6 R;rw[Xp.aA];refine dO [2,8] W<|Oq (cF W W W)<|dR [9] W<|Oq (cF W W W)<|dR [11] W<|Oq (BP W W W W)<|dL [] W ?_;rw[<-x,<-t];rw[<-x]at k;rw[<-t]at l;generalize hK:H++[Ob.box [M.ref (X.A .it) 0]]++[Ob.box [M.ref (X.A (.fr π)) 0]]=K at k l g s⊢;have Rb:X.box K h (.ref (X.A .it) 0):=⟨G,k⟩;have R_:X.box K j (.ref (X.A (.fr π)) 0):=⟨I,l⟩;refine dO [2,2,1,2,43] W<|Oq (ay W W W (by omega)) ?_;rw[P5];refine dL [] W<|DC.freeze 7 (ds:=[iN (a+1)]) W W ?_;obtain⟨y,T⟩:∃y,y=bQ 10 O Y N ac ([J].map Xp.cells) p:=⟨_,rfl⟩;refine dO [2,44] W<|Oq (ez W W)<|dR [14] W<|Oq (wy W)<|dR [999] W<|Oq (cc W W (uT _ _) W W W)<|dL [] W ?_;have X4:∀h g:Ob,(K++[h]).set K.length g=K++[g]:= λh g=>by rw[att _ _ (asj _),aur];rfl
   refine OB [nR 4 h,nR 5 j,nD 6 (.aZ y 0),(9,.loc 9 0),nR 10 K.length] (K++[Ob.box [(M.fn 120 [.d (.aZ [iN (a+1)] 0),.d (.aZ y 0),.ref h 0,.ref j 0])]]) (kc W (kc W (kc (by rw[T];rfl) W))) (by rw[T];exact X4 _ _) ?_;have d9:=qK g _ (asj _);have Tq:=g.grow [Ob.box [(M.fn 120 [.d (.aZ [iN (a+1)] 0),.d (.aZ y 0),.ref h 0,.ref j 0])]];have co:=s.trans (bf.grow c (λ_=>False) X K [Ob.box [(M.fn 120 [.d (.aZ [iN (a+1)] 0),.d (.aZ y 0),.ref h 0,.ref j 0])]]);have hg:=bf.grow c (λ_=>False) X K [Ob.box [(M.fn 120 [.d (.aZ [iN (a+1)] 0),.d (.aZ y 0),.ref h 0,.ref j 0])]];have U:=hg.box Rb;have d8:=hg.box R_;have WJ:X.box (K++[Ob.box [(M.fn 120 [.d (.aZ [iN (a+1)] 0),.d (.aZ y 0),.ref h 0,.ref j 0])]]) K.length (M.fn 120 [.d (.aZ [iN (a+1)] 0),.d (.aZ y 0),.ref h 0,.ref j 0]):=⟨d9,uT _ _⟩;generalize K++[Ob.box [(M.fn 120 [.d (.aZ [iN (a+1)] 0),.d (.aZ y 0),.ref h 0,.ref j 0])]]=K3 at Tq co U d8 WJ⊢;have WU:X.sZ c K3 (M.fn 120 [.d (.aZ [iN (a+1)] 0),.d (.aZ y 0),.ref h 0,.ref j 0]) π (.mk 10 O Y N ac [J] p) (a+1):=⟨by show 1<=X.fs π;omega,h,j,by rw[Xp.aA,T];rfl,U,d8⟩;have f8:MK c X K3 (.fn 124 [.ref K.length 0,.d (.aZ [iN 0] 0)]) ⟨π,J,a+1,a,v1,Q⟩ K.length (M.fn 120 [.d (.aZ [iN (a+1)] 0),.d (.aZ y 0),.ref h 0,.ref j 0]) (.mk 10 O Y N ac [J] p) 0 (a+1):=⟨rfl,WJ,WU,A,rfl,rfl,by simp[Xp.kids,aR]⟩;have WY:xP (Xp.mk 10 O Y N ac [J] p)=1+(xP J+0):=C;have f9:a+1+xP J<=1000000000:=by omega
   have VO:∀o,a+1<=o->o<a+1+xP J->xw c π o:= λo g g=>E o (by omega) (by omega)
   have gc:AI.ok P c d X ⟨π,J,a+1,a,v1,Q⟩:=⟨hy,hf,R,⟨B _ (asV ..),λq g=>B q (asI _ g)⟩,A.sZ (by simp[Xp.kids]),VO,f9⟩;obtain⟨r1,i7,⟨ah,V,Pz,_,Qj,_,_,ge,_,Ug,i6⟩,P1⟩:=A2 ⟨Tq,z.pu⟩ (by have:=Jl z.pu;simp at hT;omega) f8 gc;refine dO [2,46] W ?_;subst T;refine Oq (AF W W W)<|dR [3,2,0,2,0,2,0,2,0,2,0,2,0,2,0,2,0,2,0,2,1,2,142] W<|Oq (cI W W W (by simp))<|dL [] W<|DC.freeze 20 (ds:=[iN 0]) W W<|dO [2,143] W<|Oq (ax W W U.2 W)<|dR [144] W<|Oq (ez W W)<|dR [146] W<|Oq (au P1 W W)<|dL [] W ?_;have Yk:=(Pz.box U).2;have dj:=V.lay.inst;rw[(Pz.A .it trivial).2]at dj;have Q5:=V.lay.unit;have Rz:=V.lay.mem;have S_:=iO (n:=bT d) (f:=iP ah.x.m) R;rw[show iP ah.x.m a=.d (.int .i32 (c.rd a)) by rw[<-Ta,ge]]at S_;apply Ow bX
   .intro s0 Oo;refine aw W W Yk W<|fR 2 W<|aw W W dj W<|fR 2 W<|aw W W Q5 W<|fR 1 W<|cZ W W W Rz (asm a) (by exact atG.2 R)<|jK W W Rz S_<|fR 1 W<|TF.nil ⟨by kernel_rfl,rfl⟩
   exact DC.ret ⟨_,W,W,ah,V,co.trans Pz,ata Ug (by show _+(1+Q.length)<=_+(Q.length+1);omega),λq g=>i6 q.1 q.2 g⟩
  .rename_i op ah T co K Q p v1 w1 v2 w2 ha hx hy;have Uc:a<bT d:=by rw[<-S.Au];exact ha
   have Ta:=S.rd X z.pu π a hf d6 Uc;rw[Xp.aA];refine dO [2,8] W<|Oq (cF W W W)<|dR [9] W<|Oq (cF W W W)<|dR [11] W<|Oq (BP W W W W)<|dL [] W ?_;rw[<-x,<-t];rw[<-x]at k;rw[<-t]at l;generalize hK:H++[Ob.box [M.ref (X.A .it) 0]]++[Ob.box [M.ref (X.A (.fr π)) 0]]=ac at k l g s⊢;have Rb:X.box ac h (.ref (X.A .it) 0):=⟨G,k⟩;have R_:X.box ac j (.ref (X.A (.fr π)) 0):=⟨I,l⟩;refine dO [2,2,1,2,43] W<|Oq (ay W W W (by omega)) ?_;rw[P5];refine dL [] W<|DC.freeze 7 (ds:=[iN (a+1)]) W W<|DC.freeze 9 (ds:=[.int .i64 (a:Int)]) W W ?_;obtain⟨EC,To⟩:∃EC,EC=bQ 11 op ah T co ([K,Q].map Xp.cells) p:=⟨_,rfl⟩;refine dO [2,44] W<|Oq (ez W W)<|dL [] W<|DC.vw [nR 4 h,nR 5 j,nD 6 (.aZ EC 0),nD 9 (.aZ [.int .i64 (a:Int)] 0),(10,.loc 10 0)] [(10,[(M.fn 120 [.d (.aZ [iN (a+1)] 0),.d (.aZ EC 0),.ref h 0,.ref j 0])])] ac (kc W (kc W (kc (by rw[To];rfl) W))) (λY=>?_) W ?_
   .rw[To];by_cases d8:Y=10
    .subst d8;rfl
    .have d9:Nat.beq 10 Y=false:=by rw[<-atr];intro m;exact d8 (asy m).symm
     by_cases e7:Y=7
     .subst e7;rfl
     .have n7:Nat.beq 7 Y=false:=by rw[<-atr];intro m;exact e7 (asy m).symm
      by_cases e9:Y=9
      .subst e9;rfl
      .have n9:Nat.beq 9 Y=false:=by rw[<-atr];intro m;exact e9 (asy m).symm
       simp[Mt.get,Mt.del,d9,n7,n9,show Nat.beq 9 7=false from rfl,show Nat.beq 9 9=true from rfl]
   have RF:xP (Xp.mk 11 op ah T co [K,Q] p)=1+(xP K+(xP Q+0)):=C;have UK:a+1+aR ((Xp.mk 11 op ah T co [K,Q] p).kids.map xP)<=1000000000:=by show a+1+(xP K+(xP Q+0))<=_;omega
   have gc:X.T c+(w1.length+w2.length)+1<=1000000000000:=by simp at hT;omega
   obtain⟨_,K1,⟨rfl,Y1,V⟩,OT⟩:=um (i:=0) (a':=a+1) A UK W Rb R_ hf (bf.refl c _ X ac) (by simp[aR]) (L K (by simp[Xp.kids]) (a+1) v1 w1 hx X ac ⟨g,z.pu⟩ (by omega) F hf (by omega) (λq g g=>E q (by omega) (by omega)) (λq U=>B q (asI _ (asw _ U))));have VP:=V.2.2.1;obtain⟨_,K2,⟨rfl,y,N⟩,OV⟩:=um (i:=1) (a':=a+1+xP K) A UK W Rb R_ hf V.2.1 (by simp[aR,Xp.kids]) (L Q (by simp[Xp.kids]) (a+1+xP K) v2 w2 hy Y1 K1 V.1 (by omega) (F.next V.2.1) (V.2.1.f2 π hf) (by omega) (λq g g=>E q (by omega) (by omega)) (λq U=>B q (asI _ (asz _ U))));have hC:=(cT.pre s V).trans N;have P0:=V.2.1.trans N.2.1;have R:=(P0.A .it trivial).2;rw[Xp.aA]at OT OV;change CT _ _ [_,_,.d (.aZ (bQ 11 op ah T co ([K,Q].map Xp.cells) p) 0),_,_] _ _ at OT;change CT _ _ [_,_,.d (.aZ (bQ 11 op ah T co ([K,Q].map Xp.cells) p) 0),_,_] _ _ at OV;rw[<-To]at OT OV;have dj:=g.inst;have Q5:=g.unit;have Rz:=g.mem;have S_:=iO (n:=bT d) (f:=iP X.x.m) Uc;rw[show iP X.x.m a=.d (.int .i32 (c.rd a)) by rw[<-Ta]]at S_;have Yk:=P0.box Rb;rw[<-R]at Yk;have Tm:y.r_ c K2 (.fn 125 [.ref h 0,.d (.aZ [.int .i64 (a:Int)] 0)]) (.arrow a):=⟨h,rfl,Yk⟩;obtain⟨hL,hE⟩:=pw N.1.lay Tm;obtain⟨f8,hS,f9⟩:=qJ N.1.pu (p:=(.arrow a,.fn 125 [.ref h 0,.d (.aZ [.int .i64 (a:Int)] 0)])) (⟨Uc,B _ (asV ..)⟩) (H:=K2)
   have Px:∀J O,y.de K2 (.fn 125 [.ref h 0,.d (.aZ [.int .i64 (a:Int)] 0)])=J->O=(if c.rd a=0 then v2 else v1)->t_ P n c d u X H (if c.rd a=0 then v2 else v1) ((a,0)::(w1++w2)) (.d (.int .i32 O)) J:=by
    rintro J O rfl rfl;refine⟨W,_,⟨hL,f8⟩,hC.2.1.trans hE,?_,λq U=>?_⟩
    .rw[f9];have:=hC.2.2.1;simp only[asO,asq];omega
    .rcases asQ.1 U with rfl|U
     .exact hS a 0 ⟨W,W⟩
     .exact hE.S _ _ (hC.2.2.2 q U)
   subst To;refine dC [2,3,2,0,2,0,2,0,2,0,2,0,2,0,2,0,2,0,2,0,2,0,2,1] W ?_;apply Ow bX
   .intro s0 Oo;refine aw W W Rb.2 W<|fR 2 W<|aw W W dj W<|fR 2 W<|aw W W Q5 W<|fR 1 W<|cZ W W W Rz (asm a) (by exact atG.2 Uc)<|jK W W Rz S_<|fR 2 W<|TF.nil ⟨by kernel_rfl,rfl⟩
   refine dC [] W ?_;apply Ow bX
   .intro s0 Oo;refine fR 1 W<|oP OT W W W<|fR 1 W<|oP OV W W W<|fR 2 W<|TF.nil ⟨by kernel_rfl,rfl⟩
   have J:=N.1.lay.inst;rw[R]at J;rw[R]at Yk;have XR:=Yk.2
   let Iv:M->Hp->Prop:= λT L=>L[h]?=some (Ob.box [.ref (X.A .it) 0])/\L[X.A .it]?=some (Ob.box [.ref (y.A .un) 0,.ref (y.A (.fr [])) 0,.d (.bool false),bI (y.A .af) y.vF y.F.length,T])
   by_cases O:y.N=[]
   .have e0:bI (y.A .nx) y.vN y.N.length=.d (.sl []):=by simp[O,bI]
    rw[e0]at J;refine dC [] W ?_;apply PL (Iv (.d (.sl []))) (⟨XR,J⟩) bX
    .intro s0 Oo;refine OH W W (λL m=>⟨_,m.1,rfl⟩)<|OH W W (λL m=>⟨_,m.1,rfl⟩)<|iR 2 W<|OH W W (λL m=>⟨_,m.2,rfl⟩) ?_;apply OA
     .skip
      refine eW W W<|TF.nil ⟨W,W⟩
     apply OA
     .skip
      refine dW (cs:=[_]) W W W W W W<|TF.nil ⟨W,W⟩
     apply OA
     .skip
      refine o9 true W W W (lV _ _) W W (by decide) (by decide)<|TF.nil ⟨rfl,rfl⟩
     refine iR 2 W ?_;apply OA
     .skip
      refine fK W W (bu (bu J)) W W W<|TF.nil ⟨W,W⟩
     exact jr.nil ⟨by kernel_rfl,by repeat' first|exact trivial|exact .inl ((by first|exact⟨bu XR,bu J⟩|exact⟨bu (bu XR),bu (bu J)⟩))|exact .inr (by kernel_rfl)|refine⟨?_,?_⟩,rfl⟩
    refine dC [2] W<|DC.cond W (λhc=>?_) (λhc=>?_)
    .refine dC [2] W<|DC.ret ⟨_,W,Px _ _ ?_ (by rw[asu];intro h0;rw[h0]at hc;cases hc)⟩;simp only[av.de,asB O,asq,asS,R];rfl
    .refine dC [2] W<|DC.ret ⟨_,W,Px _ _ ?_ (by rw[asB];simpa using hc)⟩;simp only[av.de,asB O,asq,asS,R];rfl
   .have e0:bI (y.A .nx) y.vN y.N.length=.bC (y.A .nx) y.vN y.N.length:=by unfold bI;rw[asu];intro e;exact O (atb e)
    rw[e0]at J;have d8:=y_ (c:=c) (X:=y) (by have:=N.2.2.1;omega);have OP:y.A .nx≠X.A .it:=by rw[<-R];exact N.1.lay.ne (r:=.nx) (r':=.it) O trivial (by simp)
    refine dC [] W ?_;apply PL (Iv (.bC (y.A .nx) y.vN y.N.length)) (⟨XR,J⟩) bX
    .intro s0 Oo;refine OH W W (λL m=>⟨_,m.1,rfl⟩)<|OH W W (λL m=>⟨_,m.1,rfl⟩)<|iR 2 W<|OH W W (λL m=>⟨_,m.2,rfl⟩) ?_;apply OA
     .skip
      refine eW W W<|TF.nil ⟨W,W⟩
     apply OA
     .skip
      refine dW (cs:=[_]) W W W W W W<|TF.nil ⟨W,W⟩
     apply OA
     .skip
      refine o_ W W W (lV _ _) (bu (vO N.1.lay O)) W (by omega) (by omega)<|TF.nil ⟨rfl,rfl⟩
     refine iR 2 W ?_;apply OA
     .skip
      refine fK W W (fV (bu J) OP) W W W<|TF.nil ⟨W,W⟩
     exact jr.nil ⟨by kernel_rfl,by repeat' first|exact trivial|exact .inl ((by first|exact⟨bu XR,bu J⟩|exact⟨fV (bu XR) (by intro e;have:=N.1.lay.own .nx O;rw[e,Yk.1]at this;cases this),fV (bu J) OP⟩))|exact .inr (by kernel_rfl)|refine⟨?_,?_⟩,rfl⟩
    refine dC [2] W<|DC.cond W (λhc=>?_) (λhc=>?_)
    .refine dC [2] W<|DC.ret ⟨_,W,Px _ _ ?_ (by rw[asu];intro h0;rw[h0]at hc;cases hc)⟩;simp only[av.de,asu O,asq,asS,R];rfl
    .refine dC [2] W<|DC.ret ⟨_,W,Px _ _ ?_ (by rw[asB];simpa using hc)⟩;simp only[av.de,asu O,asq,asS,R];rfl
 .have d8:dh e.kd=0:=by unfold dh;rw[asu Z]
  rw[d8]at C;cases Qx<;>try first|exact absurd (Or.inl W) Z|exact absurd (Or.inr (Or.inl W)) Z|exact absurd (Or.inr (Or.inr W)) Z
  .rename_i o N O y R Q p J;have hv:=wE S.en (Xp.mk o N O y R Q p);rw[Xp.aA]at hv;rw[Xp.aA];refine dO [2,8] W<|Oq (cF W W W)<|dR [9] W<|Oq (cF W W W)<|dL [] W ?_;rw[<-x,<-t];rw[<-x]at k;rw[<-t]at l;generalize hK:H++[Ob.box [M.ref (X.A .it) 0]]++[Ob.box [M.ref (X.A (.fr π)) 0]]=K at k l g s⊢;have T:X.box K h (.ref (X.A .it) 0):=⟨G,k⟩;have R_:X.box K j (.ref (X.A (.fr π)) 0):=⟨I,l⟩;have U:=g.inst;have V:=g.unit;have Rz:=g.mem;have Y:cS P n c d u X K:=⟨g,z.pu⟩;refine dC [2] W ?_;have ac:(o==9)=false:=by rcases J with m|m|m<;>rw[m]<;>rfl
   have ah:(o==10)=false:=by rcases J with m|m|m<;>rw[m]<;>rfl
   have co:(o==11)=false:=by rcases J with m|m|m<;>rw[m]<;>rfl
   refine dO [2,31] W<|Oq (gG W W W (r:=.bool false) (by show some (D.bool (_==_))=_;rw[<-ac];rfl))<|dR [35] W ?_
   first|refine Oq (aH W W) ?_|(refine Oq (aC W) ?_;refine Oq (gG W W W (r:=.bool false) (by show some (D.bool (_==_))=_;rw[<-ah];rfl)) ?_)
   refine dR [40] W ?_
   first|refine Oq (aH W W) ?_|(refine Oq (aC W) ?_;refine Oq (gG W W W (r:=.bool false) (by show some (D.bool (_==_))=_;rw[<-co];rfl)) ?_)
   refine dR [0,2,44] W<|Oq (ez W W)<|dL [2] W ?_;have Qw:CT prog 86 [.d (.sl (P.aG.map En.cells)),.d (.agg (bQ o N O y R (Q.map Xp.cells) p))] K λr' K'=>r'=.di [.d (.int .i32 (pc P.aG (.mk o N O y R Q p))),.d (.bool (isConst P.aG (.mk o N O y R Q p)))]/\K'=K:=(CT.yw hv).mono (by rintro _ _ ⟨⟨_,rfl,rfl⟩,rfl⟩;exact⟨W,W⟩)
   rcases J with rfl|rfl|rfl
   .refine dC [3,2,1,1] W ?_;apply Ow bX
    .intro s0 Oo;refine aw W W T.2 W<|fR 2 W<|aw W W U W<|fR 3 W<|aw W W V W<|fR 1 W<|kG Qw W W<|fR 5 W<|TF.nil ⟨by kernel_rfl,rfl⟩
    refine dC [2] W<|DC.ret ⟨_,W,W,X,cT.pre s (cT.refl Y (bf.refl c _ X K) g)⟩
   .refine dC [3,2,0,2,1,1] W ?_;apply Ow bX
    .intro s0 Oo;refine aw W W T.2 W<|fR 2 W<|aw W W U W<|fR 3 W<|aw W W V W<|fR 1 W<|kG Qw W W<|fR 5 W<|TF.nil ⟨by kernel_rfl,rfl⟩
    refine dC [2] W<|DC.ret ⟨_,W,W,X,cT.pre s (cT.refl Y (bf.refl c _ X K) g)⟩
   .refine dC [3,2,0,2,0,2,1] W ?_;apply Ow bX
    .intro s0 Oo;refine aw W W T.2 W<|fR 2 W<|aw W W U W<|fR 3 W<|aw W W V W<|fR 1 W<|kG Qw W W<|fR 5 W<|TF.nil ⟨by kernel_rfl,rfl⟩
    refine dC [2] W<|DC.ret ⟨_,W,W,X,cT.pre s (cT.refl Y (bf.refl c _ X K) g)⟩
  .rename_i op ac y co ah p σ O T;rw[Xp.aA];refine dO [2,8] W<|Oq (cF W W W)<|dR [9] W<|Oq (cF W W W)<|dL [] W ?_;rw[<-x,<-t];rw[<-x]at k;rw[<-t]at l;generalize hK:H++[Ob.box [M.ref (X.A .it) 0]]++[Ob.box [M.ref (X.A (.fr π)) 0]]=K at k l g s⊢;have J:X.box K h (.ref (X.A .it) 0):=⟨G,k⟩;have N:X.box K j (.ref (X.A (.fr π)) 0):=⟨I,l⟩;have dj:=g.inst;have Q5:=g.unit;have Rz:=g.mem;have R:cS P n c d u X K:=⟨g,z.pu⟩;refine dO [2,2,0,2,44] W<|Oq (ez W W)<|dL [2] W ?_;obtain⟨r1,V,⟨rfl,Y,Q,_⟩,U⟩:=hV X K R d7 F π y σ hf O T;refine dO [3,2,0,2,0,2,0,2,1,2,68] W<|Oq (ax W W J.2 W)<|dR [69] W<|Oq (ax W W N.2 W)<|dR [72] W<|Oq (au U W W)<|dL [2] W<|DC.ret ⟨_,W,W,Y,cT.pre s Q⟩
  .rename_i op ac N co ah p σ q O y hq;rw[Xp.aA];refine dO [2,8] W<|Oq (cF W W W)<|dR [9] W<|Oq (cF W W W)<|dL [] W ?_;rw[<-x,<-t];rw[<-x]at k;rw[<-t]at l;generalize hK:H++[Ob.box [M.ref (X.A .it) 0]]++[Ob.box [M.ref (X.A (.fr π)) 0]]=K at k l g s⊢;have Rb:X.box K h (.ref (X.A .it) 0):=⟨G,k⟩;have R_:X.box K j (.ref (X.A (.fr π)) 0):=⟨I,l⟩;have dj:=g.inst;have Q5:=g.unit;have Q:=g.mem;have T:cS P n c d u X K:=⟨g,z.pu⟩;refine dO [2,2,0,2,44] W<|Oq (ez W W)<|dL [2] W ?_;have U:=pv g z.pu S.sz π hf N;have S8:X.gC c π N=.ref (X.A (.ce σ.1 σ.2)) 0:=by unfold av.gC;rw[O]
   rw[S8]at U;obtain⟨V,v1,lp,eq,Pv,_,Y,Pt,_⟩:=lJ T hf O;rw[Y]at y;injection y with y
   subst y;have J:q<bT d:=by rw[<-S.Au];exact hq
   have Ta:=S.rd X z.pu σ.1 q V (S.lo σ.1 σ.2 q (Pu.ok S z.pu V) Y) J;have R:=iO (n:=bT d) (f:=iP X.x.m) J;rw[show iP X.x.m q=.d (.int .i32 (c.rd q)) by rw[<-Ta]]at R;have P_:decide (((q:Nat):Int)>=0)=true:=asP (by omega);refine dO [3,2,0,2,0,2,0,2,0,2,1,2,78] W<|Oq (ax W W R_.2 W)<|dR [81] W<|Oq (au U W W)<|dR [2,83] W<|Oq (kI (by kernel_rfl) W W W W W)<|dR [88] W ?_
   first|refine Oq (aH W W) ?_|(refine Oq (aC W) ?_;refine Oq (ax W W Pt W) ?_)
   refine dR [89] W ?_
   first|refine Oq (aH W W) ?_|(refine Oq (aC W) ?_;refine Oq (gG W W W (r:=.bool true) (by show some (D.bool (decide (_>=_)))=_;rw[<-P_];rfl)) ?_)
   refine dL [1] W ?_;apply Ow bX
   .intro s0 Oo;refine aw W W Rb.2 W<|fR 2 W<|aw W W dj W<|fR 2 W<|aw W W Q5 W<|fR 3 W<|aw W W Pt W<|cZ W W W Q (asm q) (by exact atG.2 J)<|jK W W Q R<|fR 1 W<|TF.nil ⟨by kernel_rfl,rfl⟩
   exact DC.ret ⟨_,W,W,X,cT.pre s (cT.refl T (bf.refl c _ X K) g)⟩
  .rename_i J U N V y p O hx;rw[Xp.aA];refine dO [2,8] W<|Oq (cF W W W)<|dR [9] W<|Oq (cF W W W)<|dL [] W ?_;rw[<-x,<-t];rw[<-x]at k;rw[<-t]at l;generalize hK:H++[Ob.box [M.ref (X.A .it) 0]]++[Ob.box [M.ref (X.A (.fr π)) 0]]=K at k l g s⊢;have Y:X.box K h (.ref (X.A .it) 0):=⟨G,k⟩;have R_:X.box K j (.ref (X.A (.fr π)) 0):=⟨I,l⟩;have dj:=g.inst;have Q5:=g.unit;have Rz:=g.mem;have T5:cS P n c d u X K:=⟨g,z.pu⟩;refine dO [2,2,0,2,44] W<|Oq (ez W W)<|dL [2] W ?_;have UK:a+aR ((Xp.mk 6 J U N V [y] p).kids.map xP)<=1000000000:=by rw[C]at hb;omega
   have RF:xP (Xp.mk 6 J U N V [y] p)=0+(xP y+0):=C;have ac:X.T c+(w.length)<=1000000000000:=by omega
   obtain⟨_,K1,⟨rfl,Y1,Q⟩,R⟩:=um (i:=0) (a':=a) A UK W Y R_ hf (bf.refl c _ X K) (by simp[aR,Xp.kids]<;>omega) (L y (by simp[Xp.kids]) (a) O w hx X K T5 (by omega) F hf (by omega) (λq g g=>E q (by omega) (by omega)) (λq g=>B q g));have QK:=Q.2.1;have T:=Q;have VP:=T.2.2.1;rw[Xp.aA]at R;refine dC [3,2,0,2,0,2,0,2,0,2,0,2,1] W ?_;apply Ow bX
   .intro s0 Oo;refine fR 3 W<|oP R W W W<|aW (MI J O) W W<|fR 1 W<|TF.nil ⟨by kernel_rfl,rfl⟩
   exact DC.ret ⟨_,W,W,Y1,cT.pre s T⟩
  .rename_i O ac R ah y J p T U v2 w2 hx hy;rw[Xp.aA];refine dO [2,8] W<|Oq (cF W W W)<|dR [9] W<|Oq (cF W W W)<|dL [] W ?_;rw[<-x,<-t];rw[<-x]at k;rw[<-t]at l;generalize hK:H++[Ob.box [M.ref (X.A .it) 0]]++[Ob.box [M.ref (X.A (.fr π)) 0]]=K at k l g s⊢;have V:X.box K h (.ref (X.A .it) 0):=⟨G,k⟩;have Y:X.box K j (.ref (X.A (.fr π)) 0):=⟨I,l⟩;have dj:=g.inst;have Q5:=g.unit;have Rz:=g.mem;have T5:cS P n c d u X K:=⟨g,z.pu⟩;refine dO [2,2,0,2,44] W<|Oq (ez W W)<|dL [2] W ?_;have UK:a+aR ((Xp.mk 7 O ac R ah [y,J] p).kids.map xP)<=1000000000:=by rw[C]at hb;omega
   have RF:xP (Xp.mk 7 O ac R ah [y,J] p)=0+(xP y+(xP J+0)):=C;have co:X.T c+(U.length+w2.length)<=1000000000000:=by simp only[asq]at hT;omega
   obtain⟨_,K1,⟨rfl,Y1,Q⟩,OT⟩:=um (i:=0) (a':=a) A UK W V Y hf (bf.refl c _ X K) (by simp[aR,Xp.kids]<;>omega) (L y (by simp[Xp.kids]) (a) T U hx X K T5 (by omega) F hf (by omega) (λq g g=>E q (by omega) (by omega)) (λq g=>B q (asw _ g)));have N:=Q.2.1;have WZ:=Q;have VP:=WZ.2.2.1;obtain⟨_,K2,⟨rfl,Y2,P8⟩,OV⟩:=um (i:=1) (a':=a+xP y) A UK W V Y hf N (by simp[aR,Xp.kids]<;>omega) (L J (by simp[Xp.kids]) (a+xP y) v2 w2 hy Y1 K1 Q.1 (by omega) (F.next N) (N.f2 π hf) (by omega) (λq g g=>E q (by omega) (by omega)) (λq g=>B q (asz _ g)));have P0:=N.trans P8.2.1;have Yl:=WZ.trans P8;have d6:=Yl.2.2.1;rw[Xp.aA]at OT OV;refine dO [3,2,0,2,0,2,0,2,0,2,0,2,0,2,1,2,117] W<|Oq (lR OT W W W)<|dL [] W ?_;apply Ow bX
   .intro s0 Oo;refine fR 4 W<|oP OV W W W<|aW (KX O T v2) W W<|fR 1 W<|TF.nil ⟨by kernel_rfl,rfl⟩
   exact DC.ret ⟨_,W,W,Y2,cT.pre s (Yl.le (by simp only[asq];omega))⟩
  .rename_i op ah ac d6 y J N p v1 w1 v2 w2 v3 w3 hx hy hz;rw[Xp.aA];refine dO [2,8] W<|Oq (cF W W W)<|dR [9] W<|Oq (cF W W W)<|dL [] W ?_;rw[<-x,<-t];rw[<-x]at k;rw[<-t]at l;generalize hK:H++[Ob.box [M.ref (X.A .it) 0]]++[Ob.box [M.ref (X.A (.fr π)) 0]]=K at k l g s⊢;have Q:X.box K h (.ref (X.A .it) 0):=⟨G,k⟩;have R:X.box K j (.ref (X.A (.fr π)) 0):=⟨I,l⟩;have dj:=g.inst;have Q5:=g.unit;have Rz:=g.mem;have T5:cS P n c d u X K:=⟨g,z.pu⟩;refine dO [2,2,0,2,44] W<|Oq (ez W W)<|dL [2] W ?_;have T:a+aR ((Xp.mk 8 op ah ac d6 [y,J,N] p).kids.map xP)<=1000000000:=by rw[C]at hb;omega
   have RF:xP (Xp.mk 8 op ah ac d6 [y,J,N] p)=0+(xP y+(xP J+(xP N+0))):=C;have d9:X.T c+(w1.length+w2.length+w3.length)<=1000000000000:=by simp only[asq]at hT;omega
   obtain⟨_,K1,⟨rfl,Y1,U⟩,OT⟩:=um (i:=0) (a':=a) A T W Q R hf (bf.refl c _ X K) (by simp[aR,Xp.kids]<;>omega) (L y (by simp[Xp.kids]) (a) v1 w1 hx X K T5 (by omega) F hf (by omega) (λq g g=>E q (by omega) (by omega)) (λq g=>B q (asw _ (asw _ g))));have O:=U.2.1;have WZ:=U;have VP:=WZ.2.2.1;obtain⟨_,K2,⟨rfl,Y2,V⟩,OV⟩:=um (i:=1) (a':=a+xP y) A T W Q R hf O (by simp[aR,Xp.kids]<;>omega) (L J (by simp[Xp.kids]) (a+xP y) v2 w2 hy Y1 K1 U.1 (by omega) (F.next O) (O.f2 π hf) (by omega) (λq g g=>E q (by omega) (by omega)) (λq g=>B q (asw _ (asz _ g))));have Y:=O.trans V.2.1;have Yl:=WZ.trans V;have f4:=Yl.2.2.1;obtain⟨_,K3,⟨rfl,Y3,RN⟩,PW⟩:=um (i:=2) (a':=a+xP y+xP J) A T W Q R hf Y (by simp[aR,Xp.kids]<;>omega) (L N (by simp[Xp.kids]) (a+xP y+xP J) v3 w3 hz Y2 K2 V.1 (by omega) (F.next Y) (Y.f2 π hf) (by omega) (λq g g=>E q (by omega) (by omega)) (λq g=>B q (asz _ g)));have co:=Yl.trans RN;rw[Xp.aA]at OT OV PW;refine dC [3,2,0,2,0,2,0,2,0,2,0,2,0,2,0,2,1] W ?_;apply Ow bX
   .intro s0 Oo;refine fR 1 W<|oP OT W W W<|fR 1 W<|oP OV W W W<|fR 2 W<|TF.nil ⟨by kernel_rfl,rfl⟩
   refine dO [2,131] W<|Oq (lR PW W W W)<|dL [2] W<|DC.cond W (λhc=>?_) (λhc=>?_)
   .refine dC [2] W<|DC.ret ⟨_,W,by rw[asB (by simpa using hc)];rfl,Y3,cT.pre s (co.le (by simp only[asq];omega))⟩
   .refine dC [2] W<|DC.ret ⟨_,W,by rw[asu (by simpa using hc)];rfl,Y3,cT.pre s (co.le (by simp only[asq];omega))⟩
  .rename_i N R J T y p Y;rw[Xp.aA];refine dO [2,8] W<|Oq (cF W W W)<|dR [9] W<|Oq (cF W W W)<|dL [] W ?_;rw[<-x,<-t];rw[<-x]at k;rw[<-t]at l;generalize hK:H++[Ob.box [M.ref (X.A .it) 0]]++[Ob.box [M.ref (X.A (.fr π)) 0]]=K at k l g s⊢;have U:X.box K h (.ref (X.A .it) 0):=⟨G,k⟩;have V:X.box K j (.ref (X.A (.fr π)) 0):=⟨I,l⟩;have dj:=g.inst;have Q5:=g.unit;have Rz:=g.mem;have T5:cS P n c d u X K:=⟨g,z.pu⟩;refine dO [2,2,0,2,44] W<|Oq (ez W W)<|dL [2] W ?_;have UK:a+aR ((Xp.mk 12 N R J T [y] p).kids.map xP)<=1000000000:=by rw[C]at hb;omega
   have RF:xP (Xp.mk 12 N R J T [y] p)=0+(xP y+0):=C;obtain⟨_,K1,⟨rfl,Y1,SV⟩,O⟩:=um (i:=0) (a':=a) A UK W U V hf (bf.refl c _ X K) (by simp[aR,Xp.kids]<;>omega) (L y (by simp[Xp.kids]) (a) v w Y X K T5 (by omega) F hf (by omega) (λq g g=>E q (by omega) (by omega)) (λq g=>B q g));have Q:=SV;have VP:=Q.2.2.1;rw[Xp.aA]at O;refine dO [3,2,0,2,0,2,0,2,0,2,0,2,0,2,0,2,0,2,0,2,0,2,0,2,1,2,190] W<|Oq (lR O W W W)<|dL [] W<|DC.ret ⟨_,W,W,Y1,cT.pre s Q⟩
  .rename_i Q R N T K p σ i cn e1 h1 hi hn TE U hr he;rw[Xp.aA];refine dO [2,8] W<|Oq (cF W W W)<|dR [9] W<|Oq (cF W W W)<|dL [] W ?_;rw[<-x,<-t];rw[<-x]at k;rw[<-t]at l;generalize hK:H++[Ob.box [M.ref (X.A .it) 0]]++[Ob.box [M.ref (X.A (.fr π)) 0]]=O at k l g s⊢;have V:X.box O h (.ref (X.A .it) 0):=⟨G,k⟩;have R_:X.box O j (.ref (X.A (.fr π)) 0):=⟨I,l⟩;have T5:cS P n c d u X O:=⟨g,z.pu⟩;refine dO [2,2,0,2,44] W<|Oq (ez W W)<|dL [2] W ?_;have UK:a+aR ((Xp.mk 13 Q R N T K p).kids.map xP)<=1000000000:=by rw[C]at hb;omega
   have U7:=Lc U;have RF:xP (Xp.mk 13 Q R N T K p)=0+aR (K.map xP):=C;have Xv:=HR S.en S.sz hV T5 d7 F hf (e:=Xp.mk 13 Q R N T K p) A (σ:=σ) h1 hr (i:=i) (cn:=cn) hi hn TE (km:=.fn 120 [.d (.aZ [.int .i64 (a:Int)] 0),.d (.aZ (Xp.mk 13 Q R N T K p).cells 0),.ref h 0,.ref j 0]) (a:=a) ⟨by show 1<=X.fs π;omega,h,j,rfl,V,R_⟩ (post:=t_ P n c d u X O v w) (λY ac J b4 b5 y h4 h5=>by
    injection y with _ y
    injection y with _ y
    injection y with _ y
    injection y with e4 y
    injection y with e5 _
    injection e4 with e4
    injection e5 with e5
    subst e4;subst e5;have VP:=J.2.2.1;refine um (i:=i) (a':=a+dS (K.take i)) A UK U V R_ hf J.2.1 (by rw[ry];rfl) ?_;obtain⟨r1,L1,⟨rfl,Y1,SV⟩,OT⟩:=L e1 (asn U) (a+dS (K.take i)) v w he Y ac J.1 (by omega) (F.next J.2.1) (J.2.1.f2 π hf) (by rw[ry];omega) (λq h1 g=>E q (by omega) (by rw[ry]at g;omega)) B;refine⟨_,L1,⟨W,Y1,?_⟩,OT⟩;have:=J.trans SV;rw[atH]at this;exact this)
   rw[Xp.aA]at Xv;obtain⟨r1,ac,⟨rfl,Y,J⟩,ah⟩:=Xv;refine dO [3,2,0,2,0,2,0,2,0,2,0,2,0,2,0,2,0,2,0,2,0,2,0,2,0,2,1,2,193] W<|Oq (ax W W V.2 W)<|dR [194] W<|Oq (ax W W R_.2 W)<|dR [197] W<|Oq (au ah W W)<|dL [] W<|DC.ret ⟨_,W,W,Y,cT.pre s J⟩
termination_by SizeOf.sizeOf e
end
end Go.Proofs.Sz
namespace Go.Proofs.Sz
open Go.Mt Go.Sm Go.Proofs
open Tryz
variable{l:List (Nm×Nm)}
section
variable{P:Pg}{n:Nat}{c:aI}{d:Nd}{u:US}{X:av}{H:Hp}
def Jt{i:Nat}(h:i<l.length):(sU l)[((i:Nat):Int).toNat]?=some [.str l[i].1,.str l[i].2]:=by simp[sU,h]
theorem cT.same(h:cD P n c d X H)(k:Pu P c d u X):cT P n c d u X H 0 [] X H:=⟨⟨h,k⟩,bf.refl c _ X H,asj _,by grind⟩
theorem tc(S:nG P n c d u){r:Nat}(V:eH P n c d u r){π:Path}(hl:l.length<=1000000){b:Bool}(Z:yR P.aG c π r l b)(E:cS P n c d u X H)(hT:X.T c<=1000000000000)(hP:lH c X r)(hf:X.fs π=2):
  DT prog 65 [.ref (X.A .it) 0,.ref (X.A (.fr π)) 0,.d (.sl (sU l))] H λm K=>m=.d (.bool b)/\∃Y,cT P n c d u X H 0 [] Y K:=by
 refine DT.ob func65 W ntmps65 W<|dO [2,2,17] W<|Oq (bK W W W) ?_;rw[asD];refine dL [3] W<|DC.lp (λC s=>∃(i:Nat) (Y:av) (K:Hp) (F:List (Nat×List M)),s=⟨[nN 14 i,nN 13 l.length,nD 12 (.sl (sU l)),nR 0 (X.A .it),nR 1 (X.A (.fr π))],F,K⟩/\i<=l.length/\C=l.length-i/\yR P.aG c π r (l.drop i) b/\cT P n c d u X H 0 [] Y K) l.length _
  ⟨0,X,H,_,rfl,by omega,rfl,Z,cT.same E.lay E.pu⟩ W ?_
 rintro C s1 ⟨i,G,K0,F,rfl,hi,rfl,f,g⟩;refine dC [2] W<|DC.cond W (λhc=>?_) (λhc=>?_);rotate_left
 .refine DC.exit ?_;have:i=l.length:=by grind
  subst this;rw[atQ]at f;cases f;refine dC [2] W<|DC.ret ⟨_,W,W,G,g⟩
 have I:i<l.length:=by grind
 refine dC [] W ?_;have J:=Jt I;rw[atk I]at f;generalize co:l[i]=kx at f J;obtain⟨p,q⟩:=kx;have Ri:∃a,c.find π q=some a/\c.jE a<r:=by cases f<;>exact⟨_,by assumption,by assumption⟩
 obtain⟨a,j,h⟩:=Ri;have d6:=g.2.2.1;obtain⟨r1,K,⟨rfl,Y,L,d7⟩,N⟩:=V G K0 g.1 (by omega) (hP.next g.2.1) π q a (g.2.1.f2 π hf) j h;have s:=g.trans L;have k:=L.1;have x:=s.2.1;have O:=x.f2 π hf;rw[(g.2.1.A .it trivial).2,(g.2.1.A (.fr π) (by show 1<=X.fs π;omega)).2]at N;have y:=pv k.lay k.pu S.sz π O q;rw[(x.A (.fr π) (by show 1<=X.fs π;omega)).2]at y;have S8:Y.gC c π q=.ref (Y.A (.ce a.1 a.2)) 0:=by unfold av.gC;rw[j]
 rw[S8]at y;obtain⟨Pn,v,lp,eq,e,T4,O8,Q,_⟩:=lJ k O j;have R:c.c9 P.aG a=eU P.aG v.tk v.tn:=by unfold aI.c9;rw[e]
 have A:=wD S.en v.tk v.tn;rw[<-R]at A;have T:=yT (c.c9 P.aG a) p (by rw[R];exact vI S.en _ _);have B:=k.lay.inst;rw[(x.A .it trivial).2]at B;have U:=k.lay.unit;refine dO [3,2,20] W<|Oq (aP W W W (asm i) J W)<|dR [2,27] W<|Oq (au N W W)<|dR [2,33] W<|Oq (au y W W)<|dL [] W ?_;cases t:c.val a.1 a.2 with
 |none=>
  have w:b=false:=by
   cases f with
   |no o h e=>rfl
   |xv o h e z h'=>rw[j]at o;injection o with o;subst o;rw[t]at e;cases e
  subst w;refine dC [] W<|dF W W<|dC [1,2] W<|DC.ret ⟨_,W,W,Y,s⟩
 |some z=>
  have Zb:c.get a=z:=by unfold aI.get;rw[t];rfl
  rw[Zb];by_cases w:k_ (c.c9 P.aG a) p=z
  .have ac:yR P.aG c π r (l.drop (i+1)) b:=by
    cases f with
    |no o h e=>rw[j]at o;injection o with o;subst o;exact absurd w (e z t)
    |xv ah h e hn o=>exact o
   have o:(k_ (c.c9 P.aG a) p !=z)=false:=by rw[w];simp
   refine dC [] W ?_;apply Ow bX
   .intro s0 Oo;refine fR 4 W ?_
    first|refine bj W W W W ?_|refine bm W W W ?_|(refine aX W W ?_;(refine vP (by kernel_rfl) W W W W W ?_))
    refine fR 5 W ?_
    first|refine bj W W W W ?_|refine bm W W W ?_|(refine aX W W ?_;(refine aw W W B W ?_))
    refine fR 3 W ?_
    first|refine bj W W W W ?_|refine bm W W W ?_|(refine aX W W ?_;(refine aw W W U W ?_))
    refine fR 4 W ?_
    first|refine bj W W W W ?_|refine bm W W W ?_|(refine aX W W ?_;(refine fJ W W Q W W ?_))
    first|refine bj W W W W ?_|refine bm W W W ?_|(refine aX W W ?_;(refine aW A W W ?_))
    refine fR 2 W ?_
    first|refine bj W W W W ?_|refine bm W W W ?_|(refine aX W W ?_;(refine aW T W W ?_))
    refine fR 1 W ?_
    first|refine bj W W W W ?_|refine bm W W W ?_|(refine aX W W ?_;(refine mG W W W (r:=.bool false) (by show some (D.bool (_ !=_))=_;rw[o]) ?_))
    refine fR 1 W<|TF.nil ⟨by kernel_rfl,rfl⟩
   refine dO [0,2,61] W<|Oq (ay W W W (by omega))<|dL [] W<|bG (k':=l.length-(i+1)) (by omega) ⟨i+1,Y,K,_,rfl,by omega,rfl,ac,s⟩ W W
  .have QV:b=false:=by
    cases f with
    |no o h e=>rfl
    |xv o h e hn h'=>rw[j]at o;injection o with o;subst o;rw[t]at e;injection e with e;exact absurd (hn.trans e.symm) w
   subst QV;have o:(k_ (c.c9 P.aG a) p !=z)=true:=by simpa using w
   refine dC [] W ?_;apply Ow bX
   .intro s0 Oo;refine fR 4 W ?_
    first|refine bj W W W W ?_|refine bm W W W ?_|(refine aX W W ?_;(refine vP (by kernel_rfl) W W W W W ?_))
    refine fR 5 W ?_
    first|refine bj W W W W ?_|refine bm W W W ?_|(refine aX W W ?_;(refine aw W W B W ?_))
    refine fR 3 W ?_
    first|refine bj W W W W ?_|refine bm W W W ?_|(refine aX W W ?_;(refine aw W W U W ?_))
    refine fR 4 W ?_
    first|refine bj W W W W ?_|refine bm W W W ?_|(refine aX W W ?_;(refine fJ W W Q W W ?_))
    first|refine bj W W W W ?_|refine bm W W W ?_|(refine aX W W ?_;(refine aW A W W ?_))
    refine fR 2 W ?_
    first|refine bj W W W W ?_|refine bm W W W ?_|(refine aX W W ?_;(refine aW T W W ?_))
    refine fR 1 W ?_
    first|refine bj W W W W ?_|refine bm W W W ?_|(refine aX W W ?_;(refine mG W W W (r:=.bool true) (by show some (D.bool (_ !=_))=_;rw[o]) ?_))
    refine fR 1 W<|TF.nil ⟨by kernel_rfl,rfl⟩
   refine dC [1,2] W<|DC.ret ⟨_,W,W,Y,s⟩
end
end Go.Proofs.Sz
namespace Go.Sm
open Go.Mt
def ic.uo{f:wA}{k:Nat}{v:Va}{j j':Nat}(h:ic f k v j)(a:ic f k v j'):j=j':=by
 obtain⟨_,⟨q,b,c⟩,d⟩:=h;obtain⟨_,⟨g,i,l⟩,m⟩:=a;rcases atz j j' with e|e|e
 .grind
 .exact e
 .grind
def Src.uo{c:aI}{r:Nat}{π:Path}{j:Nat}{x:Nm}{s a:Option (Path×Nat)}(h:Src c r π j x s):Src c r π j x a->s=a:=by
 induction h generalizing a with
 |leaf b g i=>
  intro f;cases f with
  |leaf=>rfl
  |br d k=>rw[b]at d;injection d with e;subst e;omega
  |last d k=>rw[b]at d;injection d with e;subst e;omega
 |br d l m g i p q t=>
  intro f;cases f with
  |leaf b k=>rw[d]at b;injection b with e;subst e;omega
  |br n o u v w y z=>
   rename_i b A B _ k C;rcases atz b k with e|e|e
   .grind
   .grind
   .grind
  |last k n o b=>exact absurd i (b _ (asn g))
 |last d k l i=>
  intro f;cases f with
  |leaf b g=>rw[d]at b;injection b with e;subst e;omega
  |br m n o b g p q=>exact absurd g (i _ (asn b))
  |last=>rfl
end Go.Sm
namespace Go.Proofs.Sz
open Go.Mt Go.Sm Go.Proofs
variable{σ:Path×Nat}{s:Nat}
section
variable{P:Pg}{n:Nat}{c:aI}{d:Nd}{u:US}{X:av}{H:Hp}
def av.cO(X:av)(σ:Path×Nat)(s:Nat):av:={X with cs:= λa k=>if(a,k)=σ then s else X.cs a k}
def cp(X:av)(σ:Path×Nat)(s:Nat):(X.cO σ s).cs σ.1 σ.2=s:=by
 show(if(σ.1,σ.2)=σ then s else _)=s;rw[asB W]
def bE(X:av){π:Path}{k:Nat}(h:(π,k)≠σ):(X.cO σ s).cs π k=X.cs π k:=asu h
theorem cD.cO(h:cD P n c d X H)(s:Nat)(hf:X.fs σ.1=2){v:Va}{b:Option Nat}{eq:M}(i:(c.fr σ.1).vars[σ.2]?=some v)(l:(c.fr σ.1).cK[σ.2]?=some b)(m:∀j,ic (c.fr σ.1) σ.2 v j->eq=.ref (X.A (.pl σ.1 j)) 0):
  cD P n c d (X.cO σ s) (H.set (X.A (.ce σ.1 σ.2)) (.box (c_ v b eq (X.A (.fr σ.1)) (nF s) (if zB s then c.get (σ.1,σ.2)else 0)))):=by
 have o:σ.2<(c.fr σ.1).vars.length:=by
  grind
 refine h.y9 (.ce σ.1 σ.2) ⟨hf,o⟩ _ W W W W W W (λr=>by cases r<;>exact atn) ⟨v,b,eq,_,i,l,?_,W,m⟩ (λr B C D f=>?_)
 .show Ob.box (c_ v b eq _ (nF s) (if zB s then c.get (σ.1,σ.2)else 0))=Ob.box (c_ v b eq _ (nF ((X.cO σ s).cs σ.1 σ.2)) (if zB ((X.cO σ s).cs σ.1 σ.2)then c.get (σ.1,σ.2)else 0));rw[cp];rfl
 .cases r with
  |ce g k=>
   obtain⟨p,q,t,z,u,w,x,y,A⟩:=f;have a:(g,k)≠σ:=by grind
   exact⟨p,q,t,z,u,w,by rw[bE X a];exact x,by rw[bE X a];exact y,A⟩
  |am a=>
   obtain⟨t,g,k,p,q⟩:=f;refine⟨t,g,k,λu j w=>?_,q⟩;rw[show(X.cO σ s).A=X.A from rfl,p u j w];unfold av.nW;by_cases e:(j::a,0)=σ
   .subst e;rw[asB (show X.fs (j::a)≠0 by grind),asB (show(X.cO (j::a,0) s).fs (j::a)≠0 by simp only at hf;show X.fs (j::a)≠0;omega)];rfl
   .rw[bE X e];rfl
  |_=>exact f
theorem Pu.cO(h:Pu P c d u X)(t:s<=6)(L:σ.1=[]->d.ins.length<=σ.2)(w:zB s=true->(c.val σ.1 σ.2).isSome=true)(y:s=3->c.val σ.1 σ.2=none)(z:zB (X.cs σ.1 σ.2)=true->zB s=true)(A:X.cs σ.1 σ.2=2\/X.cs σ.1 σ.2=4->s=2\/s=4)
  (B:s=2->∀p v,(c.fr σ.1).cK[σ.2]?=some (some p)->c.val σ.1 σ.2=some v->X.SS c p v)
  (C:s=2\/s=4->∀k v f g q,(c.fr σ.1).vars[σ.2]?=some v->ic (c.fr σ.1) σ.2 v k->Src c (c.sb σ.1 σ.2) σ.1 k v.name (some (f,g))->(c.fr f).aq[g]?=some q->X.fs f=2/\(q.kd=1->∀w∈c.ew f g,X.SS c w.1 w.2)/\(q.kd=2->X.dn f g=true))
  (m:∀a j q,σ=(j::a,0)->(c.fr a).aq[j]?=some q->q.kd=2->s=1) (D:X.fs σ.1=2\/(σ.2=0/\∃j a q,σ.1=j::a/\(c.fr a).aq[j]?=some q/\q.kd=2)):Pu P c d u (X.cO σ s):=by
 refine{f0:=h.f0,fp:=h.fp,f2:=h.f2,xm:=h.xm,xp:=h.xp,xd:=h.xd,xs:=h.xs,s3:=h.s3,s4:=h.s4,s5:=h.s5,fl:=h.fl,fn:=h.fn,fk:= λp b=>⟨(h.fk p b).ev,(h.fk p b).fs,(h.fk p b).lt,(h.fk p b).wr,(h.fk p b).sm,(h.fk p b).own,(h.fk p b).sz⟩,c6:=?_,ci:=?_,cv:=?_,ca:=?_,s1:=?_,s2:=?_,dl:=?_,nk:=?_,g0:=?_,dz:=h.dz,cz:=?_}
 .intro a i;by_cases e:(a,i)=σ
  .subst e;rw[cp X (a,i) s];exact t
  .rw[bE X e];exact h.c6 a i
 .intro i l;have e:(([]:Path),i)≠σ:=by grind
  rw[bE X e];exact h.ci i l
 .intro a l i;by_cases e:(a,l)=σ
  .subst e;rw[cp X (a,l) s]at i;exact w i
  .rw[bE X e]at i;exact h.cv a l i
 .intro a l i;by_cases e:(a,l)=σ
  .subst e;rw[cp X (a,l) s]at i;exact y i
  .rw[bE X e]at i;exact h.ca a l i
 .intro a l p v n i;by_cases e:(a,l)=σ
  .subst e;rw[cp X (a,l) s]at i;exactλ_=>B i p v
  .rw[bE X e]at i;exact h.s1 a l p v n i
 .intro i k v f g q n l;by_cases e:(i.1,i.2)=σ
  .subst e;rw[cp X (i.1,i.2) s]at l;exactλ_=>C l k v f g q
  .rw[bE X e]at l;exact h.s2 i k v f g q n l
 .intro a j q n o l E x F i G;obtain⟨⟨H,I,J,_⟩,_⟩:=h.s3 a j n o;have K:(j::a,0)≠σ:=by
   intro e;have:=m a j H e.symm I J;subst e;rw[cp X (j::a,0) s]at l;omega
  rw[bE X K]at l;have r:=h.dl a j q n o l E x F i G;by_cases e:(i.1,i.2)=σ
  .subst e;rw[cp X (i.1,i.2) s];exact A r
  .rw[bE X e];exact r
 .intro p b;have l:=h.nk p b
  revert l
  generalize p.1=o;intro l;cases o with
  |cell F i=>
   obtain⟨r,x,n,E⟩:=l;refine⟨r,x,?_,E⟩;by_cases e:(i.1,i.2)=σ
   .subst e;rw[cp X (i.1,i.2) s];exact z n
   .rw[bE X e];exact n
  |_=>exact l
 .intro a j q l i;by_cases e:(j::a,0)=σ
  .subst e;rw[cp X (j::a,0) s];exact .inr (.inl (m a j q W l i))
  .rw[bE X e];exact h.g0 a j q l i
 .intro a i l;by_cases e:(a,i)=σ
  .subst e;exact D
  .rw[bE X e]at l;exact h.cz a i l
def bf.cO(h:cD P n c d X H)(f:X.live c (.ce σ.1 σ.2))(ob:Ob)(g:X.cs σ.1 σ.2=2->s=2)(i:X.cs σ.1 σ.2=3->s=3)(j:s≠0):bf c (·=σ) X H (X.cO σ s) (H.set (X.A (.ce σ.1 σ.2)) ob):=by
 refine{c0:=?_,f0:= λ_ h=>h,len:=by simp,iD:=?_,A:= λr l=>⟨by cases r<;>exact l,W⟩,aK:= λ_ _=>⟨rfl,rfl⟩,f2:= λ_ h=>h,f1:= λ_=>atn,c1:=?_,c2:=?_,c3:=?_,c4:=?_,dn:= λ_ _ h=>h,rC:= λ_ _ _ _=>rfl,lv:=rfl,S:= λ_ _ h=>h,fi:=rfl,ph:=rfl,F:=⟨[],by simp[av.cO]⟩}
 .intro a k e;by_cases b:(a,k)=σ
  .subst b;rw[cp X (a,k) s]at e;exact absurd e j
  .rw[bE X b]at e;exact e
 .intro b k a;exact⟨a,asv (by rintro rfl;rw[h.own _ f]at a;cases a)⟩
 .intro a k e;rw[bE X e]
 .intro a k e;by_cases b:(a,k)=σ
  .subst b;rw[cp X (a,k) s];exact g e
  .rw[bE X b];exact e
 .intro a k e;by_cases b:(a,k)=σ
  .subst b;rw[cp X (a,k) s];exact i e
  .rw[bE X b];exact e
 .intro a k t e _;rw[bE X e]
theorem bf.close{Y:av}{K:Hp}(h:bf c (·=σ) X H Y K)(a:X.cs σ.1 σ.2=1↔Y.cs σ.1 σ.2=1)(b:∀s,4<=s->(X.cs σ.1 σ.2=s↔Y.cs σ.1 σ.2=s))(d:X.cs σ.1 σ.2≠1):bf c (λ_=>False) X H Y K:=by
 refine{h with c1:= λa k _=>?_,c4:= λa k s _ b=>?_,rC:= λa j _ b=>h.rC a j (by grind) b}
 .by_cases e:(a,k)=σ
  .grind
  .exact h.c1 a k e
 .by_cases e:(a,k)=σ
  .grind
  .exact h.c4 a k s e b
def A3{H:Hp}{i:Nat}{ob:Ob}(h:H[i]?=some ob):H.set i ob=H:=by
 apply atX;intro j;rw[List.getElem?_set];split
 .grind
 .rfl
def rD(h:s≠0):(X.cO σ s).T c<=X.T c:=by
 refine Co (a:=0) (b:=0) (λi d=>?_) (asj _) (asj _);cases i with
 |cell f k=>
  simp only[av.cw,aub]at d⊢;by_cases e:(f,k)=σ
  .subst e;rw[cp X (f,k) s]at d;exact absurd d h
  .rw[bE X e]at d;exact d
 |call g j=>
  simp only[av.cw,asH,aub]at d⊢;refine⟨d.1,?_⟩;have f:=d.2;by_cases e:(j::g,0)=σ
  .subst e;rw[cp X (j::g,0) s]at f;exact absurd f h
  .rw[bE X e]at f;exact f
 |_=>exact d
def Ju(h:s≠0)(l:X.cs σ.1 σ.2=0)(m:It.cell σ.1 σ.2∈c.ap):(X.cO σ s).T c+c.wt (.cell σ.1 σ.2)<=X.T c:=by
 refine vL (a:=0) (b:=0) (λi d=>?_) m (by simp[av.cw,l]) (by simp only[av.cw];rw[cp];simpa using h) (asj _) (asj _);cases i with
 |cell f k=>
  simp only[av.cw,aub]at d⊢;by_cases e:(f,k)=σ
  .grind
  .rw[bE X e]at d;exact d
 |call g j=>
  simp only[av.cw,asH,aub]at d⊢;refine⟨d.1,?_⟩;have f:=d.2;by_cases e:(j::g,0)=σ
  .grind
  .rw[bE X e]at f;exact f
 |_=>exact d
end
end Go.Proofs.Sz
namespace Go.Proofs.Sz
open Go.Mt Go.Sm Go.Proofs
open Tryz
section
variable{P:Pg}{n:Nat}{c:aI}{d:Nd}{u:US}{X:av}{H:Hp}
def Jv(c:aI)(σ:Path×Nat)(a:Option Nat)(z:Int)(x:Nm):Option (Path×Nat)->Prop
 |none=>∃p,a=some p/\p<c.sz/\z=c.rd p
 |some a=>c.find a.1 x=some σ/\∃q,(c.fr a.1).aq[a.2]?=some q/\(q.kd=1->q.lhs=[x]/\z=c.ev a.1 a.2)/\(q.kd=2->x∈q.lhs/\c.ja a.1 q)
def rE(c:aI)(Y:av)(s:Option (Path×Nat)):Prop:=∀a q,s=some a->(c.fr a.1).aq[a.2]?=some q->Y.fs a.1=2/\(q.kd=1->∀w∈c.ew a.1 a.2,Y.SS c w.1 w.2)/\(q.kd=2->Y.dn a.1 a.2=true)
structure xi(c:aI)(X:av)(r:Nat)(σ:Path×Nat):Prop where
 c1:∀π k,X.cs π k=1->(π,k)=σ\/r<c.sb π k
 s1:r<=c.sb σ.1 σ.2
 f1:∀j π,X.fs (j::π)=1->r<c.ek π j
 c4:∀π k,X.cs π k<=3
 tp:r<c.dX
def DA(P:Pg)(n:Nat)(c:aI)(d:Nd)(u:US)(r:Nat):Prop:=∀(X:av) (H:Hp),cS P n c d u X H->∀B,X.T c+B<=1000000000000->∀(b:Path) (j:Nat) (q:aB) (x:Nm) (s:Option (Path×Nat)) (a:Path×Nat) (v:Va) (e:Option Nat) (z:Int),xi c X r a->X.fs b=2->(c.fr b).aq[j]?=some q->Src c r b j x s->X.fs a.1=2->X.cs a.1 a.2=1->(a.1=[]->d.ins.length<=a.2)->(c.fr a.1).vars[a.2]?=some v->v.name=x->(c.fr a.1).cK[a.2]?=some e->c.val a.1 a.2=some z->Jv c a e z x s->(∀a q,s=some a->(c.fr a.1).aq[a.2]?=some q->q.kd=1->(c.ew a.1 a.2).length<=B)->
 DT prog 66 [.ref (X.A .it) 0,.ref (X.A (.fr b)) 0,.ref (X.A (.pl b j)) 0,.ref (X.A (.ce a.1 a.2)) 0] H λm K=>m=.d (.int .i32 z)/\∃Y,cS P n c d u Y K/\bf c (·=a) X H Y K/\Y.T c<=X.T c+B/\(Y.cs a.1 a.2=1\/Y.cs a.1 a.2=4)/\rE c Y s
def bf.Gs{E:Path×Nat->Prop}{Y Z:av}{K L:Hp}{s:Option (Path×Nat)}(h:bf c E Y K Z L)(k:rE c Y s):rE c Z s:= λa q e b=>⟨h.f2 _ (k a q e b).1,λd w f=>h.SS _ _ ((k a q e b).2.1 d w f),λd=>h.dn _ _ ((k a q e b).2.2 d)⟩
def HS{ins outs:List Int}{u':US}(U:nG P n c d u)(hC:gW P (eV P n) c d u ins outs u'){r:Nat}(hV:∀r'<r,eH P n c d u r')(hD:∀r'<r,DA P n c d u r'):eH P n c d u r:=by
 intro X H t hT y π i8 σ hf Rt hr;have h:=t.lay;obtain⟨N,v,o,eq,g,T4,k,Pt,TX⟩:=lJ t hf Rt;have i:σ.2<(c.fr σ.1).vars.length:=by
  rcases asp σ.2 (c.fr σ.1).vars.length with h|h
  .exact h
  .rw[asr h]at g;cases g
 have P1:X.live c (.ce σ.1 σ.2):=⟨N,i⟩;have O:=Pu.ok U t.pu N;have Sy:=h.grow [Ob.box [.ref (X.A .it) 0]];have PI:=pv Sy t.pu U.sz π hf i8;have S8:X.gC c π i8=.ref (X.A (.ce σ.1 σ.2)) 0:=by unfold av.gC;rw[Rt]
 rw[S8]at PI;have O1:=qK h;have Sq:(H++[Ob.box [.ref (X.A .it) 0]]++[Ob.box [.ref (X.A (.ce σ.1 σ.2)) 0]])[H.length]?=some (Ob.box [.ref (X.A .it) 0]):=by simp
 have z:(H++[Ob.box [.ref (X.A .it) 0]]++[Ob.box [.ref (X.A (.ce σ.1 σ.2)) 0]])[(H++[Ob.box [M.ref (X.A .it) 0]]).length]?=some (Ob.box [.ref (X.A (.ce σ.1 σ.2)) 0]):=by simp
 have V:=Sy.grow [Ob.box [.ref (X.A (.ce σ.1 σ.2)) 0]];have QE:=(bf.grow c (λ_=>False) X H [Ob.box [.ref (X.A .it) 0]]).trans (bf.grow c (λ_=>False) X _ [Ob.box [.ref (X.A (.ce σ.1 σ.2)) 0]]);have x:=bu (T:=[Ob.box [.ref (X.A (.ce σ.1 σ.2)) 0]]) (bu (T:=[Ob.box [.ref (X.A .it) 0]]) Pt);obtain⟨l,i9⟩:∃b,b=H.length:=⟨_,rfl⟩;obtain⟨f,ge⟩:∃b,b=(H++[Ob.box [M.ref (X.A .it) 0]]).length:=⟨_,rfl⟩;refine DT.ob func45 W ntmps45 W<|dO [2,7] W<|Oq (cF W W W)<|dR [2,16] W<|Oq (au PI W W)<|dR [12] W<|Oq (wy W)<|dR [999] W<|Oq (cc W W (uT _ _) W W W)<|dL [] W ?_;have X4:∀(K:Hp) (f a:Ob),(K++[f]).set K.length a=K++[a]:= λK f a=>by rw[att _ _ (asj _),aur];rfl
 refine OB [nR 3 l,nR 8 f] (H++[Ob.box [.ref (X.A .it) 0]]++[Ob.box [.ref (X.A (.ce σ.1 σ.2)) 0]]) (kc (by rw[i9];rfl) (kc (by rw[ge];rfl) W)) (X4 _ _ _) ?_;rw[<-i9]at Sq;rw[<-ge]at z;generalize hK:H++[Ob.box [M.ref (X.A .it) 0]]++[Ob.box [M.ref (X.A (.ce σ.1 σ.2)) 0]]=K at Sq z V QE x⊢;have mt:X.box K l (.ref (X.A .it) 0):=⟨(O1 _ (by omega)),Sq⟩;have pm:X.box K f (.ref (X.A (.ce σ.1 σ.2)) 0):=⟨(O1 _ (by rw[ge];simp)),z⟩;refine dO [2,17] W<|Oq (ax W W z W)<|dR [18] W<|Oq (mn (by kernel_rfl) W W W W W)<|dL [0] W ?_;have Fd:=y.c4 σ.1 σ.2;have Fn:X.cs σ.1 σ.2≠1:= λe=>by
  have C:=y.c1 _ _ e;have B:σ.1=[]->d.ins.length<=σ.2:= λE=>by
   rcases asp σ.2 d.ins.length with q|q
   .have:=t.pu.ci _ q;rw[<-E,e]at this;cases this
   .exact q
  have D:=(hC.cell σ.1 σ.2 v o O g k B).sr;unfold aI.jE at hr;omega
 have Ss:X.cs σ.1 σ.2=2\/X.cs σ.1 σ.2=3\/X.cs σ.1 σ.2=0:=by omega
 rcases Ss with a|a|a
 .rw[a]at x;refine dO [2,22] W<|Oq (ax W W z W)<|dR [25] W<|Oq (ax W W x W)<|dR [3,2,0,2,1,2,33] W<|Oq (ax W W z W)<|dR [36] W<|Oq (ax W W x W)<|dL [] W<|DC.ret ⟨_,W,by rw[t.pu.cv σ.1 σ.2 (by rw[a];rfl)];rfl,X,cT.pre QE (cT.same V t.pu),.inl a⟩
 .rw[a]at x;have q:=t.pu.ca σ.1 σ.2 a;have B:c.get σ=0:=by unfold aI.get;rw[q];rfl
  refine dO [2,22] W<|Oq (ax W W z W)<|dR [25] W<|Oq (ax W W x W)<|dL [3,2,0,2,0,2,1,2] W<|DC.ret ⟨_,W,by rw[q,B];rfl,X,cT.pre QE (cT.same V t.pu),.inr a⟩
 have A:σ.1=[]->d.ins.length<=σ.2:= λE=>by
  rcases asp σ.2 d.ins.length with q|q
  .have:=t.pu.ci _ q;rw[<-E,a]at this;cases this
  .exact q
 have W1:=hC.cell σ.1 σ.2 v o O g k A;have VQ:c.sb σ.1 σ.2<r:=by have:=W1.sr;unfold aI.jE at hr;omega
 have qr:=hC.wc σ.1 σ.2 v O g A;rw[a]at x;refine dO [2,22] W<|Oq (ax W W z W)<|dR [25] W<|Oq (ax W W x W)<|dL [] W<|Ps (λa=>a=⟨[nR 3 l,nR 8 f],[],K⟩) ?_ ?_
 .refine dC [3,2,0,2,0,2,0] W<|⟨_,W,cN W W⟩
 rintro _ rfl;have W0:∀(π:Path) (j:Nat) (m:aB),σ=(j::π,0)->(c.fr π).aq[j]?=some m->m.kd=2->False:= λπ j m e w B=>by
  subst e;obtain⟨_,C,q,D⟩:=hC.iK j π O;rw[w]at q;injection q with q;subst q;omega
 have Zc:=V.cO (σ:=σ) 1 N g k TX;have QK:=bf.cO V (s:=1) P1 (Ob.box (c_ v o eq (X.A (.fr σ.1)) (nF 1) (if zB 1 then c.get (σ.1,σ.2)else 0))) (λe=>by rw[a]at e;cases e) (λe=>by rw[a]at e;cases e) (by decide);have Fr:=Ju (c:=c) (X:=X) (σ:=σ) (s:=1) (by decide) a qr.1;refine dO [2,39] W<|Oq (ax W W z W)<|dR [999] W<|Oq (cc W W x W W W)<|dL [] W<|OB [nR 3 l,nR 8 f] (K.set (X.A (.ce σ.1 σ.2)) (Ob.box (c_ v o eq (X.A (.fr σ.1)) (nF 1) (if zB 1 then c.get (σ.1,σ.2)else 0)))) W W ?_;have Ze:(K.set (X.A (.ce σ.1 σ.2)) (Ob.box (c_ v o eq (X.A (.fr σ.1)) (nF 1) (if zB 1 then c.get (σ.1,σ.2)else 0))))[X.A (.ce σ.1 σ.2)]?=some (Ob.box (c_ v o eq (X.A (.fr σ.1)) (nF 1) (if zB 1 then c.get (σ.1,σ.2)else 0))):=gJ x _;have d7:=QK.box mt;have S:=QK.box pm;generalize K.set (X.A (.ce σ.1 σ.2)) (Ob.box (c_ v o eq (X.A (.fr σ.1)) (nF 1) (if zB 1 then c.get (σ.1,σ.2)else 0)))=K1 at Zc QK d7 S Ze⊢;have rg:lH c (X.cO σ 1) (c.sb σ.1 σ.2):=by
  refine⟨λπ q e=>?_,λj π e=>?_,λπ q=>?_,?_⟩
  .by_cases B:(π,q)=σ
   .subst B;exact asj _
   .rw[bE X B]at e;have:=y.c1 _ _ e;omega
  .have:=y.f1 j π e;omega
  .by_cases B:(π,q)=σ
   .subst B;rw[cp X (π,q) 1];omega
   .rw[bE X B];exact y.c4 _ _
  .have:=y.tp;omega
 obtain⟨m2,K2,⟨rfl,Q,F⟩,SU⟩:=tc U (hV _ VQ) (U.cl _ _ v O g) W1.pr ⟨Zc,(t.pu.cO (by omega) A (λe=>by cases e) (λe=>by cases e) (λe=>by rw[a]at e;cases e) (λe=>by rw[a]at e;omega) (λe=>by cases e) (λe=>by omega) (λπ j q e a i=>(W0 π j q e a i).elim) (.inl ‹_›))⟩ (by omega) rg N;have w:=F.2.1;have rt:=QK.trans (w.mono λ_=>False.elim);have d8:=(w.A (.ce σ.1 σ.2) P1).2;have d9:=(w.A (.fr σ.1) (by show 1<=X.fs σ.1;omega)).2;have G:=w.f2 _ N;have Zf:=(w.c1 σ.1 σ.2 (by simp)).1 (cp X σ 1);have ac:=w.box S;obtain⟨FS,Z3,RC,WC,rx⟩:=F.1.lay.cell G g;rw[k]at RC;injection RC with RC
 subst RC;rw[d8,d9,Zf]at WC;have GT:=F.2.2.1;cases m:c.val σ.1 σ.2 with
 |none=>
  rw[m]at SU;refine dC [] W ?_;apply Ow bX
  .intro I J;refine aw W W d7.2 W<|aw W W S.2 W<|fR 2 W<|aw W W Ze W<|aw W W S.2 W<|fR 3 W<|aw W W Ze W<|bp SU W W<|fR 1 W<|TF.nil ⟨by kernel_rfl,rfl⟩
  refine dO [1,2,54] W<|Oq (ax W W ac.2 W)<|dR [999] W<|Oq (cc W W WC W W W)<|dL [2] W ?_;have q:=F.1.lay.cO (σ:=σ) 3 G g k rx;have B:=bf.cO F.1.lay (s:=3) (σ:=σ) ⟨G,i⟩ (Ob.box (c_ v o Z3 (Q.A (.fr σ.1)) (nF 3) (if zB 3 then c.get (σ.1,σ.2)else 0))) (λe=>by rw[Zf]at e;cases e) (λe=>rfl) (by decide);rw[d8,d9]at q B;have L:=rD (c:=c) (X:=Q) (σ:=σ) (s:=3) (by decide);have D:c.get σ=0:=by unfold aI.get;rw[m];rfl
  refine DC.ret ⟨_,W,by rw[D,m];rfl,Q.cO σ 3,⟨⟨q,(F.1.pu.cO (by omega) A (λe=>by cases e) (λ_=>m) (λe=>by rw[Zf]at e;cases e) (λe=>by rw[Zf]at e;omega) (λe=>by cases e) (λe=>by omega) (λπ j q e a i=>(W0 π j q e a i).elim) (.inl ‹_›))⟩,?_,by omega,by intro p C;cases C⟩,.inr (cp _ _ _)⟩;exact QE.trans (bf.close (rt.trans B) (by rw[a,cp];omega) (λs f=>by rw[a,cp];omega) (by rw[a];decide))
 |some d6=>
  rw[m]at SU;obtain⟨j0,s,Ux,Vd,hs⟩:=W1.df d6 m;obtain⟨Id,⟨q0,QJ,In⟩,_⟩:=id Ux;have t8:=rx j0 Ux;subst t8;have Ve:xi c Q (c.sb σ.1 σ.2) σ:=by
   have:=rg.next w;refine⟨λπ q e=>?_,asj _,λj π e=>?_,this.c4,by have:=y.tp;omega⟩
   .by_cases C:(π,q)=σ
    .exact .inl C
    .have B:=(w.c1 π q (by simp)).2 e;rw[bE X C]at B;have:=y.c1 _ _ B;exact .inr (by omega)
   have:=y.f1 j π ((w.f1 _).2 e);omega
  obtain⟨m3,K3,⟨rfl,Y3,R,Wm,VP,UL,Zh⟩,Us⟩:=hD _ VQ Q K2 F.1 (c.wt (.cell σ.1 σ.2)-1) (by omega) σ.1 j0 q0 v.name s σ v o d6 Ve G QJ Vd G Zf A g W k m (by cases s<;>exact hs) (λq B e C D=>by
   subst e;have:=qr.2.2 j0 q.1 q.2 B Ux Vd C D;omega)
  rw[(w.A .it trivial).2,d9,d8]at Us;have t3:=rt.trans Wm;have ah:=Wm.box ac;have i6:Y3.A (.ce σ.1 σ.2)=X.A (.ce σ.1 σ.2):=((Wm.A (.ce σ.1 σ.2) ⟨G,i⟩).2).trans d8;have t4:=((Wm.A (.fr σ.1) (by show 1<=Q.fs σ.1;omega)).2).trans d9;have Yn:=Wm.f2 _ G;obtain⟨IO,t9,f4,Vf,ut⟩:=R.lay.cell Yn g;rw[k]at f4;injection f4 with f4
  subst f4;have Zb:c.get (σ.1,σ.2)=d6:=by unfold aI.get;rw[m];rfl
  rw[i6,t4]at Vf;refine dC [] W ?_;apply Ow bX
  .intro q B;refine aw W W d7.2 W<|aw W W S.2 W<|fR 2 W<|aw W W Ze W<|aw W W S.2 W<|fR 3 W<|aw W W Ze W<|bp SU W W<|fR 1 W<|TF.nil ⟨by kernel_rfl,rfl⟩
  refine dC [0] W ?_;apply Ow bX
  .intro q B;refine aw W W (w.box d7).2 W<|aw W W ac.2 W<|fR 2 W<|aw W W WC W<|aw W W ac.2 W<|fR 2 W<|aw W W WC W<|aw W W ac.2 W<|bp Us W W<|fR 1 W<|TF.nil ⟨by kernel_rfl,rfl⟩
  have Xz:∀(Y:av),rE c Y s->∀J I q B C,(c.fr σ.1).vars[σ.2]?=some I->ic (c.fr σ.1) σ.2 I J->Src c (c.sb σ.1 σ.2) σ.1 J I.name (some (q,B))->(c.fr q).aq[B]?=some C->Y.fs q=2/\(C.kd=1->∀w∈c.ew q B,Y.SS c w.1 w.2)/\(C.kd=2->Y.dn q B=true):=by
   intro Y hY J I q B C D h2 h3 h4;rw[g]at D;injection D with D
   subst D;obtain rfl:=Ux.uo h2;have e:=Vd.uo h3;exact hY (q,B) C e h4
  refine dO [2,68] W<|Oq (ax W W ah.2 W)<|dR [71] W<|Oq (ax W W Vf W)<|dL [] W<|Ps (λa=>∃Z L,cS P n c d u Z L/\bf c (·=σ) X K Z L/\Z.T c+1<=X.T c/\Z.cs σ.1 σ.2=4/\rE c Z s/\a=⟨[nR 3 l,nR 8 f],[],L⟩) ?_ ?_
  .rcases UL with e|e
   .rw[e]at Vf;refine DC.cond W (λq=>?_) (λq=>by rw[e]at q;cases q);have C:X.A (.ce σ.1 σ.2)≠f:=by intro I;have:=R.lay.own (.ce σ.1 σ.2) ⟨Yn,i⟩;rw[i6,I,ah.1]at this;cases this
    refine dC [] W ?_;apply PL (λL=>L[f]?=some (Ob.box [.ref (X.A (.ce σ.1 σ.2)) 0])) (ah.2) bX
    .intro J Y;refine OH W W (λL h=>⟨_,h,rfl⟩)<|OH W W (λL h=>⟨_,h,rfl⟩)<|iR 3 W ?_;apply OA
     .skip
      refine fK W W Vf W W W<|TF.nil ⟨W,W⟩
     refine iR 2 W ?_;apply OA
     .skip
      refine fK W W (gJ Vf _) W W W<|TF.nil ⟨W,W⟩
     exact jr.nil ⟨by kernel_rfl,by repeat' first|exact trivial|exact .inl ((by first|exact fV ah.2 C|exact fV (fV ah.2 C) C))|exact .inr (by kernel_rfl)|refine⟨?_,?_⟩,rfl⟩
    have D:=R.lay.cO (σ:=σ) 4 Yn g k ut;have B:=bf.cO R.lay (s:=4) (σ:=σ) ⟨Yn,i⟩ (Ob.box (c_ v o t9 (Y3.A (.fr σ.1)) (nF 4) (if zB 4 then c.get (σ.1,σ.2)else 0))) (λh=>by rw[e]at h;cases h) (λh=>by rw[e]at h;cases h) (by decide);rw[i6,t4]at D B;have co:=rD (c:=c) (X:=Y3) (σ:=σ) (s:=4) (by decide);exact⟨_,⟨_,_,⟨D,(R.pu.cO (by omega) A (λ_=>by rw[m];rfl) (λe=>by cases e) (λ_=>rfl) (λ_=>.inr W) (λe=>by cases e) (λ_=>Xz Y3 Zh) (λπ j q e a i=>(W0 π j q e a i).elim) (.inl ‹_›))⟩,t3.trans B,by omega,cp _ _ _,B.Gs Zh,rfl⟩,cN (by rw[List.set_set,<-Zb];rfl) W⟩
   .refine DC.cond W (λq=>by rw[e]at q;cases q) (λq=>?_);refine dC [] W<|⟨_,⟨_,_,R,t3,by omega,e,Zh,rfl⟩,cN W W⟩
  .rintro _ ⟨Z,L,B,C,W2,Zi,t5,rfl⟩;have D:=C.box mt;have co:=C.box pm;have i7:=(C.A (.ce σ.1 σ.2) P1).2;have Vg:=(C.A .it trivial).2;have I:=C.f2 _ N;obtain⟨LE,LT,f8,WD,Om⟩:=B.lay.cell I g;rw[k]at f8;injection f8 with f8
   subst f8;have t6:∀(f:av) (g:Hp),bf c (·=σ) X K f g->f.cs σ.1 σ.2=2->bf c (λ_=>False) X H f g:= λf g f e=>QE.trans (bf.close f (by rw[a,e];omega) (λs hs=>by rw[a,e];omega) (by rw[a];decide))
   have QH:∀(q:av) (J:Hp),cS P n c d u q J->q.cs σ.1 σ.2=4->q.fs σ.1=2->rE c q s->(∀p,o=some p->q.S c p d6)->cS P n c d u (q.cO σ 2) J/\bf c (·=σ) q J (q.cO σ 2) J:=by
    intro q J f9 e4 PC t7 v6;obtain⟨Xw,Xy,S3,gc,wd⟩:=f9.lay.cell PC g;rw[k]at S3;injection S3 with S3
    subst S3;have h1:=f9.lay.cO (σ:=σ) 2 PC g k wd;have h2:=bf.cO f9.lay (s:=2) (σ:=σ) ⟨PC,i⟩ (Ob.box (c_ v o Xy (q.A (.fr σ.1)) (nF 2) (if zB 2 then c.get (σ.1,σ.2)else 0))) (λ_=>rfl) (λh=>by rw[e4]at h;cases h) (by decide);rw[e4]at gc;have h3:J.set (q.A (.ce σ.1 σ.2)) (Ob.box (c_ v o Xy (q.A (.fr σ.1)) (nF 2) (if zB 2 then c.get (σ.1,σ.2)else 0)))=J:=A3 gc;rw[h3]at h1 h2;exact⟨⟨h1,f9.pu.cO (by omega) A (λ_=>by rw[m];rfl) (λe=>by cases e) (λ_=>rfl) (λ_=>.inl W) (λ_ p v' Y QM=>by rw[k]at Y;injection Y with Y;rw[m]at QM;injection QM with QM;subst QM;exact .inl (v6 p Y)) (λ_=>Xz q t7) (λπ j a e f i=>(W0 π j a e f i).elim) (.inl ‹_›)⟩,h2⟩
   rw[i7,(C.A (.fr σ.1) (by show 1<=X.fs σ.1;omega)).2,Zi]at WD;cases o with
   |none=>
    obtain⟨Y,J⟩:=QH Z L B Zi I t5 (λp q=>by cases q);have f9:=rD (c:=c) (X:=Z) (σ:=σ) (s:=2) (by decide);refine dO [2,80] W<|Oq (ax W W co.2 W)<|dR [83] W<|Oq (ax W W WD W)<|dR [0,2,95] W<|Oq (ax W W co.2 W)<|dR [98] W<|Oq (ax W W WD W)<|dL [] W<|DC.ret ⟨_,W,by rw[m];rfl,_,⟨Y,t6 _ _ (C.trans J) (cp _ _ _),by omega,by intro p q;cases q⟩,.inl (cp _ _ _)⟩
   |some p=>
    refine dO [2,80] W<|Oq (ax W W co.2 W)<|dR [83] W<|Oq (ax W W WD W)<|dR [84] W<|Oq (aQ (asP (asm p)) W W W W)<|dL [1] W ?_;have Tm:Z.r_ c L (.fn 67 [.ref f 0,.ref l 0]) (.cell false σ):=⟨⟨I,i⟩,f,l,rfl,by rw[i7];exact co,by rw[Vg];exact D⟩;obtain⟨Z6,XA⟩:=pw B.lay Tm;obtain⟨Zj,wd,Ot⟩:=qJ B.pu (p:=(.cell false σ,.fn 67 [.ref f 0,.ref l 0])) (⟨I,i,by rw[Zi];rfl,⟨p,U.ML _ _ _ O k,k⟩,A⟩) (H:=L);obtain⟨v6,SW⟩:=QH _ _ ⟨Z6,Zj⟩ Zi I (XA.Gs t5) (λq Y=>by injection Y with Y;subst Y;exact wd _ _ ⟨k,m⟩);have On:=rD (c:=c) (X:=Z.dq L (.cell false σ,.fn 67 [.ref f 0,.ref l 0])) (σ:=σ) (s:=2) (by decide);obtain⟨Ou,wn,f9,t7,_⟩:=Z6.cell (π:=σ.1) I g;rw[k]at f9;injection f9 with f9
    subst f9;have Do:(Z.dq L (.cell false σ,.fn 67 [.ref f 0,.ref l 0])).cs σ.1 σ.2=4:=Zi;rw[((XA.A (.ce σ.1 σ.2) ⟨I,i⟩).2).trans i7,Do]at t7;have XS:∀q,Z.de L (.fn 67 [.ref f 0,.ref l 0])=q->q[f]?=some (Ob.box [.ref (X.A (.ce σ.1 σ.2)) 0])/\(∃gc,q[X.A (.ce σ.1 σ.2)]?=some (.box (c_ v (some p) wn gc (nF 4) (if zB 4 then c.get (σ.1,σ.2)else 0))))/\∃J,cT P n c d u X H 0 [] J q/\(J.cs σ.1 σ.2=2\/J.cs σ.1 σ.2=3):=by
     rintro q rfl;exact⟨(XA.box co).2,⟨_,t7⟩,_,⟨v6,t6 _ _ ((C.trans (XA.mono λ_=>False.elim)).trans SW) (cp _ _ _),by omega,by intro p Y;cases Y⟩,.inl (cp _ _ _)⟩
    have q:=B.lay.inst;rw[Vg]at q
    let Iv:M->Hp->Prop:= λs L=>L[l]?=some (Ob.box [.ref (X.A .it) 0])/\L[X.A .it]?=some (Ob.box [.ref (Z.A .un) 0,.ref (Z.A (.fr [])) 0,.d (.bool false),bI (Z.A .af) Z.vF Z.F.length,s])
    have UC:∀a,Z.de L (.fn 67 [.ref f 0,.ref l 0])=a->a=Z.de L (.fn 67 [.ref f 0,.ref l 0]):= λ_ e=>e.symm
    by_cases J:Z.N=[]
    .have E:bI (Z.A .nx) Z.vN Z.N.length=.d (.sl []):=by simp[J,bI]
     rw[E]at q;refine dC [] W ?_;apply PL (Iv (.d (.sl []))) (⟨D.2,q⟩) bX
     .intro s0 Oo;refine OH W W (λL h=>⟨_,h.1,rfl⟩)<|OH W W (λL h=>⟨_,h.1,rfl⟩)<|iR 2 W<|OH W W (λL h=>⟨_,h.2,rfl⟩) ?_;apply OA
      .skip
       refine eW W W<|TF.nil ⟨W,W⟩
      apply OA
      .skip
       refine dW (cs:=[_]) W W W W W W<|TF.nil ⟨W,W⟩
      apply OA
      .skip
       refine o9 true W W W (lV _ _) W W (by decide) (by decide)<|TF.nil ⟨rfl,rfl⟩
      refine iR 2 W ?_;apply OA
      .skip
       refine fK W W (bu (bu q)) W W W<|TF.nil ⟨W,W⟩
      exact jr.nil ⟨by kernel_rfl,by repeat' first|exact trivial|exact .inl ((by first|exact⟨bu D.2,bu q⟩|exact⟨bu (bu D.2),bu (bu q)⟩))|exact .inr (by kernel_rfl)|refine⟨?_,?_⟩,rfl⟩
     refine OB [nR 8 f] _ W (UC _ (by simp only[av.de,asB J,asq,asS,Vg];rfl)) ?_;obtain⟨g1,⟨gc,g2⟩,g3⟩:=XS _ W;refine dO [2,95] W<|Oq (ax W W g1 W)<|dR [98] W<|Oq (ax W W g2 W)<|dL [] W<|DC.ret ⟨_,W,by rw[m];rfl,g3⟩
    .have E:bI (Z.A .nx) Z.vN Z.N.length=.bC (Z.A .nx) Z.vN Z.N.length:=by unfold bI;rw[asu];intro e;exact J (atb e)
     rw[E]at q;have UI:=vO B.lay J;have Oy:=y_ (c:=c) (X:=Z) (by omega);have Eq:Z.A .nx≠l:=by intro e;have:=B.lay.own .nx J;rw[e,D.1]at this;cases this
     have OP:Z.A .nx≠X.A .it:=by rw[<-Vg];exact B.lay.ne (r:=.nx) (r':=.it) J trivial (by simp)
     refine dC [] W ?_;apply PL (Iv (.bC (Z.A .nx) Z.vN Z.N.length)) (⟨D.2,q⟩) bX
     .intro s0 Oo;refine OH W W (λL h=>⟨_,h.1,rfl⟩)<|OH W W (λL h=>⟨_,h.1,rfl⟩)<|iR 2 W<|OH W W (λL h=>⟨_,h.2,rfl⟩) ?_;apply OA
      .skip
       refine eW W W<|TF.nil ⟨W,W⟩
      apply OA
      .skip
       refine dW (cs:=[_]) W W W W W W<|TF.nil ⟨W,W⟩
      apply OA
      .skip
       refine o_ W W W (lV _ _) (bu UI) W (by omega) (by omega)<|TF.nil ⟨rfl,rfl⟩
      refine iR 2 W ?_;apply OA
      .skip
       refine fK W W (fV (bu q) OP) W W W<|TF.nil ⟨W,W⟩
      exact jr.nil ⟨by kernel_rfl,by repeat' first|exact trivial|exact .inl ((by first|exact⟨bu D.2,bu q⟩|exact⟨fV (bu D.2) Eq,fV (bu q) OP⟩))|exact .inr (by kernel_rfl)|refine⟨?_,?_⟩,rfl⟩
     refine OB [nR 8 f] _ W (UC _ (by simp only[av.de,asu J,Vg];rfl)) ?_;obtain⟨g1,⟨gc,g2⟩,g3⟩:=XS _ W;refine dO [2,95] W<|Oq (ax W W g1 W)<|dR [98] W<|Oq (ax W W g2 W)<|dL [] W<|DC.ret ⟨_,W,by rw[m];rfl,g3⟩
end
section
variable{P:Pg}{n:Nat}{c:aI}{d:Nd}{u:US}{X:av}{H:Hp}
def A4(P:Pg)(n:Nat)(c:aI)(d:Nd)(u:US)(r:Nat):Prop:=∀(X:av) (H:Hp),cS P n c d u X H->X.T c<=1000000000000->∀(a:Path) (j:Nat) (q:aB),X.fs a=2->(c.fr a).aq[j]?=some q->q.kd=2->c.ek a j=r->c.ja a q->X.dn a j=false->X.cs (j::a) 0=0->lH c X r->∀E:Path×Nat->Prop,(∀x∈q.lhs,∀b,c.find a x=some b->X.cs b.1 b.2=1->E b)->
 DT prog 62 [.ref (X.A .it) 0,.ref (X.A (.fr a)) 0,.ref (X.A (.pl a j)) 0] H λm K=>∃Y,cS P n c d u Y K/\bf c E X H Y K/\Y.T c<=X.T c/\Y.dn a j=true/\∀x∈q.lhs,∀b,c.find a x=some b->X.cs b.1 b.2=1->Y.cs b.1 b.2=4
def y'(P:Pg)(n:Nat)(c:aI)(d:Nd)(u:US)(r:Nat):Prop:=∀(X:av) (H:Hp),cS P n c d u X H->X.T c<=1000000000000->∀(a:Path) (j:Nat) (q:aB),X.fs a=2->(c.fr a).aq[j]?=some q->(q.kd=3\/q.kd=4\/q.kd=5)->c.ek a j=r->X.fs (j::a)≠1->lH c X r->
 DT prog 63 [.ref (X.A .it) 0,.ref (X.A (.fr a)) 0,.ref (X.A (.pl a j)) 0] H λm K=>∃Y,m=.ref (Y.A (.fr (j::a))) 0/\cT P n c d u X H 0 [] Y K/\Y.fs (j::a)=2
def xi.pre{r e:Nat}{σ:Path×Nat}(h:xi c X r σ)(f:e<=r):lH c X e:=⟨λa k d=>by
 rcases h.c1 a k d with b|b
 .subst b;have:=h.s1;simp only at this;omega
 .omega,λj a b=>by have:=h.f1 j a b;omega,h.c4,by have:=h.tp;omega⟩
def xi.next{Y:av}{K:Hp}{r:Nat}{σ:Path×Nat}(h:xi c X r σ)(k:bf c (λ_=>False) X H Y K):xi c Y r σ:=by
 refine⟨λa i d=>h.c1 a i ((k.c1 a i (by simp)).2 d),h.s1,λj a e=>h.f1 j a ((k.f1 _).2 e),λa i=>?_,h.tp⟩;rcases asp 3 (Y.cs a i)with b|b
 .have:=(k.c4 a i (Y.cs a i) (by simp) b).2 W;have:=h.c4 a i;omega
 .exact b
def Fe{ins outs:List Int}{u':US}(S:nG P n c d u)(I:gW P (eV P n) c d u ins outs u'){r:Nat}{π:Path}{j:Nat}{x:Nm}{s:Option (Path×Nat)}(Vh:Src c r π j x s):(∀r'≤r,eH P n c d u r')->(∀r'≤r,A4 P n c d u r')->(∀r'≤r,y' P n c d u r')->
  ∀(X:av) (H:Hp),cS P n c d u X H->∀B,X.T c+B<=1000000000000->∀(q:aB) (σ:Path×Nat) (v:Va) (t:Option Nat) (z:Int),xi c X r σ->X.fs π=2->(c.fr π).aq[j]?=some q->X.fs σ.1=2->X.cs σ.1 σ.2=1->(σ.1=[]->d.ins.length<=σ.2)->(c.fr σ.1).vars[σ.2]?=some v->v.name=x->(c.fr σ.1).cK[σ.2]?=some t->c.val σ.1 σ.2=some z->Jv c σ t z x s->(∀τ q,s=some τ->(c.fr τ.1).aq[τ.2]?=some q->q.kd=1->(c.ew τ.1 τ.2).length<=B)->
  DT prog 66 [.ref (X.A .it) 0,.ref (X.A (.fr π)) 0,.ref (X.A (.pl π j)) 0,.ref (X.A (.ce σ.1 σ.2)) 0] H λm K=>m=.d (.int .i32 z)/\∃Y,cS P n c d u Y K/\bf c (·=σ) X H Y K/\Y.T c<=X.T c+B/\(Y.cs σ.1 σ.2=1\/Y.cs σ.1 σ.2=4)/\rE c Y s:=by
 have V:∀(k:Int),(k=3\/k=4\/k=5)->(k==1)=false/\(k==2)=false:=by rintro k (rfl|rfl|rfl)<;>exact⟨W,W⟩
 induction Vh with
 | @leaf π j x g a h G=>
  intro hV d6 d8 X H o B hT q σ v t z J p b L Q dj N T4 O8 R hs hB;rw[a]at b;injection b with b
  subst b;have A:=o.lay;have w:=Pu.ok S o.pu p;obtain⟨C,O,l⟩:=A.fI p a;obtain⟨E,q',i,T,U⟩:=hs;simp only at E i T U;rw[a]at i;injection i with i
  subst i;have ac:=J.pre G;refine DT.ob func66 W ntmps66 W<|dO [2,2,17] W<|Oq (mn (by kernel_rfl) W W W W W)<|dL [0] W ?_;rcases h with h|h
  .obtain⟨hl,ah⟩:=T h;have F:c.ja π g:=by
    intro _;rw[hl];exact⟨σ,E,by rw[R];rfl⟩
   have VR:=(I.eq π j g C w a O).1;have Qx:gI P.aG c π (c.ek π j) g.ex C (c.ev π j) (c.ew π j):=by
    cases VR with
    |df _ x' _ he=>exact he F
    |call Pq=>omega
    |sw Pq=>omega
    |aN Pq=>omega
    |reset Pq=>omega
   have d7:=S.pq π j g C w a O;have Yp:=jk g;have PV:=S.Js;have co:=hB (π,j) g W a h;simp only at co;obtain⟨m2,K2,⟨rfl,Y,y⟩,Z⟩:=dD S (hV _ G) π g.ex (S.Cq π j g w a).1 C (c.ev π j) (c.ew π j) Qx X H o (by omega) ac p (by omega) (λk b h=>S.oq π j g C w a O k b (by omega)) (λb b=>.inl ⟨π,j,g,w,a,F,b⟩);rw[Xp.aA]at Z;unfold dB at l;rw[h]at l;refine dO [2,25] W<|Oq (ax W W l W)<|dL [3,2,1] W ?_;apply Ow bX
   .intro s0 Oo;refine fR 6 W<|fJ W W l W W<|fR 3 W<|aw W W l W<|bp Z W W<|fR 1 W<|TF.nil ⟨by kernel_rfl,rfl⟩
   have d9:=y.2.2.1;refine DC.ret ⟨_,W,by rw[ah];rfl,Y,y.1,y.2.1.mono λ_=>False.elim,by omega,.inl ((y.2.1.c1 σ.1 σ.2 (by simp)).1 Q),λτ q e b=>?_⟩;injection e with e
   subst e;simp only at b⊢;rw[a]at b;injection b with b
   subst b;exact⟨y.2.1.f2 π p,λ_ w a=>.inl (y.2.2.2 w a),λa=>by omega⟩
  .obtain⟨ah,Z⟩:=U h;have XY:X.cs (j::π) 0=0/\X.dn π j=false:=by
    have hg:=S.gh π j g a h;rcases o.pu.g0 π j g a h with e|e|⟨y,e⟩
    .exact e
    .rcases J.c1 _ _ e with y|y
     .subst y;obtain⟨_,q',i,F⟩:=I.iK j π (o.pu.fp j π (by simp only at L;omega)).2;rw[a]at i;injection i with i;subst i;omega
     .omega
    .have:=o.pu.dl π j g p e y a x ah σ E;omega
   obtain⟨m2,K2,⟨Y,QI,F,Ug,d7,UM⟩,Xu⟩:=d6 _ G X H o (by omega) π j g p a h W Z XY.2 XY.1 ac (·=σ) (λx' PF τ QW e=>by
    obtain⟨co,hi⟩:=asJ.1 PF;obtain⟨RP,n',y,h2,h3,h4,_⟩:=I.lhs π j g w a h Z co x' hi;rw[QW]at y;injection y with y
    subst y;rcases J.c1 _ _ e with e'|e'
    .exact e'
    .omega)
   have Sj:=UM x ah σ E Q;obtain⟨d9,Z3,RC,O0,_⟩:=QI.lay.cell (F.f2 _ L) N;have Uy:σ.2<(c.fr σ.1).vars.length:=by
    rcases asp σ.2 (c.fr σ.1).vars.length with A|A
    .exact A
    .rw[asr A]at N;cases N
   rw[Sj,(F.A (.ce σ.1 σ.2) ⟨L,Uy⟩).2]at O0;unfold dB at l;rw[h]at l;refine dO [2,25] W<|Oq (ax W W l W)<|dR [3,2,0,2,1,2,45] W<|Oq (au Xu W W)<|dR [2,49] W<|Oq (ax W W O0 W)<|dL [] W ?_;have Zb:c.get (σ.1,σ.2)=z:=by unfold aI.get;rw[R];rfl
   refine DC.ret ⟨_,W,by rw[<-Zb];rfl,Y,QI,F,by omega,.inr Sj,λτ q e b=>?_⟩;injection e with e
   subst e;simp only at b⊢;rw[a]at b;injection b with b
   subst b;exact⟨F.f2 π p,λy=>by omega,λ_=>d7⟩
 | @br π j x q0 o q' s J Z hr C hd d6 h2 ih=>
  intro hV co ac X H L B hT q σ v t z N O w Pn V9 dj y Q O8 hz hs hB;rw[J]at w;injection w with w
  subst w;have h:=L.lay;have OI:=Pu.ok S L.pu O;obtain⟨p0,Vi,OX⟩:=h.fI O J;have d7:X.fs (j::π)≠1:= λe=>by have:=N.f1 j π e;omega
  obtain⟨m2,R,⟨Y,rfl,a,p⟩,Pt⟩:=ac _ hr X H L (by omega) π j q0 O J Z W d7 (N.pre hr);have l:=a.2.1;have Uy:σ.2<(c.fr σ.1).vars.length:=by
   rcases asp σ.2 (c.fr σ.1).vars.length with h|h
   .exact h
   .rw[asr h]at y;cases y
  have RY:=(l.A .it trivial).2;have ah:=(l.A (.ce σ.1 σ.2) ⟨Pn,Uy⟩).2;have QA:=a.1.lay.frame p;have d8:=Pu.ok S a.1.pu p;have f4:=S.Lb (j::π);have Ug:=a.2.2.1;have W3:=l.f2 _ Pn;have Z7:=(l.c1 σ.1 σ.2 (by simp)).1 V9;obtain⟨d9,Z3,A,T,_⟩:=a.1.lay.cell W3 y;rw[ah]at T;rw[O8]at A;injection A with A
  subst A;obtain⟨m3,K3,⟨rfl,Y3,Zg,Wm,VP,PW,Zh⟩,Us⟩:=ih hV co ac Y R a.1 B (by omega) q' σ v t z (N.next l) p C W3 Z7 dj y Q O8 hz hs hB;rw[RY,ah]at Us;have Pw:o<(c.fr (j::π)).aq.length:=by
   rcases asp o (c.fr (j::π)).aq.length with h|h
   .exact h
   .rw[asr h]at C;cases C
  refine DT.ob func66 W ntmps66 W<|dO [2,2,17] W<|Oq (mn (by kernel_rfl) W W W W W)<|dL [0] W ?_;obtain⟨R5,O4⟩:=V _ Z;refine dO [2,25] W<|Oq (ax W W OX W)<|dR [3,2,27] W<|Oq (gG W W W (r:=.bool false) (by show some (D.bool (_==_))=_;rw[<-R5]))<|dR [0,2,41] W<|Oq (gG W W W (r:=.bool false) (by show some (D.bool (_==_))=_;rw[<-O4]))<|dR [0,2,53] W<|Oq (au Pt W W)<|dR [2,57] W<|Oq (ax W W QA W)<|dR [58] W<|Oq (po W W)<|dL [] W<|OB [nN 55 0,nN 54 ((c.fr (j::π)).aq.length),nM 53 (bI (Y.A (.er (j::π))) (Y.ve (j::π)) (c.fr (j::π)).aq.length),nR 9 (Y.A (.fr (j::π))),nR 0 (X.A .it),nR 3 (X.A (.ce σ.1 σ.2))] R W W<|dC [3] W<|DC.lp (λk s=>∃(i:Nat) (bx:List (Nat×List M)),s=⟨[nN 55 i,nN 54 ((c.fr (j::π)).aq.length),nM 53 (bI (Y.A (.er (j::π))) (Y.ve (j::π)) (c.fr (j::π)).aq.length),nR 9 (Y.A (.fr (j::π))),nR 0 (X.A .it),nR 3 (X.A (.ce σ.1 σ.2))],bx,R⟩/\i<=o/\k=(c.fr (j::π)).aq.length-i) (c.fr (j::π)).aq.length _
   ⟨0,_,rfl,by omega,rfl⟩ W ?_
  rintro k s1 ⟨i,bx,rfl,hi,rfl⟩;have E:i<(c.fr (j::π)).aq.length:=by omega
  refine dO [2,60] W<|Oq (aQ (asP (by omega)) W W W W)<|dL [1] W ?_;have Vj:=a.1.lay.Jm p (by intro e;rw[e]at E;simp at E);have Ox:((List.range (c.fr (j::π)).aq.length).map λk=>M.ref (Y.A (.pl (j::π) k)) 0)[((i:Nat):Int).toNat*1]?=some (.ref (Y.A (.pl (j::π) i)) 0):=by simp[E]
  have b:=aso E;generalize (c.fr (j::π)).aq[i]=g at b;obtain⟨pi,_,Zk⟩:=a.1.lay.fI p b;have F:=S.Cq _ _ _ d8 b;have U:=vK g F.2.2.2.1 (λa b=>(F.2.2.2.2.1 a b).1) F.2.2.2.2.2.2;rw[g.aA,g.ex.aA]at U;have G:=oA (cm g) v.name (ata (mR g) F.2.2.2.2.2.2);refine dO [3,2,61] W<|Oq (lI W W W Vj (asm i) (by omega))<|dR [62] W<|Oq (mH W W Vj Ox)<|dL [] W ?_;rcases asp i o with VF|VF
  .have hb:mr (cm g) v.name=false:=by
    have:=d6 i g VF b;cases e:mr (cm g) v.name with
    |false=>rfl
    |true=>rw[oL,Q]at e;exact absurd e this
   rw[hb]at G;refine dC [] W ?_;apply Ow bX
   .intro s0 Oo;refine fR 3 W<|fJ W W Zk W W<|aW U W W<|fR 4 W<|aw W W T W<|aW G W W<|TF.nil ⟨by kernel_rfl,rfl⟩
   refine dO [0,2,79] W<|Oq (ay W W W (by omega))<|dL [] W<|bG (k':=(c.fr (j::π)).aq.length-(i+1)) (by omega) ⟨i+1,_,rfl,by omega,rfl⟩ W W
  .obtain rfl:i=o:=by omega
   rw[C]at b;injection b with b
   subst b;have hb:mr (cm q') v.name=true:=by rw[oL,Q];exact hd
   rw[hb]at G;refine dC [] W ?_;apply Ow bX
   .intro s0 Oo;refine fR 3 W<|fJ W W Zk W W<|aW U W W<|fR 4 W<|aw W W T W<|aW G W W<|TF.nil ⟨by kernel_rfl,rfl⟩
   refine dO [1,2,78] W<|Oq (au Us W W)<|dL [] W<|DC.ret ⟨_,W,W,Y3,Zg,(l.mono λ_=>False.elim).trans Wm,by omega,PW,Zh⟩
 | @last π j x q0 F O Q O1=>
  intro hV f4 ah X H G B hT q σ v t z R T l J V9 dj L T4 U hz hs hB;rw[F]at l;injection l with l
  subst l;have h:=G.lay;obtain⟨p0,Vi,OX⟩:=h.fI T F;have d6:X.fs (j::π)≠1:= λe=>by have:=R.f1 j π e;omega
  obtain⟨m2,Z,⟨Y,rfl,a,y⟩,Pt⟩:=ah _ Q X H G (by omega) π j q0 T F O W d6 (R.pre Q);have g:=a.2.1;have Uy:σ.2<(c.fr σ.1).vars.length:=by
   rcases asp σ.2 (c.fr σ.1).vars.length with h|h
   .exact h
   .rw[asr h]at L;cases L
  have RY:=(g.A .it trivial).2;have d7:=(g.A (.ce σ.1 σ.2) ⟨J,Uy⟩).2;have QA:=a.1.lay.frame y;have d8:=Pu.ok S a.1.pu y;have f9:=S.Lb (j::π);have Ug:=a.2.2.1;have W3:=g.f2 _ J;have Z7:=(g.c1 σ.1 σ.2 (by simp)).1 V9;obtain⟨f8,Z3,o,w,_⟩:=a.1.lay.cell W3 L;rw[d7]at w;rw[U]at o;injection o with o
  subst o;obtain⟨p,rfl,d9,co⟩:=hs;have N:p<bT d:=by rw[<-S.Au];exact d9
  have S4:=a.1.lay.inst;rw[RY]at S4;have ac:=a.1.lay.mem;have Ta:=S.rd Y a.1.pu σ.1 p W3 (S.lo σ.1 σ.2 p (Pu.ok S G.pu J) U) N;have S_:=iO (n:=bT d) (f:=iP Y.x.m) N;rw[show iP Y.x.m p=.d (.int .i32 (c.rd p)) by rw[<-Ta]]at S_;refine DT.ob func66 W ntmps66 W<|dO [2,2,17] W<|Oq (mn (by kernel_rfl) W W W W W)<|dL [0] W ?_;obtain⟨R5,O4⟩:=V _ O;refine dO [2,25] W<|Oq (ax W W OX W)<|dR [3,2,27] W<|Oq (gG W W W (r:=.bool false) (by show some (D.bool (_==_))=_;rw[<-R5]))<|dR [0,2,41] W<|Oq (gG W W W (r:=.bool false) (by show some (D.bool (_==_))=_;rw[<-O4]))<|dR [0,2,53] W<|Oq (au Pt W W)<|dR [2,57] W<|Oq (ax W W QA W)<|dR [58] W<|Oq (po W W)<|dL [] W<|OB [nN 55 0,nN 54 ((c.fr (j::π)).aq.length),nM 53 (bI (Y.A (.er (j::π))) (Y.ve (j::π)) (c.fr (j::π)).aq.length),nR 9 (Y.A (.fr (j::π))),nR 0 (X.A .it),nR 3 (X.A (.ce σ.1 σ.2))] Z W W<|dC [3] W<|DC.lp (λk s=>∃(i:Nat) (bx:List (Nat×List M)),s=⟨[nN 55 i,nN 54 ((c.fr (j::π)).aq.length),nM 53 (bI (Y.A (.er (j::π))) (Y.ve (j::π)) (c.fr (j::π)).aq.length),nR 9 (Y.A (.fr (j::π))),nR 0 (X.A .it),nR 3 (X.A (.ce σ.1 σ.2))],bx,Z⟩/\i<=(c.fr (j::π)).aq.length/\k=(c.fr (j::π)).aq.length-i) (c.fr (j::π)).aq.length _
   ⟨0,_,rfl,by omega,rfl⟩ W ?_
  rintro k s1 ⟨i,bx,rfl,hi,rfl⟩;refine dC [2] W<|DC.cond W (λhc=>?_) (λhc=>?_)
  .have A:i<(c.fr (j::π)).aq.length:=by have:=asC hc;omega
   have Vj:=a.1.lay.Jm y (by intro e;rw[e]at A;simp at A);have Ox:((List.range (c.fr (j::π)).aq.length).map λk=>M.ref (Y.A (.pl (j::π) k)) 0)[((i:Nat):Int).toNat*1]?=some (.ref (Y.A (.pl (j::π) i)) 0):=by simp[A]
   have C:=aso A;generalize (c.fr (j::π)).aq[i]=b at C;obtain⟨pi,_,Zk⟩:=a.1.lay.fI y C;have E:=S.Cq _ _ _ d8 C;have Rm:=vK b E.2.2.2.1 (λa b=>(E.2.2.2.2.1 a b).1) E.2.2.2.2.2.2;rw[b.aA,b.ex.aA]at Rm;have Qw:=oA (cm b) v.name (ata (mR b) E.2.2.2.2.2.2);refine dO [3,2,61] W<|Oq (lI W W W Vj (asm i) (by omega))<|dR [62] W<|Oq (mH W W Vj Ox)<|dL [] W ?_;have hb:mr (cm b) v.name=false:=by
    have:=O1 b (asn C);cases e:mr (cm b) v.name with
    |false=>rfl
    |true=>rw[oL,T4]at e;exact absurd e this
   rw[hb]at Qw;refine dC [] W ?_;apply Ow bX
   .intro s0 Oo;refine fR 3 W<|fJ W W Zk W W<|aW Rm W W<|fR 4 W<|aw W W w W<|aW Qw W W<|TF.nil ⟨by kernel_rfl,rfl⟩
   refine dO [0,2,79] W<|Oq (ay W W W (by omega))<|dL [] W<|bG (k':=(c.fr (j::π)).aq.length-(i+1)) (by omega) ⟨i+1,_,rfl,by omega,rfl⟩ W W
  .refine DC.exit ?_;refine dO [2,83] W<|Oq (ax W W w W)<|dR [84] W<|Oq (aQ (asX (by show ¬((p:Int)<0);omega)) W W W W)<|dL [0] W ?_;apply Ow bX
   .intro b A;refine fR 3 W<|aw W W S4 W<|fR 2 W<|aw W W a.1.lay.unit W<|fR 3 W<|aw W W w W<|cZ W W W ac (asm p) (by exact atG.2 N)<|jK W W ac S_<|fR 1 W<|TF.nil ⟨by kernel_rfl,rfl⟩
   exact DC.ret ⟨_,W,by rw[co];rfl,Y,a.1,g.mono λ_=>False.elim,by omega,.inl Z7,λτ q e=>by cases e⟩
end
section
variable{P:Pg}{n:Nat}{c:aI}{d:Nd}{u:US}{X:av}{H:Hp}
def Jw(S:nG P n c d u)(h:cD P n c d X H)(f:M)(x:Nm):DT prog 128 [.ref (X.A .it) 0,f,.d (.str x)] H λm K=>m=.d (.int .i32 (gV P.aG x))/\K=H:=by
 refine DT.ob func128 W ntmps128 W<|dC [2,2,3,2] W<|DC.cond W (λa=>?_) (λa=>?_)
 .have e:=asC a;refine dC [2] W<|DC.ret ⟨_,W,by unfold gV;rw[asB e];rfl,rfl⟩
 have b:=asG a;refine dC [2] W<|DC.cond W (λa=>?_) (λa=>?_)
 .have e:=asC a;refine dC [2] W<|DC.ret ⟨_,W,by unfold gV;rw[asu b,asB e];rfl,rfl⟩
 have g:=asG a;refine dC [] W ?_;have i:CT prog 86 [.d (.sl (P.aG.map En.cells)),.d (.agg (yU x).cells)] H λj k=>j=.di [.d (.int .i32 (pc P.aG (yU x))),.d (.bool (isConst P.aG (yU x)))]/\k=H:=(CT.yw (wE S.en (yU x))).mono (by rintro _ _ ⟨⟨_,rfl,rfl⟩,rfl⟩;exact⟨W,W⟩)
 apply Ow bX
 .intro j k;refine fR 3 W<|aw W W h.inst W<|fR 3 W<|aw W W h.unit W<|fR 1 W<|aW (HK x) W W<|kG i W W<|fR 5 W<|TF.nil ⟨by kernel_rfl,rfl⟩
 refine dC [2] W<|DC.ret ⟨_,W,?_,W⟩;unfold gV;rw[asu b,asu g];rfl
def A5{l:List Tr}{i:Nat}(h:i<l.length):(eT l)[((i:Nat):Int).toNat]?=some (bQ l[i].e.kd l[i].e.op l[i].e.num l[i].e.nm l[i].e.names (l[i].e.kids.map Xp.cells) l[i].e.ps++[.str l[i].to,.bool l[i].fF,.int .i64 l[i].ps.1,.int .i64 l[i].ps.2]):=by simp[eT,h,Tr.cells,Xp.aA]
def te{l:List a_}{i:Nat}{a:a_}(h:l[i]?=some a):(l.map a_.cells)[((i:Nat):Int).toNat]?=some [.str a.name,.sl (aE a.cy.vars),.sl (a.cy.aq.map aB.cells),.sl (eT a.fm),.sl (eT a.fo),.int .i64 a.ps.1,.int .i64 a.ps.2]:=by simp[h,a_.aA]
def Ff{ins outs:List Int}{u':US}(S:nG P n c d u)(hC:gW P (eV P n) c d u ins outs u'){π:Path}{j:Nat}{q:aB}{p:Nat}(U:eH P n c d u (c.ek π j))(v:cS P n c d u X H)(hT:X.T c+(c.ew π j).length<=1000000000000)(V:lH c X (c.ek π j))(hf:X.fs π=2)(g:(c.fr π).aq[j]?=some q)(o:q.kd=3\/q.kd=4\/q.kd=5)(t:(c.fr π).pos[j]?=some p):
  DT prog 93 [.ref (X.A .it) 0,.ref (X.A (.fr π)) 0,.ref (X.A (.pl π j)) 0] H λm K=>m=.di [dN (c.br π j),dN (gy q p),.d (.bool (c.iE π j))]/\∃Y,cT P n c d u X H (c.ew π j).length (c.ew π j) Y K:=by
 have h:=v.lay;have w:=Pu.ok S v.pu hf;obtain⟨p',z,a⟩:=h.fI hf g;rw[t]at z;injection z with z
 subst z;have Z:j<(c.fr π).aq.length:=by
  rcases asp j (c.fr π).aq.length with h|h
  .exact h
  .rw[asr h]at g;cases g
 have f4:=S.pq π j q p w g t;have Yp:=jk q;have PV:=S.Js;have C:=S.Cq π j q w g;have N:=jN q.ex C.1 (by omega);rw[Xp.aA]at N;have P5:((p:Nat):Int)+((xP q.ex:Nat):Int)=((p+xP q.ex:Nat):Int):=by omega
 have A:∀L∈c.ew π j,mQ c L.1 L.2:= λL A=>.inl ⟨π,j,q,w,g,(by intro e;omega),A⟩
 have Zl:∀k,p<=k->k<p+xP q.ex->xw c π k:= λk l s=>S.oq π j q p w g t k l (by omega)
 have VR:=(hC.eq π j q p w g t).1;refine DT.ob func93 W ntmps93 W ?_;cases VR with
 |df b=>omega
 |call b=>omega
 |reset o i G I x y=>
  obtain⟨J,O,⟨rfl,Y,B⟩,b⟩:=dD S U π q.ex C.1 p (c.ev π j) (c.ew π j) i X H v hT V hf (by omega) Zl A;rw[Xp.aA]at b;have E:gy q p=p+xP q.ex:=by unfold gy;rw[asu (by omega)]
  have F:decide (c.ev π j≠0)=(c.ev π j !=0):=by rw[auD];simp
  unfold dB at a;rw[o]at a;refine dC [2] W ?_;apply Ow bX
  .intro Q R;refine fR 3 W<|aw W W a W<|fR 4 W<|fJ W W a W W<|aW N W W<|oZ W W W (by omega) ?_;rw[P5];refine fR 1 W<|TF.nil ⟨by kernel_rfl,rfl⟩
  refine dO [2,36] W<|Oq (ax W W a W)<|dL [3,2,1] W ?_;apply Ow bX
  .intro Q R;refine fR 7 W<|fJ W W a W W<|fR 3 W<|aw W W a W<|bp b W W<|fR 4 W<|TF.nil ⟨by kernel_rfl,rfl⟩
  exact DC.ret ⟨_,W,by rw[x,y,E,F];rfl,Y,B⟩
 |sw o T R E hv ac hn=>
  obtain⟨m2,F,⟨rfl,Y,x⟩,G⟩:=dD S U π q.ex C.1 p (c.ev π j) (c.ew π j) T X H v hT V hf (by omega) Zl A;rw[Xp.aA]at G;have YY:gy q p=p+xP q.ex:=by unfold gy;rw[asu (by omega)]
  have Qj:=x.2.1.f2 π hf;obtain⟨p2,_,B⟩:=x.1.lay.fI Qj g;rw[(x.2.1.A (.pl π j) ⟨hf,Z⟩).2]at B;have QN:c.br π j<q.aj.length:=by
   rcases asp (c.br π j) q.aj.length with h|h
   .exact h
   .have:=E.ha;rw[asr h]at this;cases this
  have ah:=C.2.2.2.1;unfold dB at a;rw[o]at a;refine dC [2] W ?_;apply Ow bX
  .intro s0 Oo;refine fR 3 W<|aw W W a W<|fR 4 W<|fJ W W a W W<|aW N W W<|oZ W W W (by omega) ?_;rw[P5];refine fR 1 W<|TF.nil ⟨by kernel_rfl,rfl⟩
  refine dO [2,36] W<|Oq (ax W W a W)<|dL [3,2,0,2,1] W ?_;apply Ow bX
  .intro s0 Oo;refine fR 6 W<|fJ W W a W W<|fR 3 W<|aw W W a W<|bp G W W<|fR 1 W<|TF.nil ⟨by kernel_rfl,rfl⟩
  refine dO [2,71] W<|Oq (ax W W B W)<|dR [72] W<|Oq (bK W W W) ?_;rw[asD];refine dL [] W<|OB [nN 69 0,nN 68 q.aj.length,nD 67 (.sl (q.aj.map a_.cells)),nD 10 (.int .i32 (c.ev π j)),nN 9 (p+xP q.ex),nR 0 (X.A .it),nR 2 (X.A (.pl π j))] F W W<|dC [3] W<|DC.lp (λk s=>∃(i:Nat) (I:List (Nat×List M)),s=⟨[nN 69 i,nN 68 q.aj.length,nD 67 (.sl (q.aj.map a_.cells)),nD 10 (.int .i32 (c.ev π j)),nN 9 (p+xP q.ex),nR 0 (X.A .it),nR 2 (X.A (.pl π j))],I,F⟩/\i<=c.br π j/\k=q.aj.length-i) q.aj.length _
   ⟨0,_,rfl,by omega,rfl⟩ W ?_
  rintro k s1 ⟨i,I,rfl,hi,rfl⟩;refine dO [2,74] W<|Oq (aQ (asP (by omega)) W W W W)<|dL [1] W ?_;have OY:i<q.aj.length:=by omega
  have b:=aso OY;generalize q.aj[i]=J at b;have O:=te b;have y:=Jw S x.1.lay (.d (.sl (q.aj.map a_.cells))) J.name;rw[(x.2.1.A .it trivial).2]at y;obtain⟨_,_,⟨rfl,rfl⟩,y⟩:=y;refine dC [3] W ?_;rcases asp i (c.br π j)with Q|Q
  .have hb:=asY.2 (ac i J Q b);refine dO [2,76] W<|Oq (aP W W W (asm i) O W)<|dL [] W ?_;apply Ow bX
   .intro s0 Oo;refine fR 5 W<|aw W W B W<|fR 2 W<|kG y W W<|fR 1 W<|mG W W W (r:=.bool false) (by show some (D.bool (_==_))=_;rw[hb])<|TF.nil ⟨by kernel_rfl,rfl⟩
   refine dO [0,2,91] W<|Oq (ay W W W (by omega))<|dL [] W<|bG (k':=q.aj.length-(i+1)) (by omega) ⟨i+1,_,rfl,by omega,rfl⟩ W W
  .obtain rfl:i=c.br π j:=by omega
   rw[E.ha]at b;injection b with b
   subst b;have hb:(gV P.aG R.name==c.ev π j)=true:=by rw[hv];simp
   refine dO [2,76] W<|Oq (aP W W W (asm _) O W)<|dL [] W ?_;apply Ow bX
   .intro s0 Oo;refine fR 5 W<|aw W W B W<|fR 2 W<|kG y W W<|fR 1 W<|mG W W W (r:=.bool true) (by show some (D.bool (_==_))=_;rw[hb])<|TF.nil ⟨by kernel_rfl,rfl⟩
   refine dC [1,2] W<|DC.ret ⟨_,W,by rw[hn,YY];rfl,Y,x⟩
 |aN o z y b hs O T hu ht d9 ha t' TW Wl ac=>
  have Ur:y<q.aj.length:=by
   rcases asp y q.aj.length with h|h
   .exact h
   .rw[asr h]at O;cases O
  have YY:gy q p=p+1:=by unfold gy;rw[asB o]
  have ah:((p:Nat):Int)+1=((p+1:Nat):Int):=by omega
  have J:p<bT d:=by rw[<-S.Au];exact z
  have dj:=h.inst;have Q5:=h.unit;have Rz:=h.mem;have co:=h.cw;have S_:=iO (n:=bT d) (f:=iP X.x.m) J;rw[show iP X.x.m p=.d (.int .i32 (y:Int)) by rw[<-hs,<-S.rd X v.pu π p hf (S.oq π j q p w g t p (asj _) (by rw[o];unfold gR;rw[asB (.inr W)];omega)) J]]at S_;have Ts:=iO (n:=bT d) (f:=jT X.x.p) J;rw[show jT X.x.p p=.d (.bool (c.rp p)) by rw[<-S.rp X v.pu π j q p hf g o t]]at Ts;have d6:=asn O;have f8:=(C.2.2.2.2.1 b d6).2.1;unfold dB at a;rw[o]at a;refine dC [2] W ?_;apply Ow bX
  .intro s0 Oo;refine fR 3 W<|aw W W a W<|fR 4 W<|fJ W W a W W<|aW N W W<|oZ W W W (by omega) ?_;rw[P5];refine fR 1 W<|TF.nil ⟨by kernel_rfl,rfl⟩
  refine dO [2,36] W<|Oq (ax W W a W)<|dL [3,2,0,2,0] W ?_;apply Ow bX
  .intro s0 Oo;refine fR 3 W<|aw W W dj W<|fR 2 W<|aw W W Q5 W<|fR 3 W<|aw W W a W<|cZ W W W Rz (asm p) (by exact atG.2 J)<|jK W W Rz S_<|qx W W ?_;rw[Gp ⟨by omega,by omega⟩];refine fR 1 W<|TF.nil ⟨by kernel_rfl,rfl⟩
  refine dC [] W ?_;apply Ow bX
  .intro s0 Oo;refine fR 3 W<|aw W W dj W<|fR 2 W<|aw W W Q5 W<|fR 3 W<|aw W W a W<|cZ W W W co (asm p) (by exact atG.2 J)<|jK W W co Ts<|fR 1 W<|TF.nil ⟨by kernel_rfl,rfl⟩
  refine dO [2,127] W<|Oq (ax W W a W)<|dR [129] W<|Oq (aP W W W (asm y) (te O) W)<|dR [132] W<|Oq (bK W W W) ?_;rw[show(eT b.fm).length=b.fm.length by simp[eT]];refine dL [] W<|OB [nN 129 0,nN 128 b.fm.length,nD 127 (.sl (eT b.fm)),nN 13 y,nD 14 (.bool (c.rp p)),nR 0 (X.A .it),nR 1 (X.A (.fr π)),nR 2 (X.A (.pl π j))] H W W<|dC [3] W<|DC.lp (λk a=>∃(i:Nat) (Y:av) (K:Hp) (bx:List (Nat×List M)),a=⟨[nN 129 i,nN 128 b.fm.length,nD 127 (.sl (eT b.fm)),nN 13 y,nD 14 (.bool (c.rp p)),nR 0 (X.A .it),nR 1 (X.A (.fr π)),nR 2 (X.A (.pl π j))],bx,K⟩/\i<=b.fm.length/\k=b.fm.length-i/\pd P.aG c π (c.ek π j) (b.fm.drop i) T/\cT P n c d u X H 0 [] Y K) b.fm.length _
   ⟨0,X,H,_,rfl,by omega,rfl,hu,cT.same h v.pu⟩ W ?_
  rintro k s1 ⟨i,Y0,K0,bx,rfl,hi,rfl,E,B⟩;have F:=B.2.1;have Tt:=F.f2 π hf;obtain⟨p2,Q,Zm⟩:=B.1.lay.fI Tt g;rw[t]at Q;injection Q with Q
  subst Q;rw[(F.A (.pl π j) ⟨hf,Z⟩).2]at Zm;refine dC [2] W<|DC.cond W (λhc=>?_) (λhc=>?_);rotate_left
  .refine DC.exit ?_;have e:i=b.fm.length:=by have:=asG hc;omega
   rw[e,atQ]at E;cases E;obtain⟨XB,Wj⟩:=ht;refine dC [] W ?_;apply Ow bX
   .intro s0 Oo;refine fR 4 W<|aw W W Zm W<|oZ W W W (by omega) ?_;rw[ah];refine fR 4 W<|TF.nil ⟨by kernel_rfl,rfl⟩
   exact DC.ret ⟨_,W,by rw[XB,Wj,YY];rfl,Y0,by rw[ac];exact B⟩
  have OY:i<b.fm.length:=by have:=asC hc;omega
  refine dC [] W ?_;have Ox:=A5 OY;have d7:=asE OY;rw[atk OY]at E;generalize b.fm[i]=G at E Ox d7;obtain⟨d8,f9⟩:=S.je π j q w g b d6 G (.inl d7);have gc:=B.2.2.1;obtain⟨x,Qx,Z8⟩:∃x,gI P.aG c π (c.ek π j) G.e 0 x []/\((x≠0/\T=some G)\/(x=0/\pd P.aG c π (c.ek π j) (b.fm.drop (i+1)) T)):=by
   cases E with
   |xv l s=>exact⟨_,l,.inl ⟨s,W⟩⟩
   |no l s=>exact⟨0,l,.inr ⟨W,s⟩⟩
  obtain⟨m2,K2,⟨rfl,Y,Py⟩,Pt⟩:=dD S U π G.e d8 0 x [] Qx Y0 K0 B.1 (by simp;omega) (V.next F) Tt (by omega) (λk l s=>by omega) (λL A=>by cases A);rw[Xp.aA,(F.A .it trivial).2,(F.A (.fr π) (by show 1<=X.fs π;omega)).2]at Pt;have I:=B.trans Py;have Qj:=I.2.1.f2 π hf;obtain⟨p3,R,QZ⟩:=I.1.lay.fI Qj g;rw[t]at R;injection R with R
  subst R;rw[(I.2.1.A (.pl π j) ⟨hf,Z⟩).2]at QZ;refine dO [3,2,135] W<|Oq (aP W W W (asm i) Ox W)<|dL [] W ?_;rcases Z8 with⟨l,s⟩|⟨l,s⟩
  .have hb:(x !=0)=true:=by simpa using l
   subst s;obtain⟨XB,Wj⟩:=ht;have Zn:=Gn q.aj G.to (by omega);rw[XB]at Zn;refine dO [2,141] W<|Oq (au Pt W W)<|dR [142] W<|Oq (aQ hb W W W W)<|dL [1] W ?_;apply Ow bX
   .intro s0 Oo;refine fR 4 W<|aw W W QZ W<|fR 2 W<|aW Zn W W<|fR 3 W<|aw W W QZ W<|oZ W W W (by omega) ?_;rw[ah];refine fR 6 W<|TF.nil ⟨by kernel_rfl,rfl⟩
   exact DC.ret ⟨_,W,by rw[Wj,YY];rfl,Y,by rw[ac];exact I⟩
  .have hb:(x !=0)=false:=by rw[l];rfl
   refine dO [2,141] W<|Oq (au Pt W W)<|dR [142] W<|Oq (aQ hb W W W W)<|dR [0,2,159] W<|Oq (ay W W W (by omega))<|dL [] W<|bG (k':=b.fm.length-(i+1)) (by omega) ⟨i+1,Y,K2,_,rfl,by omega,rfl,s,I⟩ W W
end
section
variable{P:Pg}{n:Nat}{c:aI}{d:Nd}{u:US}{X:av}{H:Hp}
def av.j4(X:av)(f:Nat->Int):av:={X with x:=⟨f,X.x.p,X.x.s⟩}
def av.rF(X:av)(g:Nat->Bool):av:={X with x:=⟨X.x.m,g,X.x.s⟩}
def cD.j4(h:cD P n c d X H)(f:Nat->Int):cD P n c d (X.j4 f) (H.set (X.A .me) (.row false 1 0 (bD (bT d) (iP f)))):=by
 refine h.y9 .me trivial _ W W W W W W (λr=>by cases r<;>exact atn) W (λr e a g b=>?_);cases r with
 |me=>exact absurd W a
 |_=>exact b
def cD.rF(h:cD P n c d X H)(f:Nat->Bool):cD P n c d (X.rF f) (H.set (X.A .pe) (.row false 1 0 (bD (bT d) (jT f)))):=by
 refine h.y9 .pe trivial _ W W W W W W (λr=>by cases r<;>exact atn) W (λr e a g b=>?_);cases r with
 |pe=>exact absurd W a
 |_=>exact b
def av.rG(c:aI)(X:av):NI->av
 |.cell _ a=>match(c.fr a.1).cK[a.2]? with
  |some (some k)=>X.j4 (cd X.x.m k (c.get a))
  |_=>X
 |.aN a j=>match(c.fr a).pos[j]? with
  |some k=>(X.j4 (cd X.x.m k (c.k7 a j:Int))).rF (cd X.x.p k (c.nan a j))
  |none=>X
 |.arrow a=>X.j4 (cd X.x.m a 0)
 |.put a v=>X.j4 (cd X.x.m a v)
def Fg(P:Pg)(n:Nat)(c:aI)(d:Nd)(X:av)(H:Hp)(Y:av)(K:Hp):Prop:=cD P n c d Y K/\K.length=H.length/\∀a:Nat,X.own a=none->K[a]?=H[a]?
def cD.off(h:cD P n c d X H){r:Ro}(e:X.live c r){a:Nat}(b:X.own a=none)(ob:Ob):(H.set (X.A r) ob)[a]?=H[a]?:=asv (by rintro rfl;rw[h.own r e]at b;cases b)
def Fg.j4(h:cD P n c d X H)(f:Nat->Int):Fg P n c d X H (X.j4 f) (H.set (X.A .me) (.row false 1 0 (bD (bT d) (iP f)))):=⟨h.j4 f,by simp,λa a=>h.off (r:=.me) trivial a _⟩
theorem Ld(h:cD P n c d X H){m:M}{s:NI}(t:X.r_ c H m s)(u:NI.ok c d X s)(O:∀b j,c.k7 b j<=1000):∃f b,m=.fn f b/\bw prog f/\DT prog f b H λ_ K=>Fg P n c d X H (X.rG c s) K:=by
 have l:=h.inst;have o:=h.unit;have g:=h.mem;cases s with
 |cell C i=>
  obtain⟨D,E,F,⟨k,x,y⟩,_⟩:=u;obtain⟨_,J,L,rfl,w,B⟩:=t;have G:=aso E;obtain⟨N,eq,q,p,_⟩:=h.cell D G;rw[y]at q;injection q with q
  subst q;rw[asB F]at p;have z:=lG (n:=bT d) (f:=X.x.m) (k:=k) (c.get (i.1,i.2)) x;have A:=Fg.j4 h (cd X.x.m k (c.get i));have I:X.rG c (.cell C i)=X.j4 (cd X.x.m k (c.get i)):=by simp only[av.rG,y]
  rw[I];cases C with
  |true=>
   refine⟨127,_,W,inferInstance,?_⟩;refine DT.ob func127 W ntmps127 W<|dC [] W ?_;apply Ow bX
   .intro Q R;refine aw W W B.2 W<|fR 2 W<|aw W W l W<|fR 2 W<|aw W W o W<|aw W W w.2 W<|fR 2 W<|aw W W p W<|aw W W w.2 W<|fR 2 W<|aw W W p W<|cZ W W W g (asm k) (by exact atG.2 x)<|fL W W g W W z<|TF.nil ⟨by kernel_rfl,rfl⟩
   exact⟨_,W,A⟩
  |false=>
   refine⟨67,_,W,inferInstance,?_⟩;refine DT.ob func67 W ntmps67 W<|dC [] W ?_;apply Ow bX
   .intro Q R;refine aw W W B.2 W<|fR 2 W<|aw W W l W<|fR 2 W<|aw W W o W<|aw W W w.2 W<|fR 2 W<|aw W W p W<|aw W W w.2 W<|fR 2 W<|aw W W p W<|cZ W W W g (asm k) (by exact atG.2 x)<|fL W W g W W z<|TF.nil ⟨by kernel_rfl,rfl⟩
   exact⟨_,W,A⟩
 |arrow i=>
  obtain⟨p,_⟩:=u;obtain⟨A,rfl,x⟩:=t;have q:=lG (n:=bT d) (f:=X.x.m) (k:=i) 0 p;have w:=Fg.j4 h (cd X.x.m i 0);refine⟨_,_,W,inferInstance,?_⟩;refine DT.ob func125 W ntmps125 W<|dC [] W ?_;apply Ow bX
  .intro y z;refine aw W W x.2 W<|fR 2 W<|aw W W l W<|fR 2 W<|aw W W o W<|fR 1 W<|cZ W W W g (asm i) (by exact atG.2 p)<|fL W W g W W q<|TF.nil ⟨by kernel_rfl,rfl⟩
  exact⟨_,W,w⟩
 |put i v=>
  obtain⟨p,_⟩:=u;obtain⟨y,rfl,x⟩:=t;have q:=lG (n:=bT d) (f:=X.x.m) (k:=i) v p;have w:=Fg.j4 h (cd X.x.m i v);refine⟨_,_,W,inferInstance,?_⟩;refine DT.ob func143 W ntmps143 W<|dC [] W ?_;apply Ow bX
  .intro z A;refine aw W W x.2 W<|fR 2 W<|aw W W l W<|fR 2 W<|aw W W o W<|fR 2 W<|cZ W W W g (asm i) (by exact atG.2 p)<|fL W W g W W q<|TF.nil ⟨by kernel_rfl,rfl⟩
  exact⟨_,W,w⟩
 |aN b j=>
  obtain⟨R,G,p,L,U,D,w⟩:=u;obtain⟨A,J,N,rfl,x,y⟩:=t;obtain⟨S,z,E⟩:=h.fI A.1 L;rw[D]at z;injection z with z
  subst z;have I:X.rG c (.aN b j)=(X.j4 (cd X.x.m p (c.k7 b j:Int))).rF (cd X.x.p p (c.nan b j)):=by simp only[av.rG,D]
  have C:=Fg.j4 h (cd X.x.m p (c.k7 b j:Int));have F:=fV (PA:=Ob.row false 1 0 (bD (bT d) (iP (cd X.x.m p (c.k7 b j:Int))))) h.cw (h.ne (r:=.me) (r':=.pe) trivial trivial (by simp));rw[I];refine⟨_,_,W,inferInstance,?_⟩;refine DT.ob func95 W ntmps95 W ?_
  let B:Hp->Prop:= λL=>L[J]?=some (Ob.box [.ref (X.A .it) 0])/\L[N]?=some (Ob.box [.ref (X.A (.pl b j)) 0])/\L[X.A .it]?=some (.box [.ref (X.A .un) 0,.ref (X.A (.fr [])) 0,.d (.bool false),bI (X.A .af) X.vF X.F.length,bI (X.A .nx) X.vN X.N.length])/\L[X.A .un]?=some (.box (pg P d (X.A .me) (X.A .pe) (X.A .su)))/\L[X.A (.pl b j)]?=some (.box (dB G p))
  have q:∀i,B (H.set (X.A .me) i):= λi=>⟨fV x.2 (by intro e;have:=h.own .me trivial;rw[e,x.1]at this;cases this),fV y.2 (by intro e;have:=h.own .me trivial;rw[e,y.1]at this;cases this),fV l (h.ne (r:=.me) (r':=.it) trivial trivial (by simp)),fV o (h.ne (r:=.me) (r':=.un) trivial trivial (by simp)),fV E (h.ne (r:=.me) (r':=.pl b j) trivial A (by simp))⟩
  have T:∀i PA,B ((H.set (X.A .me) i).set (X.A .pe) PA):= λi PA=>⟨fV (q i).1 (by intro e;have:=h.own .pe trivial;rw[e,x.1]at this;cases this),fV (q i).2.1 (by intro e;have:=h.own .pe trivial;rw[e,y.1]at this;cases this),fV (q i).2.2.1 (h.ne (r:=.pe) (r':=.it) trivial trivial (by simp)),fV (q i).2.2.2.1 (h.ne (r:=.pe) (r':=.un) trivial trivial (by simp)),fV (q i).2.2.2.2 (h.ne (r:=.pe) (r':=.pl b j) trivial A (by simp))⟩
  refine dC [] W ?_;apply PL B ((⟨x.2,y.2,l,o,E⟩)) bX
  .intro i Q;refine OH W W (λL h=>⟨_,h.1,rfl⟩)<|iR 2 W<|OH W W (λL h=>⟨_,h.2.2.1,rfl⟩)<|iR 2 W<|OH W W (λL h=>⟨_,h.2.2.2.1,rfl⟩)<|OH W W (λL h=>⟨_,h.2.1,rfl⟩)<|iR 2 W<|OH W W (λL h=>⟨_,h.2.2.2.2,rfl⟩)<|OH W W (λL h=>⟨_,h.1,rfl⟩)<|iR 2 W<|OH W W (λL h=>⟨_,h.2.2.1,rfl⟩)<|iR 2 W<|OH W W (λL h=>⟨_,h.2.2.2.1,rfl⟩)<|OH W W (λL h=>⟨_,h.2.1,rfl⟩)<|iR 2 W<|OH W W (λL h=>⟨_,h.2.2.2.2,rfl⟩)<|iR 1 W ?_;apply OA
   .skip
    refine qx W W ?_;rw[Ci (by grind)];exact TF.nil ⟨W,W⟩
   refine iR 1 W ?_;apply OA
   .skip
    refine cZ W W W g (asm p) (by exact atG.2 w)<|TF.nil ⟨W,W⟩
   apply OA
   .skip
    refine fL W W g W W (lG (n:=bT d) (f:=X.x.m) (k:=p) (c.k7 b j:Int) w)<|TF.nil ⟨W,W⟩
   apply OA
   .skip
    refine cZ W W W F (asm p) (by exact atG.2 w)<|TF.nil ⟨W,W⟩
   apply OA
   .skip
    refine fL W W F W W (s8 (n:=bT d) (f:=X.x.p) (k:=p) (c.nan b j) w)<|TF.nil ⟨W,W⟩
   exact jr.nil ⟨by kernel_rfl,by repeat' first|exact trivial|exact .inl ((by simp_all))|exact .inr (by kernel_rfl)|refine⟨?_,?_⟩,rfl⟩
  exact⟨_,W,(C.1.rF (cd X.x.p p (c.nan b j))),by simp,λa g=>by
   exact(C.1.off (r:=.pe) trivial (a:=a) g (.row false 1 0 (bD (bT d) (jT (cd X.x.p p (c.nan b j)))))).trans (C.2.2 a g)⟩
end
variable{ai:AI}{m:M}{i:Nat}
section
variable{P:Pg}{n:Nat}{c:aI}{d:Nd}{u:US}{X:av}{H:Hp}
def HT{a:Nat}{f:Nat}{b:List M}[hf:bw prog f](c:H[a]?=some (.box [.fn f b])){post:M->Hp->Prop}(d:DT prog f (dN i::b) H post):
  DT prog 124 [.ref a 0,.d (.aZ [iN i] 0)] H post:=by
 obtain⟨r,K,e,g⟩:=d;refine DT.ob func124 W ntmps124 W<|dO [2,2,7] W<|Oq (ax W W c W)<|dR [9] W<|Oq (lR (ms:=[_]) g W W W)<|dL [] W<|DC.ret ⟨_,W,e⟩
def av.go(X:av)(a:Nat)(v:Int)(w:List (Nat×Int)):av:={X with fi:=X.fi+1,ph:= λk z=>(k,z)=(a,v)\/(k,z)∈w}
def cD.fp(h:cD P n c d X H)(a:Nat)(b:Nat->Int->Prop):cD P n c d {X with fi:=a,ph:=b} H:=by
 refine⟨λr e=>h.own r (by cases r<;>exact e),h.lt,λr e=>?_,h.sub,λp f=>?_,λp f=>h.af p f⟩
 .obtain⟨g,i,j⟩:=h.ob r (by cases r<;>exact e);exact⟨g,i,by cases r<;>exact j⟩
 .have:=h.nx p f
  revert this
  generalize p.1=g;intro this;cases g<;>exact this
theorem Le{l:List (AI×M)}{p:AI×M}(h:l[i]?=some p):aR ((l.drop i).map λp=>1+p.1.w.length)=(1+p.1.w.length)+aR ((l.drop (i+1)).map λp=>1+p.1.w.length):=by
 have a:i<l.length:=by
  grind
 rw[atk a];rw[aso a]at h;injection h with h
 rw[h,asT,i_]
def NG(h:X.F[X.fi]?=some (ai,m)):(X.go ai.own ai.v ai.w).T c+(1+ai.w.length)=X.T c:=by
 unfold av.T;have a:(X.go ai.own ai.v ai.w).N=X.N:=rfl;have b:(X.go ai.own ai.v ai.w).F=X.F:=rfl;have d:(X.go ai.own ai.v ai.w).fi=X.fi+1:=rfl;have e:(X.go ai.own ai.v ai.w).cw=X.cw:=by funext i;cases i<;>rfl
 rw[a,b,d,e,Le h];simp only;omega
theorem MN(h:Pu P c d u X)(g:X.F[X.fi]?=some (ai,m))(n:X.fi<=X.N.length)(o:∀k v,¬X.ph k v):Pu P c d u (X.go ai.own ai.v ai.w):=by
 have j:X.fi<X.F.length:=by
  grind
 refine h.Cp W W W W W (λk v l=>?_) (λp a=>a) (λp a=>.inl a) (λp a=>.inl a) j (by show X.fi+1<=X.N.length+1;omega);rcases l with(b|⟨i,p,b,a,e⟩)|b
 .exact .inl (.inl b)
 .rcases asp X.fi i with f|f
  .exact .inl (.inr ⟨i,p,f,a,e⟩)
  .obtain rfl:i=X.fi:=by omega
   rw[g]at a;injection a with a
   subst a;exact .inr e
 .grind
def HU(V:nG P n c d u)(hV:eH P n c d u c.dX)(t:cS P n c d u X H)(hT:X.T c<=1000000000000)(w:lH c X c.dX)(S:∀k v,¬X.ph k v)(hn:X.fi<=X.N.length)(C:X.F[X.fi]?=some (ai,m)):
  ∃f a,m=.fn f a/\bw prog f/\DT prog f a H λ_ K=>∃W,cS P n c d u W K/\bf c (λ_=>False) {X with fi:=X.fi+1} H W K/\W.T c<=X.T c/\(∀k v,¬W.ph k v)/\W.fi<=W.N.length:=by
 have F:=asn C;have h:=t.pu.fk _ F;obtain⟨bn,q,bk,km,e,i,a0,G,ah,WJ,co,WU,Zo,x,RX,I⟩:=t.lay.af _ F;obtain⟨XC,b4,b5,rfl,J,N⟩:=WU;simp only at G XC J N x I h;subst G;have d6:=NG (c:=c) C;have hb:a0+aR (e.kids.map xP)<=1000000000:=by
  have y:=(fY xP (l:=e.kids) (i:=i) (by omega)).1;rw[ath (by omega)]at y;have D:e.kids[i]=ai.e:=by rw[aso (by omega)]at x;injection x
  rw[D]at y;have:=h.sz;omega
 have hx:=dD V hV ai.π ai.e h.sm ai.a ai.v ai.w h.ev (X.go ai.own ai.v ai.w) H (⟨t.lay.fp _ _,MN t.pu C hn S⟩) (by omega) (⟨w.c1,w.f1,w.c4,w.tp⟩) h.fs h.sz h.own h.wr.2;obtain⟨r1,z,⟨rfl,Y,b⟩,OV⟩:=HT WJ.2 (Gr Zo hb x J.2 N.2 (by rw[<-I];exact hx));have A:=b.2.1;have j:=A.box (X:=X.go ai.own ai.v ai.w) co;have s:Y.A .it=X.A .it:=(A.A .it trivial).2;have g:=b.1.lay.inst;rw[s]at g;have Tm:Y.r_ c z (.fn 143 [.d (.aZ [.int .i32 ai.v] 0),.ref q 0,.d (.aZ [.int .i64 (ai.own:Int)] 0)]) (.put ai.own ai.v):=⟨q,rfl,by rw[s];exact j⟩;obtain⟨O,E⟩:=pw b.1.lay Tm;obtain⟨B,T,U⟩:=qJ b.1.pu (p:=(.put ai.own ai.v,.fn 143 [.d (.aZ [.int .i32 ai.v] 0),.ref q 0,.d (.aZ [.int .i64 (ai.own:Int)] 0)])) (⟨h.lt,h.wr.1⟩) (H:=z);have a:=A.trans E;have Q:∀L,Y.de z (.fn 143 [.d (.aZ [.int .i32 ai.v] 0),.ref q 0,.d (.aZ [.int .i64 (ai.own:Int)] 0)])=L->∃W,cS P n c d u W L/\bf c (λ_=>False) {X with fi:=X.fi+1} H W L/\W.T c<=X.T c/\(∀k v,¬W.ph k v)/\W.fi<=W.N.length:=by
  rintro L rfl;generalize hZ:Y.dq z (.put ai.own ai.v,.fn 143 [.d (.aZ [.int .i32 ai.v] 0),.ref q 0,.d (.aZ [.int .i64 (ai.own:Int)] 0)])=Z at O E B T U a;have d7:=a.fi;have d8:Z.N.length=Y.N.length+1:=by rw[<-hZ];simp[av.dq]
  have RQ:=A.fi;refine⟨{Z with fi:=Z.fi,ph:=X.ph},⟨O.fp _ _,?_⟩,?_,?_,S,?_⟩
  .refine B.Cp rfl rfl rfl rfl rfl (λk v hs=>?_) (λp a=>a) (λp a=>.inl a) (λp a=>.inl a) B.fl B.fn;rcases hs with y|y
   .exact .inl y
   .rw[a.ph]at y;rcases y with D|D
    .injection D with e1 e2
     subst e1;subst e2;exact .inl (T _ _ ⟨rfl,rfl⟩)
    .exact .inl (E.S _ _ (b.2.2.2 _ D))
  .exact⟨a.c0,a.f0,a.len,a.iD,λr o=>by have:=a.A r (by cases r<;>exact o);exact⟨by have y:=this.1;revert y;cases r<;>exact id,this.2⟩,a.aK,a.f2,a.f1,a.c1,a.c2,a.c3,a.c4,a.dn,a.rC,a.lv,a.S,a.fi,rfl,a.F⟩
  .have y:({Z with fi:=Z.fi,ph:=X.ph} :av).cw=Z.cw:=by funext i;cases i<;>rfl
   have D:({Z with fi:=Z.fi,ph:=X.ph} :av).T c=Z.T c:=by unfold av.T;rw[y]
   rw[D,U];have:=b.2.2.1;omega
  .have:=b.1.pu.fn;show Z.fi<=Z.N.length;omega
 refine⟨_,_,rfl,inferInstance,?_⟩;refine DT.ob func142 rfl ntmps142 rfl<|dO [2,8] rfl<|Oq (ax rfl rfl ah.2 rfl)<|dR [9] rfl<|Oq (lR (ms:=[]) OV rfl rfl rfl)<|dL [] rfl<|DC.freeze 3 (ds:=[.int .i32 ai.v]) rfl rfl ?_
 let R:M->Hp->Prop:= λac L=>L[q]?=some (Ob.box [.ref (X.A .it) 0])/\L[X.A .it]?=some (Ob.box [.ref (Y.A .un) 0,.ref (Y.A (.fr [])) 0,.d (.bool false),bI (Y.A .af) Y.vF Y.F.length,ac])
 by_cases o:Y.N=[]
 .have y:bI (Y.A .nx) Y.vN Y.N.length=.d (.sl []):=by simp[o,bI]
  rw[y]at g;refine dC [] rfl ?_;apply PL (R (.d (.sl []))) (⟨j.2,g⟩) bX
  .intro D Z;refine OH rfl rfl (λL h=>⟨_,h.1,rfl⟩)<|OH rfl rfl (λL h=>⟨_,h.1,rfl⟩)<|iR 2 rfl<|OH rfl rfl (λL h=>⟨_,h.2,rfl⟩) ?_;apply OA
   .skip
    refine eW rfl rfl<|TF.nil ⟨rfl,rfl⟩
   apply OA
   .skip
    refine dW (cs:=[_]) rfl rfl rfl rfl rfl rfl<|TF.nil ⟨rfl,rfl⟩
   apply OA
   .skip
    refine o9 true rfl rfl rfl (lV _ _) rfl rfl (by decide) (by decide)<|TF.nil ⟨rfl,rfl⟩
   refine iR 2 rfl ?_;apply OA
   .skip
    refine fK rfl rfl (bu (bu g)) rfl rfl rfl<|TF.nil ⟨rfl,rfl⟩
   exact jr.nil ⟨by kernel_rfl,by repeat' first|exact trivial|exact .inl ((by first|exact⟨bu j.2,bu g⟩|exact⟨bu (bu j.2),bu (bu g)⟩))|exact .inr (by kernel_rfl)|refine⟨?_,?_⟩,rfl⟩
  refine⟨_,rfl,Q _ ?_⟩;simp only[av.de,asB o,asq,asS,s];rfl
 .have D:bI (Y.A .nx) Y.vN Y.N.length=.bC (Y.A .nx) Y.vN Y.N.length:=by unfold bI;rw[asu];intro e;exact o (atb e)
  rw[D]at g;have d7:=y_ (c:=c) (X:=Y) (by have:=b.2.2.1;omega);have y:Y.A .nx≠X.A .it:=by rw[<-s];exact b.1.lay.ne (r:=.nx) (r':=.it) o trivial (by simp)
  refine dC [] rfl ?_;apply PL (R (.bC (Y.A .nx) Y.vN Y.N.length)) (⟨j.2,g⟩) bX
  .intro Z Oo;refine OH rfl rfl (λL h=>⟨_,h.1,rfl⟩)<|OH rfl rfl (λL h=>⟨_,h.1,rfl⟩)<|iR 2 rfl<|OH rfl rfl (λL h=>⟨_,h.2,rfl⟩) ?_;apply OA
   .skip
    refine eW rfl rfl<|TF.nil ⟨rfl,rfl⟩
   apply OA
   .skip
    refine dW (cs:=[_]) rfl rfl rfl rfl rfl rfl<|TF.nil ⟨rfl,rfl⟩
   apply OA
   .skip
    refine o_ rfl rfl rfl (lV _ _) (bu (vO b.1.lay o)) rfl (by omega) (by omega)<|TF.nil ⟨rfl,rfl⟩
   refine iR 2 rfl ?_;apply OA
   .skip
    refine fK rfl rfl (fV (bu g) y) rfl rfl rfl<|TF.nil ⟨rfl,rfl⟩
   exact jr.nil ⟨by kernel_rfl,by repeat' first|exact trivial|exact .inl ((by first|exact⟨bu j.2,bu g⟩|exact⟨fV (bu j.2) (by intro e;have:=b.1.lay.own .nx o;rw[e,j.1]at this;cases this),fV (bu g) y⟩))|exact .inr (by kernel_rfl)|refine⟨?_,?_⟩,rfl⟩
  refine⟨_,rfl,Q _ ?_⟩;simp only[av.de,asu o,s];rfl
end
end Go.Proofs.Sz
namespace Go.Proofs.Sz
open Go.Mt Go.Sm Go.Proofs
open Tryz
section
variable{P:Pg}{n:Nat}{c:aI}{d:Nd}{u:US}{X:av}{H:Hp}
theorem HV{ins outs:List Int}{u':US}(S:nG P n c d u)(w:gW P (eV P n) c d u ins outs u')(y:∀r≤c.dX,eH P n c d u r)(g:cS P n c d u X H)(z:X.T c<=1000000000000)(k:lH c X c.dX){π:Path}{j:Nat}{q:aB}(hf:X.fs π=2)(I:(c.fr π).aq[j]?=some q)(h:q.kd=1\/q.kd=2\/q.kd=3\/q.kd=4\/q.kd=5)
  (F:∀x∈q.lhs,∀f,c.find π x=some f->f.1=[]->d.ins.length<=f.2):
  DT prog 61 [.ref (X.A .it) 0,.ref (X.A (.fr π)) 0,.ref (X.A (.pl π j)) 0] H λm K=>∃b,m=.d (.bool b)/\(b=true↔c.ja π q)/\∃Y,cT P n c d u X H 0 [] Y K:=by
 have i:=g.lay;obtain⟨Z,hp,a⟩:=i.fI hf I;refine DT.ob func61 W ntmps61 W ?_;unfold dB at a;refine dC [2] W ?_;rcases h with h|h|h|h|h
 .rw[h]at a;have A:q.kd=1\/q.kd=2:=by omega
  cases o:q.lhs with
  |nil=>
   rw[o]at a;refine dO [2,16] W<|Oq (ax W W a W)<|dR [23] W ?_
   first|refine Oq (aH W W) ?_|(refine Oq (aC W) ?_;refine Oq (ax W W a W) ?_)
   refine dR [31] W ?_
   first|refine Oq (aH W W) ?_|(refine Oq (aC W) ?_;refine Oq (ax W W a W) ?_)
   refine dL [1,2] W<|DC.ret ⟨_,W,true,W,⟨λ_ _=>by grind,λ_=>rfl⟩,X,cT.same i g.pu⟩
  |cons x G=>
   rw[o]at a;have J:((((dM (x::G)).length:Nat):Int)==0)=false:=by grind
   have L:=pv i g.pu S.sz π hf x;refine dO [2,16] W<|Oq (ax W W a W)<|dR [23] W ?_
   first|refine Oq (aH W W) ?_|(refine Oq (aC W) ?_;refine Oq (ax W W a W) ?_)
   refine dR [31] W ?_
   first|refine Oq (aH W W) ?_|(refine Oq (aC W) ?_;refine Oq (ax W W a W) ?_)
   refine dR [33] W ?_
   first|refine Oq (aH W W) ?_|(refine Oq (aC W) ?_;refine Oq (aQ J W W W W) ?_)
   refine dR [0,2,40] W<|Oq (ax W W a W)<|dR [41] W<|Oq (aP W W W (by decide) (r:=[.str x]) W W)<|dR [43] W<|Oq (au L W W)<|dL [] W ?_;cases l:c.find π x with
   |none=>
    have s:X.gC c π x=.d .bU:=by unfold av.gC;rw[l]
    rw[s];refine dC [] W ?_;apply Ow bX
    .intro t B;refine fR 1 W<|oQ (by kernel_rfl) W W W W W<|fR 14 W<|TF.nil ⟨by kernel_rfl,rfl⟩
    refine DC.ret ⟨_,W,false,W,⟨λe=>(by cases e),λe=>?_⟩,X,cT.same i g.pu⟩;have:=e A;rw[o]at this;obtain⟨f,p,_⟩:=this;rw[l]at p;cases p
   |some f=>
    have M:X.gC c π x=.ref (X.A (.ce f.1 f.2)) 0:=by unfold av.gC;rw[l]
    rw[M];obtain⟨B,v,N,eq,C,T4,O,D,_⟩:=lJ g hf l;have E:=Pu.ok S g.pu B;have t:=w.cell f.1 f.2 v N E C O (F x (by grind) f l);have s:c.sb f.1 f.2<=c.dX:=by have:=t.sr;have:=t.tp;omega
    have V:lH c X (c.sb f.1 f.2):=⟨λπ a e=>ata s (k.c1 π a e),λj π e=>ata s (k.f1 j π e),k.c4,s⟩;obtain⟨m2,K2,⟨rfl,Q,R⟩,T⟩:=tc S (y _ s) (S.cl _ _ v E C) t.pr g z V B;refine dC [] W ?_;apply Ow bX
    .intro s0 Oo;refine fR 1 W<|oQ (by kernel_rfl) W W W W W<|fR 5 W ?_
     first|refine bj W W W W ?_|refine bm W W W ?_|(refine aX W W ?_;(refine aw W W D W ?_))
     refine fR 4 W ?_
     first|refine bj W W W W ?_|refine bm W W W ?_|(refine aX W W ?_;(refine aw W W D W ?_))
     first|refine bj W W W W ?_|refine bm W W W ?_|(refine aX W W ?_;(refine bp T W W ?_))
     refine fR 2 W<|TF.nil ⟨by kernel_rfl,rfl⟩
    refine DC.ret ⟨_,W,(c.val f.1 f.2).isSome,W,⟨λe _=>by grind,λe=>?_⟩,Q,R⟩;have:=e A;rw[o]at this;obtain⟨τ,p,U⟩:=this;rw[l]at p;injection p with p
    subst p;exact U
 .rw[h]at a;have A:q.kd=1\/q.kd=2:=by omega
  cases o:q.lhs with
  |nil=>
   rw[o]at a;refine dO [2,16] W<|Oq (ax W W a W)<|dR [23] W ?_
   first|refine Oq (aH W W) ?_|(refine Oq (aC W) ?_;refine Oq (ax W W a W) ?_)
   refine dR [31] W ?_
   first|refine Oq (aH W W) ?_|(refine Oq (aC W) ?_;refine Oq (ax W W a W) ?_)
   refine dL [1,2] W<|DC.ret ⟨_,W,true,W,⟨λ_ _=>by grind,λ_=>rfl⟩,X,cT.same i g.pu⟩
  |cons x G=>
   rw[o]at a;have J:((((dM (x::G)).length:Nat):Int)==0)=false:=by grind
   have L:=pv i g.pu S.sz π hf x;refine dO [2,16] W<|Oq (ax W W a W)<|dR [23] W ?_
   first|refine Oq (aH W W) ?_|(refine Oq (aC W) ?_;refine Oq (ax W W a W) ?_)
   refine dR [31] W ?_
   first|refine Oq (aH W W) ?_|(refine Oq (aC W) ?_;refine Oq (ax W W a W) ?_)
   refine dR [33] W ?_
   first|refine Oq (aH W W) ?_|(refine Oq (aC W) ?_;refine Oq (aQ J W W W W) ?_)
   refine dR [0,2,40] W<|Oq (ax W W a W)<|dR [41] W<|Oq (aP W W W (by decide) (r:=[.str x]) W W)<|dR [43] W<|Oq (au L W W)<|dL [] W ?_;cases l:c.find π x with
   |none=>
    have s:X.gC c π x=.d .bU:=by unfold av.gC;rw[l]
    rw[s];refine dC [] W ?_;apply Ow bX
    .intro t B;refine fR 1 W<|oQ (by kernel_rfl) W W W W W<|fR 14 W<|TF.nil ⟨by kernel_rfl,rfl⟩
    refine DC.ret ⟨_,W,false,W,⟨λe=>(by cases e),λe=>?_⟩,X,cT.same i g.pu⟩;have:=e A;rw[o]at this;obtain⟨f,p,_⟩:=this;rw[l]at p;cases p
   |some f=>
    have M:X.gC c π x=.ref (X.A (.ce f.1 f.2)) 0:=by unfold av.gC;rw[l]
    rw[M];obtain⟨B,v,N,eq,C,T4,O,D,_⟩:=lJ g hf l;have E:=Pu.ok S g.pu B;have t:=w.cell f.1 f.2 v N E C O (F x (by grind) f l);have s:c.sb f.1 f.2<=c.dX:=by have:=t.sr;have:=t.tp;omega
    have V:lH c X (c.sb f.1 f.2):=⟨λπ a e=>ata s (k.c1 π a e),λj π e=>ata s (k.f1 j π e),k.c4,s⟩;obtain⟨m2,K2,⟨rfl,Q,R⟩,T⟩:=tc S (y _ s) (S.cl _ _ v E C) t.pr g z V B;refine dC [] W ?_;apply Ow bX
    .intro s0 Oo;refine fR 1 W<|oQ (by kernel_rfl) W W W W W<|fR 5 W ?_
     first|refine bj W W W W ?_|refine bm W W W ?_|(refine aX W W ?_;(refine aw W W D W ?_))
     refine fR 4 W ?_
     first|refine bj W W W W ?_|refine bm W W W ?_|(refine aX W W ?_;(refine aw W W D W ?_))
     first|refine bj W W W W ?_|refine bm W W W ?_|(refine aX W W ?_;(refine bp T W W ?_))
     refine fR 2 W<|TF.nil ⟨by kernel_rfl,rfl⟩
    refine DC.ret ⟨_,W,(c.val f.1 f.2).isSome,W,⟨λe _=>by grind,λe=>?_⟩,Q,R⟩;have:=e A;rw[o]at this;obtain⟨τ,p,U⟩:=this;rw[l]at p;injection p with p
    subst p;exact U
 .rw[h]at a;refine dO [2,16] W<|Oq (ax W W a W)<|dR [23] W ?_
  first|refine Oq (aH W W) ?_|(refine Oq (aC W) ?_;refine Oq (ax W W a W) ?_)
  refine dL [1,2] W<|DC.ret ⟨_,W,true,W,⟨λ_ e=>by omega,λ_=>rfl⟩,X,cT.same i g.pu⟩
 .rw[h]at a;refine dO [2,16] W<|Oq (ax W W a W)<|dR [23] W ?_
  first|refine Oq (aH W W) ?_|(refine Oq (aC W) ?_;refine Oq (ax W W a W) ?_)
  refine dL [1,2] W<|DC.ret ⟨_,W,true,W,⟨λ_ e=>by omega,λ_=>rfl⟩,X,cT.same i g.pu⟩
 .rw[h]at a;refine dO [2,16] W<|Oq (ax W W a W)<|dR [23] W ?_
  first|refine Oq (aH W W) ?_|(refine Oq (aC W) ?_;refine Oq (ax W W a W) ?_)
  refine dL [1,2] W<|DC.ret ⟨_,W,true,W,⟨λ_ e=>by omega,λ_=>rfl⟩,X,cT.same i g.pu⟩
end
end Go.Proofs.Sz
namespace Go.Mt
def DB{c:Type}(l:List (Nat×c)){t u:Nat}(h:u≠t):get (del l t) u=get l u:=by
 induction l with
 |nil=>rfl
 |cons d l a=>
  obtain⟨b,v⟩:=d;simp only[del,get];by_cases e:b=t
  .subst e;have f:=auH b;have g:Nat.beq b u=false:=by rw[<-atr];intro i;exact h (asy i).symm
   simp[f,g,a]
  .have f:Nat.beq b t=false:=by rw[<-atr];intro g;exact e (asy g)
   simp only[f,atV,get,a]
end Go.Mt
namespace Go.Proofs.Sz
open Go.Mt Go.Sm Go.Proofs
open Tryz
variable{π:Path}{j:Nat}
section
variable{P:Pg}{n:Nat}{c:aI}{d:Nd}{u:US}{X:av}{H:Hp}
def av.jV(X:av)(π:Path)(j:Nat):av:={X with lv:= λa b=>if(a,b)=(π,j)then true else X.lv a b}
def cD.jV(h:cD P n c d X H)(π:Path)(j:Nat):cD P n c d (X.jV π j) H:=by
 refine⟨λr a=>h.own r (by cases r<;>exact a),h.lt,λr a=>?_,h.sub,λp b=>?_,λp b=>h.af p b⟩
 .obtain⟨e,f,g⟩:=h.ob r (by cases r<;>exact a);exact⟨e,f,by cases r<;>exact g⟩
 .have:=h.nx p b
  revert this
  generalize p.1=e;intro this;cases e<;>exact this
def Pu.jV(h:Pu P c d u X)(i:∃p∈X.N,p.1=NI.aN π j):Pu P c d u (X.jV π j):=by
 refine{f0:=h.f0,fp:=h.fp,f2:=h.f2,c6:=h.c6,ci:=h.ci,cv:=h.cv,ca:=h.ca,xm:=h.xm,xp:=h.xp,xd:=h.xd,xs:=h.xs,s1:=h.s1,s2:=h.s2,s3:=h.s3,s4:=h.s4,s5:=?_,dl:=h.dl,dz:=h.dz,cz:=h.cz,nk:=?_,fk:= λp a=>⟨(h.fk p a).ev,(h.fk p a).fs,(h.fk p a).lt,(h.fk p a).wr,(h.fk p a).sm,(h.fk p a).own,(h.fk p a).sz⟩,fl:=h.fl,fn:=h.fn,g0:=h.g0}
 .intro f b g;by_cases e:(f,b)=(π,j)
  .injection e with k l
   subst k;subst l;exact i
  .have:(X.jV π j).lv f b=X.lv f b:=asu e;rw[this]at g;exact h.s5 f b g
 .intro p a;have f:=h.nk p a
  revert f
  generalize p.1=g;intro f;cases g<;>exact f
def HW{ins outs:List Int}{u':US}(S:nG P n c d u)(hC:gW P (eV P n) c d u ins outs u')(hV:eH P n c d u c.dX)(G:cS P n c d u X H)(hT:X.T c<=1000000000000)(hP:lH c X c.dX){q:aB}{p:Nat}(hf:X.fs π=2)(I:X.fs (j::π)=2)(o:(c.fr π).aq[j]?=some q)(C:q.kd=4)(hp:(c.fr π).pos[j]?=some p)(XC:X.lv π j=false):
  DT prog 64 [.ref (X.A .it) 0,.ref (X.A (.fr π)) 0,.ref (X.A (.pl π j)) 0,.ref (X.A (.fr (j::π))) 0] H λ_ K=>∃Y,cS P n c d u Y K/\bf c (λ_=>False) (X.jV π j) H Y K/\Y.T c<=X.T c:=by
 have h:=G.lay;have D:=Pu.ok S G.pu hf;have J:j<(c.fr π).aq.length:=by
  rcases asp j (c.fr π).aq.length with h|h
  .exact h
  .rw[asr h]at o;cases o
 have P2:=S.Cq π j q D o;have RL:=(hC.wq π j q D o).2.2 C;have VR:=(hC.eq π j q p D o hp).1;have O1:=qK h;have N:(H++[Ob.box [.ref (X.A .it) 0]]++[Ob.box [.ref (X.A (.pl π j)) 0]])[H.length]?=some (Ob.box [.ref (X.A .it) 0]):=by simp
 have x:(H++[Ob.box [.ref (X.A .it) 0]]++[Ob.box [.ref (X.A (.pl π j)) 0]])[(H++[Ob.box [M.ref (X.A .it) 0]]).length]?=some (Ob.box [.ref (X.A (.pl π j)) 0]):=by simp
 have y:=(h.grow [Ob.box [.ref (X.A .it) 0]]).grow [Ob.box [.ref (X.A (.pl π j)) 0]];have QE:=(bf.grow c (λ_=>False) X H [Ob.box [.ref (X.A .it) 0]]).trans (bf.grow c (λ_=>False) X _ [Ob.box [.ref (X.A (.pl π j)) 0]]);obtain⟨g,Si⟩:∃b,b=H.length:=⟨_,rfl⟩;obtain⟨k,ac⟩:∃b,b=(H++[Ob.box [M.ref (X.A .it) 0]]).length:=⟨_,rfl⟩;refine DT.ob func64 W ntmps64 W ?_;cases VR with
 |df f=>omega
 |call f=>omega
 |sw f=>omega
 |reset f=>omega
 |aN C OW ah a0 hs h0 d9 hu ht a O Q TW Wl f8=>
  have QN:c.br π j<q.aj.length:=by
   rcases asp (c.br π j) q.aj.length with h|h
   .exact h
   .have:=O.ha;rw[asr h]at this;cases this
  have VU:=asn O.ha;have f9:=(P2.2.2.2.2.1 a VU).2.2;refine dO [2,8] W<|Oq (cF W W W)<|dR [10] W<|Oq (cF W W W)<|dL [] W<|OB [nR 4 g,nR 6 k,nR 1 (X.A (.fr π)),nR 3 (X.A (.fr (j::π)))] _ (kc (by rw[Si];rfl) (kc (by rw[ac];rfl) W)) W ?_;rw[<-Si]at N;rw[<-ac]at x;generalize hK:H++[Ob.box [M.ref (X.A .it) 0]]++[Ob.box [M.ref (X.A (.pl π j)) 0]]=K at N x y QE⊢;have Rb:X.box K g (.ref (X.A .it) 0):=⟨(O1 _ (by omega)),N⟩;have co:X.box K k (.ref (X.A (.pl π j)) 0):=⟨(O1 _ (by rw[ac];simp)),x⟩;obtain⟨p1,_,E⟩:=y.fI hf o;unfold dB at E;rw[C]at E;obtain⟨ob,W5,d7⟩:=y.ob (.tk π) (by show 1<=X.fs π;omega);obtain⟨es,rfl,VV,R⟩:=d7;have R:=R hf j I;refine dO [2,17] W<|Oq (ax W W x W)<|dR [21] W<|Oq (ax W W E W)<|dL [0] W ?_;apply Ow bX
  .intro f i;refine fR 3 W<|aw W W (y.frame hf) W<|aw W W x W<|EY W W W W W W5 VV ?_;rw[R];refine fR 1 W<|TF.nil ⟨by kernel_rfl,rfl⟩
  refine dO [2,2,30] W<|Oq (ax W W x W)<|dR [34] W<|Oq (ax W W E W)<|dR [36] W<|Oq (aP W W W (asm _) (te O.ha) W)<|dR [39] W<|Oq (bK W W W) ?_;rw[show(eT a.fo).length=a.fo.length by simp[eT]];refine dL [] W<|OB [nN 36 0,nN 35 a.fo.length,nD 34 (.sl (eT a.fo)),nR 3 (X.A (.fr (j::π))),nR 4 g,nR 6 k,(9,.loc 9 0),(10,.loc 10 0)] K W W<|dC [] W<|Ps (λf=>∃Y l m,cT P n c d u X K 0 [] Y l/\get m 9=some [dN (c.k7 π j)]/\get m 10=some [.d (.bool (c.nan π j))]/\f=⟨[nR 4 g,nR 6 k,(9,.loc 9 0),(10,.loc 10 0)],m,l⟩) ?_ ?_
  .refine dC [3] W<|DC.lp (λF f=>∃(i:Nat) (Y:av) (l:Hp) (m:List (Nat×List M)),f=⟨[nN 36 i,nN 35 a.fo.length,nD 34 (.sl (eT a.fo)),nR 3 (X.A (.fr (j::π))),nR 4 g,nR 6 k,(9,.loc 9 0),(10,.loc 10 0)],m,l⟩/\i<=a.fo.length/\F=a.fo.length-i/\pd P.aG c (j::π) c.dX (a.fo.drop i) Q/\cT P n c d u X K 0 [] Y l/\get m 9=some [dN (c.br π j)]/\get m 10=some [.d (.bool false)]) a.fo.length _
    ⟨0,X,K,_,rfl,by omega,rfl,TW,cT.same y G.pu,rfl,rfl⟩ W ?_
   rintro F s1 ⟨i,Y0,K0,m,rfl,hi,rfl,w,z,L,T⟩;have A:=z.2.1;refine dC [2] W<|DC.cond W (λU=>?_) (λU=>?_);rotate_left
   .refine DC.exit ?_;have e:i=a.fo.length:=by have:=asG U;omega
    rw[e,atQ]at w;cases w;obtain⟨XB,Wj⟩:=Wl;exact⟨_,⟨Y0,K0,m,z,by rw[XB];exact L,by rw[Wj];exact T,W⟩,cN W W⟩
   have V:i<a.fo.length:=by have:=asC U;omega
   refine dC [] W ?_;have Ox:=A5 V;have d6:=asE V;rw[atk V]at w;generalize a.fo[i]=B at w Ox d6;obtain⟨d8,gc⟩:=S.je π j q D o a VU B (.inr d6);have ge:=z.2.2.1;obtain⟨t,Qx,Z8⟩:∃t,gI P.aG c (j::π) c.dX B.e 0 t []/\((t≠0/\Q=some B)\/(t=0/\pd P.aG c (j::π) c.dX (a.fo.drop (i+1)) Q)):=by
    cases w with
    |xv f s=>exact⟨_,f,.inl ⟨s,W⟩⟩
    |no f s=>exact⟨0,f,.inr ⟨W,s⟩⟩
   obtain⟨m2,K2,⟨rfl,Y,Py⟩,Z⟩:=dD S hV (j::π) B.e d8 0 t [] Qx Y0 K0 z.1 (by simp;omega) (hP.next A) (A.f2 _ I) (by omega) (λF f s=>by omega) (λf4 v=>by cases v);rw[Xp.aA,(A.A .it trivial).2,(A.A (.fr (j::π)) (by show 1<=X.fs (j::π);omega)).2]at Z;have v:=z.trans Py;have S9:=A.box Rb;obtain⟨p3,_,QZ⟩:=v.1.lay.fI (v.2.1.f2 π hf) o;rw[(v.2.1.A (.pl π j) ⟨hf,J⟩).2]at QZ;refine dO [3,2,42] W<|Oq (aP W W W (asm i) Ox W)<|dL [] W ?_;rcases Z8 with⟨f,s⟩|⟨f,s⟩
   .have hb:(t !=0)=true:=by simpa using f
    subst s;obtain⟨XB,Wj⟩:=Wl;have Zn:=Gn q.aj B.to (by omega);rw[XB]at Zn;refine dO [2,44] W<|Oq (ax W W S9.2 W)<|dR [48] W<|Oq (au Z W W)<|dR [49] W<|Oq (aQ hb W W W W)<|dL [1] W ?_;apply Ow bX
    .intro s0 Oo;refine aw W W (v.2.1.box co).2 W<|fR 3 W<|aw W W QZ W<|fR 2 W<|aW Zn W W<|fR 3 W<|iI W W L W W W<|iI W W T W W W<|TF.nil ⟨by kernel_rfl,rfl⟩
    refine DC.exit<|⟨_,⟨Y,K2,_,v,W,by rw[Wj];rfl,rfl⟩,cN W W⟩
   .have hb:(t !=0)=false:=by rw[f];rfl
    refine dO [2,44] W<|Oq (ax W W S9.2 W)<|dR [48] W<|Oq (au Z W W)<|dR [49] W<|Oq (aQ hb W W W W)<|dR [0,2,61] W<|Oq (ay W W W (by omega))<|dL [] W<|bG (k':=a.fo.length-(i+1)) (by omega) ⟨i+1,Y,K2,_,rfl,by omega,rfl,s,v,L,T⟩ W W
  .rintro _ ⟨Y,l,m,s,T,U,rfl⟩;refine DC.freeze 9 (ds:=[iN (c.k7 π j)]) T W<|DC.freeze 10 (ds:=[.bool (c.nan π j)]) (by rw[DB _ (by decide)];exact U) W ?_;have v:=s.2.1;have t:=v.box Rb;have z:=(v.A .it trivial).2;have i:=s.1.lay.inst;rw[z]at i;have V:Y.r_ c l (.fn 95 [.d (.aZ [iN (c.k7 π j)] 0),.d (.aZ [.bool (c.nan π j)] 0),.ref g 0,.ref k 0]) (.aN π j):=⟨⟨v.f2 _ hf,J⟩,g,k,rfl,by rw[z];exact t,by rw[(v.A (.pl π j) ⟨hf,J⟩).2];exact(v.box co)⟩;have d6:NI.ok c d Y (.aN π j):=⟨v.f2 _ I,q,p,o,C,hp,(by rw[<-S.Au];exact OW)⟩;obtain⟨Z,XA⟩:=pw s.1.lay V;obtain⟨Zj,d8,f4⟩:=qJ s.1.pu (p:=(.aN π j,.fn 95 [.d (.aZ [iN (c.k7 π j)] 0),.d (.aZ [.bool (c.nan π j)] 0),.ref g 0,.ref k 0])) d6 (H:=l);have f:=QE.trans (v.trans XA);have B:∀L,Y.de l (.fn 95 [.d (.aZ [iN (c.k7 π j)] 0),.d (.aZ [.bool (c.nan π j)] 0),.ref g 0,.ref k 0])=L->∃A,cS P n c d u A L/\bf c (λ_=>False) (X.jV π j) H A L/\A.T c<=X.T c:=by
    rintro L rfl;refine⟨_,⟨Z.jV π j,Zj.jV ⟨_,asz _ (atw _),W⟩⟩,?_,?_⟩
    .exact⟨f.c0,f.f0,f.len,f.iD,λr F=>by have:=f.A r (by cases r<;>exact F);exact⟨by have w:=this.1;revert w;cases r<;>exact id,this.2⟩,f.aK,f.f2,f.f1,f.c1,f.c2,f.c3,f.c4,f.dn,f.rC,by unfold av.jV;simp only;rw[f.lv],f.S,f.fi,f.ph,f.F⟩
    .have h1:=vL (c:=c) (X:=Y) (Y:=(Y.dq l (.aN π j,.fn 95 [.d (.aZ [iN (c.k7 π j)] 0),.d (.aZ [.bool (c.nan π j)] 0),.ref g 0,.ref k 0])).jV π j) (i0:=.lv π j) (a:=1) (b:=0) (λF w=>by
      cases F with
      |lv a b=>
       simp only[av.cw,ats]at w⊢;by_cases e:(a,b)=(π,j)
       .simp only[av.jV,asB e]at w;cases w
       .simp only[av.jV,asu e]at w;exact w
      |_=>exact w) RL.1 (by simp only[av.cw];rw[v.lv,XC];rfl) (by simp[av.cw,av.jV]) (by simp[av.jV,av.dq]) (asj _)
     have w:=s.2.2.1;omega
   let A:M->Hp->Prop:= λah L=>L[g]?=some (Ob.box [.ref (X.A .it) 0])/\L[X.A .it]?=some (Ob.box [.ref (Y.A .un) 0,.ref (Y.A (.fr [])) 0,.d (.bool false),bI (Y.A .af) Y.vF Y.F.length,ah])
   by_cases w:Y.N=[]
   .have F:bI (Y.A .nx) Y.vN Y.N.length=.d (.sl []):=by simp[w,bI]
    rw[F]at i;refine dC [] W ?_;apply PL (A (.d (.sl []))) (⟨t.2,i⟩) bX
    .intro L Oo;refine OH W W (λL h=>⟨_,h.1,rfl⟩)<|OH W W (λL h=>⟨_,h.1,rfl⟩)<|iR 2 W<|OH W W (λL h=>⟨_,h.2,rfl⟩) ?_;apply OA
     .skip
      refine eW W W<|TF.nil ⟨W,W⟩
     apply OA
     .skip
      refine dW (cs:=[_]) W W W W W W<|TF.nil ⟨W,W⟩
     apply OA
     .skip
      refine o9 true W W W (lV _ _) W W (by decide) (by decide)<|TF.nil ⟨rfl,rfl⟩
     refine iR 2 W ?_;apply OA
     .skip
      refine fK W W (bu (bu i)) W W W<|TF.nil ⟨W,W⟩
     exact jr.nil ⟨by kernel_rfl,by repeat' first|exact trivial|exact .inl ((by first|exact⟨bu t.2,bu i⟩|exact⟨bu (bu t.2),bu (bu i)⟩))|exact .inr (by kernel_rfl)|refine⟨?_,?_⟩,rfl⟩
    refine⟨_,W,B _ ?_⟩;simp only[av.de,asB w,asq,asS,z];rfl
   .have L:bI (Y.A .nx) Y.vN Y.N.length=.bC (Y.A .nx) Y.vN Y.N.length:=by unfold bI;rw[asu];intro e;exact w (atb e)
    rw[L]at i;have gc:=y_ (c:=c) (X:=Y) (by have:=s.2.2.1;omega);have F:Y.A .nx≠X.A .it:=by rw[<-z];exact s.1.lay.ne (r:=.nx) (r':=.it) w trivial (by simp)
    refine dC [] W ?_;apply PL (A (.bC (Y.A .nx) Y.vN Y.N.length)) (⟨t.2,i⟩) bX
    .intro s0 Oo;refine OH W W (λL h=>⟨_,h.1,rfl⟩)<|OH W W (λL h=>⟨_,h.1,rfl⟩)<|iR 2 W<|OH W W (λL h=>⟨_,h.2,rfl⟩) ?_;apply OA
     .skip
      refine eW W W<|TF.nil ⟨W,W⟩
     apply OA
     .skip
      refine dW (cs:=[_]) W W W W W W<|TF.nil ⟨W,W⟩
     apply OA
     .skip
      refine o_ W W W (lV _ _) (bu (vO s.1.lay w)) W (by omega) (by omega)<|TF.nil ⟨rfl,rfl⟩
     refine iR 2 W ?_;apply OA
     .skip
      refine fK W W (fV (bu i) F) W W W<|TF.nil ⟨W,W⟩
     exact jr.nil ⟨by kernel_rfl,by repeat' first|exact trivial|exact .inl ((by first|exact⟨bu t.2,bu i⟩|exact⟨fV (bu t.2) (by intro e;have:=s.1.lay.own .nx w;rw[e,t.1]at this;cases this),fV (bu i) F⟩))|exact .inr (by kernel_rfl)|refine⟨?_,?_⟩,rfl⟩
    refine⟨_,W,B _ ?_⟩;simp only[av.de,asu w,z];rfl
end
end Go.Proofs.Sz
namespace Go.Proofs.Sz
open Go.Mt Go.Sm Go.Proofs
variable{a:Nat}{σ:Path×Nat}
section
variable{P:Pg}{n:Nat}{c:aI}{d:Nd}{u:US}{X:av}{H:Hp}
def cD.free(h:cD P n c d X H){o:Ob}(ob:Ob)(j:X.own a=none)(f:H[a]?=some o)(Q:∀m,o≠.box [m]):cD P n c d X (H.set a ob):=by
 have g:∀b m,X.box H b m->X.box (H.set a ob) b m:=by
  rintro b m ⟨t,i⟩;refine⟨t,?_⟩;rw[asv (by rintro rfl;rw[f]at i;injection i with i;exact Q m i)];exact i
 refine⟨h.own,λb r k=>by simpa using h.lt b r k,λr q=>?_,λs w x y=>?_,λp l=>?_,λp l=>?_⟩
 .obtain⟨i,t,u⟩:=h.ob r q;exact⟨i,by rw[asv (by rintro rfl;rw[h.own r q]at j;cases j)];exact t,u⟩
 .exact(h.sub s w x y).frame (λb k=>asv (by rintro rfl;rw[k]at j;cases j)) (by simp)
 .have:=h.nx p l
  revert this
  generalize p.1=u;intro this;cases u with
  |cell C B=>obtain⟨f,b,z,i,t,A⟩:=this;exact⟨f,b,z,i,g _ _ t,g _ _ A⟩
  |aN B C=>obtain⟨f,b,z,i,t,A⟩:=this;exact⟨f,b,z,i,g _ _ t,g _ _ A⟩
  |arrow z=>obtain⟨b,i,t⟩:=this;exact⟨b,i,g _ _ t⟩
  |put z v=>obtain⟨b,i,t⟩:=this;exact⟨b,i,g _ _ t⟩
 .obtain⟨A,B,C,D,e,i,E,t,u,z,F,G,I⟩:=h.af p l;obtain⟨J,K,L,M,N,O⟩:=G;exact⟨A,B,C,D,e,i,E,t,g _ _ u,g _ _ z,g _ _ F,⟨J,K,L,M,g _ _ N,g _ _ O⟩,I⟩
def bf.free{E:Path×Nat->Prop}{d:av}{H0:Hp}(h:bf c E d H0 X H)(e:H0.length<=a)(ob:Ob):bf c E d H0 X (H.set a ob):=
 {h with len:=by simpa using h.len,iD:= λb d e=>⟨(h.iD b d e).1,(asv (by omega)).trans (h.iD b d e).2⟩}
def cD.Cr(h:cD P n c d X H)(hf:X.fs σ.1≠2)(s:Nat)(i:X.cs σ.1 σ.2≠3)(l:s≠3):cD P n c d (X.cO σ s) H:=by
 refine⟨λr b=>h.own r (by cases r<;>exact b),h.lt,λr b=>?_,h.sub,λp f=>?_,λp f=>h.af p f⟩
 .obtain⟨m,o,g⟩:=h.ob r (by cases r<;>exact b);refine⟨m,o,?_⟩;cases r with
  |ce j k=>
   obtain⟨q,t,u,z,v,w,x,y,A⟩:=g;have a:(j,k)≠σ:=by rintro rfl;exact hf b.1
   exact⟨q,t,u,z,v,w,by rw[bE X a];exact x,by rw[bE X a];exact y,A⟩
  |am a=>
   obtain⟨v,k,q,t,u⟩:=g;refine⟨v,k,q,λw j x=>?_,u⟩;rw[show(X.cO σ s).A=X.A from rfl,t w j x];unfold av.nW;by_cases e:(j::a,0)=σ
   .subst e;rw[cp X (j::a,0) s];simp only at i;rw[asu (λb:X.dn a j=true/\X.cs (j::a) 0=3=>i b.2),asu (λb:(X.cO (j::a,0) s).dn a j=true/\s=3=>l b.2)];rfl
   .rw[bE X e];rfl
  |_=>exact g
 .have:=h.nx p f
  revert this
  generalize p.1=a;intro this;cases a<;>exact this
def bf.Cr{s:Nat}(d:X.cs σ.1 σ.2=2->s=2)(f:X.cs σ.1 σ.2=3->s=3)(g:s≠0):bf c (·=σ) X H (X.cO σ s) H:=by
 refine{c0:=?_,f0:= λ_ h=>h,len:=asj _,iD:= λ_ _ i=>⟨i,rfl⟩,A:= λr j=>⟨by cases r<;>exact j,W⟩,aK:= λ_ _=>⟨rfl,rfl⟩,f2:= λ_ h=>h,f1:= λ_=>atn,c1:=?_,c2:=?_,c3:=?_,c4:=?_,dn:= λ_ _ h=>h,rC:= λ_ _ _ _=>rfl,lv:=rfl,S:= λ_ _ h=>h,fi:=rfl,ph:=rfl,F:=⟨[],by simp[av.cO]⟩}
 .intro a k e;by_cases b:(a,k)=σ
  .subst b;rw[cp X (a,k) s]at e;exact absurd e g
  .rw[bE X b]at e;exact e
 .intro a k e;rw[bE X e]
 .intro a k e;by_cases b:(a,k)=σ
  .subst b;rw[cp X (a,k) s];exact d e
  .rw[bE X b];exact e
 .intro a k e;by_cases b:(a,k)=σ
  .subst b;rw[cp X (a,k) s];exact f e
  .rw[bE X b];exact e
 .intro a k t e _;rw[bE X e]
theorem DD{ins outs:List Int}{u':US}(o:gW P (eV P n) c d u ins outs u')(h:cS P n c d u X H){π:Path}{j:Nat}{q:aB}(i:(c.fr π).aq[j]?=some q)(p:q.kd=2)(r:X.dn π j=false)(g:X.cs (j::π) 0=0)(s:It.call π j∈c.ap):
  X.fs (j::π)≠2/\cS P n c d u (X.cO (j::π,0) 1) H/\bf c (·=(j::π,0)) X H (X.cO (j::π,0) 1) H/\(X.cO (j::π,0) 1).T c+c.wt (.call π j)<=X.T c:=by
 have k:X.fs (j::π)≠2:= λe=>by
  obtain⟨_,l,f,m⟩:=o.iK j π (h.pu.fp j π (by omega)).2;rw[i]at f;injection f with f;subst f;omega
 refine⟨k,⟨h.lay.Cr (σ:=(j::π,0)) k 1 (by grind) (by decide),h.pu.cO (σ:=(j::π,0)) (by omega) (λe=>by cases e) (λe=>by cases e) (λe=>by cases e) (λe=>by simp only[g]at e;cases e) (λe=>by grind) (λe=>by cases e) (λe=>by omega) (λ_ _ _ _ _ _=>rfl) (.inr ⟨rfl,j,π,q,rfl,i,p⟩)⟩,bf.Cr (σ:=(j::π,0)) (λe=>by simp only[g]at e;cases e) (λe=>by simp only[g]at e;cases e) (by decide),?_⟩
 .refine vL (a:=0) (b:=0) (λm f=>?_) s (by simp[av.cw,g,r]) (by have:=cp X (j::π,0) 1;simp only at this;simp[av.cw,this]) (asj _) (asj _);cases m with
  |cell t l=>
   simp only[av.cw,aub]at f⊢;by_cases e:(t,l)=(j::π,0)
   .grind
   .rw[bE X e]at f;exact f
  |call t v=>
   simp only[av.cw,asH,aub]at f⊢;refine⟨f.1,?_⟩;have l:=f.2;by_cases e:(v::t,0)=(j::π,0)
   .grind
   .rw[bE X e]at l;exact l
  |_=>exact f
end
end Go.Proofs.Sz
