/- A part of the proof of the last text of this claim, without conditions. -/
import Derived.Test.YtjbigbaipmiihaaGreatC
import Derived.Test.YtjbigbaipmiihaaGreatProg
import Derived.KernelRfl
set_option maxRecDepth 4000
set_option linter.all false
namespace Go.Mt
variable{x y:Operand}{i off n T t o s f e nb len xt yt:Nat}{v u:V}{cs new Pb:List M}{mm:M}{H:Hp}{ob:Ob}{k1 k2:IntKind}{z:D}
namespace ep
def xc(L:Nat):Rh->Rh
 |.no=>.no
 |.ix l=>.ix (l.map (L+ ·))
 |.all=>.all
def sh(L:Nat)(e:Ef):Ef:=⟨e.d,e.v,e.rb,e.wb,e.nw,xc L e.rh,e.wh.map λp=>(L+p.1,p.2),e.tl⟩
def Gk(L a:Nat)(l:List Nat):has (l.map (L+ ·)) (L+a)=has l a:=by
 rw[auD,fU,fU];simp
def Dc(L a b:Nat):Nat.blt (L+a) (L+b)=Nat.blt a b:=by
 rw[auD];simp only[Nat.blt_eq];omega
def AL(L:Nat)(e f:Ef):iY (sh L e) (sh L f)=iY e f:=by
 unfold iY sh;cases f.rh with
 |no=>rfl
 |ix l=>
  simp only[xc,List.any_map]
  congr 1
  funext p
  exact Gk L p.1 l
 |all=>
  simp only[xc,List.any_map]
  congr 2
def Ht(L:Nat)(ops:Array Oper)(x y:Oper)(e f:Ef):dH ops x y (sh L e) (sh L f)=dH ops x y e f:=by
 unfold dH;rw[AL,AL];rfl
def yK(L:Nat)(ops:Array Oper)(x:Oper)(e:Ef)(i:Nat):∀(a:List Oper) (c:List Ef) (d:List (List Nat)),iH ops x (sh L e) i a (c.map (sh L)) d=iH ops x e i a c d
 |[],_,_=>rfl
 |_::_,[],_=>rfl
 |_::_,_::_,[]=>rfl
 |y::a,f::c,b::d=>by
  simp only[asT,iH,Ht,yK L ops x e i a c d];rfl
def AM(L:Nat)(ops:Array Oper):∀(i:Nat) (xs:List Oper) (es:List Ef) (a:List (List Nat)),jB ops i xs (es.map (sh L)) a=jB ops i xs es a
 |_,[],_,_=>rfl
 |_,_::_,[],_=>rfl
 |_,_::_,_::_,[]=>rfl
 |i,x::xs,e::es,b::a=>by
  simp only[asT,jB,yK,AM L ops (i+1) xs es a]
def AN(L:Nat)(sl:List (Nat×V)):∀es:List Ef,jC sl (es.map (sh L))=jC sl es
 |[]=>rfl
 |e::es=>by
  simp only[asT,jC,AN L sl es];rfl
def KP(L m:Nat)(e:Ef):Am (L+m) (sh L e)=Am m e:=by
 unfold Am sh;cases e.rh with
 |no=>
  simp only[xc];cases e.wh<;>rfl
 |ix l=>
  simp only[xc,avb]
  congr 2
  .congr 1
   funext p
   exact Gk L p.1 l
  .congr 1
   funext i
   exact Dc L i m
 |all=>
  simp only[xc,avb]
  congr 1
  funext p
  exact Dc L p.1 m
def Dd(L m:Nat)(ops:List Oper)(sl:List (Nat×V))(es:List Ef):gO (L+m) ops sl (es.map (sh L))=gO m ops sl es:=by
 unfold gO;rw[AM,AN,avb]
 congr 2
 funext e
 exact KP L m e
end ep
def TG(L m:Nat)(X:bW)(ops:Array Oper)(l:List Oper)(st:St)(post:List ep.Ef->St->Prop):Prop:=
 ∃a b,ep.pK (L+m) X ops l st (a.map (ep.sh L)) b/\post a b
section
variable{L m:Nat}{X:bW}{ops:Array Oper}
def TG.nil{st:St}{post:List ep.Ef->St->Prop}(h:post [] st):TG L m X ops [] st post:=⟨[],st,.nil st,h⟩
def TG.cons{o:Oper}{rest:List Oper}{st b:St}{e:ep.Ef}{post:List ep.Ef->St->Prop}(h:ep.lB (L+m) X ops o (ep.sh L e) st)(c:e.d=o.dst)(d:(ep.sh L e).app (L+m) st=b)
  (k:TG L m X ops rest b λa s=>post (e::a) s):TG L m X ops (o::rest) st post:=by
 obtain⟨a,s,f,g⟩:=k;exact⟨e::a,s,.cons h c (d▸f),g⟩
variable{rest:List Oper}{sl:List (Nat×V)}{bx:List (Nat×List M)}{H:Hp}{post:List ep.Ef->St->Prop}{d ty:Nat}{pos:String}{af:Array Edge}
def getD_some(h:H.getD i .dead=ob)(b:ob≠.dead):H[i]?=some ob:=by
 rw[atK]at h;cases a:H[i]? with
 |none=>rw[a]at h;exact absurd h.symm b
 |some v=>rw[a]at h;simp at h;rw[h]
def yL(h:H[i]?=some ob):H.getD i .dead=ob:=by
 rw[atK,h];rfl
def TG.quiet{o:Oper}{rh:ep.Rh}(i:L+m<=H.length)(f:o.guard=none)(c:o.dst=some d)(g:Nat.blt d X.n=true)
  (h:∀a,ep.Ag (L+m) ops o ⟨some d,v,[],[],none,ep.xc L rh,[],none⟩ ⟨sl,bx,H⟩ a->cL X o a (du v a))
  (k:TG L m X ops rest ⟨(d,v)::sl,bx,H⟩ λa b=>post (⟨some d,v,[],[],none,rh,[],none⟩::a) b):TG L m X ops (o::rest) ⟨sl,bx,H⟩ post:=by
 refine TG.cons (e:=⟨some d,v,[],[],none,rh,[],none⟩) (λa b=>?_) c.symm (Da (st:=⟨sl,bx,H⟩) i) k;rw[show ep.sh L ⟨some d,v,[],[],none,rh,[],none⟩=⟨some d,v,[],[],none,ep.xc L rh,[],none⟩from rfl]at b⊢;rw[Da b.len];exact(h a b).Hg f c (bN g)
def KQ(c:L+m<=H.length)(a:Nat.blt d X.n=true)(b:bh sl x=some v)(k:TG L m X ops rest ⟨(d,v)::sl,bx,H⟩ λa b=>post (⟨some d,v,[],[],none,.no,[],none⟩::a) b):
  TG L m X ops (⟨some d,.move x,ty,pos,af,none⟩::rest) ⟨sl,bx,H⟩ post:=
 TG.quiet c W W a (λa a=>CW ((S2 a (x:=x) (by simp[Op.operands,Call.operands])).trans b)) k
def De(e:L+m<=H.length)(a:Nat.blt d X.n=true)(b:bh sl x=some v)(c:uy v=true)(k:TG L m X ops rest ⟨(d,v)::sl,bx,H⟩ λa b=>post (⟨some d,v,[],[],none,.no,[],none⟩::a) b):
  TG L m X ops (⟨some d,.nilCheck x,ty,pos,af,none⟩::rest) ⟨sl,bx,H⟩ post:=
 TG.quiet e W W a (λa a=>vh ((S2 a (x:=x) (by simp[Op.operands,Call.operands])).trans b) c) k
def Hu[hf:jz X.P s f o](c:L+m<=H.length)(a:Nat.blt d X.n=true)(b:bh sl x=some (.m (.ref i off)))(k:TG L m X ops rest ⟨(d,(.m (.ref i (off+o))))::sl,bx,H⟩ λa b=>post (⟨some d,(.m (.ref i (off+o))),[],[],none,.no,[],none⟩::a) b):
  TG L m X ops (⟨some d,.fieldAddr s x f,ty,pos,af,none⟩::rest) ⟨sl,bx,H⟩ post:=
 TG.quiet c W W a (λa a=>xZ ((S2 a (x:=x) (by simp[Op.operands,Call.operands])).trans b)) k
def Hv[ht:cA X.P T](f:L+m<=H.length)(a:Nat.blt d X.n=true)(b:bh sl x=some (.m (.ref (L+i) off)))(c:H[L+i]?=some (.box cs))(e:cs[off]?=some mm)(k:TG L m X ops rest ⟨(d,(.m mm))::sl,bx,H⟩ λa b=>post (⟨some d,(.m mm),[],[],none,.ix [i],[],none⟩::a) b):
  TG L m X ops (⟨some d,.load T x,ty,pos,af,none⟩::rest) ⟨sl,bx,H⟩ post:=
 TG.quiet (rh:=.ix [i]) f W W a (λa a=>lQ ((S2 a (x:=x) (by simp[Op.operands,Call.operands])).trans b) (getD_some ((a.ix [L+i] W (L+i) (by simp)).trans (yL c)) (by simp)) (by simp[gS,ht.cell,e])) k
def B2[ht:aU X.P T e][a:bY X.P e n][h:jR X.P e nb][j:gN X.P e z](q:L+m<=H.length)(hi:i<m)(b:Nat.blt d X.n=true)(c:Nat.blt 0 n=true)(f:(bg z).length=n)
  (j:bh sl x=some (.m (.d (.int k1 len)))) (l:bh sl y=some (.m (.d (.int k2 len)))) (o:len*nb<=140737488355328) (p:len<=140737488355328) (h:H[L+i]?=some .free)
  (k:TG L m X ops rest ⟨(d,.m (.bC (L+i) 0 len))::sl,bx,H.set (L+i) (.row false n 0 (ey n len (bg z)))⟩ λa b=>post (⟨some d,.m (.bC (L+i) 0 len),[],[],none,.ix [i],[(i,.row false n 0 (ey n len (bg z)))],none⟩::a) b):
  TG L m X ops (⟨some d,.makeSlice T x y,ty,pos,af,none⟩::rest) ⟨sl,bx,H⟩ post:=by
 refine TG.cons (e:=⟨some d,.m (.bC (L+i) 0 len),[],[],none,.ix [i],[(i,.row false n 0 (ey n len (bg z)))],none⟩) (λr a=>?_) W ?_ k
 .have q:=getD_some ((a.ix [L+i] W (L+i) (by simp)).trans (yL h)) (by simp);have h:=yx (X:=X) (dst:=some d) (ty:=ty) (pos:=pos) (af:=af) (g:=none) (T:=T) c f ((S2 a (x:=x) (by simp[Op.operands,Call.operands])).trans j) ((S2 a (x:=y) (by simp[Op.operands,Call.operands])).trans l) o p (.inr ⟨q,rfl⟩);have c:=h.Hg (ops:=ops) W W (bN b);simp only[ep.sh,ep.Ef.app,asT,atu,rm a.len (auf hi L),asW];exact c
 .simp only[ep.sh,ep.Ef.app,asT,atu,rm q (auf hi L),asW]
def Hw[a:bY X.P T n](h:L+m<=H.length)(hi:i<m)(c:bh sl x=some (.m (.ref (L+i) off)))(d:bh sl y=some (.m mm))(f:H[L+i]?=some (.box cs))(b:iB mm=some new)(j:Nat.beq new.length n=true)(l:wr cs off new=some Pb)
  (k:TG L m X ops rest ⟨sl,bx,H.set (L+i) (Ob.box Pb)⟩ λa b=>post (⟨none,.m .undef,[],[],none,.ix [i],[(i,.box Pb)],none⟩::a) b):TG L m X ops (⟨none,.store T x y,ty,pos,af,none⟩::rest) ⟨sl,bx,H⟩ post:=by
 refine TG.cons (e:=⟨none,.m .undef,[],[],none,.ix [i],[(i,.box Pb)],none⟩) (λo a=>?_) W ?_ k
 .have o:=getD_some ((a.ix [L+i] W (L+i) (by simp)).trans (yL f)) (by simp);have h:=uE (X:=X) (dst:=none) (ty:=ty) (pos:=pos) (af:=af) (g:=none) (T:=T) ((S2 a (x:=x) (by simp[Op.operands,Call.operands])).trans c) ((S2 a (x:=y) (by simp[Op.operands,Call.operands])).trans d) o (by rw[(cW b).1];exact asy j) (cW b).2 (by rw[(cW b).1];exact sJ l);have b:=h.IR (ops:=ops) W W;simp only[ep.sh,ep.Ef.app,asT,atu,rm a.len (auf hi L),asW];exact b
 .simp only[ep.sh,ep.Ef.app,asT,atu,rm h (auf hi L),asW]
end
section
variable{m:Nat}{X:bW}{ops:Array Oper}{rest:List Oper}{sl:List (Nat×V)}{bx:List (Nat×List M)}{H T:Hp}{post:List ep.Ef->St->Prop}{d ty:Nat}{pos:String}{af:Array Edge}
def tT(a:Nat.ble m T.length=true):H.length+m<=(H++T).length:=by
 have:=atc a;simp;omega
def nB(h:T[i]?=some ob):(H++T)[H.length+i]?=some ob:=by
 rw[ass (by omega),atq];exact h
def Df(i:Nat)(ob:Ob):(H++T).set (H.length+i) ob=H++T.set i ob:=by
 rw[att _ _ (by omega),atq]
def qA(a:Nat.ble m T.length=true)(b:Nat.blt d X.n=true)(c:bh sl x=some v)(k:TG H.length m X ops rest ⟨(d,v)::sl,bx,H++T⟩ λa b=>post (⟨some d,v,[],[],none,.no,[],none⟩::a) b):
  TG H.length m X ops (⟨some d,.move x,ty,pos,af,none⟩::rest) ⟨sl,bx,H++T⟩ post:=KQ (tT a) b c k
def kH(a:Nat.ble m T.length=true)(b:Nat.blt d X.n=true)(c:bh sl x=some v)(e:uy v=true)(k:TG H.length m X ops rest ⟨(d,v)::sl,bx,H++T⟩ λa b=>post (⟨some d,v,[],[],none,.no,[],none⟩::a) b):
  TG H.length m X ops (⟨some d,.nilCheck x,ty,pos,af,none⟩::rest) ⟨sl,bx,H++T⟩ post:=De (tT a) b c e k
def mL[hf:jz X.P s f o](a:Nat.ble m T.length=true)(b:Nat.blt d X.n=true)(c:bh sl x=some (.m (.ref i off)))(k:TG H.length m X ops rest ⟨(d,(.m (.ref i (off+o))))::sl,bx,H++T⟩ λa b=>post (⟨some d,(.m (.ref i (off+o))),[],[],none,.no,[],none⟩::a) b):
  TG H.length m X ops (⟨some d,.fieldAddr s x f,ty,pos,af,none⟩::rest) ⟨sl,bx,H++T⟩ post:=Hu (tT a) b c k
def uI[ht:cA X.P t](a:Nat.ble m T.length=true)(b:Nat.blt d X.n=true)(c:bh sl x=some (.m (.ref (H.length+i) off)))(e:T[i]?=some (.box cs))(f:cs[off]?=some mm)(k:TG H.length m X ops rest ⟨(d,(.m mm))::sl,bx,H++T⟩ λa b=>post (⟨some d,(.m mm),[],[],none,.ix [i],[],none⟩::a) b):
  TG H.length m X ops (⟨some d,.load t x,ty,pos,af,none⟩::rest) ⟨sl,bx,H++T⟩ post:=Hv (tT a) b c (nB e) f k
def p_(i:Nat)[ht:aU X.P t e][g:bY X.P e n][h:jR X.P e nb][j:gN X.P e z](a:Nat.ble m T.length=true)(hi:i<m)(b:Nat.blt d X.n=true)(c:Nat.blt 0 n=true)(f:(bg z).length=n)
  (g:bh sl x=some (.m (.d (.int k1 len)))) (h:bh sl y=some (.m (.d (.int k2 len)))) (j:len*nb<=140737488355328) (l:len<=140737488355328) (o:T[i]?=some .free)
  (k:TG H.length m X ops rest ⟨(d,.m (.bC (H.length+i) 0 len))::sl,bx,H++T.set i (.row false n 0 (ey n len (bg z)))⟩ λa b=>post (⟨some d,.m (.bC (H.length+i) 0 len),[],[],none,.ix [i],[(i,.row false n 0 (ey n len (bg z)))],none⟩::a) b):
  TG H.length m X ops (⟨some d,.makeSlice t x y,ty,pos,af,none⟩::rest) ⟨sl,bx,H++T⟩ post:=
 B2 (tT a) hi b c f g h j l (nB o) (by rw[Df];exact k)
def uJ(i:Nat)[h:bY X.P t n](a:Nat.ble m T.length=true)(hi:i<m)(b:bh sl x=some (.m (.ref (H.length+i) off)))(c:bh sl y=some (.m mm))(d:T[i]?=some (.box cs))(e:iB mm=some new)(f:Nat.beq new.length n=true)(g:wr cs off new=some Pb)
  (k:TG H.length m X ops rest ⟨sl,bx,H++T.set i (Ob.box Pb)⟩ λa b=>post (⟨none,.m .undef,[],[],none,.ix [i],[(i,.box Pb)],none⟩::a) b):TG H.length m X ops (⟨none,.store t x y,ty,pos,af,none⟩::rest) ⟨sl,bx,H++T⟩ post:=
 Hw (tT a) hi b c (nB d) e f g (by rw[Df];exact k)
end
def DC.ME{P:Program}{B:Nat}{post:Exit->St->Prop}{e:Nat}{ops:List Oper}{sl:List (Nat×V)}{bx:List (Nat×List M)}{s:St}(L m k:Nat)(f:P.follows .mixedOrders=true)(l:L+m<=H.length+k)
  (g:∀a b,TG L m ⟨P,n,a,b,[]⟩ ops.toArray ops ⟨sl,bx,H++List.replicate k .free⟩ λc d=>ep.gO m ops sl c=true/\d=s) (h:post .normal s):DC P n B (.region e ops.toArray true) ⟨sl,bx,H⟩ post:=by
 refine⟨.normal,s,h,λa b _=>?_⟩;obtain⟨c,d,i,j,rfl⟩:=g a b;refine TC.pad k ?_;exact ep.draw (N:=L+m) f (by simpa using l) i (by rw[ep.Dd];exact j) ⟨W,W⟩
section
variable{X:bW}{ops:Array Oper}{rest:List Oper}{post:St->Prop}{sl:List (Nat×V)}{bx:List (Nat×List M)}{H:Hp}{d ty:Nat}{pos:String}{af:Array Edge}
def mn{z:Bool}(a:lE X.P xt=1)(b:Nat.blt d X.n=true)(c:bh sl x=some v)(e:bh sl y=some u)(f:gU 1 v=some z)(g:gU 1 u=some true)
  (k:TL X ops rest ⟨(d,.m (.d (.bool z)))::sl,bx,H⟩ post):TL X ops (⟨some d,.binOp .eql xt x y yt,ty,pos,af,none⟩::rest) ⟨sl,bx,H⟩ post:=
 Pf W W b (xG (.inl W) a (.inl W) c e f g) k
def kI{z:Bool}(a:lE X.P xt=1)(b:Nat.blt d X.n=true)(c:bh sl x=some v)(e:bh sl y=some u)(f:gU 1 v=some z)(g:gU 1 u=some true)
  (k:TL X ops rest ⟨(d,.m (.d (.bool (!z))))::sl,bx,H⟩ post):TL X ops (⟨some d,.binOp .neq xt x y yt,ty,pos,af,none⟩::rest) ⟨sl,bx,H⟩ post:=
 Pf W W b (xG (.inr W) a (.inl W) c e f g) k
end
end Go.Mt
namespace Go.Mt
variable{x y:Operand}{T e j n nb k2 i len kt o aK f xt yt:Nat}{z:D}{Pb cs ms:List M}{my:M}{es:List (D×M)}{acc:Bool}
section
variable{X:bW}{ops:Array Oper}{rest:List Oper}{sl:List (Nat×V)}{bx:List (Nat×List M)}{H:Hp}{post:St->Prop}{OZ:List Ef->St->Prop}{d ty:Nat}{pos:String}{af:Array Edge}
def yM(acc:Bool)[ht:aU X.P T e][b:bY X.P e n][c:jR X.P e nb][f:gN X.P e z](a:Nat.blt d X.n=true)
  (b:bh sl x=some (.m (.d (.sl [])))) (c:bh sl y=some (.m my)) (f:o5 H n my=some (Pb,k2)) (g:Nat.blt 0 n=true) (h:(bg z).length=n) (i:0<k2) (j:k2*nb<=140737488355328)
  (k:TL X ops rest ⟨(d,.m (.bC H.length 0 k2))::sl,bx,H++[.row acc n 0 Pb]⟩ post):TL X ops (⟨some d,.call ⟨.builtin .append,#[x,y],#[T,T]⟩,ty,pos,af,none⟩::rest) ⟨sl,bx,H⟩ post:=
 Pf W W a (rj acc g h b c f i j (.inl ⟨rfl,rfl⟩)) k
def yN[ht:aU X.P T e][b:bY X.P e n][c:jR X.P e nb][f:gN X.P e z](a:Nat.blt d X.n=true)
  (b:bh sl x=some (.m (.bC j aK len))) (c:bh sl y=some (.m my)) (f:o5 H n my=some (Pb,k2)) (g:H[j]?=some (.row acc n aK cs)) (h:(bg z).length=n) (i:(len+k2)*nb<=140737488355328) (l:len+k2<=140737488355328)
  (k:TL X ops rest ⟨(d,.m (.bC j (aK+1) (len+k2)))::sl,bx,H.set j (.row acc n (aK+1) (cs++Pb))⟩ post):TL X ops (⟨some d,.call ⟨.builtin .append,#[x,y],#[T,T]⟩,ty,pos,af,none⟩::rest) ⟨sl,bx,H⟩ post:=
 Pf W W a (rl h b c f g i l) k
def o8[l:gN X.P e z](a:Nat.blt d X.n=true)(ht:X.P.underlying T=some (.map kt e))(b:ki X.P kt=true)(c:bh sl x=some (.m (.mp i)))(f:bh sl y=some (.m (.ref j o)))(g:H[i]?=some (.map es))(h:gQ es=true)
  (k:TL X ops rest ⟨(d,.m (match gT j o es with|some m=>m|none=>.d z))::sl,bx,H⟩ post):TL X ops (⟨some d,.lookup T x y false,ty,pos,af,none⟩::rest) ⟨sl,bx,H⟩ post:=
 Pf W W a (xb (ok:=false) ht b c f g h) k
def EY[l:gN X.P e z](a:Nat.blt d X.n=true)(ht:X.P.underlying T=some (.map kt e))(b:ki X.P kt=true)(c:bh sl x=some (.m (.mp i)))(f:bh sl y=some (.m (.ref j o)))(g:H[i]?=some (.map es))(h:gQ es=true)
  (k:TF X ops rest ⟨(d,.m (match gT j o es with|some m=>m|none=>.d z))::sl,bx,H⟩ λa b=>OZ (⟨some d,.m (match gT j o es with|some m=>m|none=>.d z),[],[],none,true,none⟩::a) b):
  TF X ops (⟨some d,.lookup T x y false,ty,pos,af,none⟩::rest) ⟨sl,bx,H⟩ OZ:=
 TF.cons (e:=⟨some d,.m (match gT j o es with|some m=>m|none=>.d z),[],[],none,true,none⟩) (OU W W (bN a) λa a=>xb (ok:=false) ht b ((a.ev (x:=x) (by simp[Op.operands,Call.operands])).trans c) ((a.ev (x:=y) (by simp[Op.operands,Call.operands])).trans f) (by rw[a.H W];exact g) h) W k
def qa{z:Operand}{m:M}(ht:X.P.underlying T=some (.map kt e))(a:ki X.P kt=true)(b:bh sl x=some (.m (.mp i)))(c:bh sl y=some (.m (.ref j o)))(d:bh sl z=some (.m m))(f:H[i]?=some (.map es))(g:gQ es=true)
  (k:TL X ops rest ⟨sl,bx,H.set i (.map (jh j o m es))⟩ post):TL X ops (⟨none,.mapUpdate T x y z,ty,pos,af,none⟩::rest) ⟨sl,bx,H⟩ post:=
 TL.FZ W W (yF ht a b c d f g) k
def lR{a:List M}{args:List Operand}{RE:Array Nat}{r:M}{K:Hp}[hf:bw X.P f](h:CT X.P f (ms++a) H λa b=>a=r/\b=K)(b:Nat.blt d X.n=true)(c:bh sl x=some (.m (.fn f a)))(a:ga sl args=some ms)
  (k:TL X ops rest ⟨(d,.m r)::sl,bx,K⟩ post):TL X ops (⟨some d,.call ⟨.value x,args.toArray,RE⟩,ty,pos,af,none⟩::rest) ⟨sl,bx,H⟩ post:=
 Hq h b c a k
def dW{parts:List (Nat×Operand)}{ms:List (Nat×M)}[ht:aU X.P T e][b:bY X.P e n][g:gN X.P e z](a:Nat.blt d X.n=true)(c:Nat.blt 0 n=true)(f:(bg z).length=n)
  (h:Nat.ble (len*n) 16777216=true) (g:ij sl parts=some ms) (hf:gu (λi=>some (i*n,n)) (ey n len (bg z)) ms=some cs)
  (k:TF X ops rest ⟨(d,.m (.bC H.length 0 len))::sl,bx,H++[Ob.row false n 0 cs]⟩ λa b=>OZ (⟨some d,.m (.bC H.length 0 len),[],[],none,true,some (H++[Ob.row false n 0 cs])⟩::a) b):TF X ops (⟨some d,.buildSlice T len parts.toArray,ty,pos,af,none⟩::rest) ⟨sl,bx,H⟩ OZ:=by
 refine TF.cons (e:=⟨some d,.m (.bC H.length 0 len),[],[],none,true,some (H++[Ob.row false n 0 cs])⟩) (Qf W W (bN a) λa b=>?_) W k;have a:=b.H W;simp only at a;exact nU c f h (by rw[b.ej (λp a=>by simp[Op.operands];exact⟨_,a⟩),iL];exact g) hf (.inl ⟨by rw[a],by rw[a]⟩)
def o9(acc:Bool)[ht:aU X.P T e][b:bY X.P e n][c:jR X.P e nb][f:gN X.P e z](a:Nat.blt d X.n=true)
  (c:bh sl x=some (.m (.d (.sl [])))) (f:bh sl y=some (.m my)) (g:o5 H n my=some (Pb,k2)) (h:Nat.blt 0 n=true) (i:(bg z).length=n) (j:0<k2) (l:k2*nb<=140737488355328)
  (k:TF X ops rest ⟨(d,.m (.bC H.length 0 k2))::sl,bx,H++[Ob.row acc n 0 Pb]⟩ λa b=>OZ (⟨some d,.m (.bC H.length 0 k2),[],[],none,true,some (H++[Ob.row acc n 0 Pb])⟩::a) b):TF X ops (⟨some d,.call ⟨.builtin .append,#[x,y],#[T,T]⟩,ty,pos,af,none⟩::rest) ⟨sl,bx,H⟩ OZ:=by
 refine TF.cons (e:=⟨some d,.m (.bC H.length 0 k2),[],[],none,true,some (H++[Ob.row acc n 0 Pb])⟩) (Qf W W (bN a) λa b=>?_) W k;have a:=b.H W;simp only at a;exact rj acc h i ((b.ev (x:=x) (by simp[Op.operands,Call.operands])).trans c) ((b.ev (x:=y) (by simp[Op.operands,Call.operands])).trans f) (by rw[a];exact g) j l (.inl ⟨by rw[a],by rw[a]⟩)
def o_[ht:aU X.P T e][b:bY X.P e n][c:jR X.P e nb][f:gN X.P e z](a:Nat.blt d X.n=true)
  (c:bh sl x=some (.m (.bC j aK len))) (f:bh sl y=some (.m my)) (h:o5 H n my=some (Pb,k2)) (i:H[j]?=some (.row acc n aK cs)) (l:(bg z).length=n) (m:(len+k2)*nb<=140737488355328) (o:len+k2<=140737488355328)
  (k:TF X ops rest ⟨(d,.m (.bC j (aK+1) (len+k2)))::sl,bx,H.set j (Ob.row acc n (aK+1) (cs++Pb))⟩ λa b=>OZ (⟨some d,.m (.bC j (aK+1) (len+k2)),[],[],none,true,some (H.set j (Ob.row acc n (aK+1) (cs++Pb)))⟩::a) b):TF X ops (⟨some d,.call ⟨.builtin .append,#[x,y],#[T,T]⟩,ty,pos,af,none⟩::rest) ⟨sl,bx,H⟩ OZ:=by
 refine TF.cons (e:=⟨some d,.m (.bC j (aK+1) (len+k2)),[],[],none,true,some (H.set j (Ob.row acc n (aK+1) (cs++Pb)))⟩) (Qf W W (bN a) λp b=>?_) W k;have a:=b.H W;simp only at a;have:=rl (X:=X) (st:=p) (dst:=some d) (ty:=ty) (pos:=pos) (af:=af) (g:=none) (T:=T) l ((b.ev (x:=x) (by simp[Op.operands,Call.operands])).trans c) ((b.ev (x:=y) (by simp[Op.operands,Call.operands])).trans f) (by rw[a];exact h) (by rw[a];exact i) m o;rw[a]at this;exact this
def eW{a:List Operand}(b:Nat.blt d X.n=true)(c:ga sl a=some ms)(k:TF X ops rest ⟨(d,.m (.fn f ms))::sl,bx,H⟩ λa b=>OZ (⟨some d,.m (.fn f ms),[],[],none,false,none⟩::a) b):
  TF X ops (⟨some d,.makeFunc (.func f) #[] a.toArray,ty,pos,af,none⟩::rest) ⟨sl,bx,H⟩ OZ:=by
 refine TF.cons (e:=⟨some d,.m (.fn f ms),[],[],none,false,none⟩) (OU W W (bN b) λb a=>?_) W k;exact uj (by rw[a.ga (λx a=>by simp[Op.operands];exact a),nA];exact c)
def Gl{oi oj:Nat}(a:Nat.blt d X.n=true)(b:ki X.P xt=true)(c:bh sl x=some (.m (.ref i oi)))(e:bh sl y=some (.m (.ref j oj)))
  (k:TL X ops rest ⟨(d,.m (.d (.bool (Nat.beq i j&&Nat.beq oi oj))))::sl,bx,H⟩ post):TL X ops (⟨some d,.binOp .eql xt x y yt,ty,pos,af,none⟩::rest) ⟨sl,bx,H⟩ post:=
 Pf W W a (Hm (op:=.eql) (.inl W) b c e) k
def I6{r:List D}{rows:List (List D)}(a:Nat.blt d X.n=true)(b:lE X.P xt=6)(c:bh sl x=some (.m (.d (.sl (r::rows)))))
  (k:TL X ops rest ⟨(d,.m (.d (.bool false)))::sl,bx,H⟩ post):TL X ops (⟨some d,.binOp .eql xt x (.const (.slice none 0 0)) yt,ty,pos,af,none⟩::rest) ⟨sl,bx,H⟩ post:=
 Pf W W a (I0 (op:=.eql) (.inl W) b λa a a a=>I1 a c) k
end
def pa(i o j u:Nat)(v:M):∀{es:List (D×M)},gQ es=true->gT j u (jh i o v es)=if j=i/\u=o then some v else gT j u es
 |[],_=>by
  simp only[jh,gT];by_cases h:j=i/\u=o
  .obtain⟨rfl,rfl⟩:=h;simp
  .rw[asu h];have:(Nat.beq j i&&Nat.beq u o)=false:=by rw[<-atr];intro e;rw[asH]at e;exact h ⟨asy e.1,asy e.2⟩
   rw[this];rfl
 |(p,q)::r,a=>by
  unfold gQ at a;split at a
  .rename_i c;cases c
  .rename_i d b m s f;injection f with g n;injection g with k c;subst k;subst c;subst n
   have l:=pa i o j u v a;simp only[jh];by_cases h:i=d/\o=b
   .obtain⟨rfl,rfl⟩:=h;simp only[auH,au8,as3,gT];by_cases h:j=i/\u=o
    .obtain⟨rfl,rfl⟩:=h;simp
    .rw[asu h];have:(Nat.beq j i&&Nat.beq u o)=false:=by rw[<-atr];intro e;rw[asH]at e;exact h ⟨asy e.1,asy e.2⟩
     rw[this];rfl
   .have:(Nat.beq i d&&Nat.beq o b)=false:=by rw[<-atr];intro e;rw[asH]at e;exact h ⟨asy e.1,asy e.2⟩
    rw[this];simp only[atV,gT];rw[l];by_cases c:j=i/\u=o
    .obtain⟨rfl,rfl⟩:=c;rw[this];simp
    .simp only[asu c]
  .cases a
def oz(i o:Nat)(v:M):∀{es:List (D×M)},gQ es=true->gQ (jh i o v es)=true
 |[],_=>rfl
 |(j,k)::r,a=>by
  unfold gQ at a;split at a
  .rename_i c;cases c
  .rename_i c b m l d;injection d with e h;injection e with f g;subst f;subst g;subst h
   simp only[jh];cases (Nat.beq i c&&Nat.beq o b)with
   |true=>exact a
   |false=>exact oz i o v a
  .cases a
end Go.Mt
namespace Go.Mt
section
variable{P:Program}{n B:Nat}{st:St}{post:Exit->St->Prop}
def PL{e:Nat}{ops:List Oper}{s:St}(I:Hp->Prop)(f:I st.H)(g:P.follows .mixedOrders=true)(h:∀b c,jr ⟨P,n,b,c,[]⟩ I ops.toArray ops st λa d=>gO ops st.sl a=true/\nh I ops 0 a/\d=s)(i:post .normal s):DC P n B (.region e ops.toArray true) st post:=by
 refine⟨.normal,s,i,λb c _=>TC.EH I f g ?_⟩;obtain⟨a,d,j,k,l,m⟩:=h b c;exact⟨a,d,j,k,l,W,m⟩
end
end Go.Mt
namespace Go.Proofs
open Go.Mt
open Tryz
instance:bY prog 1 1:=⟨by kernel_rfl⟩
instance:cA prog 1:=⟨by kernel_rfl⟩
instance:jR prog 1 8:=⟨by kernel_rfl⟩
instance:gN prog 1 (.qn):=⟨by kernel_rfl⟩
instance:bY prog 3 1:=⟨by kernel_rfl⟩
instance:cA prog 3:=⟨by kernel_rfl⟩
instance:lC prog 3 .i64:=⟨by kernel_rfl⟩
instance:gN prog 3 (.int .i64 0):=⟨by kernel_rfl⟩
instance:bY prog 4 1:=⟨by kernel_rfl⟩
instance:cA prog 4:=⟨by kernel_rfl⟩
instance:jR prog 4 1:=⟨by kernel_rfl⟩
instance:gN prog 4 (.bool false):=⟨by kernel_rfl⟩
instance:bY prog 5 1:=⟨by kernel_rfl⟩
instance:cA prog 5:=⟨by kernel_rfl⟩
instance:lC prog 5 .u8:=⟨by kernel_rfl⟩
instance:bY prog 9 1:=⟨by kernel_rfl⟩
instance:cA prog 9:=⟨by kernel_rfl⟩
instance:BJ prog 9:=⟨by kernel_rfl⟩
instance:jR prog 9 16:=⟨by kernel_rfl⟩
instance:gN prog 9 (.str ⟨#[]⟩):=⟨by kernel_rfl⟩
instance:bY prog 21 1:=⟨by kernel_rfl⟩
instance:cA prog 21:=⟨by kernel_rfl⟩
instance:lC prog 21 .i32:=⟨by kernel_rfl⟩
instance:jR prog 21 4:=⟨by kernel_rfl⟩
instance:gN prog 21 (.int .i32 0):=⟨by kernel_rfl⟩
instance:aU prog 22 5:=⟨by kernel_rfl⟩
instance:bY prog 23 1:=⟨by kernel_rfl⟩
instance:cA prog 23:=⟨by kernel_rfl⟩
instance:aU prog 23 21:=⟨by kernel_rfl⟩
instance:jR prog 23 24:=⟨by kernel_rfl⟩
instance:gN prog 23 (.sl []):=⟨by kernel_rfl⟩
instance:cA prog 25:=⟨by kernel_rfl⟩
instance:aU prog 25 77:=⟨by kernel_rfl⟩
instance:bY prog 26 1:=⟨by kernel_rfl⟩
instance:cA prog 26:=⟨by kernel_rfl⟩
instance:aU prog 26 53:=⟨by kernel_rfl⟩
instance:bY prog 28 2:=⟨by kernel_rfl⟩
instance:jQ prog 28 2:=⟨by kernel_rfl,by kernel_rfl⟩
instance:aU prog 37 23:=⟨by kernel_rfl⟩
instance:bY prog 46 1:=⟨by kernel_rfl⟩
instance:cA prog 46:=⟨by kernel_rfl⟩
instance:aU prog 46 64:=⟨by kernel_rfl⟩
instance:bY prog 47 1:=⟨by kernel_rfl⟩
instance:cA prog 47:=⟨by kernel_rfl⟩
instance:aU prog 47 68:=⟨by kernel_rfl⟩
instance:bY prog 49 2:=⟨by kernel_rfl⟩
instance:jQ prog 49 2:=⟨by kernel_rfl,by kernel_rfl⟩
instance:bY prog 53 7:=⟨by kernel_rfl⟩
instance:jQ prog 53 7:=⟨by kernel_rfl,by kernel_rfl⟩
instance:jR prog 53 128:=⟨by kernel_rfl⟩
instance:gN prog 53 (.agg [.str ⟨#[]⟩,.sl [],.sl [],.sl [],.sl [],.int .i64 0,.int .i64 0]):=⟨by kernel_rfl⟩
instance:bY prog 55 1:=⟨by kernel_rfl⟩
instance:cA prog 55:=⟨by kernel_rfl⟩
instance:aU prog 55 4:=⟨by kernel_rfl⟩
instance:jQ prog 57 2:=⟨by kernel_rfl,by kernel_rfl⟩
instance:cA prog 58:=⟨by kernel_rfl⟩
instance:aU prog 58 195:=⟨by kernel_rfl⟩
instance:cA prog 59:=⟨by kernel_rfl⟩
instance:aU prog 59 9:=⟨by kernel_rfl⟩
instance:cA prog 60:=⟨by kernel_rfl⟩
instance:aU prog 60 62:=⟨by kernel_rfl⟩
instance:bY prog 62 8:=⟨by kernel_rfl⟩
instance:jQ prog 62 8:=⟨by kernel_rfl,by kernel_rfl⟩
instance:jR prog 62 88:=⟨by kernel_rfl⟩
instance:gN prog 62 (.agg [.int .u8 0,.int .u8 0,.int .i32 0,.str ⟨#[]⟩,.sl [],.sl [],.int .i64 0,.int .i64 0]):=⟨by kernel_rfl⟩
instance:bY prog 64 15:=⟨by kernel_rfl⟩
instance:jR prog 64 176:=⟨by kernel_rfl⟩
instance:gN prog 64 (.agg [.str ⟨#[]⟩,.int .u8 0,.str ⟨#[]⟩,.sl [],.bool false,.int .u8 0,.int .u8 0,.int .i32 0,.str ⟨#[]⟩,.sl [],.sl [],.int .i64 0,.int .i64 0,.int .i64 0,.int .i64 0]):=⟨by kernel_rfl⟩
instance:bY prog 66 1:=⟨by kernel_rfl⟩
instance:cA prog 66:=⟨by kernel_rfl⟩
instance:aU prog 66 176:=⟨by kernel_rfl⟩
instance:bY prog 68 16:=⟨by kernel_rfl⟩
instance:jQ prog 68 16:=⟨by kernel_rfl,by kernel_rfl⟩
instance:jR prog 68 208:=⟨by kernel_rfl⟩
instance:gN prog 68 (.agg [.int .u8 0,.sl [],.str ⟨#[]⟩,.sl [],.bool false,.int .u8 0,.int .u8 0,.int .i32 0,.str ⟨#[]⟩,.sl [],.sl [],.int .i64 0,.int .i64 0,.sl [],.int .i64 0,.int .i64 0]):=⟨by kernel_rfl⟩
instance:cA prog 73:=⟨by kernel_rfl⟩
instance:bY prog 77 4:=⟨by kernel_rfl⟩
instance:kC prog 81 [(0,1),(1,1),(2,1),(3,1),(4,1)] [.bU,.int .i64 0,.int .i64 0,.int .i64 0,.bool false]:=⟨by kernel_rfl,by kernel_rfl⟩
instance:bY prog 84 1:=⟨by kernel_rfl⟩
instance:cA prog 84:=⟨by kernel_rfl⟩
instance:jR prog 84 8:=⟨by kernel_rfl⟩
instance:gN prog 84 (.bU):=⟨by kernel_rfl⟩
instance:kC prog 87 [(0,1)] [.bU]:=⟨by kernel_rfl,by kernel_rfl⟩
instance:bY prog 91 1:=⟨by kernel_rfl⟩
instance:cA prog 91:=⟨by kernel_rfl⟩
instance:aU prog 91 84:=⟨by kernel_rfl⟩
instance:jz prog 93 2 9:=nz (by kernel_rfl)
instance:jz prog 93 3 10:=nz (by kernel_rfl)
instance:jz prog 93 4 11:=nz (by kernel_rfl)
instance:jz prog 93 5 12:=nz (by kernel_rfl)
instance:bY prog 102 3:=⟨by kernel_rfl⟩
instance:jQ prog 102 3:=⟨by kernel_rfl,by kernel_rfl⟩
instance:cA prog 108:=⟨by kernel_rfl⟩
instance:bY prog 109 1:=⟨by kernel_rfl⟩
instance:cA prog 109:=⟨by kernel_rfl⟩
instance:gN prog 109 (.bU):=⟨by kernel_rfl⟩
instance:bY prog 110 1:=⟨by kernel_rfl⟩
instance:cA prog 110:=⟨by kernel_rfl⟩
instance:aU prog 110 1:=⟨by kernel_rfl⟩
instance:kC prog 112 [(0,1),(1,1),(2,1),(3,1),(4,1)] [.bU,.bU,.bool false,.sl [],.sl []]:=⟨by kernel_rfl,by kernel_rfl⟩
instance:cA prog 114:=⟨by kernel_rfl⟩
instance:cA prog 115:=⟨by kernel_rfl⟩
instance:bY prog 116 1:=⟨by kernel_rfl⟩
instance:cA prog 116:=⟨by kernel_rfl⟩
instance:aU prog 116 120:=⟨by kernel_rfl⟩
instance:bY prog 117 1:=⟨by kernel_rfl⟩
instance:cA prog 117:=⟨by kernel_rfl⟩
instance:aU prog 117 121:=⟨by kernel_rfl⟩
instance:kC prog 119 [(0,1),(1,1),(2,1),(3,1),(4,1)] [.bU,.sl [],.sl [],.oU,.oU]:=⟨by kernel_rfl,by kernel_rfl⟩
instance:bY prog 120 1:=⟨by kernel_rfl⟩
instance:cA prog 120:=⟨by kernel_rfl⟩
instance:jR prog 120 8:=⟨by kernel_rfl⟩
instance:gN prog 120 (.bU):=⟨by kernel_rfl⟩
instance:yj prog 120 [.d (.bU)]:=⟨.bU,gF (by kernel_rfl),rfl⟩
instance:bY prog 121 1:=⟨by kernel_rfl⟩
instance:cA prog 121:=⟨by kernel_rfl⟩
instance:jR prog 121 8:=⟨by kernel_rfl⟩
instance:gN prog 121 (.bU):=⟨by kernel_rfl⟩
instance:kC prog 123 [(0,15),(15,1),(16,1),(17,1),(18,1),(19,1)] [.str ⟨#[]⟩,.int .u8 0,.str ⟨#[]⟩,.sl [],.bool false,.int .u8 0,.int .u8 0,.int .i32 0,.str ⟨#[]⟩,.sl [],.sl [],.int .i64 0,.int .i64 0,.int .i64 0,.int .i64 0,.int .i64 0,.bU,.bU,.int .u8 0,.int .i32 0]:=⟨by kernel_rfl,by kernel_rfl⟩
instance:aU prog 152 46:=⟨by kernel_rfl⟩
instance:aU prog 174 178:=⟨by kernel_rfl⟩
instance:bY prog 176 7:=⟨by kernel_rfl⟩
instance:jR prog 176 128:=⟨by kernel_rfl⟩
instance:gN prog 176 (.agg [.str ⟨#[]⟩,.sl [],.sl [],.sl [],.sl [],.int .i64 0,.int .i64 0]):=⟨by kernel_rfl⟩
instance:bY prog 178 12:=⟨by kernel_rfl⟩
instance:jR prog 178 128:=⟨by kernel_rfl⟩
instance:gN prog 178 (.agg [.int .u8 0,.int .u8 0,.int .i32 0,.str ⟨#[]⟩,.sl [],.sl [],.int .i64 0,.int .i64 0,.str ⟨#[]⟩,.bool false,.int .i64 0,.int .i64 0]):=⟨by kernel_rfl⟩
instance:bY prog 195 2:=⟨by kernel_rfl⟩
instance:bY prog 215 1:=⟨by kernel_rfl⟩
instance:cA prog 215:=⟨by kernel_rfl⟩
instance:yj prog 215 [.d (.qn)]:=⟨.qn,gF (by kernel_rfl),rfl⟩
instance:cA prog 217:=⟨by kernel_rfl⟩
instance:bw prog 10:=⟨λargs w=>call10 args w⟩
instance:bw prog 11:=⟨λargs w=>call11 args w⟩
instance:bw prog 15:=⟨λargs w=>call15 args w⟩
instance:bw prog 19:=⟨λargs w=>call19 args w⟩
instance:bw prog 25:=⟨λargs w=>call25 args w⟩
instance:bw prog 26:=⟨λargs w=>call26 args w⟩
instance:bw prog 27:=⟨λargs w=>call27 args w⟩
instance:bw prog 31:=⟨λargs w=>call31 args w⟩
instance:bw prog 32:=⟨λargs w=>call32 args w⟩
instance:bw prog 33:=⟨λargs w=>call33 args w⟩
instance:bw prog 38:=⟨λargs w=>call38 args w⟩
instance:bw prog 39:=⟨λargs w=>call39 args w⟩
instance:bw prog 41:=⟨λargs w=>call41 args w⟩
instance:bw prog 42:=⟨λargs w=>call42 args w⟩
instance:bw prog 43:=⟨λargs w=>call43 args w⟩
instance:bw prog 44:=⟨λargs w=>call44 args w⟩
instance:bw prog 45:=⟨λargs w=>call45 args w⟩
instance:bw prog 49:=⟨λargs w=>call49 args w⟩
instance:bw prog 56:=⟨λargs w=>call56 args w⟩
instance:bw prog 57:=⟨λargs w=>call57 args w⟩
instance:bw prog 58:=⟨λargs w=>call58 args w⟩
instance:bw prog 59:=⟨λargs w=>call59 args w⟩
instance:bw prog 60:=⟨λargs w=>call60 args w⟩
instance:bw prog 61:=⟨λargs w=>call61 args w⟩
instance:bw prog 62:=⟨λargs w=>call62 args w⟩
instance:bw prog 63:=⟨λargs w=>call63 args w⟩
instance:bw prog 64:=⟨λargs w=>call64 args w⟩
instance:bw prog 65:=⟨λargs w=>call65 args w⟩
instance:bw prog 66:=⟨λargs w=>call66 args w⟩
instance:bw prog 67:=⟨λargs w=>call67 args w⟩
instance:bw prog 78:=⟨λargs w=>call78 args w⟩
instance:bw prog 79:=⟨λargs w=>call79 args w⟩
instance:bw prog 86:=⟨λargs w=>call86 args w⟩
instance:bw prog 87:=⟨λargs w=>call87 args w⟩
instance:bw prog 88:=⟨λargs w=>call88 args w⟩
instance:bw prog 89:=⟨λargs w=>call89 args w⟩
instance:bw prog 90:=⟨λargs w=>call90 args w⟩
instance:bw prog 91:=⟨λargs w=>call91 args w⟩
instance:bw prog 92:=⟨λargs w=>call92 args w⟩
instance:bw prog 93:=⟨λargs w=>call93 args w⟩
instance:bw prog 94:=⟨λargs w=>call94 args w⟩
instance:bw prog 95:=⟨λargs w=>call95 args w⟩
instance:bw prog 96:=⟨λargs w=>call96 args w⟩
instance:bw prog 97:=⟨λargs w=>call97 args w⟩
instance:bw prog 116:=⟨λargs w=>call116 args w⟩
instance:bw prog 117:=⟨λargs w=>call117 args w⟩
instance:bw prog 118:=⟨λargs w=>call118 args w⟩
instance:bw prog 119:=⟨λargs w=>call119 args w⟩
instance:bw prog 120:=⟨λargs w=>call120 args w⟩
instance:bw prog 121:=⟨λargs w=>call121 args w⟩
instance:bw prog 122:=⟨λargs w=>call122 args w⟩
instance:bw prog 123:=⟨λargs w=>call123 args w⟩
instance:bw prog 124:=⟨λargs w=>call124 args w⟩
instance:bw prog 125:=⟨λargs w=>call125 args w⟩
instance:bw prog 126:=⟨λargs w=>call126 args w⟩
instance:bw prog 127:=⟨λargs w=>call127 args w⟩
instance:bw prog 128:=⟨λargs w=>call128 args w⟩
instance:bw prog 129:=⟨λargs w=>call129 args w⟩
instance:bw prog 130:=⟨λargs w=>call130 args w⟩
instance:bw prog 135:=⟨λargs w=>call135 args w⟩
instance:bw prog 136:=⟨λargs w=>call136 args w⟩
instance:bw prog 137:=⟨λargs w=>call137 args w⟩
instance:bw prog 138:=⟨λargs w=>call138 args w⟩
instance:bw prog 139:=⟨λargs w=>call139 args w⟩
instance:bw prog 140:=⟨λargs w=>call140 args w⟩
instance:bw prog 141:=⟨λargs w=>call141 args w⟩
instance:bw prog 142:=⟨λargs w=>call142 args w⟩
instance:bw prog 143:=⟨λargs w=>call143 args w⟩
instance:bw prog 144:=⟨λargs w=>call144 args w⟩
end Go.Proofs
namespace Go.Mt
variable{t n:Nat}{YZ:List (Nat×V)}{z:D}{ps:List (Nat×Nat)}
structure TI where
 sz:Option Nat
 ag:Option Bool
 zr:Option D
 se:Option Nat
 ik:Option IntKind
 pl:Option (List (Nat×Nat))
variable{e:TI}
def MF(P:Program)(t:Nat):Option Nat:=match P.underlying t with
 |some (.slice e)=>some e
 |_=>none
def MG(P:Program)(t:Nat):Option IntKind:=match P.underlying t with
 |some (.int k)=>some k
 |_=>none
def L9(P:Program)(t:Nat):TI:=⟨fT P t,uw P t,tK P t,MF P t,MG P t,qt P t⟩
structure mM(P:Program)where
 tb:List (Nat×TI)
 ok:tb=(tb.map Prod.fst).map λt=>(t,L9 P t)
def mM.get{P:Program}(C:mM P)(h:get C.tb t=some e):e=L9 P t:=by
 have b:=get_mem h;rw[C.ok]at b;obtain⟨u,_,a⟩:=asK.1 b;injection a with a c
 subst a;exact c.symm
section
variable{P:Program}(C:mM P)
theorem mM.sz(h:Mt.get C.tb t=some e)(a:e.sz=some n):bY P t n:=⟨by rw[C.get h]at a;exact a⟩
theorem mM.cell(h:Mt.get C.tb t=some e)(a:e.ag=some false):cA P t:=⟨by rw[C.get h]at a;exact a⟩
theorem mM.agg(h:Mt.get C.tb t=some e)(a:e.ag=some true)(b:e.sz=some n):jQ P t n:=⟨by rw[C.get h]at a;exact a,by rw[C.get h]at b;exact b⟩
theorem mM.zr(h:Mt.get C.tb t=some e)(a:e.zr=some z):gN P t z:=⟨by rw[C.get h]at a;exact a⟩
theorem mM.slice(h:Mt.get C.tb t=some e)(b:e.se=some n):aU P t n:=⟨by
 rw[C.get h]at b;have a:MF P t=some n:=b;unfold MF at a;split at a
 .grind
 .cases a⟩
theorem mM.int{k:IntKind}(h:Mt.get C.tb t=some e)(b:e.ik=some k):lC P t k:=⟨by
 rw[C.get h]at b;have a:MG P t=some k:=b;unfold MG at a;split at a
 .grind
 .cases a⟩
theorem mM.str{z:List D}(h:Mt.get C.tb t=some e)(a:e.pl=some ps)(b:e.zr=some (.agg z)):kC P t ps z:=
 ⟨by rw[C.get h]at a;exact a,by rw[C.get h]at b;exact b⟩
theorem Dg{e c:Type}{f:e->Option c} :∀{l:List e} {ps:List c} {i:Nat} {y:c},l.mapM f=some ps->ps[i]?=some y->∃x,l[i]?=some x/\f x=some y
 |[],ps,i,y,h,a=>by grind
 |g::l,ps,i,y,h,j=>by
  rw[auI]at h;cases a:f g with
  |none=>simp[a]at h
  |some b=>
   cases d:l.mapM f with
   |none=>simp[a,d]at h
   |some k=>
    simp[a,d]at h;subst h;cases i with
    |zero=>simp at j;subst j;exact⟨g,W,a⟩
    |succ i=>
     obtain⟨x,n,m⟩:=Dg d (show k[i]?=some y by grind);exact⟨x,by grind,m⟩
theorem mM.N'{f o:Nat}(h:Mt.get C.tb t=some e)(c:e.pl=some ps)(i:ps[f]?=some (o,n+1)):jz P t f o:=by
 rw[C.get h]at c;have b:qt P t=some ps:=c;unfold qt at b;split at b
 .rename_i k j;obtain⟨d,l,a⟩:=Dg b i;refine nz ?_;unfold ux;rw[j];simp only;rw[show k[f]?=some d by grind];simp only;cases g:fT P d.type with
  |none=>rw[g]at a;cases a
  |some m=>
   rw[g]at a;simp only[auk,atx,Prod.mk.injEq]at a;simp[a.1,a.2]
 .cases b
theorem mM.zc(h:Mt.get C.tb t=some e)(a:e.zr=some z):yj P t ((bg z).map .d):=⟨z,gF (C.zr h a).zero,rfl⟩
def MH:BinOp->Bool
 |.eql=>true|.neq=>true|.lss=>true|.leq=>true|.gtr=>true|.geq=>true|_=>false
def B7(op:Op)(sl:List (Nat×V))(bx:List (Nat×List M))(H:Hp):Option (V×List Nat×Bool):=match op with
 |.move x=>match bh sl x with|some v=>some (v,[],false)|none=>none
 |.assign x=>match bh sl x with|some v=>some (v,[],false)|none=>none
 |.fieldAddr s x f=>match get C.tb s with
  |none=>none
  |some e=>match e.pl with
   |none=>none
   |some a=>match a[f]? with
    |some (o,_+1)=>(match bh sl x with
     |some (.m (.d (.aZ a d)))=>some (.m (.d (.aZ a (d+o))),[],false)
     |some (.loc t a)=>some (.loc t (a+o),[],false)
     |some (.m (.ref i a))=>some (.m (.ref i (a+o)),[],false)
     |some (.m (.et i a d))=>some (.m (.et i a (d+o)),[],false)
     |_=>none)
    |_=>none
 |.load t x=>match get C.tb t with
  |none=>none
  |some e=>match e.ag with
   |some false=>(match bh sl x with
    |some (.m (.d (.aZ a d)))=>(match a[d]? with|some v=>some (.m (.d v),[],false)|none=>none)
    |some (.loc u d)=>(match get bx u with|some a=>(match a[d]? with|some m=>some (.m m,[u],false)|none=>none)|none=>none)
    |some (.m (.ref i d))=>(match H[i]? with|some (.box a)=>(match a[d]? with|some m=>some (.m m,[],true)|none=>none)|_=>none)
    |_=>none)
   |some true=>(match e.sz with
    |none=>none
    |some n=>match bh sl x with
     |some (.m (.d (.aZ a d)))=>(match d with
      |0=>bif Nat.beq a.length n then some (.m (.d (.agg a)),[],false)else(match sub a 0 n with|some a=>some (.m (.d (.agg a)),[],false)|none=>none)
      |d+1=>match sub a (d+1) n with|some a=>some (.m (.d (.agg a)),[],false)|none=>none)
     |some (.loc u d)=>(match get bx u with|some a=>(match sub a d n with|some a=>(match kP a with|some a=>some (.m (.d (.agg a)),[u],false)|none=>none)|none=>none)|none=>none)
     |some (.m (.ref i d))=>(match H[i]? with|some (.box a)=>(match sub a d n with|some a=>(match kP a with|some a=>some (.m (.d (.agg a)),[],true)|none=>none)|none=>none)|_=>none)
     |_=>none)
   |none=>none
 |.pick c x y=>match bh sl c with
  |some (.m (.d (.bool b)))=>(match bh sl (bif b then x else y)with|some v=>some (v,[],false)|none=>none)
  |_=>none
 |.nilCheck x=>match bh sl x with
  |some v=>(match uy v with|true=>some (v,[],false)|false=>none)
  |none=>none
 |.extract x i=>match bh sl x with
  |some (.m (.di a))=>(match a[i]? with|some m=>some (.m m,[],false)|none=>none)
  |_=>none
 |.unOp .not a x=>match bh sl x with
  |some (.m (.d (.bool b)))=>some (.m (.d (.bool (!b))),[],false)
  |_=>none
 |.binOp op a x y d=>match MH op with
  |false=>none
  |true=>(match bh sl x with
   |some (.m (.d (.int k m)))=>(match bh sl y with
    |some (.m (.d (.int a n)))=>(match decEq k a with
     |.isTrue _=>(match lZ op k m n with|some r=>some (.m (.d r),[],false)|none=>none)
     |.isFalse _=>none)
    |_=>none)
   |some (.m (.d (.str s)))=>(match bh sl y with
    |some (.m (.d (.str u)))=>(match op with
     |.eql=>some (.m (.d (.bool (decide (s=u)))),[],false)
     |.neq=>some (.m (.d (.bool (!decide (s=u)))),[],false)
     |_=>none)
    |_=>none)
   |_=>none)
 |.box t x=>match bh sl x with
  |some (.m (.d v))=>some (.m (.d (.aZ (bg v) 0)),[],false)
  |_=>none
 |.call ⟨.builtin .len,⟨[x]⟩,⟨[t]⟩⟩=>match get C.tb t with
  |none=>none
  |some e=>match e.se with
   |none=>none
   |some _=>match bh sl x with
    |some (.m (.d v))=>(match oV v with|some n=>some (.m (.d (.int .i64 n)),[],false)|none=>none)
    |_=>none
 |.build T ⟨d⟩=>match get C.tb T with
  |none=>none
  |some e=>match e.pl,e.zr with
   |some a,some (.agg z)=>(match ij sl d,ug z with
    |some d,some f=>(match uB a f d with
     |some a=>(match kP a with|some a=>some (.m (.d (.agg a)),[],false)|none=>none)
     |none=>none)
    |_,_=>none)
   |_,_=>none
 |.buildSlice T d ⟨f⟩=>match get C.tb T with
  |none=>none
  |some e=>match e.se with
   |none=>none
   |some a=>match get C.tb a with
    |none=>none
    |some a=>match a.sz,a.zr with
     |some n,some z=>bif Nat.blt 0 n&&Nat.beq (bg z).length n&&Nat.ble (d*n) 16777216 then(match ij sl f with
      |some a=>(match oX 0 a with
       |some a=>bif Nat.beq a.length d&&l_ n a then some (.m (.d (.sl a)),[],false)else none
       |none=>none)
      |none=>none)else none
     |_,_=>none
 |.makeFunc (.func f) ⟨[]⟩ ⟨a⟩=>match hJ sl a with
  |some a=>some (.m (.d (.fn f a)),[],false)
  |none=>none
 |.convert s t x=>match get C.tb s,get C.tb t with
  |some a,some b=>(match a.ik,b.ik with
   |some _,some a=>(match bh sl x with
    |some (.m (.d (.int _ n)))=>some (.m (.d (.int a (a.wrap n))),[],false)
    |_=>none)
   |_,_=>none)
  |_,_=>none
 |_=>none
end
section
variable{X:bW}{ops:Array Oper}{rest:List Oper}{sl:List (Nat×V)}{bx:List (Nat×List M)}{H:Hp}{d ty:Nat}{pos:String}{af:Array Edge}
def yO:∀{ps:List (Nat×Operand)},(∀p∈ps,bh YZ p.2=bh sl p.2)->ij YZ ps=ij sl ps
 |[],_=>rfl
 |(i,x)::r,h=>by simp only[ij];rw[h (i,x) (by simp),yO (ps:=r) λp a=>h p (by simp[a])]
def Dh:∀{ps:List Operand},(∀p∈ps,bh YZ p=bh sl p)->hJ YZ ps=hJ sl ps
 |[],_=>rfl
 |x::r,h=>by simp only[hJ];rw[h x (by simp),Dh (ps:=r) λp a=>h p (by simp[a])]
def AO(C:mM X.P){op:Op}{v:V}{rs:List Nat}{rh:Bool}(h:B7 C op sl bx H=some (v,rs,rh)){i:List (Nat×List M)}{j:Hp}
  (a:∀x∈op.operands.toList,bh YZ x=bh sl x) (k:∀u∈rs,get i u=get bx u) (l:rh=true->j=H):cL X ⟨some d,op,ty,pos,af,none⟩ ⟨YZ,i,j⟩ (du v ⟨YZ,i,j⟩):=by
 unfold B7 at h;split at h
 .split at h
  .rename_i c;cases h;exact CW ((a _ (by simp[Op.operands])).trans c)
  .cases h
 .split at h
  .rename_i c;cases h;exact Ew ((a _ (by simp[Op.operands])).trans c)
  .cases h
 .split at h
  .cases h
  .rename_i ht;split at h
   .cases h
   .rename_i f;split at h
    .rename_i m;have n:=C.N' ht f m;split at h
     .rename_i c;cases h;exact EB ((a _ (by simp[Op.operands])).trans c)
     .rename_i c;cases h;exact ED ((a _ (by simp[Op.operands])).trans c)
     .rename_i c;cases h;exact xZ ((a _ (by simp[Op.operands])).trans c)
     .rename_i c;cases h;exact EE ((a _ (by simp[Op.operands])).trans c)
     .cases h
    .cases h
 .split at h
  .cases h
  .rename_i e ht;split at h
   .rename_i f;have m:=C.cell ht f;split at h
    .rename_i c;split at h
     .rename_i n;cases h;exact xX ((a _ (by simp[Op.operands])).trans c) n
     .cases h
    .rename_i c;split at h
     .rename_i n;split at h
      .rename_i o;cases h;exact uA ((a _ (by simp[Op.operands])).trans c) ((k _ (by simp)).trans n) o
      .cases h
     .cases h
    .rename_i c;split at h
     .rename_i n;split at h
      .rename_i o;cases h;have:=l W;subst this;exact lQ ((a _ (by simp[Op.operands])).trans c) n (by unfold gS;rw[m.cell];exact o)
      .cases h
     .cases h
    .cases h
   .rename_i p;split at h
    .cases h
    .rename_i o q;have m:=C.agg ht p q;split at h
     .rename_i c;split at h
      .cases f:Nat.beq (List.length _) o with
       |true=>rw[f]at h;cases h;exact EA ((a _ (by simp[Op.operands])).trans c) (asy f)
       |false=>
        rw[f]at h;simp only[atV]at h;split at h
        .rename_i n;cases h;exact xY ((a _ (by simp[Op.operands])).trans c) (atl (sub_eq n).1) (sub_eq n).2
        .cases h
      .split at h
       .rename_i f;cases h;exact xY ((a _ (by simp[Op.operands])).trans c) (atl (sub_eq f).1) (sub_eq f).2
       .cases h
     .rename_i f;split at h
      .rename_i n;split at h
       .rename_i c;split at h
        .rename_i r;cases h;exact yd ((a _ (by simp[Op.operands])).trans f) ((k _ (by simp)).trans n) (atl (sub_eq c).1) (by rw[(sub_eq c).2];exact r)
        .cases h
       .cases h
      .cases h
     .rename_i f;split at h
      .rename_i n;split at h
       .rename_i c;split at h
        .rename_i r;cases h;have:=l W;subst this;exact lQ ((a _ (by simp[Op.operands])).trans f) n (by unfold gS;rw[m.agg,m.size];simp only[atl (sub_eq c).1,as3];rw[(sub_eq c).2];unfold pack;rw[r])
        .cases h
       .cases h
      .cases h
     .cases h
   .cases h
 .split at h
  .rename_i b f;split at h
   .rename_i c;cases h;cases b with
    |true=>exact Ey ((a _ (by simp[Op.operands])).trans f) ((a _ (by simp[Op.operands])).trans c)
    |false=>exact Ez ((a _ (by simp[Op.operands])).trans f) ((a _ (by simp[Op.operands])).trans c)
   .cases h
  .cases h
 .split at h
  .rename_i c;split at h
   .rename_i f;cases h;exact vh ((a _ (by simp[Op.operands])).trans c) f
   .cases h
  .cases h
 .split at h
  .rename_i c;split at h
   .rename_i f;cases h;exact CX ((a _ (by simp[Op.operands])).trans c) f
   .cases h
  .cases h
 .split at h
  .rename_i c;cases h;exact KD ((a _ (by simp[Op.operands])).trans c)
  .cases h
 .split at h
  .cases h
  .split at h
   .rename_i c;split at h
    .rename_i m;split at h
     .rename_i n _;subst n;split at h
      .rename_i f;cases h;exact vg ((a _ (by simp[Op.operands])).trans c) ((a _ (by simp[Op.operands])).trans m) f
      .cases h
     .cases h
    .cases h
   .rename_i c;split at h
    .rename_i f;split at h
     .cases h;exact Hc ((a _ (by simp[Op.operands])).trans c) ((a _ (by simp[Op.operands])).trans f)
     .cases h;exact Hd ((a _ (by simp[Op.operands])).trans c) ((a _ (by simp[Op.operands])).trans f)
     .cases h
    .cases h
   .cases h
 .split at h
  .rename_i c;cases h;exact KG ((a _ (by simp[Op.operands])).trans c)
  .cases h
 .split at h
  .cases h
  .rename_i ht;split at h
   .cases h
   .rename_i f;have n:=C.slice ht f;split at h
    .rename_i c;split at h
     .rename_i m;cases h;exact x8 ((a _ (by simp[Op.operands,Call.operands])).trans c) m
     .cases h
    .cases h
 .split at h
  .cases h
  .rename_i ht;split at h
   .rename_i c p;have o:=C.str ht c p;split at h
    .rename_i m t;split at h
     .rename_i q r;split at h
      .rename_i s n;cases h;have f:=wo (ht:=o) (X:=X) (dst:=some d) (ty:=ty) (pos:=pos) (af:=af) (g:=none) (st:=⟨YZ,i,j⟩) (by rw[iL,yO (sl:=sl) λp c=>a _ (by simp[Op.operands];exact⟨_,c⟩)];exact m) (by rw[<-qu t];exact tN r);have:pack q=.d (.agg s):=by simp[pack,n]
       rw[this]at f;exact f
      .cases h
     .cases h
    .cases h
   .cases h
 .split at h
  .cases h
  .rename_i ht;split at h
   .cases h
   .rename_i s;have u:=C.slice ht s;split at h
    .cases h
    .rename_i m;split at h
     .rename_i n z q t;have w:=C.sz m q;have x:=C.zr m t;cases c:(Nat.blt 0 n&&Nat.beq (bg z).length n&&Nat.ble (_*n) 16777216)with
      |false=>rw[c]at h;cases h
      |true=>
       rw[c]at h;simp only[as3]at h;simp only[asH]at c;split at h
       .rename_i p;split at h
        .rename_i o r;cases f:(Nat.beq o.length _&&l_ n o)with
         |false=>rw[f]at h;cases h
         |true=>
          rw[f]at h;simp only[asH]at f;cases h;exact vm c.1.1 c.1.2 c.2 (by rw[iL,yO (sl:=sl) λp c=>a _ (by simp[Op.operands];exact⟨_,c⟩)];exact p) r f.1 f.2
        .cases h
       .cases h
     .cases h
 .split at h
  .rename_i c;cases h;exact BM (by rw[sM,Dh (sl:=sl) λp c=>a _ (by simp[Op.operands];exact c)];exact c)
  .cases h
 .split at h
  .rename_i f m;split at h
   .rename_i n o;have p:=C.int f n;have q:=C.int m o;split at h
    .rename_i c;cases h;exact ww ((a _ (by simp[Op.operands])).trans c)
    .cases h
   .cases h
  .cases h
 .cases h
end
end Go.Mt
namespace Go.Mt
variable{post:List Ef->St->Prop}
def gate(ops:Array Oper)(sl:List (Nat×V)):Option (Nat×Bool)->Option Bool
 |none=>some true
 |some (j,w)=>match ops[j]? with
  |some q=>(match q.dst with
   |some g=>(match get sl g with
    |some (.m (.d (.bool b)))=>some (b==w)
    |some (.m (.di []))=>some false
    |_=>none)
   |none=>none)
  |none=>none
inductive So where
 |go (sl:List (Nat×V)) (a:List (Nat×List M)) (e:Ef)
 |no
def uK{P:Program}(C:mM P)(N:Nat)(ops:Array Oper)(o:Oper)(sl:List (Nat×V))(bx:List (Nat×List M))(H:Hp):So:=match gate ops sl o.guard with
 |some false=>(match o.dst with
  |some d=>bif Nat.blt d N then .go ((d,.m (.di []))::sl) bx ⟨some d,.m (.di []),[],[],none,false,none⟩else .no
  |none=>.no)
 |some true=>(match o.dst with
  |some d=>bif Nat.blt d N then(match o.op with
   |.alloc T=>(match get C.tb T with
    |some e=>(match e.zr with
     |some z=>(match ug (bg z)with
      |some a=>bif iq d sl then .go ((d,.loc d 0)::sl) ((d,a)::bx) ⟨some d,.loc d 0,[],[(d,a)],some d,false,none⟩else .no
      |none=>.no)
     |none=>.no)
    |none=>.no)
   |a=>match B7 C a sl bx H with
    |some (v,a,b)=>.go ((d,v)::sl) bx ⟨some d,v,a,[],none,b,none⟩
    |none=>.no)else .no
  |none=>(match o.op with
   |.store T x y=>(match bh sl x with
    |some (.loc t c)=>(match bh sl y with
     |some (.m m)=>(match get bx t with
      |some b=>(match iB m with
       |some a=>(match get C.tb T with
        |some e=>(match e.sz with
         |some n=>bif Nat.beq a.length n then(match wr b c a with
          |some a=>.go sl ((t,a)::bx) ⟨none,.m .undef,[],[(t,a)],none,false,none⟩
          |none=>.no)else .no
         |none=>.no)
        |none=>.no)
       |none=>.no)
      |none=>.no)
     |_=>.no)
    |_=>.no)
   |_=>.no))
 |none=>.no
section
variable{X:bW}{ops:Array Oper}{o:Oper}{rest:List Oper}{sl O5:List (Nat×V)}{bx Po:List (Nat×List M)}{H:Hp}{e:Ef}
def xe(C:mM X.P)(h:uK C X.n ops o sl bx H=.go O5 Po e):(gate ops sl o.guard=some false/\∃d,o.dst=some d/\Nat.blt d X.n=true/\O5=(d,.m (.di []))::sl/\Po=bx/\e=⟨some d,.m (.di []),[],[],none,false,none⟩)\/
  (gate ops sl o.guard=some true/\((∃d,o.dst=some d/\Nat.blt d X.n=true/\((∃T cs,o.op=.alloc T/\yj X.P T cs/\iq d sl=true/\O5=(d,.loc d 0)::sl/\Po=(d,cs)::bx/\e=⟨some d,.loc d 0,[],[(d,cs)],some d,false,none⟩)\/
   (∃v rs rh,B7 C o.op sl bx H=some (v,rs,rh)/\O5=(d,v)::sl/\Po=bx/\e=⟨some d,v,rs,[],none,rh,none⟩)))\/
   (o.dst=none/\∃T x y t off m cs a n b,o.op=.store T x y/\bY X.P T n/\bh sl x=some (.loc t off)/\bh sl y=some (.m m)/\get bx t=some cs/\iB m=some a/\Nat.beq a.length n=true/\wr cs off a=some b/\
    O5=sl/\Po=(t,b)::bx/\e=⟨none,.m .undef,[],[(t,b)],none,false,none⟩))):=by
 unfold uK at h;split at h
 .rename_i f;split at h
  .rename_i d g;cases c:Nat.blt d X.n with
   |false=>rw[c]at h;cases h
   |true=>rw[c]at h;cases h;exact .inl ⟨f,d,g,c,W,W,W⟩
  .cases h
 .rename_i g;refine .inr ⟨g,?_⟩;split at h
  .rename_i d i;cases c:Nat.blt d X.n with
   |false=>rw[c]at h;cases h
   |true=>
    rw[c]at h;simp only[as3]at h;refine .inl ⟨d,i,c,?_⟩;split at h
    .rename_i T j;split at h
     .rename_i k;split at h
      .rename_i z l;split at h
       .rename_i cs p;cases f:iq d sl with
        |false=>rw[f]at h;cases h
        |true=>rw[f]at h;cases h;exact .inl ⟨T,cs,j,by rw[qu p];exact C.zc k l,W,W,W,W⟩
       .cases h
      .cases h
     .cases h
    .split at h
     .rename_i v rs rh f;cases h;exact .inr ⟨v,rs,rh,f,W,W,W⟩
     .cases h
  .rename_i f;split at h
   .rename_i T x y j;split at h
    .rename_i t off p;split at h
     .rename_i m q;split at h
      .rename_i cs r;split at h
       .rename_i a l;split at h
        .rename_i k;split at h
         .rename_i n i;cases c:Nat.beq a.length n with
          |false=>rw[c]at h;cases h
          |true=>
           rw[c]at h;simp only[as3]at h;split at h
           .rename_i b s;cases h;exact .inr ⟨f,T,x,y,t,off,m,cs,a,n,b,j,C.sz k i,p,q,r,l,c,s,W,W,W⟩
           .cases h
         .cases h
        .cases h
       .cases h
      .cases h
     .cases h
    .cases h
   .cases h
 .cases h
def pP{b:Bool}(h:gate ops sl o.guard=some b):jP ops o ⟨sl,bx,H⟩=some b:=by
 unfold gate at h;unfold jP;split at h
 .grind
 .grind
def Di(C:mM X.P){post:St->Prop}(h:uK C X.n ops o sl bx H=.go O5 Po e)(k:TL X ops rest ⟨O5,Po,H⟩ post):TL X ops (o::rest) ⟨sl,bx,H⟩ post:=by
 rcases xe C h with⟨b,d,a,c,rfl,rfl,_⟩|⟨b,⟨d,a,c,⟨T,t,f,E,g,rfl,rfl,_⟩|⟨v,F,G,u,rfl,rfl,_⟩⟩|⟨a,T,z,A,B,L,m,t,M,D,I,f,J,i,j,l,n,p,q,rfl,rfl,_⟩⟩
 .exact TL.skip (pP b) a c k
 .obtain⟨y,s,w,K,af,r⟩:=o;subst a;subst f;cases r with
  |none=>exact C0 c g k
  |some x=>exact aC (pP b) (C0 c g k)
 .obtain⟨N,w,x,y,af,s⟩:=o;subst a;have r:=TL.lY (X:=X) (ops:=ops) (rest:=rest) (post:=post) (o:=⟨some d,w,x,y,af,none⟩) W W c (AO C u (λ_ _=>rfl) (λ_ _=>rfl) λ_=>rfl) k;cases s with
  |none=>exact r
  |some K=>exact aC (pP b) r
 .obtain⟨y,s,w,K,af,r⟩:=o;subst a;subst f;cases r with
  |none=>exact fh i j l n p q k
  |some x=>exact aC (pP b) (fh i j l n p q k)
theorem B9{dst:Option Nat}{op:Op}{ty:Nat}{pos:String}{af:Array Edge}{g:Option (Nat×Bool)}(a:gate ops sl g=some true)
  (k:TF X ops (⟨dst,op,ty,pos,af,none⟩::rest) ⟨sl,bx,H⟩ post):TF X ops (⟨dst,op,ty,pos,af,g⟩::rest) ⟨sl,bx,H⟩ post:=by
 cases g with
 |none=>exact k
 |some c=>
  obtain⟨j,w⟩:=c;simp only[gate]at a;split at a
  .rename_i q e;split at a
   .rename_i g f;split at a
    .rename_i b d;injection a with a
     have:b=w:=by grind
     subst this;exact aX (by grind) d k
    .cases a
    .cases a
   .cases a
  .cases a
theorem Dj(C:mM X.P)(h:uK C X.n ops o sl bx H=.go O5 Po e)(k:TF X ops rest ⟨O5,Po,H⟩ λa c=>post (e::a) c):TF X ops (o::rest) ⟨sl,bx,H⟩ post:=by
 rcases xe C h with⟨a,d,c,f,rfl,rfl,rfl⟩|⟨a,⟨d,c,f,⟨T,p,i,G,I,rfl,rfl,rfl⟩|⟨v,q,r,s,rfl,rfl,rfl⟩⟩|⟨c,T,x,z,A,N,m,p,O,B,J,i,K,j,t,g,u,n,w,rfl,rfl,rfl⟩⟩
 .obtain⟨P,L,M,Q,af,l⟩:=o;subst c;cases l with
  |none=>cases a
  |some y=>
   obtain⟨D,E⟩:=y;simp only[gate]at a;split at a
   .rename_i F n;split at a
    .rename_i l c;split at a
     .rename_i b g;injection a with a;exact bj f (by grind) g a k
     .rename_i g;exact bm f (by grind) g k
     .cases a
    .cases a
   .cases a
 .obtain⟨E,y,D,F,af,l⟩:=o;subst c;subst i;exact B9 a (IS f k)
 .obtain⟨E,y,D,F,af,l⟩:=o;subst c;exact B9 a (TF.cons (e:=⟨some d,v,q,[],none,r,none⟩) (OU W W (bN f) λa a=>AO C s (λx j=>a.ev j) (λu c=>a.bx u (by simp[c])) λc=>a.H (by simp[c])) W k)
 .obtain⟨E,y,D,F,af,l⟩:=o;subst c;subst i;exact B9 a (iI j t g u n w k)
end
end Go.Mt
namespace Go.Mt
variable{H:Hp}{P:Program}{X:bW}{ops:Array Oper}{N:Nat}{sl O5:List (Nat×V)}{bx Po:List (Nat×List M)}{post:Exit->St->Prop}{r r':List Oper}
inductive K where
 |c (x:Code)
 |b (a:Nat)
abbrev yP:=Code->St->(Exit->St->Prop)->Prop
variable{C:yP}
abbrev I7:=Array Oper->List Oper->St->(St->Prop)->Prop
variable{L:I7}
def Kp(C:yP):List K->(Exit->St->Prop)->Exit->St->Prop
 |[],a=>a
 |.c y::a,b=>after (Kp C a b) λs=>C y s (Kp C a b)
 |.b b::a,c=>sF b (Kp C a c)
def Kn(C:yP)(a:List K)(post:Exit->St->Prop):St->Prop:= λs=>Kp C a post .normal s
inductive Cf where
 |code (x:Code) (a:List K)
 |ops (b:Array Oper) (r:List Oper) (a:List K)
 |Hx (a:List K)
def Cf.den(C:yP)(L:I7)(post:Exit->St->Prop):Cf->St->Prop
 |.code x a,s=>C x s (Kp C a post)
 |.ops b r a,s=>L b r s (Kn C a post)
 |.Hx a,s=>Kp C a post .normal s
inductive Sp where
 |go (c:Cf) (a:List Nat) (sl:List (Nat×V)) (b:List (Nat×List M))
 |no
def stops(ps:List Nat)(o:Oper):Bool:=match ps with
 |p::_=>(match o.dst with|some d=>Nat.beq p (d+4)|none=>Nat.beq p 999)
 |[]=>false
def yQ{P:Program}(D:mM P)(N:Nat)(H:Hp)(ps:List Nat)(sl:List (Nat×V))(bx:List (Nat×List M)):Cf->Sp
 |.code x a=>(match x with
  |.seq d b=>.go (.code d (.c b::a)) ps sl bx
  |.skip=>.go (.Hx a) ps sl bx
  |.block d y=>(match ps with
   |3::ps=>.go (.code y (.b d::a)) ps sl bx
   |_=>.no)
  |.cond c y z=>(match ps with
   |1::ps=>(match bh sl c with
    |some (.m (.d (.bool true)))=>.go (.code y a) ps sl bx
    |_=>.no)
   |0::ps=>(match bh sl c with
    |some (.m (.d (.bool false)))=>.go (.code z a) ps sl bx
    |_=>.no)
   |_=>.no)
  |.region _ ⟨d⟩ false=>(match ps with
   |2::ps=>.go (.ops ⟨d⟩ d a) ps sl bx
   |_=>.no)
  |_=>.no)
 |.ops d r a=>(match r with
  |[]=>.go (.Hx a) ps sl bx
  |o::r=>bif stops ps o then .no else(match uK D N d o sl bx H with
   |.go sl bx _=>.go (.ops d r a) ps sl bx
   |.no=>.no))
 |.Hx a=>(match a with
  |.c y::a=>.go (.code y a) ps sl bx
  |.b _::a=>.go (.Hx a) ps sl bx
  |[]=>.no)
inductive Rs where
 |at(c:Cf) (sl:List (Nat×V)) (a:List (Nat×List M))
 |out
def sT{P:Program}(D:mM P)(N:Nat)(H:Hp):Nat->Cf->List Nat->List (Nat×V)->List (Nat×List M)->Rs
 |0,_,_,_,_=>.out
 |f+1,c,b,sl,a=>match yQ D N H b sl a c with
  |.go c b sl a=>sT D N H f c b sl a
  |.no=>.at c sl a
structure Mode(P:Program)(N:Nat)(C:yP)(L:I7):Prop where
 seq:∀x y st post,C x st (after post λs=>C y s post)->C (.seq x y) st post
 skip:∀st post,post .normal st->C .skip st post
 block:∀b x st post,C x st (sF b post)->C (.block b x) st post
 ct:∀c x y st post,st.ev c=some (.m (.d (.bool true)))->C x st post->C (.cond c x y) st post
 cf:∀c x y st post,st.ev c=some (.m (.d (.bool false)))->C y st post->C (.cond c x y) st post
 region:∀b (a:List Oper) st post,L a.toArray a st (post .normal)->C (.region b a.toArray false) st post
 nil:∀a st (post:St->Prop),post st->L a [] st post
 row:∀(D:mM P) a o r sl bx O5 Po e H (post:St->Prop),uK D N a o sl bx H=.go O5 Po e->L a r ⟨O5,Po,H⟩ post->L a (o::r) ⟨sl,bx,H⟩ post
def Hy(W:Mode P N C L)(D:mM P){ps e:List Nat}{c a:Cf}
  (h:yQ D N H ps sl bx c=.go a e O5 Po) (k:a.den C L post ⟨O5,Po,H⟩):c.den C L post ⟨sl,bx,H⟩:=by
 cases c with
 |code x d=>
  simp only[yQ]at h;split at h
  .cases h;exact W.seq _ _ _ _ k
  .cases h;exact W.skip _ _ k
  .split at h
   .cases h;exact W.block _ _ _ _ k
   .cases h
  .split at h
   .split at h
    .rename_i b;cases h;exact W.ct _ _ _ _ _ b k
    .cases h
   .split at h
    .rename_i b;cases h;exact W.cf _ _ _ _ _ b k
    .cases h
   .cases h
  .split at h
   .cases h;exact W.region _ _ _ _ k
   .cases h
  .cases h
 |ops g r f=>
  simp only[yQ]at h;split at h
  .cases h;exact W.nil _ _ _ k
  .cases b:stops ps _ with
   |true=>rw[b]at h;cases h
   |false=>
    rw[b]at h;simp only[atV]at h;split at h
    .rename_i d;cases h;exact W.row D _ _ _ _ _ _ _ _ _ _ d k
    .cases h
 |Hx b=>
  simp only[yQ]at h;split at h
  .cases h;exact k
  .cases h;exact k
  .cases h
def mo(W:Mode P N C L)(D:mM P):∀(f:Nat) {ps:List Nat} {sl O5:List (Nat×V)} {bx Po:List (Nat×List M)} {c a:Cf},
  sT D N H f c ps sl bx=.at a O5 Po->a.den C L post ⟨O5,Po,H⟩->c.den C L post ⟨sl,bx,H⟩
 |0,_,_,_,_,_,_,_,h,_=>by cases h
 |f+1,ps,sl,O5,bx,Po,c,a,h,k=>by
  simp only[sT]at h;split at h
  .rename_i b;exact Hy W D b (mo W D f h k)
  .grind
def B_(X:bW):Mode X.P X.n (TC X) (TL X)where
 seq _ _ _ _ h:=TC.seq h
 skip _ _ h:=TC.skip h
 block _ _ _ _ h:=TC.block h
 ct _ _ _ _ _ hc h:=TC.cond hc (λ_=>h) λh=>by cases h
 cf _ _ _ _ _ hc h:=TC.cond hc (λh=>by cases h) λ_=>h
 region _ _ _ _ h:=TC.region h
 nil _ _ _ h:=TL.nil h
 row D _ _ _ _ _ _ _ _ _ _ h k:=Di D h k
def DL(P:Program)(n:Nat)(a:Array Oper)(r:List Oper)(st:St)(Q:St->Prop):Prop:=∃s,(∀b c,TL ⟨P,n,b,c,[]⟩ a r st λa=>a=s)/\Q s
def B'(P:Program)(n B:Nat):Mode P n (DC P n B) (DL P n)where
 seq _ _ _ _ h:=DC.seq h
 skip _ _ h:=DC.skip h
 block _ _ _ _ h:=DC.block h
 ct _ _ _ _ _ hc h:=DC.cond hc (λ_=>h) λh=>by cases h
 cf _ _ _ _ _ hc h:=DC.cond hc (λh=>by cases h) λ_=>h
 region _ _ _ _ h:=DC.region h
 nil _ st _ h:=⟨st,λ_ _=>TL.nil W,h⟩
 row D _ _ _ _ _ _ _ _ _ _ h k:=by
  obtain⟨s,h1,h2⟩:=k;exact⟨s,λs0 Oo=>Di (X:=⟨P,n,s0,Oo,[]⟩) D h (h1 s0 Oo),h2⟩
def Oq{n:Nat}{a:Array Oper}{st b:St}{Q:St->Prop}(h:∀{s0 Oo} {p:St->Prop},TL ⟨P,n,s0,Oo,[]⟩ a r' b p->TL ⟨P,n,s0,Oo,[]⟩ a r st p)(k:DL P n a r' b Q):DL P n a r st Q:=by
 obtain⟨s,c,d⟩:=k;exact⟨s,λs0 Oo=>h (c s0 Oo),d⟩
def ru{P:Program}(C:mM P)(N:Nat)(ops:Array Oper)(H:Hp):Nat->List Oper->List (Nat×V)->List (Nat×List M)->List Ef->Option (List Oper×List (Nat×V)×List (Nat×List M)×List Ef)
 |0,r,sl,a,b=>some (r,sl,a,b)
 |n+1,o::r,sl,a,b=>(match uK C N ops o sl a H with
  |.go sl a e=>ru C N ops H n r sl a (e::b)
  |.no=>none)
 |_+1,[],_,_,_=>none
def TF.run(C:mM X.P):∀(n:Nat) {post:List Ef->St->Prop} {r r':List Oper} {sl O5:List (Nat×V)} {bx Po:List (Nat×List M)} {es a:List Ef},
  ru C X.n ops H n r sl bx es=some (r',O5,Po,a)->TF X ops r' ⟨O5,Po,H⟩ (λb c=>post (a.reverse++b) c)->TF X ops r ⟨sl,bx,H⟩ λb c=>post (es.reverse++b) c
 |0,post,r,r',sl,O5,bx,Po,es,a,h,k=>by cases h;exact k
 |n+1,post,[],r',sl,O5,bx,Po,es,a,h,k=>by cases h
 |n+1,post,o::r,r',sl,O5,bx,Po,es,a,h,k=>by
  simp only[ru]at h;split at h
  .rename_i e d;refine Dj C d ?_;have:=TF.run C n (post:=post) h k;simpa using this
  .cases h
def TF.rn(C:mM X.P)(n:Nat){post:List Ef->St->Prop}{a:List Ef}
  (h:ru C X.n ops H n r sl bx []=some (r',O5,Po,a)) (k:TF X ops r' ⟨O5,Po,H⟩ λb c=>post (a.reverse++b) c):TF X ops r ⟨sl,bx,H⟩ post:=TF.run C n (post:=post) h k
def jr.run{I:Hp->Prop}(C:mM X.P):∀(n:Nat) {post:List Ef->St->Prop} {r r':List Oper} {sl O5:List (Nat×V)} {bx Po:List (Nat×List M)} {es a:List Ef},
  ru C X.n ops H n r sl bx es=some (r',O5,Po,a)->jr X I ops r' ⟨O5,Po,H⟩ (λb c=>post (a.reverse++b) c)->jr X I ops r ⟨sl,bx,H⟩ λb c=>post (es.reverse++b) c
 |0,post,r,r',sl,O5,bx,Po,es,a,h,k=>by cases h;exact k
 |n+1,post,[],r',sl,O5,bx,Po,es,a,h,k=>by cases h
 |n+1,post,o::r,r',sl,O5,bx,Po,es,a,h,k=>by
  simp only[ru]at h;split at h
  .rename_i e d;refine OA (Dj C d (TF.nil ⟨W,W⟩)) ?_;have:=jr.run C n (post:=post) h k;simpa using this
  .cases h
end Go.Mt
namespace Go.Mt
section
variable{P:Program}{f:Nat}{fn:Func}{c:Code}{ms:List M}{H:Hp}{post:M->Hp->Prop}{n:Nat}
def CT.ob(hf:P.funcs[f]?=some fn)(a:fn.body=some c)(b:fn.ntmps=n)(d:Nat.ble ms.length n=true)
  (h:∀(a:Sg) (b:Nat->Nat->Prop),TC ⟨P,n,a,b,[]⟩ c ⟨qX 0 ms,[],H⟩ (Kp (TC ⟨P,n,a,b,[]⟩) [] (sI P fn post))):CT P f ms H post:=CT.vj hf a b d h
def DT.ob(hf:P.funcs[f]?=some fn)(a:fn.body=some c)(b:fn.ntmps=n)(d:Nat.ble ms.length n=true)
  (h:DC P n H.length c ⟨qX 0 ms,[],H⟩ (Kp (DC P n H.length) [] (sI P fn post))):DT P f ms H post:=DT.vj hf a b d h
end
section
variable{X:bW}{st:St}{c x y:Code}{sl:List (Nat×V)}{bx:List (Nat×List M)}{H:Hp}{post:Exit->St->Prop}{P:Program}{n B:Nat}
def TC.lp(I:Nat->St->Prop)(a:Nat)(O5:List (Nat×V))(b:I a ⟨O5,bx,H⟩)(d:keeps sl O5)
  (e:∀k s,I k s->TC X c s (Kp (TC X) [] (after post λd=>∃a b,a<k/\I a b/\∀a w,Inv X d a w->Inv X b a w))):TC X (.loop c) ⟨sl,bx,H⟩ post:=
 TC.IP I a _ b (λa w a=>a.oh (ir d) λ_=>rfl) e
def DC.lp(I:Nat->St->Prop)(a:Nat)(O5:List (Nat×V))(b:I a ⟨O5,bx,H⟩)(d:keeps sl O5)
  (e:∀k s,I k s->DC P n B c s (Kp (DC P n B) [] (after post λa=>yH P n B I k a))):DC P n B (.loop c) ⟨sl,bx,H⟩ post:=DC.loop I a O5 b d e
def TC.NB{z:Code}(a:St)(b:TC X x st (Kp (TC X) [.c y] (after post λs=>∀b w,Inv X s b w->Inv X a b w)))(c:TC X z a post):
  TC X x st (after (after post λs=>TC X z s post) λs=>TC X y s (after post λs=>TC X z s post)):=
 TC.mono b λe s h=>by
  cases e with
  |normal=>exact TC.MC a h c
  |_=>exact h
def DC.md(a:St)(b:DC P n B x st (Kp (DC P n B) [] (after post λs=>∀b d,b.H.length<=B->∀c w,Inv ⟨P,n,b,d,[]⟩ s c w->Inv ⟨P,n,b,d,[]⟩ a c w)))(c:DC P n B y a post):DC P n B x st (after post λs=>DC P n B y s post):=DC.MC a b c
def Ps(Q:St->Prop)(b:DC P n B x st (Kp (DC P n B) [] (after post λs=>∃a,Q a/\∀b d,b.H.length<=B->∀c w,Inv ⟨P,n,b,d,[]⟩ s c w->Inv ⟨P,n,b,d,[]⟩ a c w)))(c:∀a,Q a->DC P n B y a post):DC P n B x st (after post λs=>DC P n B y s post):=
 DC.mono b λe s h=>by
  cases e with
  |normal=>obtain⟨a,d,f⟩:=h;exact Qg _ f (c a d)
  |_=>exact h
def DC.Gm{z:Code}(Q:St->Prop)(a:DC P n B x st (Kp (DC P n B) [.c y] (after post λs=>∃c,Q c/\∀a d,a.H.length<=B->∀b w,Inv ⟨P,n,a,d,[]⟩ s b w->Inv ⟨P,n,a,d,[]⟩ c b w)))(b:∀a,Q a->DC P n B z a post):
  DC P n B x st (after (after post λs=>DC P n B z s post) λs=>DC P n B y s (after post λs=>DC P n B z s post)):=
 DC.mono a λe s h=>by
  cases e with
  |normal=>exact Ps Q h b
  |_=>exact h
end
section
variable{X:bW}{ops:Array Oper}{rest:List Oper}{sl:List (Nat×V)}{bx:List (Nat×List M)}{H:Hp}{post:St->Prop}{d ty:Nat}{pos:String}{af:Array Edge}
def aQ{op:BinOp}{c e:Nat}{x y:Operand}{a:IntKind}{m n:Int}{b' b:Bool}(f:b'=b)(g:Nat.blt d X.n=true)(h:bh sl x=some (.m (.d (.int a m))))(i:bh sl y=some (.m (.d (.int a n))))(j:lZ op a m n=some (.bool b'))
  (k:TL X ops rest ⟨(d,.m (.d (.bool b)))::sl,bx,H⟩ post):TL X ops (⟨some d,.binOp op c x y e,ty,pos,af,none⟩::rest) ⟨sl,bx,H⟩ post:=gG g h i (f▸j) k
end
abbrev nN(k e:Nat):Nat×V:=(k,.m (.d (.int .i64 (e:Int))))
abbrev nI(k:Nat)(e:Int):Nat×V:=(k,.m (.d (.int .i64 e)))
abbrev nR(k a:Nat):Nat×V:=(k,.m (.ref a 0))
abbrev nD(k:Nat)(d:D):Nat×V:=(k,.m (.d d))
abbrev nM(k:Nat)(m:M):Nat×V:=(k,.m m)
abbrev dN(e:Nat):M:=.d (.int .i64 (e:Int))
abbrev iN(e:Nat):D:=.int .i64 (e:Int)
end Go.Mt
namespace Go.Proofs
open Go.Mt
open Tryz
variable{es:List Ef}{os:Array Oper}{q:List Ef->St->Prop}
def NC:List (Nat×TI):=[
 (3,⟨some 1,some false,some (.int .i64 0),none,some .i64,none⟩),
 (62,⟨some 8,some true,some (.agg [.int .u8 0,.int .u8 0,.int .i32 0,.str ⟨#[]⟩,.sl [],.sl [],.int .i64 0,.int .i64 0]),none,none,some [(0,1),(1,1),(2,1),(3,1),(4,1),(5,1),(6,2)]⟩),
 (5,⟨some 1,some false,some (.int .u8 0),none,some .u8,none⟩),
 (9,⟨some 1,some false,some (.str ⟨#[]⟩),none,none,none⟩),
 (68,⟨some 16,some true,some (.agg [.int .u8 0,.sl [],.str ⟨#[]⟩,.sl [],.bool false,.int .u8 0,.int .u8 0,.int .i32 0,.str ⟨#[]⟩,.sl [],.sl [],.int .i64 0,.int .i64 0,.sl [],.int .i64 0,.int .i64 0]),none,none,some [(0,1),(1,1),(2,1),(3,1),(4,1),(5,8),(13,1),(14,2)]⟩),
 (46,⟨some 1,some false,some (.sl []),some 64,none,none⟩),
 (64,⟨some 15,some true,some (.agg [.str ⟨#[]⟩,.int .u8 0,.str ⟨#[]⟩,.sl [],.bool false,.int .u8 0,.int .u8 0,.int .i32 0,.str ⟨#[]⟩,.sl [],.sl [],.int .i64 0,.int .i64 0,.int .i64 0,.int .i64 0]),none,none,some [(0,1),(1,2),(3,1),(4,1),(5,8),(13,2)]⟩),
 (21,⟨some 1,some false,some (.int .i32 0),none,some .i32,none⟩),
 (28,⟨some 2,some true,some (.agg [.sl [],.sl []]),none,none,some [(0,1),(1,1)]⟩),
 (102,⟨some 3,some true,some (.agg [.sl [],.sl [],.sl []]),none,none,some [(0,1),(1,1),(2,1)]⟩),
 (57,⟨some 2,some true,some (.agg [.int .u8 0,.str ⟨#[]⟩]),none,none,some [(0,1),(1,1)]⟩),
 (23,⟨some 1,some false,some (.sl []),some 21,none,none⟩),
 (59,⟨some 1,some false,some (.sl []),some 9,none,none⟩),
 (49,⟨some 2,some true,some (.agg [.sl [],.sl []]),none,none,some [(0,1),(1,1)]⟩),
 (53,⟨some 7,some true,some (.agg [.str ⟨#[]⟩,.sl [],.sl [],.sl [],.sl [],.int .i64 0,.int .i64 0]),none,none,some [(0,1),(1,1),(2,1),(3,2),(5,2)]⟩),
 (112,⟨some 5,some true,some (.agg [.bU,.bU,.bool false,.sl [],.sl []]),none,none,some [(0,1),(1,1),(2,1),(3,1),(4,1)]⟩),
 (136,⟨some 8,some true,some (.agg [.bU,.str ⟨#[]⟩,.sl [],.sl [],.sl [],.sl [],.sl [],.sl []]),none,none,some [(0,1),(1,1),(2,1),(3,1),(4,1),(5,1),(6,1),(7,1)]⟩),
 (66,⟨some 1,some false,some (.sl []),some 176,none,none⟩),
 (60,⟨some 1,some false,some (.sl []),some 62,none,none⟩),
 (93,⟨some 13,some true,some (.agg [.sl [],.sl [],.str ⟨#[]⟩,.sl [],.sl [],.sl [],.sl [],.int .i64 0,.int .i64 0,.sl [],.sl [],.sl [],.int .i64 0]),none,none,some [(0,2),(2,7),(9,1),(10,1),(11,1),(12,1)]⟩),
 (157,⟨some 17,some true,some (.agg [.int .u8 0,.sl [],.str ⟨#[]⟩,.sl [],.bool false,.int .u8 0,.int .u8 0,.int .i32 0,.str ⟨#[]⟩,.sl [],.sl [],.int .i64 0,.int .i64 0,.sl [],.int .i64 0,.int .i64 0,.int .i64 0]),none,none,some [(0,16),(16,1)]⟩),
 (4,⟨some 1,some false,some (.bool false),none,none,none⟩),
 (84,⟨some 1,some false,some (.bU),none,none,none⟩),
 (176,⟨some 7,some true,some (.agg [.str ⟨#[]⟩,.sl [],.sl [],.sl [],.sl [],.int .i64 0,.int .i64 0]),none,none,some [(0,1),(1,2),(3,1),(4,1),(5,2)]⟩),
 (47,⟨some 1,some false,some (.sl []),some 68,none,none⟩),
 (123,⟨some 20,some true,some (.agg [.str ⟨#[]⟩,.int .u8 0,.str ⟨#[]⟩,.sl [],.bool false,.int .u8 0,.int .u8 0,.int .i32 0,.str ⟨#[]⟩,.sl [],.sl [],.int .i64 0,.int .i64 0,.int .i64 0,.int .i64 0,.int .i64 0,.bU,.bU,.int .u8 0,.int .i32 0]),none,none,some [(0,15),(15,1),(16,1),(17,1),(18,1),(19,1)]⟩),
 (108,⟨some 1,some false,some (.bU),none,none,none⟩),
 (132,⟨some 1,some false,some (.sl []),some 131,none,none⟩),
 (26,⟨some 1,some false,some (.sl []),some 53,none,none⟩),
 (2,⟨some 1,some false,some (.int .i64 0),none,some .i64,none⟩),
 (120,⟨some 1,some false,some (.bU),none,none,none⟩),
 (81,⟨some 5,some true,some (.agg [.bU,.int .i64 0,.int .i64 0,.int .i64 0,.bool false]),none,none,some [(0,1),(1,1),(2,1),(3,1),(4,1)]⟩),
 (139,⟨some 2,some true,some (.agg [.bU,.bool false]),none,none,some [(0,1),(1,1)]⟩),
 (178,⟨some 12,some true,some (.agg [.int .u8 0,.int .u8 0,.int .i32 0,.str ⟨#[]⟩,.sl [],.sl [],.int .i64 0,.int .i64 0,.str ⟨#[]⟩,.bool false,.int .i64 0,.int .i64 0]),none,none,some [(0,8),(8,1),(9,1),(10,2)]⟩),
 (119,⟨some 5,some true,some (.agg [.bU,.sl [],.sl [],.oU,.oU]),none,none,some [(0,1),(1,1),(2,1),(3,1),(4,1)]⟩),
 (25,⟨some 1,some false,some (.sl []),some 77,none,none⟩),
 (110,⟨some 1,some false,some (.sl []),some 1,none,none⟩),
 (128,⟨some 1,some false,some (.bU),none,none,none⟩),
 (73,⟨some 1,some false,some (.bU),none,none,none⟩),
 (37,⟨some 1,some false,some (.sl []),some 23,none,none⟩),
 (131,⟨some 2,some true,some (.agg [.int .u8 0,.int .i32 0]),none,none,some [(0,1),(1,1)]⟩),
 (35,⟨some 1,some false,some (.bU),none,none,none⟩),
 (109,⟨some 1,some false,some (.bU),none,none,none⟩),
 (133,⟨some 1,some false,some (.sl []),some 128,none,none⟩),
 (174,⟨some 1,some false,some (.sl []),some 178,none,none⟩),
 (215,⟨some 1,some false,some (.qn),none,none,none⟩),
 (55,⟨some 1,some false,some (.sl []),some 4,none,none⟩),
 (90,⟨some 3,some true,some (.agg [.sl [],.sl [],.oU]),none,none,some [(0,2),(2,1)]⟩),
 (121,⟨some 1,some false,some (.bU),none,none,none⟩),
 (77,⟨some 4,some true,some (.agg [.str ⟨#[]⟩,.sl [],.int .i64 0,.int .i64 0]),none,none,some [(0,1),(1,1),(2,2)]⟩),
 (91,⟨some 1,some false,some (.sl []),some 84,none,none⟩),
 (116,⟨some 1,some false,some (.sl []),some 120,none,none⟩),
 (58,⟨some 1,some false,some (.sl []),some 195,none,none⟩),
 (87,⟨some 1,some true,some (.agg [.bU]),none,none,some [(0,1)]⟩),
 (22,⟨some 1,some false,some (.sl []),some 5,none,none⟩),
 (195,⟨some 2,some true,some (.agg [.str ⟨#[]⟩,.str ⟨#[]⟩]),none,none,some [(0,1),(1,1)]⟩),
 (117,⟨some 1,some false,some (.sl []),some 121,none,none⟩),
 (75,⟨some 2,some true,some (.agg [.sl [],.int .i64 0]),none,none,some [(0,1),(1,1)]⟩),
 (144,⟨some 2,some true,some (.agg [.str ⟨#[]⟩,.int .i32 0]),none,none,some [(0,1),(1,1)]⟩),
 (141,⟨some 1,some false,some (.sl []),some 144,none,none⟩),
 (114,⟨some 1,some false,some (.oU),none,none,none⟩),
 (134,⟨some 1,some false,some (.sl []),some 3,none,none⟩),
 (223,⟨some 1,some false,some (.int .u64 0),none,some .u64,none⟩),
 (88,⟨some 1,some false,some (.oU),none,none,none⟩),
 (152,⟨some 1,some false,some (.sl []),some 46,none,none⟩),
 (115,⟨some 1,some false,some (.oU),none,none,none⟩),
 (217,⟨some 1,some false,some (.qn),none,none,none⟩),
 (1,⟨some 1,some false,some (.qn),none,none,none⟩)]
noncomputable def pH:mM prog:=⟨NC,by kernel_rfl⟩
def bX:prog.follows .mixedOrders=true:=by kernel_rfl
section
variable{n B:Nat}{s0:Sg}{Oo:Nat->Nat->Prop}{df:List Deferred}{sl O5:List (Nat×V)}{bx Po:List (Nat×List M)}{H:Hp}{c:Code}{cf:Cf}{os os':Array Oper}{r r':List Oper}{ks Y8:List K}{post:Exit->St->Prop}
def tC(ps:List Nat)(h:sT pH n H 5000 (.code c ks) ps sl bx=.at cf O5 Po)(k:cf.den (TC ⟨prog,n,s0,Oo,df⟩) (TL ⟨prog,n,s0,Oo,df⟩) post ⟨O5,Po,H⟩):TC ⟨prog,n,s0,Oo,df⟩ c ⟨sl,bx,H⟩ (Kp (TC ⟨prog,n,s0,Oo,df⟩) ks post):=
 mo (B_ ⟨prog,n,s0,Oo,df⟩) pH _ h k
def tL(ps:List Nat)(h:sT pH n H 5000 (.ops os r ks) ps sl bx=.at cf O5 Po)(k:cf.den (TC ⟨prog,n,s0,Oo,df⟩) (TL ⟨prog,n,s0,Oo,df⟩) post ⟨O5,Po,H⟩):TL ⟨prog,n,s0,Oo,df⟩ os r ⟨sl,bx,H⟩ (Kn (TC ⟨prog,n,s0,Oo,df⟩) ks post):=
 mo (B_ ⟨prog,n,s0,Oo,df⟩) pH _ h k
def tO(ps:List Nat)(h:sT pH n H 5000 (.code c ks) ps sl bx=.at (.ops os r Y8) O5 Po)(k:TL ⟨prog,n,s0,Oo,df⟩ os r ⟨O5,Po,H⟩ (Kn (TC ⟨prog,n,s0,Oo,df⟩) Y8 post)):TC ⟨prog,n,s0,Oo,df⟩ c ⟨sl,bx,H⟩ (Kp (TC ⟨prog,n,s0,Oo,df⟩) ks post):=
 mo (B_ ⟨prog,n,s0,Oo,df⟩) pH _ h k
def tR(ps:List Nat)(h:sT pH n H 5000 (.ops os r ks) ps sl bx=.at (.ops os' r' Y8) O5 Po)(k:TL ⟨prog,n,s0,Oo,df⟩ os' r' ⟨O5,Po,H⟩ (Kn (TC ⟨prog,n,s0,Oo,df⟩) Y8 post)):TL ⟨prog,n,s0,Oo,df⟩ os r ⟨sl,bx,H⟩ (Kn (TC ⟨prog,n,s0,Oo,df⟩) ks post):=
 mo (B_ ⟨prog,n,s0,Oo,df⟩) pH _ h k
def dC(ps:List Nat)(h:sT pH n H 5000 (.code c ks) ps sl bx=.at cf O5 Po)(k:cf.den (DC prog n B) (DL prog n) post ⟨O5,Po,H⟩):DC prog n B c ⟨sl,bx,H⟩ (Kp (DC prog n B) ks post):=
 mo (B' _ n B) pH _ h k
def dL(ps:List Nat)(h:sT pH n H 5000 (.ops os r ks) ps sl bx=.at cf O5 Po)(k:cf.den (DC prog n B) (DL prog n) post ⟨O5,Po,H⟩):DL prog n os r ⟨sl,bx,H⟩ (Kn (DC prog n B) ks post):=
 mo (B' _ n B) pH _ h k
def dO(ps:List Nat)(h:sT pH n H 5000 (.code c ks) ps sl bx=.at (.ops os r Y8) O5 Po)(k:DL prog n os r ⟨O5,Po,H⟩ (Kn (DC prog n B) Y8 post)):DC prog n B c ⟨sl,bx,H⟩ (Kp (DC prog n B) ks post):=
 mo (B' _ n B) pH _ h k
def dR(ps:List Nat)(h:sT pH n H 5000 (.ops os r ks) ps sl bx=.at (.ops os' r' Y8) O5 Po)(k:DL prog n os' r' ⟨O5,Po,H⟩ (Kn (DC prog n B) Y8 post)):DL prog n os r ⟨sl,bx,H⟩ (Kn (DC prog n B) ks post):=
 mo (B' _ n B) pH _ h k
def dF{a:Nat}{ops:List Oper}(h:ru pH n ops.toArray H ops.length ops sl bx []=some ([],O5,Po,es))(b:gO ops sl es.reverse=true)(k:Kp (DC prog n B) ks post .normal ⟨O5,Po,H⟩):
  DC prog n B (.region a ops.toArray true) ⟨sl,bx,H⟩ (Kp (DC prog n B) ks post):=
 Ow bX (λa c=>TF.rn (X:=⟨prog,n,a,c,[]⟩) pH _ h (TF.nil ⟨by simpa using b,rfl⟩)) k
def fR(m:Nat)(h:ru pH n os H m r sl bx []=some (r',O5,Po,es))(k:TF ⟨prog,n,s0,Oo,df⟩ os r' ⟨O5,Po,H⟩ λa b=>q (es.reverse++a) b):TF ⟨prog,n,s0,Oo,df⟩ os r ⟨sl,bx,H⟩ q:=
 TF.rn (X:=⟨prog,n,s0,Oo,df⟩) pH m h k
def iR{I:Hp->Prop}(m:Nat)(h:ru pH n os H m r sl bx []=some (r',O5,Po,es))(k:jr ⟨prog,n,s0,Oo,df⟩ I os r' ⟨O5,Po,H⟩ λa b=>q (es.reverse++a) b):jr ⟨prog,n,s0,Oo,df⟩ I os r ⟨sl,bx,H⟩ q:=
 jr.run (X:=⟨prog,n,s0,Oo,df⟩) pH m (post:=q) h k
end
end Go.Proofs
namespace Go.Sm
open Go.Mt
abbrev Nm:=ByteArray
inductive Xp where
 |mk (k a n:Int) (s:Nm) (c:List Nm) (b:List Xp) (p:Int×Int)
abbrev dM(l:List Nm):List (List D):=l.map λx=>[.str x]
abbrev bQ(k op n:Int)(s:Nm)(names:List Nm)(kids:List (List D))(p:Int×Int):List D:=[.int .u8 k,.int .u8 op,.int .i32 n,.str s,.sl (dM names),.sl kids,.int .i64 p.1,.int .i64 p.2]
mutual
def Xp.cells:Xp->List D
 |.mk k a n s c b p=>bQ k a n s c (rW b) p
def rW:List Xp->List (List D)
 |[]=>[]
 |e::l=>e.cells::rW l
end
def Hz(l:List Xp):rW l=l.map Xp.cells:=by induction l with
 |nil=>rfl
 |cons b l a=>simp[rW,a]
def Xp.kd:Xp->Int|.mk k _ _ _ _ _ _=>k
def Xp.op:Xp->Int|.mk _ o _ _ _ _ _=>o
def Xp.num:Xp->Int|.mk _ _ n _ _ _ _=>n
def Xp.nm:Xp->Nm|.mk _ _ _ s _ _ _=>s
def Xp.names:Xp->List Nm|.mk _ _ _ _ l _ _=>l
def Xp.kids:Xp->List Xp|.mk _ _ _ _ _ l _=>l
def Xp.ps:Xp->Int×Int|.mk _ _ _ _ _ _ p=>p
def Xp.aA(e:Xp):e.cells=bQ e.kd e.op e.num e.nm e.names (e.kids.map Xp.cells) e.ps:=by
 cases e;rw[Xp.cells,Hz];rfl
def Xp.len(e:Xp):e.cells.length=8:=by rw[e.aA];rfl
def Xp.Ca{e k:Xp}(h:k∈e.kids):SizeOf.sizeOf k<SizeOf.sizeOf e:=by
 cases e;have:=auw h;simp only[Xp.kids]at this;simp;omega
abbrev L_:Xp:=.mk 0 0 0 ⟨#[]⟩ [] [] (0,0)
abbrev I8(z:Int):Xp:=.mk 1 0 z ⟨#[]⟩ [] [] (0,0)
structure Va where
 name:Nm
 tk:Int
 tn:Nm
 clock:List (Nm×Nm)
 last:Bool
 first:Xp
 ps:Int×Int
abbrev sU(l:List (Nm×Nm)):List (List D):=l.map λc=>[.str c.1,.str c.2]
def Va.cells(v:Va):List D:=[.str v.name,.int .u8 v.tk,.str v.tn,.sl (sU v.clock),.bool v.last]++v.first.cells++[.int .i64 v.ps.1,.int .i64 v.ps.2]
def Va.len(v:Va):v.cells.length=15:=by simp[Va.cells,Xp.len]
def aE(l:List Va):List (List D):=l.map Va.cells
structure Tr where
 e:Xp
 to:Nm
 fF:Bool
 ps:Int×Int
def Tr.cells(t:Tr):List D:=t.e.cells++[.str t.to,.bool t.fF,.int .i64 t.ps.1,.int .i64 t.ps.2]
def eT(l:List Tr):List (List D):=l.map Tr.cells
mutual
inductive aB where
 |mk (k:Int) (b:List Nm) (f:Nm) (d:List Xp) (c:Bool) (e:Xp) (a:List a_) (p:Int×Int)
inductive a_ where
 |mk (d:Nm) (b:bF) (a c:List Tr) (p:Int×Int)
inductive bF where
 |mk (b:List Va) (a:List aB)
end
abbrev rv(k:Int)(lhs:List Nm)(f:Nm)(args:List (List D))(has:Bool)(e:List D)(aj:List (List D))(p:Int×Int):List D:=[.int .u8 k,.sl (dM lhs),.str f,.sl args,.bool has]++e++[.sl aj,.int .i64 p.1,.int .i64 p.2]
mutual
def aB.cells:aB->List D
 |.mk k b f d c e a p=>rv k b f (d.map Xp.cells) c e.cells (cj a) p
def a_.cells:a_->List D
 |.mk d b a c p=>[.str d]++b.cells++[.sl (eT a),.sl (eT c),.int .i64 p.1,.int .i64 p.2]
def cj:List a_->List (List D)
 |[]=>[]
 |a::l=>a.cells::cj l
def bF.cells:bF->List D
 |.mk b a=>[.sl (aE b),.sl (bH a)]
def bH:List aB->List (List D)
 |[]=>[]
 |q::l=>q.cells::bH l
end
def mN(l:List a_):cj l=l.map a_.cells:=by induction l with
 |nil=>rfl
 |cons b l a=>simp[cj,a]
def mO(l:List aB):bH l=l.map aB.cells:=by induction l with
 |nil=>rfl
 |cons b l a=>simp[bH,a]
def aB.kd:aB->Int|.mk k _ _ _ _ _ _ _=>k
def aB.lhs:aB->List Nm|.mk _ l _ _ _ _ _ _=>l
def aB.f:aB->Nm|.mk _ _ f _ _ _ _ _=>f
def aB.args:aB->List Xp|.mk _ _ _ a _ _ _ _=>a
def aB.has:aB->Bool|.mk _ _ _ _ h _ _ _=>h
def aB.ex:aB->Xp|.mk _ _ _ _ _ e _ _=>e
def aB.aj:aB->List a_|.mk _ _ _ _ _ _ l _=>l
def aB.ps:aB->Int×Int|.mk _ _ _ _ _ _ _ p=>p
def a_.name:a_->Nm|.mk n _ _ _ _=>n
def a_.cy:a_->bF|.mk _ b _ _ _=>b
def a_.fm:a_->List Tr|.mk _ _ u _ _=>u
def a_.fo:a_->List Tr|.mk _ _ _ w _=>w
def a_.ps:a_->Int×Int|.mk _ _ _ _ p=>p
def bF.vars:bF->List Va|.mk v _=>v
def bF.aq:bF->List aB|.mk _ q=>q
def aB.aA(q:aB):q.cells=rv q.kd q.lhs q.f (q.args.map Xp.cells) q.has q.ex.cells (q.aj.map a_.cells) q.ps:=by cases q;rw[aB.cells,mN];rfl
def bF.aA(b:bF):b.cells=[.sl (aE b.vars),.sl (b.aq.map aB.cells)]:=by cases b;rw[bF.cells,mO];rfl
def a_.aA(a:a_):a.cells=[.str a.name,.sl (aE a.cy.vars),.sl (a.cy.aq.map aB.cells),.sl (eT a.fm),.sl (eT a.fo),.int .i64 a.ps.1,.int .i64 a.ps.2]:=by cases a;rw[a_.cells,bF.aA];rfl
def aB.len(q:aB):q.cells.length=16:=by rw[q.aA];simp[rv,Xp.len]
def a_.KR(a:a_):SizeOf.sizeOf a.cy<SizeOf.sizeOf a:=by cases a;simp[a_.cy];omega
def aB.KS{q:aB}{a:a_}(h:a∈q.aj):SizeOf.sizeOf a.cy<SizeOf.sizeOf q:=by
 have:=a.KR;cases q;have:=auw h;simp only[aB.aj]at this;simp;omega
structure Nd where
 name:Nm
 ins:List Va
 outs:List Va
 b:bF
 ps:Int×Int
def Nd.cells(n:Nd):List D:=[.str n.name,.sl (aE n.ins),.sl (aE n.outs),.sl (aE n.b.vars),.sl (n.b.aq.map aB.cells),.int .i64 n.ps.1,.int .i64 n.ps.2]
structure En where
 name:Nm
 c9:List Nm
 ps:Int×Int
def En.cells(e:En):List D:=[.str e.name,.sl (dM e.c9),.int .i64 e.ps.1,.int .i64 e.ps.2]
structure Pg where
 aG:List En
 nodes:List Nd
abbrev Pg.cells(p:Pg):List D:=[.sl (p.aG.map En.cells),.sl (p.nodes.map Nd.cells)]
def aR(l:List Nat):Nat:=l.foldr (·+ ·) 0
def i_(a:Nat)(l:List Nat):aR (a::l)=a+aR l:=rfl
def kJ(a b:List Nat):aR (a++b)=aR a+aR b:=by
 induction a with
 |nil=>simp[aR]
 |cons x a c=>simp only[aR,atp,auZ]at c⊢;omega
def jM{l:List Nat}{x:Nat}(h:x∈l):x<=aR l:=by
 induction l with
 |nil=>cases h
 |cons b l a=>
  simp only[aR,auZ];rcases asQ.1 h with rfl|h
  .omega
  .have:=a h;simp only[aR]at this;omega
def uL(l:List Nat)(i:Nat):aR (l.take i)<=aR l:=by
 have:=kJ (l.take i) (l.drop i);rw[as9]at this;omega
def fY{a:Type}(f:a->Nat){l:List a}{i:Nat}(h:i<l.length):aR ((l.take (i+1)).map f)=aR ((l.take i).map f)+f l[i]/\aR ((l.take (i+1)).map f)<=aR (l.map f):=by
 refine⟨?_,?_⟩
 .rw[asA h,asN,kJ];simp[aR]
 .have:=uL (l.map f) (i+1);rw[<-auA]at this;exact this
def dh(k:Int):Nat:=if k=9\/k=10\/k=11 then 1 else 0
def gR(k:Int):Nat:=if k=2\/k=4 then 1 else 0
mutual
def xP:Xp->Nat
 |.mk k _ _ _ _ a _=>dh k+dS a
def dS:List Xp->Nat
 |[]=>0
 |e::l=>xP e+dS l
end
def ry(l:List Xp):dS l=aR (l.map xP):=by induction l with
 |nil=>rfl
 |cons b l a=>rw[dS,a];rfl
def EZ(e:Xp):xP e=dh e.kd+aR (e.kids.map xP):=by cases e;rw[xP,ry];rfl
def aS(l:List Va):Nat:=(l.filter (·.last)).length
def lS(l:List Va)(i:Nat):aS (l.take i)<=aS l:=by
 have:aS (l.take i)+aS (l.drop i)=aS l:=by
  unfold aS;rw[<-asq,<-List.filter_append,as9]
 omega
def Ap(a b:List Va):aS (a++b)=aS a+aS b:=by simp[aS]
def pQ(l:List Va)(w:Va):aS (l++[w])=aS l+(if w.last then 1 else 0):=by
 rw[Ap];congr 1;cases h:w.last<;>simp[aS,h]
mutual
def qP:aB->Nat
 |.mk k _ _ b _ e a _=>xP e+dS b+gR k+kX a
def fP:a_->Nat
 |.mk _ b _ _ _=>bP b
def kX:List a_->Nat
 |[]=>0
 |a::l=>fP a+kX l
def bP:bF->Nat
 |.mk b a=>aS b+vx a
def vx:List aB->Nat
 |[]=>0
 |q::l=>qP q+vx l
end
def AP(l:List a_):kX l=aR (l.map fP):=by induction l with
 |nil=>rfl
 |cons b l a=>rw[kX,a];rfl
def xI(l:List aB):vx l=aR (l.map qP):=by induction l with
 |nil=>rfl
 |cons b l a=>rw[vx,a];rfl
def qb(b:bF):bP b=aS b.vars+aR (b.aq.map qP):=by cases b;rw[bP,xI];rfl
def nC(a:a_):fP a=bP a.cy:=by cases a;rw[fP];rfl
def jk(q:aB):qP q=xP q.ex+aR (q.args.map xP)+gR q.kd+aR (q.aj.map fP):=by cases q;rw[qP,AP,ry];rfl
inductive jD:Xp->Prop where
 |mk {k c n:Int} {s:Nm} {b:List Nm} {a:List Xp} {p:Int×Int} (d:k=9->a≠[]) (f:a.length<=1000000) (g:b.length<=1000000) (h:∀e∈a,jD e):jD (.mk k c n s b a p)
inductive uc:bF->Prop where
 |mk {b:List Va} {a:List aB} (c:b.length<=1000000) (d:a.length<=1000000)
   (h3:∀q∈a,∀a∈q.aj,uc a.cy) (h4:∀q∈a,q.aj.length<=1000) (h5:∀q∈a,jD q.ex/\q.args.length<=1000000/\∀e∈q.args,jD e) (h6:∀q∈a,q.lhs.length<=1000000)
   (h7:∀q∈a,∀a∈q.aj,a.fm.length<=1000000/\a.fo.length<=1000000):uc (.mk b a)
abbrev mq:Nm:=⟨#[102,97,108,115,101]⟩
abbrev pb:Nm:=⟨#[116,114,117,101]⟩
def k_(l:List Nm)(x:Nm):Int:=match l.findIdx? (λy=>decide (y=x))with
 |some i=>(i:Int)
 |none=> -1
def mr(l:List Nm)(x:Nm):Bool:=l.any λy=>decide (y=x)
def oL{l:List Nm}{x:Nm} :mr l x=true↔x∈l:=by simp[mr]
def eU(en:List En)(tk:Int)(a:Nm):List Nm:=
 if tk=1 then [mq,pb]else if tk=3 then(match en.find? (λe=>decide (e.name=a))with|some e=>e.c9|none=>[])else []
def qC(en:List En)(x:Nm):Int:=match en.find? (λt=>mr t.c9 x)with
 |some t=>k_ t.c9 x
 |none=>0
def pc(en:List En)(e:Xp):Int:=if e.kd=1\/e.kd=2 then e.num else if e.kd=3 then qC en e.nm else 0
def gV(en:List En)(x:Nm):Int:=if x=mq then 0 else if x=pb then 1 else qC en x
def i32(n:Int):Int:=IntKind.i32.wrap n
def kY(b:Bool):Int:=if b then 1 else 0
def Cb(op a:Int):Int:=if op=1 then kY (a==0)else if op=2 then i32 (-a)else 0
def jl(op a b:Int):Int:=
 if op=3 then i32 (a+b)else if op=4 then i32 (a-b)else if op=5 then i32 (a*b)
 else if op=6 then(if b=0 then 0 else if a= -2147483648/\b= -1 then a else i32 (Int.tdiv a b))
 else if op=7 then(if b=0 then 0 else if a= -2147483648/\b= -1 then 0 else Int.tmod a b)
 else if op=8 then kY (a !=0&&b !=0)else if op=9 then kY (a !=0||b !=0)
 else if op=10\/op=12 then kY (a !=b)else if op=11 then kY (a==b)
 else if op=13 then kY (decide (a<b))else if op=14 then kY (decide (a<=b))else if op=15 then kY (decide (b<a))else if op=16 then kY (decide (b<=a))else 0
def xf(en:List En)(k:Int)(kids:List Xp):List (Option Int):=
 if k=9 then [some (match kids with|e::_=>pc en e|[]=>0)]else if k=10 then [some 0]else if k=11 then [some 1]else []
mutual
def iG(en:List En):Xp->List (Option Int)
 |.mk k _ _ _ _ a _=>xf en k a++jY en a
def jY(en:List En):List Xp->List (Option Int)
 |[]=>[]
 |e::l=>iG en e++jY en l
end
def gx(en:List En)(l:List Va):List (Option Int):=(l.filter (·.last)).map λv=>some (pc en v.first)
mutual
def uM(en:List En):aB->List (Option Int)
 |.mk k _ _ b _ e a _=>List.replicate (gR k) none++(iG en e++jY en b)++mC en a
def KT(en:List En):a_->List (Option Int)
 |.mk _ b _ _ _=>kZ en b
def mC(en:List En):List a_->List (Option Int)
 |[]=>[]
 |a::l=>KT en a++mC en l
def kZ(en:List En):bF->List (Option Int)
 |.mk b a=>gx en b++jd en a
def jd(en:List En):List aB->List (Option Int)
 |[]=>[]
 |q::l=>uM en q++jd en l
end
def gH(en:List En)(d:Nd):List (Option Int):=kZ en d.b++gx en d.outs
def bT(d:Nd):Nat:=bP d.b+aS d.outs
inductive US where
 |mk (i:Nat) (c:Nat->Int) (a:Nat->Bool) (b:Nat->Option US)
def US.i:US->Nat|.mk i _ _ _=>i
def US.mem:US->Nat->Int|.mk _ m _ _=>m
def US.cw:US->Nat->Bool|.mk _ _ p _=>p
def US.an:US->Nat->Option US|.mk _ _ _ s=>s
def bZ(l:List (Option Int))(k:Nat):Int:=((l[k]?).getD none).getD 0
def US.init(p:Pg)(i:Nat):US:=.mk i (λk=>match p.nodes[i]? with|some d=>bZ (gH p.aG d) k|none=>0) (λ_=>false) (λ_=>none)
structure wA where
 vars:List Va
 cK:List (Option Nat)
 aq:List aB
 pos:List Nat
def b_:List Va->Nat->List (Option Nat)
 |[],_=>[]
 |v::l,a=>if v.last then some a::b_ l (a+1)else none::b_ l a
def dJ:List aB->Nat->List Nat
 |[],_=>[]
 |q::l,a=>a::dJ l (a+qP q)
def uN(b:bF)(a:Nat):wA:=⟨b.vars,b_ b.vars a,b.aq,dJ b.aq (a+aS b.vars)⟩
def sV(d:Nd):wA:=⟨d.ins++d.outs++d.b.vars,List.replicate d.ins.length none++b_ d.outs (bP d.b)++b_ d.b.vars 0,d.b.aq,dJ d.b.aq (aS d.b.vars)⟩
def fN(l:List Va)(x:Nm):Option Nat:=l.findIdx? (λv=>decide (v.name=x))
def la(l:List Nm)(x:Nm):List Nm:=if mr l x then l else l++[x]
mutual
def cm:aB->List Nm
 |.mk _ b _ _ _ _ a _=>jZ b a
def jZ(l:List Nm):List a_->List Nm
 |[]=>l
 |a::r=>jZ ((rz a).foldl la l) r
def rz:a_->List Nm
 |.mk _ b _ _ _=>kp b
def kp:bF->List Nm
 |.mk b a=>lu b [] a
def lu(a:List Va)(l:List Nm):List aB->List Nm
 |[]=>l
 |q::r=>lu a (((cm q).filter λx=>(fN a x).isNone).foldl la l) r
end
abbrev Path:=List Nat
inductive It where
 |cell (a:Path) (k:Nat)|call (a:Path) (j:Nat)|br (a:Path) (j:Nat)|lv (a:Path) (j:Nat)
structure aI where
 ok:Path->Prop
 fr:Path->wA
 val:Path->Nat->Option Int
 rk:Path->Nat->Nat
 sb:Path->Nat->Nat
 ek:Path->Nat->Nat
 br:Path->Nat->Nat
 iE:Path->Nat->Bool
 ev:Path->Nat->Int
 ew:Path->Nat->List (Nat×Int)
 outs:Path->Nat->List Int
 iF:Path->Nat->US
 k7:Path->Nat->Nat
 nan:Path->Nat->Bool
 rd:Nat->Int
 rp:Nat->Bool
 rs:Nat->Option US
 dX:Nat
 sz:Nat
 ap:List It
 wt:It->Nat
def aI.find(c:aI):Path->Nm->Option (Path×Nat)
 |[],x=>(fN (c.fr []).vars x).map λk=>([],k)
 |j::a,x=>match fN (c.fr (j::a)).vars x with
  |some k=>some (j::a,k)
  |none=>c.find a x
def aI.get(c:aI)(σ:Path×Nat):Int:=(c.val σ.1 σ.2).getD 0
def aI.jE(c:aI)(σ:Path×Nat):Nat:=c.rk σ.1 σ.2
def aI.c9(en:List En)(c:aI)(σ:Path×Nat):List Nm:=match(c.fr σ.1).vars[σ.2]? with
 |some v=>eU en v.tk v.tn
 |none=>[]
section
variable(en:List En)(c:aI)
inductive gI(π:Path):Nat->Xp->Nat->Int->List (Nat×Int)->Prop where
 |uO {r k op n s names kids p a} (b:k=1\/k=2\/k=3):gI π r (.mk k op n s names kids p) a (pc en (.mk k op n s names kids p)) []
 |var {r op n s names kids p a σ} (h:c.find π s=some σ) (b:c.jE σ<r):gI π r (.mk 4 op n s names kids p) a (c.get σ) []
 |last {r op n s names kids p a σ q} (h:c.find π s=some σ) (b:(c.fr σ.1).cK[σ.2]?=some (some q)) (d:q<c.sz):gI π r (.mk 5 op n s names kids p) a (c.rd q) []
 |un {r op n s names x p a v w} (h:gI π r x a v w):gI π r (.mk 6 op n s names [x] p) a (Cb op v) w
 |bin {r op n s names x y p a v w v' w'} (h:gI π r x a v w) (b:gI π r y (a+xP x) v' w'):gI π r (.mk 7 op n s names [x,y] p) a (jl op v v') (w++w')
 |ite {r op n s names x y z p a v w v' w' v'' VA} (h:gI π r x a v w) (b:gI π r y (a+xP x) v' w') (d:gI π r z (a+xP x+xP y) v'' VA):gI π r (.mk 8 op n s names [x,y,z] p) a (if v=0 then v'' else v') (w++w'++VA)
 |fO {r op n s names x y p a v w} (b:a<c.sz) (h:gI π c.dX y (a+1+xP x) v w):gI π r (.mk 9 op n s names [x,y] p) a (c.rd a) ((a,v)::w)
 |pre {r op n s names y p a v w} (b:a<c.sz) (h:gI π c.dX y (a+1) v w):gI π r (.mk 10 op n s names [y] p) a (c.rd a) ((a,v)::w)
 |arrow {r op n s names x y p a v w v' w'} (d:a<c.sz) (h:gI π r x (a+1) v w) (b:gI π r y (a+1+xP x) v' w'):gI π r (.mk 11 op n s names [x,y] p) a (if c.rd a=0 then v' else v) ((a,0)::(w++w'))
 |fq {r op n s names x p a v w} (h:gI π r x a v w):gI π r (.mk 12 op n s names [x] p) a v w
 |merge {r op n s names kids p a σ i cn e v w} (h:c.find π s=some σ) (b:c.jE σ<r) (d:names[i]?=some cn) (f:k_ (c.c9 en σ) cn=c.get σ)
   (TE:∀(b:Nat) (x:Nm),b<i->names[b]?=some x->k_ (c.c9 en σ) x≠c.get σ) (b:kids[i]?=some e) (he:gI π r e (a+dS (kids.take i)) v w):gI π r (.mk 13 op n s names kids p) a v w
inductive vy(π:Path)(r:Nat):List Xp->Nat->List Int->List (Nat×Int)->Prop where
 |nil {a} :vy π r [] a [] []
 |cons {e l a v w vs ws} (h:gI en c π r e a v w) (b:vy π r l (a+xP e) vs ws):vy π r (e::l) a (v::vs) (w++ws)
inductive yR(π:Path)(r:Nat):List (Nm×Nm)->Bool->Prop where
 |nil:yR π r [] true
 |no {k x l σ} (h:c.find π x=some σ) (a:c.jE σ<r) (d:∀n,c.val σ.1 σ.2=some n->k_ (c.c9 en σ) k≠n):yR π r ((k,x)::l) false
 |xv {k x l σ n b} (h:c.find π x=some σ) (a:c.jE σ<r) (d:c.val σ.1 σ.2=some n) (e:k_ (c.c9 en σ) k=n) (f:yR π r l b):yR π r ((k,x)::l) b
inductive pd(π:Path)(r:Nat):List Tr->Option Tr->Prop where
 |nil:pd π r [] none
 |xv {t l v} (h:gI en c π r t.e 0 v []) (a:v≠0):pd π r (t::l) (some t)
 |no {t l o} (h:gI en c π r t.e 0 0 []) (a:pd π r l o):pd π r (t::l) o
inductive Src:Nat->Path->Nat->Nm->Option (Path×Nat)->Prop where
 |leaf {r π j x q} (a:(c.fr π).aq[j]?=some q) (b:q.kd=1\/q.kd=2) (d:c.ek π j<=r):Src r π j x (some (π,j))
 |br {r π j x q j' a s} (b:(c.fr π).aq[j]?=some q) (d:q.kd=3\/q.kd=4\/q.kd=5) (e:c.ek π j<=r) (f:(c.fr (j::π)).aq[j']?=some a) (g:x∈cm a)
   (hf:∀(i:Nat) (q:aB),i<j'->(c.fr (j::π)).aq[i]?=some q->x∉cm q) (h:Src r (j::π) j' x s):Src r π j x s
 |last {r π j x q} (a:(c.fr π).aq[j]?=some q) (b:q.kd=3\/q.kd=4\/q.kd=5) (d:c.ek π j<=r) (e:∀a∈(c.fr (j::π)).aq,x∉cm a):Src r π j x none
end
def gy(q:aB)(p:Nat):Nat:=if q.kd=4 then p+1 else p+xP q.ex
def cG(q:aB)(p a:Nat):Nat:=gy q p+aR ((q.aj.take a).map fP)
def fG(l:List Nd)(x:Nm):Option Nat:=l.findIdx? (λd=>decide (d.name=x))
def mP(l:List a_)(x:Nm):Option Nat:=l.findIdx? (λa=>decide (a.name=x))
def aI.ja(c:aI)(π:Path)(q:aB):Prop:=(q.kd=1\/q.kd=2)->match q.lhs with
 |[]=>True
 |x::_=>∃a,c.find π x=some a/\(c.val a.1 a.2).isSome=true
section
variable(P:Pg)(step:US->List Int->List Int->US->Prop)(c:aI)
structure pf(π:Path)(j:Nat)(q:aB)(p:Nat)(a:a_):Prop where
 ha:q.aj[c.br π j]?=some a
 ok:c.ok (j::π)
 fr:c.fr (j::π)=uN a.cy (cG q p (c.br π j))
inductive KU(π:Path)(j:Nat)(q:aB)(p:Nat):Prop where
 |df (a:q.kd=1) (x:Nm) (d:q.lhs=[x]) (e:c.ja π q->gI P.aG c π (c.ek π j) q.ex p (c.ev π j) (c.ew π j))
 |call (g:q.kd=2) (h:p<c.sz) (a:Nat) (i:fG P.nodes q.f=some a) (d e:List (Nat×Int)) (f:List Int)
   (g:c.ja π q->if q.has then gI P.aG c π (c.ek π j) q.ex (p+1) (c.ev π j) d else c.ev π j=0/\d=[])
   (h1:c.ja π q->vy P.aG c π (c.ek π j) q.args (p+1+xP q.ex) f e) (hw:c.ew π j=d++e)
   (d:c.ja π q->step (((if c.ev π j=0 then c.rs p else none)).getD (US.init P a)) f (c.outs π j) (c.iF π j))
   (hi:c.ja π q->∀u,c.rs p=some u->u.i=a)
   (ho:c.ja π q->q.lhs.length<=(c.outs π j).length)
 |sw (d:q.kd=3) (e:gI P.aG c π (c.ek π j) q.ex p (c.ev π j) (c.ew π j)) (a:a_) (f:pf c π j q p a) (g:gV P.aG a.name=c.ev π j)
   (hf:∀(i:Nat) (b:a_),i<c.br π j->q.aj[i]?=some b->gV P.aG b.name≠c.ev π j) (a:c.iE π j=false)
 |aN (d:q.kd=4) (e:p<c.sz) (s:Nat) (a:a_) (g:c.rd p=(s:Int)) (f:q.aj[s]?=some a) (t:Option Tr) (h:pd P.aG c π (c.ek π j) a.fm t)
   (ht:match t with|none=>c.br π j=s/\c.iE π j=c.rp p|some t=>mP q.aj t.to=some (c.br π j)/\c.iE π j= !t.fF) (a:a_) (d:pf c π j q p a)
   (t':Option Tr) (TW:pd P.aG c (j::π) c.dX a.fo t') (Wl:match t' with|none=>c.k7 π j=c.br π j/\c.nan π j=false|some t=>mP q.aj t.to=some (c.k7 π j)/\c.nan π j= !t.fF)
   (hw:c.ew π j=[])
 |reset (d:q.kd=5) (e:gI P.aG c π (c.ek π j) q.ex p (c.ev π j) (c.ew π j)) (a:a_) (h:pf c π j q p a) (g:c.br π j=0) (f:c.iE π j=decide (c.ev π j≠0))
def ic(f:wA)(k:Nat)(v:Va)(j:Nat):Prop:=fN f.vars v.name=some k/\(∃q,f.aq[j]?=some q/\v.name∈cm q)/\∀(i:Nat) (q:aB),j<i->f.aq[i]?=some q->v.name∉cm q
structure Cc(π:Path)(k:Nat)(v:Va)(a:Option Nat):Prop where
 pr:yR P.aG c π (c.sb π k) v.clock (c.val π k).isSome
 sr:c.sb π k<=c.rk π k
 tp:c.rk π k<c.dX
 df:∀n,c.val π k=some n->∃j s,ic (c.fr π) k v j/\Src c (c.sb π k) π j v.name s/\match s with
  |none=>∃p,a=some p/\p<c.sz/\n=c.rd p
  |some (a,b)=>c.find a v.name=some (π,k)/\∃q,(c.fr a).aq[b]?=some q/\(q.kd=1->q.lhs=[v.name]/\n=c.ev a b)/\(q.kd=2->v.name∈q.lhs/\c.ja a q)
def mQ(k:Nat)(v:Int):Prop:=(∃a j q,c.ok a/\(c.fr a).aq[j]?=some q/\c.ja a q/\(k,v)∈c.ew a j)\/(∃a i,c.ok a/\(c.fr a).cK[i]?=some (some k)/\c.val a i=some v)
 \/(∃a j q,c.ok a/\(c.fr a).aq[j]?=some q/\q.kd=4/\(c.fr a).pos[j]?=some k/\v=(c.k7 a j:Int))
def wB(k:Nat)(b:Bool):Prop:=∃a j q,c.ok a/\(c.fr a).aq[j]?=some q/\q.kd=4/\(c.fr a).pos[j]?=some k/\b=c.nan a j
def vA(k:Nat)(u:US):Prop:=∃a j q,c.ok a/\(c.fr a).aq[j]?=some q/\q.kd=2/\c.ja a q/\(c.fr a).pos[j]?=some k/\u=c.iF a j
def fH(k:Nat):Prop:=∃a j q p b,c.ok a/\(c.fr a).aq[j]?=some q/\(c.fr a).pos[j]?=some p/\(q.kd=3\/q.kd=4\/q.kd=5)/\c.iE a j=true/\q.aj[c.br a j]?=some b/\cG q p (c.br a j)<=k/\k<cG q p (c.br a j)+bP b.cy
structure gW(d:Nd)(u:US)(ins outs:List Int)(u':US):Prop where
 nd:P.nodes[u.i]?=some d
 sz:c.sz=bT d
 Cd:c.ok []
 iK:∀j π,c.ok (j::π)->c.ok π/\∃q,(c.fr π).aq[j]?=some q/\(q.kd=3\/q.kd=4\/q.kd=5)
 qc:c.fr []=sV d
 sW:ins.length=d.ins.length
 yS:∀(k:Nat) (v:Va) (n:Int),d.ins[k]?=some v->ins[k]?=some n->c.val [] k=some n/\c.rk [] k<c.dX
 cell:∀π k v a,c.ok π->(c.fr π).vars[k]?=some v->(c.fr π).cK[k]?=some a->(π=[]->d.ins.length<=k)->Cc P c π k v a
 eq:∀π j q p,c.ok π->(c.fr π).aq[j]?=some q->(c.fr π).pos[j]?=some p->KU P step c π j q p/\c.ek π j<c.dX
 lhs:∀π j q,c.ok π->(c.fr π).aq[j]?=some q->q.kd=2->c.ja π q->∀(i:Nat) (x:Nm),q.lhs[i]?=some x->∃σ n,c.find π x=some σ/\c.val σ.1 σ.2=some n/\(c.outs π j)[i]?=some n/\c.sb σ.1 σ.2=c.ek π j/\c.ek π j<=c.jE σ
  /\(∀a b e,q.lhs[a]?=some b->c.find π b=some e->e=σ->a=i)/\∃s a,ic (c.fr σ.1) σ.2 s a/\s.name=x/\(c.fr σ.1).vars[σ.2]?=some s/\Src c (c.sb σ.1 σ.2) σ.1 a x (some (π,j))/\(σ.1=[]->d.ins.length<=σ.2)
 nx:∀π j,c.k7 π j<=1000
 vB:∀π,¬c.ok π->(c.fr π).vars=[]/\(c.fr π).aq=[]
 gh:∀(π:Path) (j:Nat) (q:aB),(c.fr π).aq[j]?=some q->q.kd=2->c.sb (j::π) 0=c.ek π j/\c.val (j::π) 0=none
 lh:∀(π:Path) (j:Nat) (q:aB),c.ok π->(c.fr π).aq[j]?=some q->∀x∈q.lhs,∀σ,c.find π x=some σ->σ.1=[]->d.ins.length<=σ.2
 I9:∀(i:Nat) (v:Va),d.outs[i]?=some v->c.find [] v.name=some ([],d.ins.length+i)
 HA:∀(π:Path) (j:Nat) (q:aB) (x:Nm),c.ok π->(c.fr π).aq[j]?=some q->q.kd=1->q.lhs=[x]->c.ja π q->∃σ s a,c.find π x=some σ/\ic (c.fr σ.1) σ.2 s a/\s.name=x/\(c.fr σ.1).vars[σ.2]?=some s/\Src c (c.sb σ.1 σ.2) σ.1 a x (some (π,j))/\(σ.1=[]->d.ins.length<=σ.2)
 I_:∀(π:Path) (j:Nat) (q:aB),c.ok π->(c.fr π).aq[j]?=some q->∀x∈cm q,∃σ,c.find π x=some σ
 aj:∀(π:Path) (j:Nat) (q:aB),c.ok π->(c.fr π).aq[j]?=some q->q.kd=1\/q.kd=2->q.aj=[]
 rd:∀k,k<c.sz->(fH c k->c.rd k=bZ (gH P.aG d) k)/\(¬fH c k->c.rd k=u.mem k)
 rp:∀k,k<c.sz->(fH c k->(gH P.aG d)[k]?=some none->c.rp k=false)/\(¬(fH c k/\(gH P.aG d)[k]?=some none)->c.rp k=u.cw k)
 rs:∀k,k<c.sz->(fH c k->(gH P.aG d)[k]?=some none->c.rs k=none)/\(¬(fH c k/\(gH P.aG d)[k]?=some none)->c.rs k=u.an k)
 nm:∀k,k<c.sz->(∀v,mQ c k v->u'.mem k=v)/\((∀v,¬mQ c k v)->u'.mem k=c.rd k)
 np:∀k,k<c.sz->(∀v,wB c k v->u'.cw k=v)/\((∀v,¬wB c k v)->u'.cw k=c.rp k)
 ns:∀k,k<c.sz->(∀v,vA c k v->u'.an k=some v)/\((∀v,¬vA c k v)->u'.an k=c.rs k)
 ui:u'.i=u.i
 wc:∀π k v,c.ok π->(c.fr π).vars[k]?=some v->(π=[]->d.ins.length<=k)->It.cell π k∈c.ap/\1<=c.wt (.cell π k)/\∀j a j' q,ic (c.fr π) k v j->Src c (c.sb π k) π j v.name (some (a,j'))->(c.fr a).aq[j']?=some q->q.kd=1->1+(c.ew a j').length<=c.wt (.cell π k)
 wq:∀π j q,c.ok π->(c.fr π).aq[j]?=some q->(q.kd=2->c.ja π q->It.call π j∈c.ap/\(c.ew π j).length<=c.wt (.call π j))/\(q.kd=3\/q.kd=4\/q.kd=5->It.br π j∈c.ap/\(c.ew π j).length<=c.wt (.br π j))/\(q.kd=4->It.lv π j∈c.ap/\1<=c.wt (.lv π j))
 ws:(c.ap.map c.wt).foldr (·+ ·) 0<=1000000000000
 outs:outs=(List.range d.outs.length).map λi=>c.get ([],d.ins.length+i)
end
def eV(P:Pg):Nat->US->List Int->List Int->US->Prop
 |0,_,_,_,_=>False
 |n+1,u,b,e,a=>∃c d,gW P (eV P n) c d u b e a
variable{n k iu:Nat}{P:Pg}{f:Nat->M}{u:US}{F:Nat->Prop}{H:Hp}
def bD(n:Nat)(f:Nat->M):List M:=(List.range n).map f
def iO(h:k<n):(bD n f)[((k:Nat):Int).toNat*1]?=some (f k):=by simp[bD,h]
def sX(f:Nat->M)(k:Nat)(v:M)(j:Nat):M:=if j=k then v else f j
def nj(v:M)(h:k<n):dV (bD n f) (((k:Nat):Int).toNat*1) [v]=some (bD n (sX f k v)):=by
 have e:((k:Nat):Int).toNat*1=k:=by omega
 rw[e];unfold dV;have b:Nat.ble (k+ [v].length) (bD n f).length=true:=by
  rw[Nat.ble_eq];simp[bD];omega
 rw[b];simp only[as3]
 congr 1
 apply List.ext_getElem
 .simp[bD];try omega
 .intro j d c;simp only[bD,asD,List.length_range]at c;rcases atz j k with a|a|a
  .rw[auh (by simp[bD];omega),auh (by simp[bD];omega)];simp[bD,sX,show ¬j=k by omega]
  .subst a;rw[auh (by simp[bD];omega),auK (by simp;omega)];simp[bD,sX,auj (avc h)]
  .rw[auK (by simp;omega)];simp[bD,auj (avc h),sX,show ¬j=k by omega]
   congr 1
   omega
def qd{g:Nat->M}(h:∀k,k<n->f k=g k):bD n f=bD n g:=by
 unfold bD;exact as6 λk a=>h k (atW.1 a)
abbrev I'(d:Nd):List M:=[.d (.str d.name),.d (.sl (aE d.ins)),.d (.sl (aE d.outs)),.d (.sl (aE d.b.vars)),.d (.sl (d.b.aq.map aB.cells)),.d (.int .i64 d.ps.1),.d (.int .i64 d.ps.2)]
abbrev pg(P:Pg)(d:Nd)(im ip jy:Nat):List M:=[.d (.sl (P.aG.map En.cells)),.d (.sl (P.nodes.map Nd.cells))]++I' d++[.bC im 0 (bT d),.bC ip 0 (bT d),.bC jy 0 (bT d),.d (.int .i64 ((bT d:Nat):Int))]
abbrev iP(f:Nat->Int)(k:Nat):M:=.d (.int .i32 (f k))
abbrev jT(f:Nat->Bool)(k:Nat):M:=.d (.bool (f k))
abbrev fb(f:Nat->Option US)(ad:Nat->Nat)(k:Nat):M:=match f k with
 |none=>.d .bU
 |some _=>.ref (ad k) 0
inductive Ce where
 |un|me|pe|su
 |sb (k:Nat)
def iQ(P:Pg):Nat->US->Nat->(Nat->Prop)->Hp->Prop
 |0,_,_,_,_=>False
 |n+1,u,f,F,H=>∃(d:Nd) (a:Nat->Option Ce) (b c e:Nat) (g:Nat->Nat),P.nodes[u.i]?=some d/\(∀b,F b↔a b≠none)/\(∀a,F a->a<H.length)/\
   (a f=some .un/\a b=some .me/\a c=some .pe/\a e=some .su)/\
   H[f]?=some (.box (pg P d b c e))/\H[b]?=some (.row false 1 0 (bD (bT d) (iP u.mem)))/\H[c]?=some (.row false 1 0 (bD (bT d) (jT u.cw)))/\
   H[e]?=some (.row false 1 0 (bD (bT d) (fb u.an g)))/\
   ∀k,k<bT d->∀b,u.an k=some b->iQ P n b (g k) (λb=>a b=some (.sb k)) H
def iQ.frame:∀{n:Nat} {u:US} {iu:Nat} {F:Nat->Prop} {H K:Hp},iQ P n u iu F H->(∀a,F a->K[a]?=H[a]?)->H.length<=K.length->iQ P n u iu F K
 |0,_,_,_,_,_,h,_,_=>h.elim
 |n+1,u,iu,F,H,K,h,g,c=>by
  obtain⟨d,v,i,j,k,l,m,f,o,⟨p,q,r,s⟩,w,x,y,z,t⟩:=h;refine⟨d,v,i,j,k,l,m,f,λa b=>atm (o a b) c,⟨p,q,r,s⟩,?_,?_,?_,?_,λk h i j=>(t k h i j).frame (λa b=>g a ((λe=>(f _).2 (by rw[e];simp)) b)) c⟩
  .grind
  .grind
  .grind
  .grind
def iQ.lt(h:iQ P n u iu F H):∀a,F a->a<H.length:=by
 cases n with
 |zero=>exact h.elim
 |succ n=>obtain⟨_,_,_,_,_,_,_,_,b,_⟩:=h;exact b
def iQ.congr{G:Nat->Prop}(h:iQ P n u iu F H)(e:∀a,F a↔G a):iQ P n u iu G H:=by
 have:F=G:=funext λa=>propext (e a)
 subst this;exact h
def iQ.up:∀{n:Nat} {u:US} {iu:Nat} {F:Nat->Prop} {H:Hp},iQ P n u iu F H->iQ P (n+1) u iu F H
 |0,_,_,_,_,h=>h.elim
 |n+1,u,iu,F,H,h=>by
  obtain⟨d,q,a,b,c,e,f,g,i,j,k,l,m,o,p⟩:=h;exact⟨d,q,a,b,c,e,f,g,i,j,k,l,m,o,λk a b c=>(p k a b c).up⟩
end Go.Sm
namespace Go.Sm
open Go.Mt
def AQ(en:List En)(k:Int)(kids:List Xp):(xf en k kids).length=dh k:=by
 unfold xf dh;split
 .grind
 .grind
mutual
def Dk(en:List En):∀e:Xp,(iG en e).length=xP e
 |.mk k b n s c a p=>by rw[iG,xP,asq,AQ,tU en a]
def tU(en:List En):∀l:List Xp,(jY en l).length=dS l
 |[]=>rfl
 |e::l=>by rw[jY,dS,asq,Dk en e,tU en l]
end
def nE(en:List En)(l:List Va):(gx en l).length=aS l:=by simp[gx,aS]
mutual
def Ja(en:List En):∀q:aB,(uM en q).length=qP q
 |.mk k b f d c e a p=>by rw[uM,qP];simp only[asq,atM,Dk,tU,wC en a];omega
def Jb(en:List En):∀a:a_,(KT en a).length=fP a
 |.mk c b u w p=>by rw[KT,fP,vD en b]
def wC(en:List En):∀l:List a_,(mC en l).length=kX l
 |[]=>rfl
 |a::l=>by rw[mC,kX,asq,Jb en a,wC en l]
def vD(en:List En):∀b:bF,(kZ en b).length=bP b
 |.mk c a=>by rw[kZ,bP,asq,nE,qD en a]
def qD(en:List En):∀l:List aB,(jd en l).length=vx l
 |[]=>rfl
 |q::l=>by rw[jd,vx,asq,Ja en q,qD en l]
end
def AR(en:List En)(l:List Xp):jY en l=(l.map (iG en)).flatten:=by
 induction l with
 |nil=>rfl
 |cons b l a=>rw[jY,a];rfl
def lT(en:List En)(l:List aB):jd en l=(l.map (uM en)).flatten:=by
 induction l with
 |nil=>rfl
 |cons b l a=>rw[jd,a];rfl
def AS(en:List En)(l:List a_):mC en l=(l.map λa=>kZ en a.cy).flatten:=by
 induction l with
 |nil=>rfl
 |cons a l b=>rw[mC,b];cases a;rw[KT];rfl
def KV(en:List En)(e:Xp):iG en e=xf en e.kd e.kids++jY en e.kids:=by cases e;rw[iG];rfl
def KW(en:List En)(q:aB):uM en q=List.replicate (gR q.kd) none++(iG en q.ex++jY en q.args)++mC en q.aj:=by cases q;rw[uM];rfl
def Cg(en:List En)(b:bF):kZ en b=gx en b.vars++jd en b.aq:=by cases b;rw[kZ];rfl
def Dl(en:List En)(a b:List Va):gx en (a++b)=gx en a++gx en b:=by simp[gx]
def lP(l:List (Option Int))(a fr b:Nat)(m:Nat->Int)(k:Nat):Int:=if a<=k/\k<a+l.length/\fr<=k/\k<b then bZ l (k-a)else m k
def pR(l:List (Option Int))(a fr b:Nat)(m:Nat->Bool)(k:Nat):Bool:=if(a<=k/\k<a+l.length/\fr<=k/\k<b)/\l[k-a]?=some none then false else m k
def pS(l:List (Option Int))(a fr b:Nat)(m:Nat->Option US)(k:Nat):Option US:=if(a<=k/\k<a+l.length/\fr<=k/\k<b)/\l[k-a]?=some none then none else m k
def HC(a fr b:Nat)(m:Nat->Int):lP [] a fr b m=m:=by funext k;unfold lP;rw[asu (by simp;omega)]
def HD(a fr b:Nat)(m:Nat->Bool):pR [] a fr b m=m:=by funext k;unfold pR;rw[asu (by simp)]
def HE(a fr b:Nat)(m:Nat->Option US):pS [] a fr b m=m:=by funext k;unfold pS;rw[asu (by simp)]
theorem pj{a b:List (Option Int)}{i:Nat} :(a++b)[i]?=if i<a.length then a[i]? else b[i-a.length]?:=by grind
def HF(b d:List (Option Int))(a fr c:Nat)(m:Nat->Int):lP (b++d) a fr c m=lP d (a+b.length) fr c (lP b a fr c m):=by
 funext k
 unfold lP;simp;by_cases e:a+b.length<=k/\k<a+b.length+d.length/\fr<=k/\k<c
 .rw[asB (by omega),asB e];unfold bZ;rw[pj,asu (by omega),show k-a-b.length=k-(a+b.length) by omega]
 .rw[asu e];by_cases d:a<=k/\k<a+b.length/\fr<=k/\k<c
  .rw[asB (by omega),asB d];unfold bZ;rw[pj,asB (by omega)]
  .grind
def HG(b d:List (Option Int))(a fr c:Nat)(m:Nat->Bool):pR (b++d) a fr c m=pR d (a+b.length) fr c (pR b a fr c m):=by
 funext k
 unfold pR;simp;by_cases e:a+b.length<=k/\k<a+b.length+d.length/\fr<=k/\k<c
 .grind
 .grind
def HH(b d:List (Option Int))(a fr c:Nat)(m:Nat->Option US):pS (b++d) a fr c m=pS d (a+b.length) fr c (pS b a fr c m):=by
 funext k
 unfold pS;simp;by_cases e:a+b.length<=k/\k<a+b.length+d.length/\fr<=k/\k<c
 .grind
 .grind
structure Kp where
 m:Nat->Int
 p:Nat->Bool
 s:Nat->Option US
def Kp.fF(x:Kp)(l:List (Option Int))(a fr b:Nat):Kp:=⟨lP l a fr b x.m,pR l a fr b x.p,pS l a fr b x.s⟩
def Kp.vE(x:Kp)(a fr b:Nat):x.fF [] a fr b=x:=by unfold Kp.fF;rw[HC,HD,HE]
def Kp.qE(x:Kp)(b d:List (Option Int))(a fr c:Nat):x.fF (b++d) a fr c=(x.fF b a fr c).fF d (a+b.length) fr c:=by unfold Kp.fF;rw[HF,HG,HH]
def sY(v:Va)(l:List Va):aS (v::l)=(if v.last then 1 else 0)+aS l:=by
 unfold aS;rw[List.filter_cons];split
 .simp;omega
 .simp
def fQ{l:List Va} :∀{a k q:Nat},(b_ l a)[k]?=some (some q)->a<=q/\q<a+aS l:=by
 induction l with
 |nil=>intro a k q h;simp[b_]at h
 |cons v l b=>
  intro a k q h;rw[sY];unfold b_ at h;split at h
  .grind
  .grind
def tV{l:List aB} :∀{a j p:Nat} {q:aB},(dJ l a)[j]?=some p->l[j]?=some q->a<=p/\p+qP q<=a+aR (l.map qP):=by
 induction l with
 |nil=>intro a j p q h;simp[dJ]at h
 |cons e l c=>
  intro a j p q h b;rw[asT,i_];cases j with
  |zero=>
   simp only[dJ,List.getElem?_cons_zero]at h b;injection h with h
   injection b with b
   subst h;subst b;omega
  |succ j=>
   have:=c (a:=a+qP e) (by simpa [dJ] using h) (by simpa using b);omega
def il(l:List aB):∀a,(dJ l a).length=l.length:=by
 induction l with
 |nil=>intro a;rfl
 |cons e l b=>intro a;simp[dJ,b]
def eL(l:List Va):∀a,(b_ l a).length=l.length:=by
 induction l with
 |nil=>intro a;rfl
 |cons e l b=>intro a;unfold b_;split<;>simp[b]
theorem tX{q:aB}{p i:Nat}{a:a_}(h:q.aj[i]?=some a)(e:q.kd=3\/q.kd=4\/q.kd=5)(f:q.kd=4->xP q.ex=0)(g:q.args=[]):p+gR q.kd+xP q.ex<=cG q p i/\cG q p i+bP a.cy<=p+qP q:=by
 have d:i<q.aj.length:=by
  grind
 have j:=fY fP d;rw[aso d]at h;injection h with h
 rw[h]at j;have k:=nC a;have c:=jk q;rw[g]at c;simp at c;unfold cG gy;rcases e with b|b|b
 .rw[b]at c⊢;have l:gR 3=0:=by decide
  rw[asu (by decide)];omega
 .have:=f b;rw[b]at c⊢;have l:gR 4=1:=by decide
  rw[asB W];omega
 .rw[b]at c⊢;have l:gR 5=0:=by decide
  rw[asu (by decide)];omega
end Go.Sm
namespace Go.Mt
end Go.Mt
namespace Go.Sm
open Go.Mt
def Dm(k:Int):(k=9/\dh k=1)\/(k=10/\dh k=1)\/(k=11/\dh k=1)\/(k≠9/\k≠10/\k≠11/\dh k=0):=by unfold dh;split<;>omega
def Dp(k:Int):(k=2/\gR k=1)\/(k=4/\gR k=1)\/(k≠2/\k≠4/\gR k=0):=by unfold gR;split<;>omega
def jD.sZ{e k:Xp}(h:jD e)(a:k∈e.kids):jD k:=by cases h with|mk c d f b=>exact b k a
def jD.kids{e:Xp}(h:jD e):e.kids.length<=1000000:=by cases h with|mk b a c d=>exact a
def jD.fO{e:Xp}(h:jD e)(b:e.kd=9):∃a l,e.kids=a::l:=by
 cases h with|mk c d f g=>exact List.exists_cons_of_ne_nil (c b)
def jD.names{e:Xp}(h:jD e):e.names.length<=1000000:=by cases h with|mk b c a d=>exact a
def bA(l:List Va):(aE l).length=l.length:=by simp[aE]
def eb{l:List Va}{i:Nat}(h:i<l.length):(aE l)[(i:Int).toNat]?=some l[i].cells:=by simp[aE,h]
def cu(l:List Va):∀r∈aE l,r.length=15:=by intro r a;obtain⟨_,_,rfl⟩:=asK.1 a;exact Va.len _
def Va.aA(v:Va):v.cells=[.str v.name,.int .u8 v.tk,.str v.tn,.sl (sU v.clock),.bool v.last,.int .u8 v.first.kd,.int .u8 v.first.op,.int .i32 v.first.num,.str v.first.nm,.sl (dM v.first.names),.sl (v.first.kids.map Xp.cells),.int .i64 v.first.ps.1,.int .i64 v.first.ps.2,.int .i64 v.ps.1,.int .i64 v.ps.2]:=by unfold Va.cells;rw[v.first.aA];rfl
end Go.Sm
namespace Go.Proofs.Sz
open Go.Mt Go.Sm Go.Proofs
open Tryz
instance:bw prog 85:=cR (by kernel_rfl)
instance:bw prog 55:=cR (by kernel_rfl)
instance:bw prog 40:=cR (by kernel_rfl)
theorem jN(e:Xp)(n:jD e)(d:xP e<=1000000000):PT prog 85 [.agg e.cells] (·=[iN (xP e)]):=by
 have g:=EZ e;have o:∀k∈e.kids,PT prog 85 [.agg k.cells] (·=[iN (xP k)]):= λk b=>
  have:=Xp.Ca b
  jN k (n.sZ b) (by have:=jM (as1 (f:=xP) b);omega)
 have h:=e.aA;have j:=Dm e.kd;have t:=n.kids;rw[h,g];rw[g]at d;generalize e.kids=a at o d g h t⊢;generalize dh e.kd=c at j d⊢;generalize e.kd=u at j h⊢;generalize e.op=v;generalize e.num=r;generalize e.nm=s;generalize e.names=A;generalize e.ps=w;refine OL (CT.ob func85 W ntmps85 W λB C=>?_);refine tC [2,2] W<|TC.NB ⟨[nN 3 c,nD 1 (.aZ (bQ u v r s A (a.map Xp.cells) w) 0)],[],[]⟩ ?_ ?_
 .rcases j with⟨rfl,rfl⟩|⟨rfl,rfl⟩|⟨rfl,rfl⟩|⟨l,m,q,rfl⟩
  .refine tO [2,1,2,24] W<|ay W W W (by omega)<|tL [] W<|down W W
  .refine tO [2,1,2,24] W<|ay W W W (by omega)<|tL [] W<|down W W
  .refine tO [2,1,2,24] W<|ay W W W (by omega)<|tL [] W<|down W W
  .have x:=asY.2 l;refine tO [2,12] W<|aQ x W W W W<|tR [16] W ?_
   first|refine aH W W ?_|(refine aC W ?_;(refine aQ (asY.2 m) W W W W ?_))
   refine tR [21] W ?_
   first|refine aH W W ?_|(refine aC W ?_;(refine aQ (asY.2 q) W W W W ?_))
   refine tL [0] W<|down W W
 refine tO [2,27] W<|bK W W W ?_;rw[asD];refine tL [] W<|Qm [nN 24 0,nN 23 a.length,nD 22 (.sl (a.map Xp.cells)),nN 3 (c+aR ((a.take 0).map xP))] [] W W<|tC [3] W<|TC.lp (λk s=>∃(i:Nat) (p:List (Nat×List M)),s=⟨[nN 24 i,nN 23 a.length,nD 22 (.sl (a.map Xp.cells)),nN 3 (c+aR ((a.take i).map xP))],p,[]⟩/\i<=a.length/\k=a.length-i) a.length _
  ⟨0,_,rfl,by omega,rfl⟩ W ?_
 rintro k s ⟨i,p,rfl,D,rfl⟩;refine tC [2] W<|TC.cond W (λy=>?_) (λy=>?_)
 .have l:i<a.length:=by grind
  have m:(a.map Xp.cells)[((i:Nat):Int).toNat]?=some a[i].cells:=by simp[l]
  have b:=o _ (asE l);have x:aR ((a.take (i+1)).map xP)=aR ((a.take i).map xP)+xP a[i]:=by rw[asA l,asN,kJ];simp[aR]
  have E:aR ((a.take (i+1)).map xP)<=aR (a.map xP):=by have:=uL (a.map xP) (i+1);rw[<-auA]at this;exact this
  generalize a[i]=q at m b x;rw[q.aA]at m b;have z:((c+aR ((a.take i).map xP):Nat):Int)+((xP q:Nat):Int)=((c+aR ((a.take (i+1)).map xP):Nat):Int):=by omega
  refine tO [3,2,30] W<|aP W W W (asm i) m W<|tR [2,34] W<|aL b W W<|tR [35] W<|ay W W W (by omega) ?_;rw[z];refine tR [2,36] W<|ay W W W (by omega)<|tL [] W<|again (k':=a.length-(i+1)) (by omega) ⟨i+1,_,rfl,by omega,rfl⟩ W W
 .refine TC.exit ?_;have l:i=a.length:=by grind
  subst l;rw[asU];refine tC [2] W<|TC.ret ⟨_,W,[_],W,W⟩
termination_by SizeOf.sizeOf e
end Go.Proofs.Sz
namespace Go.Sm
def pT{s:Type}{l:List s}(h:l.length=16):∃a b c d e f g i j k m n o p q r,l=[a,b,c,d,e,f,g,i,j,k,m,n,o,p,q,r]:=by
 match l,h with
 |[a,b,c,d,e,f,g,i,j,k,m,n,o,p,q,r],_=>exact⟨_,_,_,_,_,_,_,_,_,_,_,_,_,_,_,_,W⟩
end Go.Sm
namespace Go.Proofs.Sz
open Go.Mt Go.Sm Go.Proofs
open Tryz
theorem Ch(q:aB)(u:jD q.ex)(H:q.args.length<=1000000)(v:∀e∈q.args,jD e)(h:qP q<=1000000000)(I:q.aj.length<=1000)(w:∀a∈q.aj,PT prog 40 [.agg a.cy.cells] (·=[iN (bP a.cy)])):PT prog 55 [.agg q.cells] (·=[iN (qP q)]):=by
 have x:=jk q;have n:=Dp q.kd;have t:=jN q.ex u (by omega);have y:∀e∈q.args,PT prog 85 [.agg e.cells] (·=[iN (xP e)]):= λe a=>jN e (v e a) (by have:=jM (as1 (f:=xP) a);omega)
 have g:=q.aA;rw[g,x];rw[x]at h;generalize gR q.kd=l at n h⊢;generalize q.kd=z at n g⊢;generalize q.lhs=E at g⊢;generalize q.f=B at g⊢;generalize q.has=F at g⊢;generalize q.ps=C at g⊢;generalize q.args=b at v H y h g⊢;generalize q.aj=a at I w h g⊢;generalize q.ex=c at u t h g⊢;rw[c.aA]at t g⊢;refine OL (CT.ob func55 W ntmps55 W λO P=>?_);refine tO [2,2,14] W<|aL t W W<|tR [2,17] W<|bK W W W ?_;rw[asD];refine tL [] W ?_;obtain⟨m,G⟩:∃m,m=rv z E B (b.map Xp.cells) F (bQ c.kd c.op c.num c.nm c.names (c.kids.map Xp.cells) c.ps) (a.map a_.cells) C:=⟨_,rfl⟩;refine Qm [nN 14 0,nN 13 b.length,nD 12 (.sl (b.map Xp.cells)),nN 3 (xP c+aR ((b.take 0).map xP)),nD 1 (.aZ m 0)] [] (kc W (kc W (kc W (kc W (kc (by rw[G];rfl) W))))) W<|tC [3] W<|TC.lp (λk s=>∃(i:Nat) (j:List (Nat×List M)),s=⟨[nN 14 i,nN 13 b.length,nD 12 (.sl (b.map Xp.cells)),nN 3 (xP c+aR ((b.take i).map xP)),nD 1 (.aZ m 0)],j,[]⟩/\i<=b.length/\k=b.length-i) b.length _
  ⟨0,_,rfl,by omega,rfl⟩ W ?_
 rintro k s ⟨i,j,rfl,J,rfl⟩;refine tC [2] W<|TC.cond W (λo=>?_) (λo=>?_)
 .have d:i<b.length:=by grind
  have p:(b.map Xp.cells)[((i:Nat):Int).toNat]?=some b[i].cells:=by simp[d]
  have r:=y _ (asE d);obtain⟨D,Q⟩:=fY xP d;generalize b[i]=q at p r D;rw[q.aA]at p r;have K:((xP c+aR ((b.take i).map xP):Nat):Int)+((xP q:Nat):Int)=((xP c+aR ((b.take (i+1)).map xP):Nat):Int):=by omega
  refine tO [3,2,20] W<|aP W W W (asm i) p W<|tR [2,24] W<|aL r W W<|tR [25] W<|ay W W W (by omega) ?_;rw[K];refine tR [2,26] W<|ay W W W (by omega)<|tL [] W<|again (k':=b.length-(i+1)) (by omega) ⟨i+1,_,rfl,by omega,rfl⟩ W W
 refine TC.exit ?_;have d:i=b.length:=by grind
 subst d;rw[asU];obtain⟨A,L⟩:∃A,A=xP c+aR (b.map xP):=⟨_,rfl⟩;rw[<-L]at h⊢;subst G;refine tC [] W<|TC.NB ⟨[nN 3 (A+l),nD 1 (.aZ (rv z E B (b.map Xp.cells) F (bQ c.kd c.op c.num c.nm c.names (c.kids.map Xp.cells) c.ps) (a.map a_.cells) C) 0)],j,[]⟩ ?_ ?_
 .rcases n with⟨rfl,rfl⟩|⟨rfl,rfl⟩|⟨p,r,rfl⟩
  .refine tO [2,1,2,36] W<|ay W W W (by omega)<|tL [] W<|down W W
  .refine tO [2,1,2,36] W<|ay W W W (by omega)<|tL [] W<|down W W
  .have D:=asY.2 p;refine tO [2,29] W<|aQ D W W W W<|tR [33] W ?_
   first|refine aH W W ?_|(refine aC W ?_;(refine aQ (asY.2 r) W W W W ?_))
   refine tL [0] W<|down W W
 have N:(a.map a_.cells).length=a.length:=by simp
 refine tO [2,39] W<|bK W W W ?_;rw[N];refine tL [] W<|Qm [nN 36 0,nN 35 a.length,nD 34 (.sl (a.map a_.cells)),nN 3 (A+l+aR ((a.take 0).map fP))] [] W W<|tC [3] W<|TC.lp (λk s=>∃(i:Nat) (j:List (Nat×List M)),s=⟨[nN 36 i,nN 35 a.length,nD 34 (.sl (a.map a_.cells)),nN 3 (A+l+aR ((a.take i).map fP))],j,[]⟩/\i<=a.length/\k=a.length-i) a.length _
  ⟨0,_,rfl,by omega,rfl⟩ W ?_
 rintro k s ⟨i,j,rfl,J,rfl⟩;refine tC [2] W<|TC.cond W (λo=>?_) (λo=>?_)
 .have d:i<a.length:=by grind
  have p:(a.map a_.cells)[((i:Nat):Int).toNat]?=some a[i].cells:=by simp[d]
  have r:=w _ (asE d);obtain⟨D,Q⟩:=fY fP d;generalize a[i]=q at p r D;rw[nC]at D;rw[bF.aA]at r;rw[a_.aA]at p;have K:((A+l+aR ((a.take i).map fP):Nat):Int)+((bP q.cy:Nat):Int)=((A+l+aR ((a.take (i+1)).map fP):Nat):Int):=by omega
  refine tO [3,2,42] W<|aP W W W (asm i) p W<|tR [2,47] W<|aL r W W<|tR [48] W<|ay W W W (by omega) ?_;rw[K];refine tR [2,49] W<|ay W W W (by omega)<|tL [] W<|again (k':=a.length-(i+1)) (by omega) ⟨i+1,_,rfl,by omega,rfl⟩ W W
 .refine TC.exit ?_;have d:i=a.length:=by grind
  subst d;rw[asU];refine tC [2] W<|TC.ret ⟨_,W,[_],W,W⟩
theorem lF(b:bF)(r:uc b):bP b<=1000000000->PT prog 40 [.agg b.cells] (·=[iN (bP b)]):=by
 induction r with
 | @mk a c B C D t l E F u=>
  intro v;have n:=qb (.mk a c);simp only[bF.vars,bF.aq]at n;have x:∀q∈c,PT prog 55 [.agg q.cells] (·=[iN (qP q)]):= λq e=>by
   have p:=jM (as1 (f:=qP) e);refine Ch q (l q e).1 (l q e).2.1 (l q e).2.2 (by omega) (t q e) λh g=>u q e h g ?_
   have o:=jM (as1 (f:=fP) g);have w:=jk q;rw[nC]at o;omega
  rw[n]at v⊢;rw[bF.aA];simp only[bF.vars,bF.aq];refine OL (CT.ob func40 W ntmps40 W λG H=>?_);refine tO [2,2,2,14] W<|bK W W W ?_;rw[bA];refine tL [] W<|Qm [nN 11 0,nN 10 a.length,nD 9 (.sl (aE a)),nN 3 (aS (a.take 0)),nD 1 (.aZ [.sl (aE a),.sl (c.map aB.cells)] 0)] [] W W<|tC [3] W<|TC.lp (λk s=>∃(i:Nat) (j:List (Nat×List M)),s=⟨[nN 11 i,nN 10 a.length,nD 9 (.sl (aE a)),nN 3 (aS (a.take i)),nD 1 (.aZ [.sl (aE a),.sl (c.map aB.cells)] 0)],j,[]⟩/\i<=a.length/\k=a.length-i) a.length _
   ⟨0,_,rfl,by omega,rfl⟩ W ?_
  rintro k s ⟨i,j,rfl,y,rfl⟩;refine tC [2] W<|TC.cond W (λm=>?_) (λm=>?_)
  .have d:i<a.length:=by grind
   have g:=eb d;have o:=asA d;have I:=lS a (i+1);generalize a[i]=w at g o;have h:=pQ (a.take i) w;rw[<-o]at h;rw[w.aA]at g;refine tC [3] W ?_;cases p:w.last with
   |true=>
    rw[p]at g h;simp at h;have z:((aS (a.take i):Nat):Int)+1=((aS (a.take (i+1)):Nat):Int):=by omega
    refine tO [2,17] W<|aP W W W (asm i) g W<|tR [2,1,2,22] W<|ay W W W (by omega) ?_;rw[z];refine tR [2,23] W<|ay W W W (by omega)<|tL [] W<|again (k':=a.length-(i+1)) (by omega) ⟨i+1,_,rfl,by omega,rfl⟩ W W
   |false=>
    rw[p]at g h;simp at h;refine tO [2,17] W<|aP W W W (asm i) g W<|tR [2,0,2,23] W<|ay W W W (by omega)<|tL [] W<|again (k':=a.length-(i+1)) (by omega) ⟨i+1,_,rfl,by omega,rfl⟩ W (kc W (kc W (kc W (kc (by rw[h];rfl) W))))
  refine TC.exit ?_;have d:i=a.length:=by grind
  subst d;rw[asU];have A:(c.map aB.cells).length=c.length:=by simp
  refine tO [2,26] W<|bK W W W ?_;rw[A];refine tL [] W<|Qm [nN 23 0,nN 22 c.length,nD 21 (.sl (c.map aB.cells)),nN 3 (aS a+aR ((c.take 0).map qP))] [] W W<|tC [3] W<|TC.lp (λk s=>∃(i:Nat) (j:List (Nat×List M)),s=⟨[nN 23 i,nN 22 c.length,nD 21 (.sl (c.map aB.cells)),nN 3 (aS a+aR ((c.take i).map qP))],j,[]⟩/\i<=c.length/\k=c.length-i) c.length _
   ⟨0,_,rfl,by omega,rfl⟩ W ?_
  rintro k s ⟨i,j,rfl,y,rfl⟩;refine tC [2] W<|TC.cond W (λm=>?_) (λm=>?_)
  .have d:i<c.length:=by grind
   have g:(c.map aB.cells)[((i:Nat):Int).toNat]?=some c[i].cells:=by simp[d]
   have h:=x _ (asE d);obtain⟨p,Z⟩:=fY qP d;generalize c[i]=q at g h p;obtain⟨z,I,J,K,L,N,O,P,Q,R,S,T,U,V,X,Y,w⟩:=pT q.len;rw[w]at g h;have o:((aS a+aR ((c.take i).map qP):Nat):Int)+((qP q:Nat):Int)=((aS a+aR ((c.take (i+1)).map qP):Nat):Int):=by omega
   refine tO [3,2,29] W<|aP W W W (asm i) g W<|tR [2,33] W<|aL h W W<|tR [34] W<|ay W W W (by omega) ?_;rw[o];refine tR [2,35] W<|ay W W W (by omega)<|tL [] W<|again (k':=c.length-(i+1)) (by omega) ⟨i+1,_,rfl,by omega,rfl⟩ W W
  .refine TC.exit ?_;have d:i=c.length:=by grind
   subst d;rw[asU];refine tC [2] W<|TC.ret ⟨_,W,[_],W,W⟩
end Go.Proofs.Sz
namespace Go.Sm
open Go.Mt
variable{α:Type}{l:List α}{p:α->Bool}
def rA(o:Option Nat):Int:=match o with
 |some i=>(i:Int)
 |none=> -1
theorem qF{i:Nat}(hi:i<l.length)(h:p l[i]=true)(a:∀(j:Nat) (a:j<l.length),j<i->p l[j]=false):rA (l.findIdx? p)=(i:Int):=by
 have:l.findIdx? p=some i:=by
  rw[as4];exact⟨hi,h,λj a=>by grind⟩
 rw[this];rfl
def oM(b:∀(j:Nat) (a:j<l.length),p l[j]=false):rA (l.findIdx? p)= -1:=by
 have:l.findIdx? p=none:=by
  rw[atE];intro d c;obtain⟨j,a,rfl⟩:=List.getElem_of_mem c;exact b j a
 rw[this];rfl
def qG(l:List Nm)(x:Nm):k_ l x=rA (l.findIdx? λy=>decide (y=x)):=rfl
def Jc(l:List Nm)(x:Nm): -1<=k_ l x/\k_ l x<l.length:=by
 rw[qG];cases h:l.findIdx? λy=>decide (y=x)with
 |none=>simp only[rA];omega
 |some i=>rw[as4]at h;obtain⟨a,_⟩:=h;simp only[rA];omega
theorem Jd(l:List Nm)(x:Nm):mr l x=decide (k_ l x>=0):=by
 rw[qG];cases h:l.findIdx? λy=>decide (y=x)with
 |none=>
  rw[atE]at h;have:mr l x=false:=by
   rw[<-atr];intro e;have:=h _ (oL.1 e);simp at this
  rw[this];simp[rA]
 |some i=>
  rw[as4]at h;obtain⟨a,b,_⟩:=h;have:mr l x=true:=oL.2 (by grind);rw[this];simp[rA]
def Ci{n:Int}(h: -2147483648<=n/\n<=2147483647):IntKind.i32.wrap n=n:=by
 have:IntKind.i32.wrap n=if n%4294967296>=2147483648 then n%4294967296-4294967296 else n%4294967296:=by
  simp[IntKind.wrap,IntKind.bits,IntKind.signed]
 rw[this];split<;>omega
end Go.Sm
namespace Go.Proofs.Sz
open Go.Mt Go.Sm Go.Proofs
open Tryz
theorem sj(l:List Nd)(c:Nat)[bw prog c](d:List D)(p:Nd->Bool)(t:l.length<=1000000)(q:∀a∈l,PT prog c (.agg a.cells::d) (·=[.bool (p a)])):PT prog 38 [.sl (l.map Nd.cells),.fn c d] (·=[.int .i64 (rA (l.findIdx? p))]):=by
 refine OL (CT.ob func38 W ntmps38 W λu v=>?_);refine tO [2,2,11] W<|bK W W W ?_;rw[asD];refine tL [3] W<|TC.lp (λk s=>∃i:Nat,s=⟨[nI 8 i,nI 7 (l.length:Nat),nD 0 (.sl (l.map Nd.cells)),nD 1 (.fn c d)],[],[]⟩/\i<=l.length/\k=l.length-i/\(∀(j:Nat) (a:j<l.length),j<i->p l[j]=false)) l.length _
  ⟨0,rfl,by omega,rfl,by grind⟩ W ?_
 rintro k s ⟨i,rfl,w,rfl,g⟩;refine tC [2] W<|TC.cond W (λr=>?_) (λr=>?_)
 .have e:i<l.length:=by grind
  have h:(l.map Nd.cells)[((i:Nat):Int).toNat]?=some l[i].cells:=by simp[e]
  have f:=q _ (asE e);obtain⟨b,m⟩:∃b,b=p l[i]:=⟨_,rfl⟩;rw[<-m]at f;unfold Nd.cells at h f;refine tO [3,2,2,18] W<|aP W W W (asm i) h W<|tR [20] W<|vl f W W W<|tL [] W<|TC.cond W (λn=>?_) (λn=>?_)
  .refine tC [2] W<|TC.ret ⟨_,W,[_],W,by rw[qF e (m.symm.trans n) (λj a h=>g j a h)]⟩
  .refine tO [2,22] W<|ay W W W (by omega)<|tL [] W<|again (k':=l.length-(i+1)) (by omega) ⟨i+1,rfl,by omega,rfl,?_⟩ W W;intro j a o;rcases as8.1 o with x|rfl
   .grind
   .grind
 .refine TC.exit ?_;have e:i=l.length:=by grind
  refine tC [2] W<|TC.ret ⟨_,W,[_],W,by rw[oM (λj a=>g j a (by omega))]⟩
theorem mD(l:List En)(c:Nat)[bw prog c](d:List D)(p:En->Bool)(t:l.length<=1000000)(q:∀a∈l,PT prog c (.agg a.cells::d) (·=[.bool (p a)])):PT prog 78 [.sl (l.map En.cells),.fn c d] (·=[.int .i64 (rA (l.findIdx? p))]):=by
 refine OL (CT.ob func78 W ntmps78 W λu v=>?_);refine tO [2,2,11] W<|bK W W W ?_;rw[asD];refine tL [3] W<|TC.lp (λk s=>∃i:Nat,s=⟨[nI 8 i,nI 7 (l.length:Nat),nD 0 (.sl (l.map En.cells)),nD 1 (.fn c d)],[],[]⟩/\i<=l.length/\k=l.length-i/\(∀(j:Nat) (a:j<l.length),j<i->p l[j]=false)) l.length _
  ⟨0,rfl,by omega,rfl,by grind⟩ W ?_
 rintro k s ⟨i,rfl,w,rfl,g⟩;refine tC [2] W<|TC.cond W (λr=>?_) (λr=>?_)
 .have e:i<l.length:=by grind
  have h:(l.map En.cells)[((i:Nat):Int).toNat]?=some l[i].cells:=by simp[e]
  have f:=q _ (asE e);obtain⟨b,m⟩:∃b,b=p l[i]:=⟨_,rfl⟩;rw[<-m]at f;unfold En.cells at h f;refine tO [3,2,2,18] W<|aP W W W (asm i) h W<|tR [20] W<|vl f W W W<|tL [] W<|TC.cond W (λn=>?_) (λn=>?_)
  .refine tC [2] W<|TC.ret ⟨_,W,[_],W,by rw[qF e (m.symm.trans n) (λj a h=>g j a h)]⟩
  .refine tO [2,22] W<|ay W W W (by omega)<|tL [] W<|again (k':=l.length-(i+1)) (by omega) ⟨i+1,rfl,by omega,rfl,?_⟩ W W;intro j a o;rcases as8.1 o with x|rfl
   .grind
   .grind
 .refine TC.exit ?_;have e:i=l.length:=by grind
  refine tC [2] W<|TC.ret ⟨_,W,[_],W,by rw[oM (λj a=>g j a (by omega))]⟩
theorem s6(l:List a_)(c:Nat)[bw prog c](d:List D)(p:a_->Bool)(t:l.length<=1000000)(q:∀a∈l,PT prog c (.agg a.cells::d) (·=[.bool (p a)])):PT prog 129 [.sl (l.map a_.cells),.fn c d] (·=[.int .i64 (rA (l.findIdx? p))]):=by
 refine OL (CT.ob func129 W ntmps129 W λu v=>?_);refine tO [2,2,11] W<|bK W W W ?_;rw[asD];refine tL [3] W<|TC.lp (λk s=>∃i:Nat,s=⟨[nI 8 i,nI 7 (l.length:Nat),nD 0 (.sl (l.map a_.cells)),nD 1 (.fn c d)],[],[]⟩/\i<=l.length/\k=l.length-i/\(∀(j:Nat) (a:j<l.length),j<i->p l[j]=false)) l.length _
  ⟨0,rfl,by omega,rfl,by grind⟩ W ?_
 rintro k s ⟨i,rfl,w,rfl,g⟩;refine tC [2] W<|TC.cond W (λr=>?_) (λr=>?_)
 .have e:i<l.length:=by grind
  have h:(l.map a_.cells)[((i:Nat):Int).toNat]?=some l[i].cells:=by simp[e]
  have f:=q _ (asE e);obtain⟨b,m⟩:∃b,b=p l[i]:=⟨_,rfl⟩;rw[<-m]at f;rw[a_.aA]at h f;refine tO [3,2,2,18] W<|aP W W W (asm i) h W<|tR [20] W<|vl f W W W<|tL [] W<|TC.cond W (λn=>?_) (λn=>?_)
  .refine tC [2] W<|TC.ret ⟨_,W,[_],W,by rw[qF e (m.symm.trans n) (λj a h=>g j a h)]⟩
  .refine tO [2,22] W<|ay W W W (by omega)<|tL [] W<|again (k':=l.length-(i+1)) (by omega) ⟨i+1,rfl,by omega,rfl,?_⟩ W W;intro j a o;rcases as8.1 o with x|rfl
   .grind
   .grind
 .refine TC.exit ?_;have e:i=l.length:=by grind
  refine tC [2] W<|TC.ret ⟨_,W,[_],W,by rw[oM (λj a=>g j a (by omega))]⟩
theorem s7(l:List Va)(c:Nat)[bw prog c](d:List D)(p:Va->Bool)(t:l.length<=1000000)(q:∀a∈l,PT prog c (.agg a.cells::d) (·=[.bool (p a)])):PT prog 137 [.sl (l.map Va.cells),.fn c d] (·=[.int .i64 (rA (l.findIdx? p))]):=by
 refine OL (CT.ob func137 W ntmps137 W λu v=>?_);refine tO [2,2,11] W<|bK W W W ?_;rw[asD];refine tL [3] W<|TC.lp (λk s=>∃i:Nat,s=⟨[nI 8 i,nI 7 (l.length:Nat),nD 0 (.sl (l.map Va.cells)),nD 1 (.fn c d)],[],[]⟩/\i<=l.length/\k=l.length-i/\(∀(j:Nat) (a:j<l.length),j<i->p l[j]=false)) l.length _
  ⟨0,rfl,by omega,rfl,by grind⟩ W ?_
 rintro k s ⟨i,rfl,w,rfl,g⟩;refine tC [2] W<|TC.cond W (λr=>?_) (λr=>?_)
 .have e:i<l.length:=by grind
  have h:(l.map Va.cells)[((i:Nat):Int).toNat]?=some l[i].cells:=by simp[e]
  have f:=q _ (asE e);obtain⟨b,m⟩:∃b,b=p l[i]:=⟨_,rfl⟩;rw[<-m]at f;rw[Va.aA]at h f;refine tO [3,2,2,18] W<|aP W W W (asm i) h W<|tR [20] W<|vl f W W W<|tL [] W<|TC.cond W (λn=>?_) (λn=>?_)
  .refine tC [2] W<|TC.ret ⟨_,W,[_],W,by rw[qF e (m.symm.trans n) (λj a h=>g j a h)]⟩
  .refine tO [2,22] W<|ay W W W (by omega)<|tL [] W<|again (k':=l.length-(i+1)) (by omega) ⟨i+1,rfl,by omega,rfl,?_⟩ W W;intro j a o;rcases as8.1 o with x|rfl
   .grind
   .grind
 .refine TC.exit ?_;have e:i=l.length:=by grind
  refine tC [2] W<|TC.ret ⟨_,W,[_],W,by rw[oM (λj a=>g j a (by omega))]⟩
def Aq(d:Nd)(x:Nm):PT prog 39 [.agg d.cells,.aZ [.str x] 0] (·=[.bool (decide (d.name=x))]):=by
 unfold Nd.cells;refine OL (CT.ob func39 W ntmps39 W λa b=>?_);refine tC [2,2] W<|TC.ret ⟨_,W,[_],W,W⟩
def vG(P:Pg)(x:Nm)(a:P.nodes.length<=1000000):PT prog 25 [.agg P.cells,.str x] (·=[.int .i64 (rA (fG P.nodes x))]):=by
 refine OL (CT.ob func25 W ntmps25 W λb c=>?_);refine tO [2,2,12] W<|aL (sj P.nodes 39 [.aZ [.str x] 0] (λd=>decide (d.name=x)) a (λd _=>Aq d x)) W W<|tL [] W<|TC.ret ⟨_,rfl,[_],rfl,rfl⟩
def Ar(d:En)(x:Nm):PT prog 79 [.agg d.cells,.aZ [.str x] 0] (·=[.bool (decide (d.name=x))]):=by
 unfold En.cells;refine OL (CT.ob func79 W ntmps79 W λa b=>?_);refine tC [2,2] W<|TC.ret ⟨_,W,[_],W,W⟩
def vH(l:List En)(x:Nm)(a:l.length<=1000000):PT prog 49 [.sl (l.map En.cells),.str x] (·=[.int .i64 (rA (l.findIdx? λe=>decide (e.name=x)))]):=by
 refine OL (CT.ob func49 W ntmps49 W λb c=>?_);refine tO [2,2,11] W<|aL (mD l 79 [.aZ [.str x] 0] (λd=>decide (d.name=x)) a (λd _=>Ar d x)) W W<|tL [] W<|TC.ret ⟨_,rfl,[_],rfl,rfl⟩
def Je(d:a_)(x:Nm):PT prog 130 [.agg d.cells,.aZ [.str x] 0] (·=[.bool (decide (d.name=x))]):=by
 rw[a_.aA];refine OL (CT.ob func130 W ntmps130 W λa b=>?_);refine tC [2,2] W<|TC.ret ⟨_,W,[_],W,W⟩
def Gn(l:List a_)(x:Nm)(a:l.length<=1000000):PT prog 94 [.sl (l.map a_.cells),.str x] (·=[.int .i64 (rA (mP l x))]):=by
 refine OL (CT.ob func94 W ntmps94 W λb c=>?_);refine tO [2,2,11] W<|aL (s6 l 130 [.aZ [.str x] 0] (λd=>decide (d.name=x)) a (λd _=>Je d x)) W W<|tL [] W<|TC.ret ⟨_,rfl,[_],rfl,rfl⟩
def HI(d:Va)(x:Nm):PT prog 138 [.agg d.cells,.aZ [.str x] 0] (·=[.bool (decide (d.name=x))]):=by
 rw[Va.aA];refine OL (CT.ob func138 W ntmps138 W λa b=>?_);refine tC [2,2] W<|TC.ret ⟨_,W,[_],W,W⟩
def Jf(l:List Va)(x:Nm)(a:l.length<=1000000):PT prog 119 [.sl (aE l),.str x] (·=[.int .i64 (rA (fN l x))]):=by
 refine OL (CT.ob func119 W ntmps119 W λb c=>?_);refine tO [2,2,11] W<|aL (s7 l 138 [.aZ [.str x] 0] (λd=>decide (d.name=x)) a (λd _=>HI d x)) W W<|tL [] W<|TC.ret ⟨_,rfl,[_],rfl,rfl⟩
theorem kK{l:List Nm}{i:Nat}(h:i<l.length):(dM l)[((i:Nat):Int).toNat]?=some [.str l[i]]:=by grind
theorem AT(l:List Nm)(x:Nm)(f:l.length<=1000000):PT prog 117 [.sl (dM l),.str x] (·=[.int .i64 (k_ l x)]):=by
 refine OL (CT.ob func117 W ntmps117 W λg m=>?_);refine tO [2,2,11] W<|bK W W W ?_;rw[asD];refine tL [3] W<|TC.lp (λk s=>∃i:Nat,s=⟨[nI 8 i,nI 7 (l.length:Nat),nD 0 (.sl (dM l)),nD 1 (.str x)],[],[]⟩/\i<=l.length/\k=l.length-i/\(∀(j:Nat) (a:j<l.length),j<i->decide (l[j]=x)=false)) l.length _
  ⟨0,rfl,by omega,rfl,by grind⟩ W ?_
 rintro k s ⟨i,rfl,n,rfl,b⟩;refine tC [2] W<|TC.cond W (λe=>?_) (λe=>?_)
 .have c:i<l.length:=by grind
  refine tO [3,2,2,18] W<|aP W W W (asm i) (kK c) W<|tL [] W<|TC.cond W (λd=>?_) (λd=>?_)
  .refine tC [2] W<|TC.ret ⟨_,W,[_],W,by rw[qG,qF c (asP (asC d).symm) (λj a h=>b j a h)]⟩
  .refine tO [2,22] W<|ay W W W (by omega)<|tL [] W<|again (k':=l.length-(i+1)) (by omega) ⟨i+1,rfl,by omega,rfl,?_⟩ W W;intro j a h;rcases as8.1 h with o|rfl
   .grind
   .grind
 .refine TC.exit ?_;have c:i=l.length:=by grind
  refine tC [2] W<|TC.ret ⟨_,W,[_],W,by rw[qG,oM (λj a=>b j a (by omega))]⟩
theorem yT(l:List Nm)(x:Nm)(f:l.length<=1000000):PT prog 96 [.sl (dM l),.str x] (·=[.int .i32 (k_ l x)]):=by
 refine OL (CT.ob func96 W ntmps96 W λg m=>?_);refine tO [2,2,12] W<|bK W W W ?_;rw[asD];refine tL [3] W<|TC.lp (λk s=>∃i:Nat,s=⟨[nI 9 i,nI 8 (l.length:Nat),nD 7 (.sl (dM l)),nD 1 (.str x)],[],[]⟩/\i<=l.length/\k=l.length-i/\(∀(j:Nat) (a:j<l.length),j<i->decide (l[j]=x)=false)) l.length _
  ⟨0,rfl,by omega,rfl,by grind⟩ W ?_
 rintro k s ⟨i,rfl,n,rfl,c⟩;refine tC [2] W<|TC.cond W (λe=>?_) (λe=>?_)
 .have d:i<l.length:=by grind
  refine tO [3,2,16] W<|aP W W W (asm i) (kK d) W<|tL [2] W<|TC.cond W (λb=>?_) (λb=>?_)
  .refine tO [2,22] W<|yr W W ?_;rw[Ci (by omega)];refine tL [] W<|TC.ret ⟨_,W,[_],W,by rw[qG,qF d b (λj a h=>c j a h)]⟩
  .refine tO [2,23] W<|ay W W W (by omega)<|tL [] W<|again (k':=l.length-(i+1)) (by omega) ⟨i+1,rfl,by omega,rfl,?_⟩ W W;intro j a h;rcases as8.1 h with o|rfl
   .grind
   .exact b
 .refine TC.exit ?_;have b:i=l.length:=by grind
  refine tC [2] W<|TC.ret ⟨_,W,[_],W,by rw[qG,oM (λj a=>c j a (by omega))]⟩
def oA(l:List Nm)(x:Nm)(a:l.length<=1000000):PT prog 97 [.sl (dM l),.str x] (·=[.bool (mr l x)]):=by
 rw[Jd];refine OL (CT.ob func97 W ntmps97 W λb c=>?_);refine tO [2,2,11] W<|aL (AT l x a) W W<|tL [] W<|TC.ret ⟨_,W,[_],W,W⟩
end Go.Proofs.Sz
