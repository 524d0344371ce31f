/- A part of the proof of the last text of this claim, without conditions. -/
import Derived.Test.YtbafhpblecdbbaaGreatDoorA
set_option maxRecDepth 4000
set_option linter.all false
namespace Go.Mt
variable{x y:Operand}{xt off t yt n T f s j g i:Nat}{o:Oper}{st MW M2:St}{v:V}{m:Int}{cs Nf:List M}{e:Ef}{kk:IntKind}{ds:List D}{op:Op}{w b:Bool}{post:List Ef->St->Prop}{u:ByteArray}{rb:List Nat}{r:D}{rows:List (List D)}{parts:List (Nat×Operand)}{ms:List (Nat×M)}
section rules
variable{X:cQ}{ops:Array Oper}{rest:List Oper}{post:List Ef->St->Prop}{sl:List (Nat×V)}{bx:List (Nat×List M)}{H:Hp}{d ty:Nat}{pos:String}{af:Array Edge}
def Ag.ev(h:Ag ops o e st MW)(a:x∈o.op.operands.toList):MW.ev x=st.ev x:=by
 cases x with
 |tmp t=>
  refine h.sl t ?_;unfold Oper.looksAt;refine ain.2 (.inl ?_);rw[List.mem_filterMap];exact⟨.tmp t,a,W⟩
 |_=>rfl
def cD.DR(c:o.guard=none)(e:o.dst=some d)(f:d<X.n)(h:cD X o st (dq v M2)):xf X ops o st ⟨(d,v)::M2.sl,M2.bx,M2.H⟩:=by
 rintro a w ⟨b,g,rfl,i⟩ K Q j;rw[air (by simp[Region.wanted,c])];refine(h a b g i).wp ?_;rintro u p ⟨q,r,k,l,⟨rfl,rfl⟩,rfl,m,n⟩;rw[e];exact j _ _ ⟨k,l,W,m.set f n⟩
def cD.Fk(c:o.guard=none)(d:o.dst=none)(h:cD X o st (dq v M2)):xf X ops o st M2:=by
 rintro a w ⟨b,e,rfl,f⟩ K Q g;rw[air (by simp[Region.wanted,c])];refine(h a b e f).wp ?_;rintro u l ⟨m,n,i,j,⟨rfl,rfl⟩,rfl,k,p⟩;rw[d];exact g _ _ ⟨i,j,W,k⟩
def MK{b:Bool}(a:o.guard=none)(c:o.dst=some d)(e:d<X.n)
  (h:∀a,Ag ops o ⟨some d,v,rb,[],none,b,none⟩ st a->cD X o a (dq v a)):js X ops o ⟨some d,v,rb,[],none,b,none⟩ st:=
 λb f=>(h b f).DR a c e
def js.writes{b:List (Nat×List M)}(a:o.guard=none)(c:o.dst=none)
  (h:∀a,Ag ops o ⟨none,v,rb,b,none,false,none⟩ st a->cD X o a (dq v ⟨a.sl,b++a.bx,a.H⟩)):js X ops o ⟨none,v,rb,b,none,false,none⟩ st:=
 λb d=>(h b d).Fk a c
def bO{dst:Option Nat}(f:(ops[j]?).bind (·.dst)=some g)(n:get sl g=some (.m (.d (.bool w))))
  (k:TF X ops (⟨dst,op,ty,pos,af,none⟩::rest) ⟨sl,bx,H⟩ post):TF X ops (⟨dst,op,ty,pos,af,some (j,w)⟩::rest) ⟨sl,bx,H⟩ post:=by
 obtain⟨h,o,p,q⟩:=k;cases p with
 |cons l r s=>
  rename_i e h;refine⟨e::h,o,.cons ?_ r s,q⟩;intro b a;have t:get b.sl g=some (.m (.d (.bool w))):=by
   rw[<-n];refine a.sl g ?_;unfold Oper.looksAt;refine ain.2 (.inr ?_);simp[f]
  have u:Ag ops ⟨dst,op,ty,pos,af,none⟩ e ⟨sl,bx,H⟩ b:=
   ⟨λt b=>a.sl t (by
    unfold Oper.looksAt at b⊢;simp only[aiu]at b;exact ain.2 (.inl b)),a.bx,a.H,a.nw⟩
  have v:=l b u;rintro c x ⟨m,y,z,i⟩ K Q A;have d:=v c x ⟨m,y,z,i⟩ K Q A;have B:iM ops ⟨dst,op,ty,pos,af,some (j,w)⟩ b=some true:=by simp[iM,f,t]
  rw[air (i.wanted B)];rw[air (by simp[Region.wanted])]at d;have C:execOp c.eval ⟨dst,op,ty,pos,af,some (j,w)⟩=execOp c.eval ⟨dst,op,ty,pos,af,none⟩:=by cases op<;>rfl
  unfold Oper.wp at d⊢;rw[C];exact d
def e_(l:Nat.blt d X.n=true)(a:(ops[j]?).bind (·.dst)=some g)(n:get sl g=some (.m (.d (.bool b))))(o:(b==w)=false)
  (k:TF X ops rest ⟨(d,.m (.c_ []))::sl,bx,H⟩ λa c=>post (⟨some d,.m (.c_ []),[],[],none,false,none⟩::a) c):TF X ops (⟨some d,op,ty,pos,af,some (j,w)⟩::rest) ⟨sl,bx,H⟩ post:=by
 refine TF.cons (e:=⟨some d,.m (.c_ []),[],[],none,false,none⟩) ?_ W k;intro c p;have q:get c.sl g=some (.m (.d (.bool b))):=by
  rw[<-n];refine p.sl g ?_;unfold Oper.looksAt;refine ain.2 (.inr ?_);simp[a]
 rintro x z ⟨h,r,s,f⟩ K Q t;have u:iM ops ⟨some d,op,ty,pos,af,some (j,w)⟩ c=some false:=by simp[iM,a,q,o]
 rw[aid (by rw[f.wanted u];simp)];exact t _ _ ⟨h,r,s,f.set (bj l) (.m (.c_ [] #[] W (by intro y m v i;simp at i)))⟩
def iZ(i:Nat.blt d X.n=true)(a:(ops[j]?).bind (·.dst)=some g)(l:get sl g=some (.m (.c_ [])))
  (k:TF X ops rest ⟨(d,.m (.c_ []))::sl,bx,H⟩ λa b=>post (⟨some d,.m (.c_ []),[],[],none,false,none⟩::a) b):TF X ops (⟨some d,op,ty,pos,af,some (j,w)⟩::rest) ⟨sl,bx,H⟩ post:=by
 refine TF.cons (e:=⟨some d,.m (.c_ []),[],[],none,false,none⟩) ?_ W k;intro b n;have o:get b.sl g=some (.m (.c_ [])):=by
  rw[<-l];refine n.sl g ?_;unfold Oper.looksAt;refine ain.2 (.inr ?_);simp[a]
 rintro t x ⟨f,p,q,c⟩ K Q r;have s:iM ops ⟨some d,op,ty,pos,af,some (j,w)⟩ b=some false:=by simp[iM,a,o]
 rw[aid (by rw[c.wanted s];simp)];exact r _ _ ⟨f,p,q,c.set (bj i) (.m (.c_ [] #[] W (by intro u m v h;simp at h)))⟩
def bG(a:Nat.blt d X.n=true)(b:aS sl x=some v)(k:TF X ops rest ⟨(d,v)::sl,bx,H⟩ λa b=>post (⟨some d,v,[],[],none,false,none⟩::a) b):
  TF X ops (⟨some d,.move x,ty,pos,af,none⟩::rest) ⟨sl,bx,H⟩ post:=
 TF.cons (e:=⟨some d,v,[],[],none,false,none⟩) (MK W W (bj a) λa a=>xJ ((a.ev (x:=x) (by simp[Op.operands,Call.operands])).trans b)) W k
def mY(a:Nat.blt d X.n=true)(b:aS sl x=some v)(k:TF X ops rest ⟨(d,v)::sl,bx,H⟩ λa b=>post (⟨some d,v,[],[],none,false,none⟩::a) b):
  TF X ops (⟨some d,.assign x,ty,pos,af,none⟩::rest) ⟨sl,bx,H⟩ post:=
 TF.cons (e:=⟨some d,v,[],[],none,false,none⟩) (MK W W (bj a) λa a=>sI ((a.ev (x:=x) (by simp[Op.operands,Call.operands])).trans b)) W k
def pA{c:Operand}(h:Nat.blt d X.n=true)(f:aS sl c=some (.m (.d (.bool b))))(g:aS sl (bif b then x else y)=some v)(k:TF X ops rest ⟨(d,v)::sl,bx,H⟩ λa f=>post (⟨some d,v,[],[],none,false,none⟩::a) f):
  TF X ops (⟨some d,.pick c x y,ty,pos,af,none⟩::rest) ⟨sl,bx,H⟩ post:=by
 refine TF.cons (e:=⟨some d,v,[],[],none,false,none⟩) (MK W W (bj h) λi a=>?_) W k;cases b
 .exact sK ((a.ev (x:=c) (by simp[Op.operands])).trans f) ((a.ev (x:=y) (by simp[Op.operands])).trans g)
 .exact sJ ((a.ev (x:=c) (by simp[Op.operands])).trans f) ((a.ev (x:=x) (by simp[Op.operands])).trans g)
def kV{op:BinOp}{n:Int}(a:Nat.blt d X.n=true)(b:aS sl x=some (.m (.d (.int kk m))))(c:aS sl y=some (.m (.d (.int kk n))))(f:iK op kk m n=some r)(k:TF X ops rest ⟨(d,(.m (.d r)))::sl,bx,H⟩ λa b=>post (⟨some d,(.m (.d r)),[],[],none,false,none⟩::a) b):
  TF X ops (⟨some d,.binOp op xt x y yt,ty,pos,af,none⟩::rest) ⟨sl,bx,H⟩ post:=
 TF.cons (e:=⟨some d,(.m (.d r)),[],[],none,false,none⟩) (MK W W (bj a) λa a=>tJ ((a.ev (x:=x) (by simp[Op.operands,Call.operands])).trans b) ((a.ev (x:=y) (by simp[Op.operands,Call.operands])).trans c) f) W k
def HJ{n:Int}(a:Nat.blt d X.n=true)(b:aS sl x=some (.m (.d (.int .i64 m))))(c:aS sl y=some (.m (.d (.int .i64 n))))(f: -9223372036854775808<=m+n/\m+n<=9223372036854775807)(k:TF X ops rest ⟨(d,(.m (.d (.int .i64 (m+n)))))::sl,bx,H⟩ λa b=>post (⟨some d,(.m (.d (.int .i64 (m+n)))),[],[],none,false,none⟩::a) b):
  TF X ops (⟨some d,.binOp .add xt x y yt,ty,pos,af,none⟩::rest) ⟨sl,bx,H⟩ post:=
 TF.cons (e:=⟨some d,(.m (.d (.int .i64 (m+n)))),[],[],none,false,none⟩) (MK W W (bj a) λa a=>tJ ((a.ev (x:=x) (by simp[Op.operands,Call.operands])).trans b) ((a.ev (x:=y) (by simp[Op.operands,Call.operands])).trans c) (by simp[iK,show IntKind.i64.wrap (m+n)=m+n from IntWalk.i64_in _ f])) W k
def fO{n:Int}(a:Nat.blt d X.n=true)(b:aS sl x=some (.m (.d (.int .i64 m))))(c:aS sl y=some (.m (.d (.int .i64 n))))(f: -9223372036854775808<=m-n/\m-n<=9223372036854775807)(k:TF X ops rest ⟨(d,(.m (.d (.int .i64 (m-n)))))::sl,bx,H⟩ λa b=>post (⟨some d,(.m (.d (.int .i64 (m-n)))),[],[],none,false,none⟩::a) b):
  TF X ops (⟨some d,.binOp .sub xt x y yt,ty,pos,af,none⟩::rest) ⟨sl,bx,H⟩ post:=
 TF.cons (e:=⟨some d,(.m (.d (.int .i64 (m-n)))),[],[],none,false,none⟩) (MK W W (bj a) λa a=>tJ ((a.ev (x:=x) (by simp[Op.operands,Call.operands])).trans b) ((a.ev (x:=y) (by simp[Op.operands,Call.operands])).trans c) (by simp[iK,show IntKind.i64.wrap (m-n)=m-n from IntWalk.i64_in _ f])) W k
def KW{n:Int}(a:Nat.blt d X.n=true)(b:aS sl x=some (.m (.d (.int kk m))))(c:aS sl y=some (.m (.d (.int kk n))))(f:(n==0)=false)(k:TF X ops rest ⟨(d,(.m (.d (.int kk (kk.wrap (m.tdiv n))))))::sl,bx,H⟩ λa b=>post (⟨some d,(.m (.d (.int kk (kk.wrap (m.tdiv n))))),[],[],none,false,none⟩::a) b):
  TF X ops (⟨some d,.binOp .quo xt x y yt,ty,pos,af,none⟩::rest) ⟨sl,bx,H⟩ post:=
 TF.cons (e:=⟨some d,(.m (.d (.int kk (kk.wrap (m.tdiv n))))),[],[],none,false,none⟩) (MK W W (bj a) λa a=>Jx ((a.ev (x:=x) (by simp[Op.operands,Call.operands])).trans b) ((a.ev (x:=y) (by simp[Op.operands,Call.operands])).trans c) f) W k
def DU{n:Int}(a:Nat.blt d X.n=true)(b:aS sl x=some (.m (.d (.int kk m))))(c:aS sl y=some (.m (.d (.int kk n))))(f:(n==0)=false)(k:TF X ops rest ⟨(d,(.m (.d (.int kk (m.tmod n)))))::sl,bx,H⟩ λa b=>post (⟨some d,(.m (.d (.int kk (m.tmod n)))),[],[],none,false,none⟩::a) b):
  TF X ops (⟨some d,.binOp .rem xt x y yt,ty,pos,af,none⟩::rest) ⟨sl,bx,H⟩ post:=
 TF.cons (e:=⟨some d,(.m (.d (.int kk (m.tmod n)))),[],[],none,false,none⟩) (MK W W (bj a) λa a=>Fg ((a.ev (x:=x) (by simp[Op.operands,Call.operands])).trans b) ((a.ev (x:=y) (by simp[Op.operands,Call.operands])).trans c) f) W k
def HK(a:Nat.blt d X.n=true)(c:aS sl x=some (.m (.d (.bool b))))(k:TF X ops rest ⟨(d,(.m (.d (.bool (!b)))))::sl,bx,H⟩ λa c=>post (⟨some d,(.m (.d (.bool (!b)))),[],[],none,false,none⟩::a) c):
  TF X ops (⟨some d,.unOp .not xt x,ty,pos,af,none⟩::rest) ⟨sl,bx,H⟩ post:=
 TF.cons (e:=⟨some d,(.m (.d (.bool (!b)))),[],[],none,false,none⟩) (MK W W (bj a) λa a=>Bl ((a.ev (x:=x) (by simp[Op.operands,Call.operands])).trans c)) W k
def Cg{s:ByteArray}(a:Nat.blt d X.n=true)(b:aS sl x=some (.m (.d (.str s))))(c:aS sl y=some (.m (.d (.str u))))(k:TF X ops rest ⟨(d,(.m (.d (.bool (decide (s=u))))))::sl,bx,H⟩ λa b=>post (⟨some d,(.m (.d (.bool (decide (s=u))))),[],[],none,false,none⟩::a) b):
  TF X ops (⟨some d,.binOp .eql xt x y yt,ty,pos,af,none⟩::rest) ⟨sl,bx,H⟩ post:=
 TF.cons (e:=⟨some d,(.m (.d (.bool (decide (s=u))))),[],[],none,false,none⟩) (MK W W (bj a) λa a=>u_ ((a.ev (x:=x) (by simp[Op.operands,Call.operands])).trans b) ((a.ev (x:=y) (by simp[Op.operands,Call.operands])).trans c)) W k
def Ch{s:ByteArray}(a:Nat.blt d X.n=true)(b:aS sl x=some (.m (.d (.str s))))(c:aS sl y=some (.m (.d (.str u))))(k:TF X ops rest ⟨(d,(.m (.d (.bool (!decide (s=u))))))::sl,bx,H⟩ λa b=>post (⟨some d,(.m (.d (.bool (!decide (s=u))))),[],[],none,false,none⟩::a) b):
  TF X ops (⟨some d,.binOp .neq xt x y yt,ty,pos,af,none⟩::rest) ⟨sl,bx,H⟩ post:=
 TF.cons (e:=⟨some d,(.m (.d (.bool (!decide (s=u))))),[],[],none,false,none⟩) (MK W W (bj a) λa a=>Ad ((a.ev (x:=x) (by simp[Op.operands,Call.operands])).trans b) ((a.ev (x:=y) (by simp[Op.operands,Call.operands])).trans c)) W k
def oX{s:ByteArray}(a:Nat.blt d X.n=true)(b:aS sl x=some (.m (.d (.str s))))(c:aS sl y=some (.m (.d (.str u))))(f:s.size+u.size<=9223372036854775807)(k:TF X ops rest ⟨(d,(.m (.d (.str (s++u)))))::sl,bx,H⟩ λa b=>post (⟨some d,(.m (.d (.str (s++u)))),[],[],none,false,none⟩::a) b):
  TF X ops (⟨some d,.binOp .add xt x y yt,ty,pos,af,none⟩::rest) ⟨sl,bx,H⟩ post:=
 TF.cons (e:=⟨some d,(.m (.d (.str (s++u)))),[],[],none,false,none⟩) (MK W W (bj a) λa a=>xP ((a.ev (x:=x) (by simp[Op.operands,Call.operands])).trans b) ((a.ev (x:=y) (by simp[Op.operands,Call.operands])).trans c) f) W k
def cm{cs:List D}{o:Nat}[c:aL X.P s f o](a:Nat.blt d X.n=true)(b:aS sl x=some (.m (.d (.bM cs off))))(k:TF X ops rest ⟨(d,(.m (.d (.bM cs (off+o)))))::sl,bx,H⟩ λa b=>post (⟨some d,(.m (.d (.bM cs (off+o)))),[],[],none,false,none⟩::a) b):
  TF X ops (⟨some d,.fieldAddr s x f,ty,pos,af,none⟩::rest) ⟨sl,bx,H⟩ post:=
 TF.cons (e:=⟨some d,(.m (.d (.bM cs (off+o)))),[],[],none,false,none⟩) (MK W W (bj a) λa a=>sP ((a.ev (x:=x) (by simp[Op.operands,Call.operands])).trans b)) W k
def cF{o:Nat}[c:aL X.P s f o](a:Nat.blt d X.n=true)(b:aS sl x=some (.loc t off))(k:TF X ops rest ⟨(d,(.loc t (off+o)))::sl,bx,H⟩ λa b=>post (⟨some d,(.loc t (off+o)),[],[],none,false,none⟩::a) b):
  TF X ops (⟨some d,.fieldAddr s x f,ty,pos,af,none⟩::rest) ⟨sl,bx,H⟩ post:=
 TF.cons (e:=⟨some d,(.loc t (off+o)),[],[],none,false,none⟩) (MK W W (bj a) λa a=>sQ ((a.ev (x:=x) (by simp[Op.operands,Call.operands])).trans b)) W k
def bW{o:Nat}[c:aL X.P s f o](a:Nat.blt d X.n=true)(b:aS sl x=some (.m (.ref i off)))(k:TF X ops rest ⟨(d,(.m (.ref i (off+o))))::sl,bx,H⟩ λa b=>post (⟨some d,(.m (.ref i (off+o))),[],[],none,false,none⟩::a) b):
  TF X ops (⟨some d,.fieldAddr s x f,ty,pos,af,none⟩::rest) ⟨sl,bx,H⟩ post:=
 TF.cons (e:=⟨some d,(.m (.ref i (off+o))),[],[],none,false,none⟩) (MK W W (bj a) λa a=>sR ((a.ev (x:=x) (by simp[Op.operands,Call.operands])).trans b)) W k
def gA{MF o:Nat}[c:aL X.P s f o](a:Nat.blt d X.n=true)(b:aS sl x=some (.m (.cz i MF off)))(k:TF X ops rest ⟨(d,(.m (.cz i MF (off+o))))::sl,bx,H⟩ λa b=>post (⟨some d,(.m (.cz i MF (off+o))),[],[],none,false,none⟩::a) b):
  TF X ops (⟨some d,.fieldAddr s x f,ty,pos,af,none⟩::rest) ⟨sl,bx,H⟩ post:=
 TF.cons (e:=⟨some d,(.m (.cz i MF (off+o))),[],[],none,false,none⟩) (MK W W (bj a) λa a=>sS ((a.ev (x:=x) (by simp[Op.operands,Call.operands])).trans b)) W k
def di{cs:List D}{v:D}[ht:cI X.P t](a:Nat.blt d X.n=true)(b:aS sl x=some (.m (.d (.bM cs off))))(c:cs[off]?=some v)(k:TF X ops rest ⟨(d,(.m (.d v)))::sl,bx,H⟩ λa b=>post (⟨some d,(.m (.d v)),[],[],none,false,none⟩::a) b):
  TF X ops (⟨some d,.load t x,ty,pos,af,none⟩::rest) ⟨sl,bx,H⟩ post:=
 TF.cons (e:=⟨some d,(.m (.d v)),[],[],none,false,none⟩) (MK W W (bj a) λa a=>sM ((a.ev (x:=x) (by simp[Op.operands,Call.operands])).trans b) c) W k
def dY{cs:List D}[ht:dz X.P t n](a:Nat.blt d X.n=true)(b:aS sl x=some (.m (.d (.bM cs 0))))(c:cs.length=n)(k:TF X ops rest ⟨(d,(.m (.d (.agg cs))))::sl,bx,H⟩ λa b=>post (⟨some d,(.m (.d (.agg cs))),[],[],none,false,none⟩::a) b):
  TF X ops (⟨some d,.load t x,ty,pos,af,none⟩::rest) ⟨sl,bx,H⟩ post:=
 TF.cons (e:=⟨some d,(.m (.d (.agg cs))),[],[],none,false,none⟩) (MK W W (bj a) λa a=>sN ((a.ev (x:=x) (by simp[Op.operands,Call.operands])).trans b) c) W k
def jL{cs:List D}[ht:dz X.P t n](b:Nat.blt d X.n=true)(c:aS sl x=some (.m (.d (.bM cs off))))(a:sub cs off n=some ds)(k:TF X ops rest ⟨(d,(.m (.d (.agg ds))))::sl,bx,H⟩ λa b=>post (⟨some d,(.m (.d (.agg ds))),[],[],none,false,none⟩::a) b):
  TF X ops (⟨some d,.load t x,ty,pos,af,none⟩::rest) ⟨sl,bx,H⟩ post:=
 TF.cons (e:=⟨some d,(.m (.d (.agg ds))),[],[],none,false,none⟩) (MK W W (bj b) λb b=>px ((b.ev (x:=x) (by simp[Op.operands,Call.operands])).trans c) (aiF (sub_eq a).1) (sub_eq a).2) W k
def cO{m:M}[ht:cI X.P T](a:Nat.blt d X.n=true)(b:aS sl x=some (.loc t off))(c:get bx t=some cs)(f:cs[off]?=some m)(k:TF X ops rest ⟨(d,(.m m))::sl,bx,H⟩ λa b=>post (⟨some d,(.m m),[t],[],none,false,none⟩::a) b):
  TF X ops (⟨some d,.load T x,ty,pos,af,none⟩::rest) ⟨sl,bx,H⟩ post:=
 TF.cons (e:=⟨some d,(.m m),[t],[],none,false,none⟩) (MK W W (bj a) λa a=>sW ((a.ev (x:=x) (by simp[Op.operands,Call.operands])).trans b) ((a.bx t (by simp)).trans c) f) W k
def cY[ht:dz X.P T n](b:Nat.blt d X.n=true)(c:aS sl x=some (.loc t off))(f:get bx t=some cs)(a:sub cs off n=some Nf)(g:gg Nf=some ds)(k:TF X ops rest ⟨(d,(.m (.d (.agg ds))))::sl,bx,H⟩ λa b=>post (⟨some d,(.m (.d (.agg ds))),[t],[],none,false,none⟩::a) b):
  TF X ops (⟨some d,.load T x,ty,pos,af,none⟩::rest) ⟨sl,bx,H⟩ post:=
 TF.cons (e:=⟨some d,(.m (.d (.agg ds))),[t],[],none,false,none⟩) (MK W W (bj b) λb b=>sX ((b.ev (x:=x) (by simp[Op.operands,Call.operands])).trans c) ((b.bx t (by simp)).trans f) (aiF (sub_eq a).1) (by rw[(sub_eq a).2];exact g)) W k
def dJ(a:Nat.blt d X.n=true)(b:aS sl x=some v)(c:sT v=true)(k:TF X ops rest ⟨(d,v)::sl,bx,H⟩ λa b=>post (⟨some d,v,[],[],none,false,none⟩::a) b):
  TF X ops (⟨some d,.nilCheck x,ty,pos,af,none⟩::rest) ⟨sl,bx,H⟩ post:=
 TF.cons (e:=⟨some d,v,[],[],none,false,none⟩) (MK W W (bj a) λa a=>py ((a.ev (x:=x) (by simp[Op.operands,Call.operands])).trans b) c) W k
def lY{e:Nat}{v:D}[ht:aU X.P t e](a:Nat.blt d X.n=true)(b:aS sl x=some (.m (.d v)))(c:mz v=some n)(k:TF X ops rest ⟨(d,(.m (.d (.int .i64 n))))::sl,bx,H⟩ λa b=>post (⟨some d,(.m (.d (.int .i64 n))),[],[],none,false,none⟩::a) b):
  TF X ops (⟨some d,.call ⟨.builtin .len,#[x],#[t]⟩,ty,pos,af,none⟩::rest) ⟨sl,bx,H⟩ post:=
 TF.cons (e:=⟨some d,(.m (.d (.int .i64 n))),[],[],none,false,none⟩) (MK W W (bj a) λa a=>xN ((a.ev (x:=x) (by simp[Op.operands,Call.operands])).trans b) c) W k
def bE{e:Nat}{r:List D}{i:Int}[ht:aU X.P t e][j:bQ X.P e n](a:Nat.blt d X.n=true)(b:aS sl x=some (.m (.d (.sl rows))))(c:aS sl y=some (.m (.d (.int kk i))))(f:0<=i)(g:rows[i.toNat]?=some r)(h:r.length=n)(k:TF X ops rest ⟨(d,(.m (.d (.bM r 0))))::sl,bx,H⟩ λa b=>post (⟨some d,(.m (.d (.bM r 0))),[],[],none,false,none⟩::a) b):
  TF X ops (⟨some d,.indexAddr t x y,ty,pos,af,none⟩::rest) ⟨sl,bx,H⟩ post:=
 TF.cons (e:=⟨some d,(.m (.d (.bM r 0))),[],[],none,false,none⟩) (MK W W (bj a) λa a=>xO ((a.ev (x:=x) (by simp[Op.operands,Call.operands])).trans b) ((a.ev (x:=y) (by simp[Op.operands,Call.operands])).trans c) f g h) W k
def DV{a:List M}{m:M}(b:Nat.blt d X.n=true)(c:aS sl x=some (.m (.c_ a)))(f:a[i]?=some m)(k:TF X ops rest ⟨(d,(.m m))::sl,bx,H⟩ λa b=>post (⟨some d,(.m m),[],[],none,false,none⟩::a) b):
  TF X ops (⟨some d,.extract x i,ty,pos,af,none⟩::rest) ⟨sl,bx,H⟩ post:=
 TF.cons (e:=⟨some d,(.m m),[],[],none,false,none⟩) (MK W W (bj b) λa a=>qu ((a.ev (x:=x) (by simp[Op.operands,Call.operands])).trans c) f) W k
def Ag.gx(h:Ag ops o e st MW):∀{xs:List Operand},(∀x∈xs,x∈o.op.operands.toList)->MW.gx xs=st.gx xs
 |[],_=>rfl
 |x::r,a=>by
  simp only[St.gx];rw[h.ev (a x (by simp)),h.gx (λy b=>a y (by simp[b]))]
def Ag.gu(h:Ag ops o e st MW):∀{xs:List Operand},(∀x∈xs,x∈o.op.operands.toList)->MW.gu xs=st.gu xs
 |[],_=>rfl
 |x::r,a=>by
  simp only[St.gu];rw[h.ev (a x (by simp)),h.gu (λy b=>a y (by simp[b]))]
def Ag.dI(h:Ag ops o e st MW):∀{xs:List (Nat×Operand)},(∀p∈xs,p.2∈o.op.operands.toList)->Mt.dI MW xs=Mt.dI st xs
 |[],_=>rfl
 |(i,x)::r,a=>by
  simp only[Mt.dI];rw[h.ev (a (i,x) (by simp)),h.dI (λy b=>a y (by simp[b]))]
def bm{args:List Operand}{OU:Array Nat}[c:aW X.P f](h:PT X.P f ds (·=[r]))(a:Nat.blt d X.n=true)(b:gx sl args=some ds)(k:TF X ops rest ⟨(d,.m (.d r))::sl,bx,H⟩ λa b=>post (⟨some d,.m (.d r),[],[],none,false,none⟩::a) b):
  TF X ops (⟨some d,.call ⟨.value (.func f),args.toArray,OU⟩,ty,pos,af,none⟩::rest) ⟨sl,bx,H⟩ post:=
 TF.cons (e:=⟨some d,.m (.d r),[],[],none,false,none⟩) (MK W W (bj a) λa a=>Ae (by rw[a.gx (λx a=>by simp[Op.operands,Call.operands];exact .inr a),nC];exact b) h) W k
def tV{ps:List (Nat×Nat)}{z:List D}{a:List M}[ht:cE X.P T ps z](b:Nat.blt d X.n=true)(c:eG sl parts=some ms)(f:mK z=some a)
  (h:jW ps a ms=some cs) (i:gg cs=some ds) (k:TF X ops rest ⟨(d,.m (.d (.agg ds)))::sl,bx,H⟩ λa b=>post (⟨some d,.m (.d (.agg ds)),[],[],none,false,none⟩::a) b):TF X ops (⟨some d,.build T parts.toArray,ty,pos,af,none⟩::rest) ⟨sl,bx,H⟩ post:=by
 refine TF.cons (e:=⟨some d,.m (.d (.agg ds)),[],[],none,false,none⟩) (MK W W (bj b) λb j=>?_) W k;have a:=mX (X:=X) (dst:=some d) (ty:=ty) (pos:=pos) (af:=af) (g:=none) (st:=b) (T:=T) (parts:=parts) (ms:=ms) (by rw[j.dI (λp a=>by simp[Op.operands];exact⟨_,a⟩),eH];exact c) (by rw[<-kS f];exact lu h);have:pack cs=.d (.agg ds):=by simp[pack,i]
 rw[this]at a;exact a
def cr{e len:Nat}{z:D}[ht:aU X.P T e][f:bQ X.P e n][g:fk X.P e z](a:Nat.blt d X.n=true)(b:Nat.blt 0 n=true)(c:Nat.beq (bz z).length n=true)
  (i:Nat.ble (len*n) 16777216=true) (f:eG sl parts=some ms) (g:lx 0 ms=some rows) (j:Nat.beq rows.length len=true) (h:jK n rows=true)
  (k:TF X ops rest ⟨(d,.m (.d (.sl rows)))::sl,bx,H⟩ λa b=>post (⟨some d,.m (.d (.sl rows)),[],[],none,false,none⟩::a) b):TF X ops (⟨some d,.buildSlice T len parts.toArray,ty,pos,af,none⟩::rest) ⟨sl,bx,H⟩ post:=by
 refine TF.cons (e:=⟨some d,.m (.d (.sl rows)),[],[],none,false,none⟩) (MK W W (bj a) λl a=>?_) W k;exact kT b c i (by rw[a.dI (λp a=>by simp[Op.operands];exact⟨_,a⟩),eH];exact f) g j h
def vf{sl:List (Nat×V)}{d:Nat}(h:∀t o,get sl t≠some (.loc d o)):∀t v,get sl t=some v->get (cX d sl) t=some v:=by
 have:∀(l:List (Nat×V)) (t:Nat) (v:V),get l t=some v->(∀o,v≠.loc d o)->get (cX d l) t=some v:=by
  intro l
  induction l with
  |nil=>intro t v h;simp[get]at h
  |cons x l c=>
   intro t v a b;obtain⟨j,u⟩:=x;cases u with
   |m m=>
    unfold cX;rcases bL a with⟨rfl,rfl⟩|⟨f,g⟩
    .simp[bP]
    .rw[bP,aid (λe=>f e.symm)];exact c t v g b
   |tl i k n o=>
    unfold cX;rcases bL a with⟨rfl,rfl⟩|⟨f,g⟩
    .simp[bP]
    .rw[bP,aid (λe=>f e.symm)];exact c t v g b
   |loc u o=>
    unfold cX;cases i:Nat.beq u d with
    |false=>
     rcases bL a with⟨rfl,rfl⟩|⟨f,g⟩
     .simp[bP]
     .simp only[akb];rw[bP,aid (λe=>f e.symm)];exact c t v g b
    |true=>
     have:=aiw i;subst this;rcases bL a with⟨rfl,rfl⟩|⟨f,g⟩
     .exact absurd W (b o)
     .simp only[aiP];rw[bP,aid (λe=>f e.symm)];exact c t v g b
 intro t v a;exact this sl t v a (λo b=>h t o (by rw[a,b]))
def nF[b:iY X.P T cs](c:Nat.blt d X.n=true)(k:TF X ops rest ⟨(d,.loc d 0)::sl,(d,cs)::bx,H⟩ λa b=>post (⟨some d,.loc d 0,[],[(d,cs)],some d,false,none⟩::a) b):
  TF X ops (⟨some d,.alloc T,ty,pos,af,none⟩::rest) ⟨sl,bx,H⟩ post:=by
 refine TF.cons (e:=⟨some d,.loc d 0,[],[(d,cs)],some d,false,none⟩) ?_ W k;intro f h;obtain⟨z,x,i⟩:=b.h;subst i;have j:=(Af (X:=X) (st:=f) (d:=d) (T:=T) (ty:=ty) (pos:=pos) (af:=af) (g:=none)).DR (ops:=ops) W W (bj c);intro a w l K Q m;refine j a w l K Q λn o p=>m n o ?_
 have q:=vf (h.nw d W);refine p.gL (λt v r=>?_) (λ_=>rfl);rcases bL r with⟨rfl,rfl⟩|⟨s,u⟩
 .simp[bP]
 .rw[bP,aid (λe=>s e.symm)];exact q t v u
def cv{new:List M}{m:M}[j:bQ X.P T n](b:aS sl x=some (.loc t off))(c:aS sl y=some (.m m))(d:get bx t=some cs)(a:fr m=some new)
  (f:Nat.beq new.length n=true) (g:wr cs off new=some Nf) (k:TF X ops rest ⟨sl,(t,Nf)::bx,H⟩ λa b=>post (⟨none,.m .undef,[],[(t,Nf)],none,false,none⟩::a) b):TF X ops (⟨none,.store T x y,ty,pos,af,none⟩::rest) ⟨sl,bx,H⟩ post:=by
 obtain⟨h,i⟩:=cS a;subst h;exact TF.cons (e:=⟨none,.m .undef,[],[(t,Nf)],none,false,none⟩) (js.writes W W λa a=>xR ((a.ev (x:=x) (by simp[Op.operands])).trans b) ((a.ev (x:=y) (by simp[Op.operands])).trans c) ((a.bx t (by simp)).trans d) (aiw f) i (sY g)) W k
end rules
end Go.Mt
namespace Go.Mt
variable{X:cQ}{σ:Sg}{MH:Nat->Nat}{st:St}{a:Act}{ob:Ob}
def bU.heap{τ:Sg}(hi:bU X σ MH st a)(b:db σ τ)(c:iH τ (mx X.jB MH st.bx))
  (d:∀t b,get st.bx t=some b->τ.w.heap[MH t]?=σ.w.heap[MH t]?) (e:bF σ τ):bU X τ MH ⟨st.sl,st.bx,τ.H⟩ a:=
 ⟨rfl,hi.defers,hi.size,λt v c=>let⟨u,f,g⟩:=hi.slot t v c;⟨u,f,g.mono b⟩,λt c h=>(hi.box t c h).fY b (λx b=>by rw[d t c h];exact b),hi.og,hi.oR,hi.oS,c,hi.mono.trans b,hi.aT.trans e⟩
def bU.KX(hi:bU X σ MH st a){t:Nat}{cs:List M}(h:get st.bx t=some cs){i:Nat}(c:σ.H[i]?=some ob)(d:ob.live):MH t≠σ.l i:=
 λe=>mO hi.hinv (b:=MH t) (.inr ⟨t,cs,h,rfl⟩) i ob c d e.symm
def bU.newObj(hi:bU X σ MH st a)(ob:Ob)(x:Obj)
  (B:∀τ:Sg,db σ τ->τ.w={σ.w with heap:=σ.w.heap.push x} ->fN τ σ.w.heap.size ob):
  ∃τ:Sg,τ.w={σ.w with heap:=σ.w.heap.push x} /\τ.l σ.H.length=σ.w.heap.size/\τ.H=st.H++[ob]/\db σ τ/\bU X τ MH ⟨st.sl,st.bx,st.H++[ob]⟩ a:=by
 let b:=σ.w.heap.size
 let q:World:={σ.w with heap:=σ.w.heap.push x}
 let g:Nat->Nat:= λi=>if i=σ.H.length then b else σ.l i
 let τ:Sg:=⟨q,λc o=>σ.O c o\/(c=b/\ob.ji o),g,σ.H++[ob]⟩
 have k:fW σ.w q:=fW.alloc _ _;have f:∀(i:Nat) o,σ.H[i]?=some o->(σ.H++[ob])[i]?=some o/\g i=σ.l i:=by
  intro i o m;have n:i<σ.H.length:=by rcases ais i σ.H.length with h|h;exact h;simp[ail h]at m
  exact⟨by rw[aim n];exact m,by simp[g,show i≠σ.H.length by omega]⟩
 have l:∀(i:Nat) o,(σ.H++[ob])[i]?=some o->(σ.H[i]?=some o/\g i=σ.l i)\/(i=σ.H.length/\o=ob):=by
  intro i o h;rcases ais i σ.H.length with m|m
  .rw[aim m]at h;exact .inl ⟨h,(f i o h).2⟩
  .rw[aix m]at h;have:i-σ.H.length=0:=by
    rcases aiO (i-σ.H.length)with r|r
    .exact r
    .rw[ail (by simp;omega)]at h;cases h
   rw[this]at h;simp at h;exact .inr ⟨by omega,h.symm⟩
 have p:db σ τ:=by
  refine⟨λc o v e d=>⟨k.cell e,?_⟩,λi d h=>⟨⟨d,(f i _ h).1⟩,(f i _ h).2⟩,λi d h=>⟨⟨d,(f i _ h).1⟩,(f i _ h).2⟩,λi d h=>⟨⟨d,(f i _ h).1⟩,(f i _ h).2⟩,λi h=>(f i _ h).1,
   λi g d e d h=>.inr ⟨g,e,d,(f i _ h).1,ah9 _,λ_=>⟨(f i _ h).2,rfl,λe T d=>⟨e,k.heap d,rfl⟩⟩⟩,λi h=>⟨_,(f i _ h).1⟩⟩
  rintro(h|⟨h,_⟩)
  .exact d h
  .have:=kR e;omega
 have n:∀(i:Nat) o,σ.H[i]?=some o->o.live->σ.l i<b:= λi o e d=>(hi.hinv.obj i o e).lt d
 have C:fN τ b ob:=B τ p W;have j:g σ.H.length=b:=by simp[g]
 have E:iH τ (mx X.jB MH st.bx):=by
  refine⟨?_,?_,?_,?_,λc o h=>ajH (hi.hinv.iW c o h) k.size⟩
  .intro i o h;rcases l i o h with⟨e,d⟩|⟨rfl,rfl⟩
   .show fN τ (g i) o;rw[d];exact(hi.hinv.obj i o e).fY p λx d=>k.heap d
   .show fN τ (g _) o;rw[j];exact C
  .intro i m x y e d r s h;change g i=g m at h;rcases l i x e with⟨t,u⟩|⟨rfl,rfl⟩<;>rcases l m y d with⟨w,z⟩|⟨rfl,rfl⟩
   .rw[u,z]at h;exact hi.hinv.inj i m x y t w r s h
   .rw[u,j]at h;have:=n i x t r;omega
   .rw[z,j]at h;have:=n m y w s;omega
   .rfl
  .intro c o;show(σ.O c o\/(c=b/\ob.ji o))↔_;rw[hi.hinv.own];constructor
   .rintro((h|⟨i,x,e,d,m⟩)|⟨rfl,d⟩)
    .exact .inl h
    .exact .inr ⟨i,x,(f i x e).1,(by show g i=c;rw[(f i x e).2];exact d),m⟩
    .exact .inr ⟨σ.H.length,ob,by simp[τ],j,d⟩
   .rintro(m|⟨i,x,e,d,h⟩)
    .exact .inl (.inl m)
    .rcases l i x e with⟨r,s⟩|⟨rfl,rfl⟩
     .exact .inl (.inr ⟨i,x,r,by rw[<-s];exact d,h⟩)
     .exact .inr ⟨by rw[<-d];exact j,h⟩
  .intro i o e d m h;rcases l i o e with⟨s,t⟩|⟨rfl,rfl⟩
   .exact hi.hinv.sep i o s d m (by rw[<-t];exact h)
   .have r:mx X.jB MH st.bx b m:=by rw[<-j];exact h
    have:=hi.hinv.iW _ _ r;exact Nat.lt_irrefl _ this
 have D:bF σ τ:=by
  refine⟨W,W,W,k.size,λc d _=>k.aT c d,?_⟩;intro i o e d;rcases l i o e with⟨h,m⟩|⟨rfl,rfl⟩
  .exact .inr ⟨o,h,d,m⟩
  .exact .inl (by show _<=g _;rw[j];exact ah9 _)
 have A:τ.H=st.H++[ob]:=by show σ.H++[ob]=_;rw[hi.hH]
 refine⟨τ,W,j,A,p,?_⟩;have:=hi.heap p E (λt d h=>k.aT _ ((hi.box t d h).lt trivial)) D;rw[A]at this;exact this
def turns(a d:Prop):Ob->Ob->Prop
 |.box _,.box _=>a
 |.map _,.map _=>a
 |.iter _,.iter _=>a
 |.row _ _ _ _,.dead=>True
 |.row _ e b f,.row _ g c h=>g=e/\(b<c\/(c=b/\h.length=f.length/\a/\d))
 |_,_=>False
def bU.jx(hi:bU X σ MH st a){j b':Nat}{NX:Ob}{w':World}(L:st.H[j]?=some ob)(q:ob.live)
  (U:w'.os=σ.w.os) (M:w'.output=σ.w.output) (N:w'.tape=σ.w.tape) (H:σ.w.heap.size<=w'.heap.size)
  (w:∀c,c<σ.w.heap.size->c≠σ.l j->w'.heap[c]?=σ.w.heap[c]?) (b:b'=σ.l j\/σ.w.heap.size<=b')
  (O:∀o v,¬ob.ji o->ea σ.w (σ.l j) o=some v->ea w' (σ.l j) o=some v/\(b'=σ.l j->¬NX.ji o))
  (p:turns (b'=σ.l j) (∀d T,σ.w.heap[σ.l j]?=some (.cells d T (0,0))->∃b,w'.heap[σ.l j]?=some (.cells b T (0,0))/\b.size=d.size) ob NX)
  (P:∀τ:Sg,db σ τ->τ.w=w'->τ.l j=b'->τ.H=st.H.set j NX->fN τ b' NX):
  ∃τ:Sg,τ.w=w'/\τ.l j=b'/\τ.H=st.H.set j NX/\db σ τ/\bU X τ MH ⟨st.sl,st.bx,st.H.set j NX⟩ a:=by
 have I:=hi.hH;have l:σ.H[j]?=some ob:=by rw[I];exact L
 have Q:j<σ.H.length:=by rcases ais j σ.H.length with h|h;exact h;simp[ail h]at l
 let g:Nat->Nat:= λi=>if i=j then b' else σ.l i
 let s:=σ.H.set j NX
 let y:=mx X.jB MH st.bx
 let τ:Sg:=⟨w',λc o=>y c o\/∃(i:Nat) (x:Ob),s[i]?=some x/\g i=c/\x.ji o,g,s⟩
 have n:∀(i:Nat) x,i≠j->σ.H[i]?=some x->s[i]?=some x/\g i=σ.l i:=by
  intro i x r h;exact⟨by show(σ.H.set j NX)[i]?=_;rw[aiQ (ajs r)];exact h,by simp[g,r]⟩
 have f:s[j]?=some NX/\g j=b':=⟨by show(σ.H.set j NX)[j]?=_;simp[Q],by simp[g]⟩;have t:∀(i:Nat) x,s[i]?=some x->(i≠j/\σ.H[i]?=some x/\g i=σ.l i)\/(i=j/\x=NX):=by
  intro i x h;by_cases e:i=j
  .subst e;rw[f.1]at h;injection h with h;exact .inr ⟨W,h.symm⟩
  .have:σ.H[i]?=some x:=by
    have d:(σ.H.set j NX)[i]?=some x:=h;rw[aiQ (ajs e)]at d;exact d
   exact .inl ⟨e,this,(n i x e this).2⟩
 have z:∀(i:Nat) o,σ.H[i]?=some o->o.live->σ.l i<σ.w.heap.size:= λi o m d=>(hi.hinv.obj i o m).lt d
 have ac:=z j ob l q;have B:∀(i:Nat) x,i≠j->σ.H[i]?=some x->x.live->σ.l i≠σ.l j:= λi x e m d k=>e (hi.hinv.inj i j x ob m l d q k)
 have C:db σ τ:=by
  refine⟨?_,?_,?_,?_,?_,?_,?_⟩
  .intro c o v m d;have E:=kR m;have A:(c≠σ.l j\/(b'=σ.l j->¬NX.ji o))->¬(y c o\/∃(i:Nat) (x:Ob),s[i]?=some x/\g i=c/\x.ji o):=by
    rintro r (k|⟨i,x,k,u,D⟩)
    .exact d ((hi.hinv.own c o).2 (.inl k))
    .rcases t i x k with⟨e,G,J⟩|⟨rfl,rfl⟩
     .exact d ((hi.hinv.own c o).2 (.inr ⟨i,x,G,by rw[<-J];exact u,D⟩))
     .rw[f.2]at u;rcases b with b|b
      .rcases r with r|r
       .exact r (by rw[<-u];exact b)
       .exact r b D
      .omega
   by_cases e:c=σ.l j
   .subst e;have u:¬ob.ji o:= λh=>d ((hi.hinv.own _ o).2 (.inr ⟨j,ob,l,rfl,h⟩))
    obtain⟨k,r⟩:=O o v u m;exact⟨k,A (.inr r)⟩
   .exact⟨by rw[lV (w c E e)];exact m,A (.inl e)⟩
  .intro i r h;by_cases e:i=j
   .subst e;rw[l]at h;injection h with h;subst h
    cases NX with
    |box u=>exact⟨⟨u,f.1⟩,by show g i=_;rw[f.2];exact p⟩
    |_=>exact p.elim
   .exact⟨⟨r,(n i _ e h).1⟩,(n i _ e h).2⟩
  .intro i r h;by_cases e:i=j
   .subst e;rw[l]at h;injection h with h;subst h
    cases NX with
    |map u=>exact⟨⟨u,f.1⟩,by show g i=_;rw[f.2];exact p⟩
    |_=>exact p.elim
   .exact⟨⟨r,(n i _ e h).1⟩,(n i _ e h).2⟩
  .intro i r h;by_cases e:i=j
   .subst e;rw[l]at h;injection h with h;subst h
    cases NX with
    |iter u=>exact⟨⟨u,f.1⟩,by show g i=_;rw[f.2];exact p⟩
    |_=>exact p.elim
   .exact⟨⟨r,(n i _ e h).1⟩,(n i _ e h).2⟩
  .intro i h;by_cases e:i=j
   .subst e;rw[l]at h;injection h with h;subst h;exact q.elim
   .exact(n i _ e h).1
  .intro i T Z E A h;by_cases e:i=j
   .subst e;rw[l]at h;injection h with h;subst h
    cases NX with
    |dead=>exact .inl f.1
    |row G Tm J D=>
     obtain⟨K,d⟩:=p;subst K;refine .inr ⟨G,J,D,f.1,?_,?_⟩
     .rcases d with d|⟨d,_⟩<;>omega
     .intro hv;rcases d with d|⟨_,k,r,u⟩
      .omega
      .exact⟨by show g i=_;rw[f.2];exact r,k,u⟩
    |_=>exact p.elim
   .refine .inr ⟨T,E,A,(n i _ e h).1,ah9 _,λ_=>⟨(n i _ e h).2,rfl,λu D r=>⟨u,?_,rfl⟩⟩⟩;show w'.heap[σ.l i]?=_;rw[w _ (z i _ h trivial) (B i _ e h trivial)];exact r
  .intro i h;by_cases e:i=j
   .subst e;exact⟨_,f.1⟩
   .exact⟨_,(n i _ e h).1⟩
 have F:τ.H=st.H.set j NX:=by show σ.H.set j NX=_;rw[I]
 have R:fN τ b' NX:=P τ C W f.2 F;have S:∀o,¬y (σ.l j) o:= λo=>hi.hinv.sep j ob l q o
 have Y:iH τ y:=by
  refine⟨?_,?_,λc o=>aj2,?_,λc o h=>ajH (hi.hinv.iW c o h) H⟩
  .intro i x h;rcases t i x h with⟨e,r,A⟩|⟨rfl,rfl⟩
   .show fN τ (g i) x;rw[A];by_cases u:x.live
    .refine(hi.hinv.obj i x r).fY C λE D=>?_
     show w'.heap[_]?=_;rw[w _ (z i x r u) (B i x e r u)];exact D
    .cases x<;>first|trivial|exact(u trivial).elim
   .show fN τ (g i) x;rw[f.2];exact R
  .intro i u x A m d k D r;change g i=g u at r;rcases t i x m with⟨e,E,J⟩|⟨rfl,rfl⟩<;>rcases t u A d with⟨T,G,K⟩|⟨rfl,rfl⟩
   .rw[J,K]at r;exact hi.hinv.inj i u x A E G k D r
   .rw[J,f.2]at r;rcases b with b|b
    .exact absurd (r.trans b) (B i x e E k)
    .have:=z i x E k;omega
   .rw[K,f.2]at r;rcases b with b|b
    .exact absurd (r.symm.trans b) (B u A T G D)
    .have:=z u A G D;omega
   .rfl
  .intro i x m d o k;rcases t i x m with⟨e,u,A⟩|⟨rfl,rfl⟩
   .exact hi.hinv.sep i x u d o (by rw[<-A];exact k)
   .have r:y b' o:=by rw[<-f.2];exact k
    rcases b with b|b
    .exact S o (by rw[<-b];exact r)
    .have:=hi.hinv.iW _ _ r;omega
 have V:bF σ τ:=by
  refine⟨U,M,N,H,λc b d=>w c b (λe=>d j ob l q e.symm),?_⟩;intro i x m d;rcases t i x m with⟨e,r,u⟩|⟨rfl,rfl⟩
  .exact .inr ⟨x,r,d,u⟩
  .rcases b with b|b
   .exact .inr ⟨ob,l,q,by show g i=_;rw[f.2];exact b⟩
   .exact .inl (by show _<=g i;rw[f.2];exact b)
 refine⟨τ,W,f.2,F,C,?_⟩;have:=hi.heap C Y (λt b h=>w _ ((hi.box t b h).lt trivial) (hi.KX h l q)) V;rw[F]at this;exact this
end Go.Mt
namespace Go.Mt
variable{T off i MF ec n t e j len:Nat}{x y:Operand}{cs MP:List M}{m:M}{acc:Bool}
section ops
variable{X:cQ}{st:St}{dst:Option Nat}{ty:Nat}{pos:String}{af:Array Edge}{g:Option (Nat×Bool)}
def HL(e:st.ev x=some (.m m))(f:m.tK=true):
  cD X ⟨dst,.box T x,ty,pos,af,g⟩ st (dq (.m (.ref st.H.length 0)) ⟨st.sl,st.bx,st.H++[.box (cellsOf m)]⟩):=by
 intro c a i b;have h:=b.ev e;cases h with
 |m h=>
  have j:=h.cells f;obtain⟨d,k,l,n,r,o⟩:=b.newObj (.box (cellsOf m)) (.cells (c.eval x).cells T (0,0)) (by
   intro d p q;exact⟨_,T,by rw[q];simp,j.mono p⟩)
  refine dy.value (u:=.pointer (some ⟨a.w.heap.size,0,none⟩)) (w':={a.w with heap:=a.w.heap.push (.cells (c.eval x).cells T (0,0))}) ?_ ⟨_,_,d,i,⟨rfl,rfl⟩,k,o,?_⟩
  .simp[execOp,Instr.box,newVar,newRow,newObj,Sem.run]
  .rw[<-l,b.hH];exact .m (.ref _ 0 (cellsOf m) (by rw[n];simp))
def DW{z:D}[d:xn X.P T z]:
  cD X ⟨dst,.alloc T,ty,pos,af,g⟩ st (dq (.m (.ref st.H.length 0)) ⟨st.sl,st.bx,st.H++[.box ((bz z).map .d)]⟩):=by
 intro q a e c;obtain⟨v,f,h⟩:=d.run;have i:RM a (.d z) v:=.d (e9 h);have j:jy a ((bz z).map .d) v.cells:=i.cells W;obtain⟨b,k,l,m,r,n⟩:=c.newObj (.box ((bz z).map .d)) (.cells v.cells T (0,0)) (by
  intro b o p;exact⟨_,T,by rw[p];simp,j.mono o⟩)
 refine dy.value (u:=.pointer (some ⟨a.w.heap.size,0,none⟩)) (w':={a.w with heap:=a.w.heap.push (.cells v.cells T (0,0))}) ?_ ⟨_,_,b,e,⟨rfl,rfl⟩,k,n,?_⟩
 .simp[execOp,Instr.alloc,f,newVar,newRow,newObj,Sem.run]
 .rw[<-l,c.hH];exact .m (.ref _ 0 ((bz z).map .d) (by rw[m];simp))
def Ci:
  cD X ⟨dst,.makeMap T none,ty,pos,af,g⟩ st (dq (.m (.mp st.H.length)) ⟨st.sl,st.bx,st.H++[.map []]⟩):=by
 intro k a d c;obtain⟨b,e,f,h,l,i⟩:=c.newObj (.map []) (.map #[] 0) (by
  intro b m j;exact⟨[],.inl W,#[],0,by rw[j];simp,rfl,by simp,by simp[lU]⟩)
 refine dy.value (u:=.map (some a.w.heap.size)) (w':={a.w with heap:=a.w.heap.push (.map #[] 0)}) ?_ ⟨_,_,b,d,⟨rfl,rfl⟩,e,i,?_⟩
 .simp[execOp,Instr.makeMap,newObj,Sem.run]
 .rw[<-f,c.hH];exact .m (.mp _ [] (by rw[h];simp))
def ly(d:st.ev x=some (.m (.ref i off)))(e:st.H[i]?=some (.box cs))(f:dX X.P T cs off=some m):
  cD X ⟨dst,.load T x,ty,pos,af,g⟩ st (dq (.m m) st):=by
 refine MN λc o p a=>?_
 have h:=a.ev d;generalize j:c.eval x=u at h;cases h with
 |m h=>cases h with
  |ref i off q r=>
   obtain⟨t,s,k,b⟩:=a.hinv.obj i (.box cs) (by rw[a.hH];exact e);obtain⟨v,l,n⟩:=nz f k (by rw[b.1];exact ah9 _) b.2;exact⟨v,by simp[execOp,j,Instr.loadAt,Instr.sureAddr,l],.m n⟩
def vg(f:st.ev x=some (.m (.cz i MF off)))(j:st.H[i]?=some (.row acc ec MF cs))(k:dX X.P T cs off=some m):
  cD X ⟨dst,.load T x,ty,pos,af,g⟩ st (dq (.m m) st):=by
 refine MN λd e A a=>?_
 have h:=a.ev f;generalize l:d.eval x=y at h;cases h with
 |m h=>cases h with
  |cz i MF off b C n=>
   have c:e.H[i]?=some (.row acc ec MF cs):=by rw[a.hH];exact j
   have o:=n acc ec cs c;subst o;obtain⟨_,D,B,E,z,p,q,r,⟨s,_⟩,t⟩:=a.hinv.obj i _ c;obtain⟨v,u,w⟩:=nz k p (by rw[q,s];exact aiB _ r) t;exact⟨v,by simp[execOp,l,Instr.loadAt,Instr.sureAddr,u],.m w⟩
def x9[s:bQ X.P T n](u:st.ev x=some (.m (.ref i off)))(w:st.ev y=some (.m m))(o:st.H[i]?=some (.box cs))
  (z:(cellsOf m).length=n) (A:m.tK=true) (f:dH cs off (cellsOf m)=some MP):
  cD X ⟨dst,.store T x y,ty,pos,af,g⟩ st (dq (.m .undef) ⟨st.sl,st.bx,st.H.set i (.box MP)⟩):=by
 intro e b B a;have h:=a.ev u;have k:=a.ev w;generalize C:e.eval x=N at h;cases h with
 |m h=>cases h with
  |ref i off O Q=>
   cases k with
   |m k=>
    have D:b.H[i]?=some (.box cs):=by rw[a.hH];exact o
    obtain⟨M,p,q,r⟩:=a.hinv.obj i _ D;have d:=k.cells A;obtain⟨E,F,R⟩:=r.write d f;have G:(e.eval y).cells.size=n:=by rw[d.1,z]
    have H:=oE (P:=X.P) (t:=T) (off:=off) q (by rw[s.size,G]) (by rw[r.1,d.1];exact F) d.flat;have I:=fH q;obtain⟨l,J,S,U,V,K⟩:=a.jx (j:=i) (b':=b.l i) (ob:=.box cs) (NX:=.box MP) (w':=cZ b.w (b.l i) (.cells (eF M off (e.eval y).cells.toList) p (0,0))) o trivial W W W (by rw[jb];exact ah9 _)
     (λc _ a=>iC a) (.inl W) (λo v a=>(a trivial).elim) W (by
      intro l L f _ _;exact⟨_,p,by rw[f];exact fI I,E.mono L⟩)
    refine dy.skip (by simp only[execOp,C,Instr.storeAt,Instr.sureAddr];simp[H];rfl) ?_;exact⟨.m .undef,_,l,B,⟨W,W⟩,J,K,.m (.undef _)⟩
def DX{σ:Sg}{new:List M}{arr:Array Value}{c:Array Value}(p:cs.length<=arr.size)(h:∀(i:Nat) (m:M) (v:Value),cs[i]?=some m->arr[i]?=some v->RM σ m v/\flat v=true)
  (d:jy σ new c) (f:dH cs off new=some MP):
  (∀(i:Nat) (m:M) (v:Value),MP[i]?=some m->(eF arr off c.toList)[i]?=some v->RM σ m v/\flat v=true)/\off+new.length<=cs.length/\MP.length=cs.length:=by
 have g:jy σ cs (arr.extract 0 cs.length):=by
  refine⟨by simp;omega,λi m v b a=>?_⟩;rw[ajl]at a;split at a
  .simp at a;exact h i m v b a
  .cases a
 obtain⟨j,k,e⟩:=g.write d f;refine⟨λi m v b a=>?_,k,e⟩;have n:i<cs.length:=by rw[<-e];rcases ais i MP.length with h|h;exact h;simp[ail h]at b
 refine j.2 i m v b ?_;have o:=d.1;rw[lW _ _ _ _ (by simp;omega)]at a⊢;split
 .rename_i l;rw[air l]at a;exact a
 .rename_i l;rw[aid l]at a;rw[ajl,air (by omega)];simpa using a
def pB[F:bQ X.P T n](G:st.ev x=some (.m (.cz i MF off)))(H:st.ev y=some (.m m))(r:st.H[i]?=some (.row false ec MF cs))
  (I:(cellsOf m).length=n) (J:m.tK=true) (l:dH cs off (cellsOf m)=some MP):
  cD X ⟨dst,.store T x y,ty,pos,af,g⟩ st (dq (.m .undef) ⟨st.sl,st.bx,st.H.set i (.row false ec MF MP)⟩):=by
 intro k d K a;have h:=a.ev G;have o:=a.ev H;generalize L:k.eval x=am at h;cases h with
 |m h=>cases h with
  |cz i MF off b ce M=>
   cases o with
   |m o=>
    have s:d.H[i]?=some (.row false ec MF cs):=by rw[a.hH];exact r
    have N:=M false ec cs s;subst N;obtain⟨O,E,u,ac,Q,p,w,z,⟨A,R⟩,S⟩:=a.hinv.obj i _ s;have e:=o.cells J;have U:cs.length<=E.size:=by rw[w,A];exact aiB _ z
    obtain⟨B,k2,C⟩:=DX U S e l;have V:(k.eval y).cells.size=n:=by rw[e.1,I]
    have Y:=oE (P:=X.P) (t:=T) (off:=off) p (by rw[F.size,V]) (by rw[e.1];omega) e.flat;have D:=fH p;obtain⟨q,Z,g2,g3,g4,g5⟩:=a.jx (j:=i) (b':=d.l i) (ob:=.row false ec MF cs) (NX:=.row false ec MF MP) (w':=cZ d.w (d.l i) (.cells (eF E off (k.eval y).cells.toList) u (0,0))) r trivial W W W (by rw[jb];exact ah9 _)
     (λc _ a=>iC a) (.inl W) (λo v a=>(a (.inl W)).elim) ⟨rfl,.inr ⟨rfl,C,rfl,λar T' f=>by
      rw[p]at f;injection f with f;injection f with e1 e2;subst e1;subst e2
      exact⟨_,fI D,gh _ _ _⟩⟩⟩ (by
      intro q f l _ _;exact⟨O,_,u,ac,Q,by rw[l];exact fI D,by rw[gh];exact w,z,⟨by rw[C];exact A,R⟩,λi m v a b=>⟨(B i m v a b).1.mono f,(B i m v a b).2⟩⟩)
    refine dy.skip (by simp only[execOp,L,Instr.storeAt,Instr.sureAddr];simp[Y];rfl) ?_;exact⟨.m .undef,_,q,K,⟨W,W⟩,Z,g5,.m (.undef _)⟩
def pC{k:IntKind}{i:Int}[ht:aU X.P t e][d:bQ X.P e ec](f:st.ev x=some (.m (.bZ j MF len)))(l:st.ev y=some (.m (.d (.int k i))))
  (n:st.H[j]?=some (.row acc ec MF cs)) (o:0<=i) (p:i<len):
  cD X ⟨dst,.indexAddr t x y,ty,pos,af,g⟩ st (dq (.m (.cz j MF (i.toNat*ec))) st):=by
 refine MN λc b A a=>?_
 have h:=a.ev f;have q:=a.jU l;generalize r:c.eval x=z at h;cases h with
 |m h=>cases h with
  |bZ j MF len B G w s=>
   have u:b.H[j]?=some (.row acc ec MF cs):=by rw[a.hH];exact n
   obtain⟨v,C,H,D,E,F⟩:=s acc ec cs u;subst v;refine⟨.pointer (some ⟨b.l j,i.toNat*ec,none⟩),?_,.m (.cz j MF _ _ w λ_ _ _ _=>rfl)⟩;simp[execOp,r,q,Instr.indexAt,asIntOf,underlying,program,Sem.run,ht.u,du d.size,o,p,kx]
def Cj[ht:aU X.P t e](b:st.ev x=some (.m (.bZ j MF len))):
  cD X ⟨dst,.call ⟨.builtin .len,#[x],#[t]⟩,ty,pos,af,g⟩ st (dq (.m (.d (.int .i64 len))) st):=by
 refine MN λa f i c=>?_
 have h:=c.ev b;generalize d:a.eval x=u at h;refine⟨.int .i64 len,?_,.m (.d (.int _ _))⟩;cases h with
 |m h=>cases h with
  |bZ j MF len k n o l=>
   simp[execOp,resolve,invoke,builtin,Builtin.len_,underlying,program,Sem.run,ht.u,d,goInt]
end ops
end Go.Mt
namespace Go.Mt
variable{n b:Nat}{P:Program}{w:World}
def x_(a:Nat)(h:256<=a):∀r c,256<=c->c<=2*a->Builtin.growBy a r c<=2*a
 |0,c,_,b=>b
 |r+1,c,d,b=>by
  unfold Builtin.growBy;split
  .exact b
  .exact x_ a h r _ (by omega) (by omega)
def qD{fZ cap:Nat}(h:cap<fZ):Builtin.nextslicecap fZ cap<=2*fZ:=by
 unfold Builtin.nextslicecap;split
 .omega
 .split
  .omega
  .exact x_ fZ (by omega) 4 cap (by omega) (by omega)
def iD(h:Array Obj)(x:Obj):(h.push x)[h.size]?=some x:=by simp
def tW{α:Type}{l:List α}{j:Nat}{x y:α}(h:l[j]?=some x):(l.set j y)[j]?=some y:=by
 have:j<l.length:=by rcases ais j l.length with a|a;exact a;simp[ail a]at h
 simp[this]
def j_(z:Array Value)(n:Nat):(Builtin.zeroCells z n).size=n*z.size:=by simp[Builtin.zeroCells]
def gO.firstCells{O:Nat->Nat->Prop}{w:World}{rows:List (List D)}{v:Value}(e:0<n)(h:gO O w (.sl rows) v)(q:∀r∈rows,r.length=n):
  ∃a:Array Value,(∀w':World,(Builtin.lenOf v).run P w'=.ok rows.length w')/\(∀w':World,w'.heap=w.heap->(Builtin.firstCells n rows.length v).run P w'=.ok a w')/\a.size=rows.length*n/\
   ∀(i j:Nat) r d,rows[i]?=some r->r[j]?=some d->∃u,a[i*n+j]?=some u/\gO O w d u/\flat u=true:=by
 cases h with
 |slnil a=>
  cases a with
  |none=>exact⟨#[],λ_=>by simp[Builtin.lenOf],λ_ _=>by simp[Builtin.firstCells],by simp,by simp⟩
  |some a=>exact⟨#[],λ_=>by simp[Builtin.lenOf],λ_ _=>by simp[Builtin.firstCells,loadCells,loadCellsFrom],by simp,by simp⟩
 |sl rows b F I a l s G H m t x y=>
  have z:a=n:=by
   cases rows with
   |nil=>exact absurd W s
   |cons r f=>rw[<-m r (by simp)];exact q r (by simp)
  subst z
  let c:Array Value:=((List.range (rows.length*a)).map λk=>l (k/a) (k%a)).toArray
  have o:c.size=rows.length*a:=by simp[c]
  have E:∀k,k<rows.length*a->k/a<rows.length/\k%a<a/\k/a*a+k%a=k:=by
   intro k f;refine⟨(Nat.div_lt_iff_lt_mul e).2 f,aj1 _ e,?_⟩;have:=Nat.div_add_mod k a;rw[alg]at this;exact this
  refine⟨c,λ_=>by simp[Builtin.lenOf],?_,o,?_⟩
  .intro w' g;simp only[Builtin.firstCells,loadCells];refine jC _ 0 _ (by omega) (by simp) ?_;intro k f;rw[o]at f;obtain⟨p,A,B⟩:=E k f;have:c.getD k undef=l (k/a) (k%a):=by simp[c,f]
   rw[this];have:=(t _ _ p A).1;rw[B]at this;rw[lV (w:=w) (by rw[g])];exact this
  .intro i j r d f k;have p:i<rows.length:=by rcases ais i rows.length with h|h;exact h;simp[ail h]at f
   have g:j<a:=by
    rw[<-m r (aiv f)];rcases ais j r.length with h|h;exact h;simp[ail h]at k
   have A:i*a+j<rows.length*a:=by
    calc i*a+j<i*a+a:=by omega
     _=(i+1)*a:=by rw[ajt]
     _<=rows.length*a:=aiB _ p
   refine⟨l i j,?_,y i j r d f k,x i j p g⟩;have B:(i*a+j)/a=i:=by rw[alg,Nat.mul_add_div e,Nat.div_eq_of_lt g];omega
   have C:(i*a+j)%a=j:=by rw[alg,Nat.mul_add_mod,Nat.mod_eq_of_lt g]
   simp[c,A,B,C]
def aM(rows:List (List D)):List M:=(rows.map λr=>r.map M.d).flatten
def oH{n:Nat} :∀{rows:List (List D)},(∀r∈rows,r.length=n)->(aM rows).length=rows.length*n
 |[],_=>by simp[aM]
 |r::a,h=>by
  have:=oH (n:=n) (rows:=a) (λr a=>h r (by simp[a]));unfold aM at*;simp only[aiq,List.flatten_cons,ah6,ah8,this,h r (by simp),aia,ajt];omega
def yc(f:0<n):∀{rows:List (List D)} {k:Nat} {m:M},(∀r∈rows,r.length=n)->(aM rows)[k]?=some m->∃i j r d,k=i*n+j/\rows[i]?=some r/\r[j]?=some d/\m=.d d
 |[],k,m,_,h=>by simp[aM]at h
 |r::g,k,m,e,h=>by
  have b:r.length=n:=e r (by simp);have a:((r.map M.d)++aM g)[k]?=some m:=by simpa [aM] using h
  rcases ais k n with c|c
  .rw[aim (by simp[b,c])]at a;simp only[aiZ,aiE]at a;obtain⟨d,l,rfl⟩:=a;exact⟨0,k,r,d,by simp,by simp,l,rfl⟩
  .rw[aix (by simp[b,c])]at a;simp only[ah8,b]at a;obtain⟨i,j,l,d,s,o,p,q⟩:=yc f (λr a=>e r (by simp[a])) a;exact⟨i+1,j,l,d,by rw[ajt];omega,by simpa using o,p,q⟩
class jD(P:Program)(t:Nat)(n:outParam Nat):Prop where
 bytes:xI P t=some n
def pD{t:Nat}(h:iJ P t=some n)(a:xI P t=some b):∃i:TypeInfo,P.info? t=some i/\i.size=n/\i.bytes=b:=by
 unfold iJ at h;unfold xI at a;cases c:P.info? t with
 |none=>simp[c]at h
 |some i=>simp[c]at h a;exact⟨i,W,h,a⟩
section ops
variable{X:cQ}{st:St}{dst:Option Nat}{ty:Nat}{pos:String}{af:Array Edge}{g:Option (Nat×Bool)}
def tX{k T:Nat}{arr:Array Value}{a:Nat×Nat}(h:w.heap[b]?=some (.cells arr T a))(c:k<=arr.size):(loadCells ⟨b,0,none⟩ k).run P w=.ok (arr.extract 0 k) w:=by
 unfold loadCells;have a:(arr.extract 0 k).size=k:=by simp;omega
 refine jC k 0 _ (by omega) (by simp) ?_;intro i c;rw[a]at c;have a:i<arr.size:=by omega
 have c:i<min k arr.size:=by omega
 simp[ea,World.cell?,h,a,c]
end ops
end Go.Mt
namespace Go.Mt
variable{k s:ByteArray}{es M' r:List (D×M)}{x y:Operand}{m v:M}{T e i:Nat}{z:D}
def xo(a b:ByteArray):(a==b)=decide (a=b):=by
 cases a with
 |mk a=>
 cases b with
 |mk b=>
 have:((ByteArray.mk a)==(ByteArray.mk b))=(a==b):=rfl;rw[this];by_cases h:a=b
 .subst h;simp
 .simp[h]
def ek(k:ByteArray):List (D×M)->Option M
 |[]=>none
 |(.str s,m)::r=>bif decide (s=k)then some m else ek k r
 |_::r=>ek k r
def dK(k:ByteArray)(v:M):List (D×M)->List (D×M)
 |[]=>[(.str k,v)]
 |(.str s,m)::r=>bif decide (s=k)then(.str k,v)::r else(.str s,m)::dK k v r
 |x::r=>x::dK k v r
def strKeys:List (D×M)->Bool
 |[]=>true
 |(.str _,_)::r=>strKeys r
 |_=>false
class ie(P:Program)(t:Nat)(e:outParam Nat):Prop where
 u:∃k,P.underlying t=some (.map k e)/\P.underlying k=some .string
def findNow_spec{σ:Sg}{c:Nat}{k:ByteArray} :∀{es:List (D×M)} {us:List MapEntry} {n:Nat},strKeys es=true->us.length=es.length->(∀(i:Nat) e u,es[i]?=some e->us[i]?=some u->pv σ c e u)->
  (ek k es=none/\Instr.findNow .string (.string k) us n=some none/\dK k=dK k/\(∀v,dK k v es=es++[(.str k,v)]))\/
  ∃i m u,ek k es=some m/\us[i]?=some u/\es[i]?=some (.str k,m)/\Instr.findNow .string (.string k) us n=some (some (n+i,u.val))/\u.key=.string k/\RM σ m u.val/\(∀v,dK k v es=es.set i (.str k,v))
 |[],us,n,_,a,_=>by
  have:us=[]:=by simpa using a
  subst this;exact .inl ⟨W,W,W,λv=>rfl⟩
 |(t,m)::r,us,n,l,j,h=>by
  cases t with
  |str s=>
   cases us with
   |nil=>simp at j
   |cons u us=>
    obtain⟨d,w⟩:xk (.str s)=some u.key/\RM σ m u.val:=by
     rcases h 0 _ _ rfl rfl with a|⟨a,_⟩|⟨a,_⟩
     .exact a
     .cases a
     .cases a
    simp only[xk,ai5]at d;by_cases e:s=k
    .subst e;refine .inr ⟨0,m,u,by simp[ek],rfl,rfl,?_,d.symm,w,λv=>by simp[dK]⟩;simp[Instr.findNow,<-d,Instr.sameNow,xo]
    .have x:(k==s)=false:=by rw[xo];simp;exactλh=>e h.symm
     have o:Instr.findNow .string (.string k) (u::us) n=Instr.findNow .string (.string k) us (n+1):=by
      simp[Instr.findNow,<-d,Instr.sameNow,x]
     have p:ek k ((.str s,m)::r)=ek k r:=by simp[ek,e]
     have q:∀v,dK k v ((.str s,m)::r)=(.str s,m)::dK k v r:= λv=>by simp[dK,e]
     rcases findNow_spec (σ:=σ) (k:=k) (n:=n+1) (es:=r) (us:=us) l (by simpa using j) (λi e u a b=>h (i+1) e u (by simpa using a) (by simpa using b))with⟨a,f,_,g⟩|⟨i,y,z,a,f,g,A,B,C,E⟩
     .exact .inl ⟨by rw[p];exact a,by rw[o];exact f,W,λv=>by rw[q,g];rfl⟩
     .exact .inr ⟨i+1,y,z,by rw[p];exact a,by simpa using f,by simpa using g,by rw[o,A];congr 3;omega,B,C,λv=>by rw[q,E];rfl⟩
  |_=>simp[strKeys]at l
def cC:∀{es:List (D×M)},strKeys es=true↔ ∀e∈es,∃s,e.1=.str s
 |[]=>by simp[strKeys]
 |(d,m)::r=>by
  cases d with
  |str s=>simp only[strKeys];rw[cC];simp
  |_=>simp[strKeys]
def iw:ek k ((.str s,m)::r)=if s=k then some m else ek k r:=by
 simp only[ek];by_cases h:s=k<;>simp[h]
def nG:dK k v ((.str s,m)::r)=if s=k then(.str k,v)::r else(.str s,m)::dK k v r:=by
 simp only[dK];by_cases h:s=k<;>simp[h]
def yd{a b:List (D×M)}(h:a.Perm b):(∀e∈b,∃s,e.1=.str s)->(b.map Prod.fst).Nodup->ek k a=ek k b/\∀v,(dK k v a).Perm (dK k v b):=by
 induction h with
 |nil=>intro _ _;exact⟨W,λv=>.refl _⟩
 |cons x _ i=>
  intro c f;obtain⟨d,m⟩:=x;obtain⟨s,g⟩:=c (d,m) (by simp);simp only at g;subst g;obtain⟨j,l⟩:=i (λe f=>c e (by simp[f])) (by simp at f;exact f.2);simp only[iw,nG];by_cases e:s=k
  .simp only[e,ajL];exact⟨trivial,λv=>.cons _ (by assumption)⟩
  .simp only[e,aju];exact⟨j,λv=>.cons _ (l v)⟩
 |swap x y q=>
  intro f g;obtain⟨d,m⟩:=x;obtain⟨n,o⟩:=y;obtain⟨s,i⟩:=f (d,m) (by simp);obtain⟨c,j⟩:=f (n,o) (by simp);simp only at i j;subst i;subst j;have p:s≠c:=by simp at g;intro e;exact g.1.1 e
  simp only[iw,nG];by_cases e:s=k
  .subst e;have l:¬c=s:= λh=>p h.symm
   simp only[l,ajL,aju];exact⟨trivial,λv=>.swap _ _ _⟩
  .by_cases l:c=k
   .simp only[e,l,ajL,aju];exact⟨trivial,λv=>.swap _ _ _⟩
   .simp only[e,l,aju];exact⟨trivial,λv=>.swap _ _ _⟩
 |trans q g i j=>
  intro c f;obtain⟨l,n⟩:=j c f;obtain⟨o,p⟩:=i (λe f=>c e (g.mem_iff.1 f)) ((g.map _).nodup_iff.2 f);exact⟨o.trans l,λv=>(p v).trans (n v)⟩
def lz{k:ByteArray}{v:M} :∀{es:List (D×M)},(∀e∈es,∃s,e.1=.str s)->(dK k v es).map Prod.fst=es.map Prod.fst\/((dK k v es).map Prod.fst=es.map Prod.fst++[.str k]/\D.str k∉es.map Prod.fst)
 |[],_=>.inr ⟨rfl,by simp⟩
 |(d,m)::r,b=>by
  obtain⟨s,c⟩:=b (d,m) (by simp);simp only at c;subst c;rw[nG];by_cases e:s=k
  .subst e;exact .inl (by simp)
  .rw[aid e];rcases lz (k:=k) (v:=v) (es:=r) λe a=>b e (by simp[a])with a|⟨a,f⟩
   .exact .inl (by simp[a])
   .refine .inr ⟨by simp[a],?_⟩;simp only[aiq,aib,alh];exact⟨λh=>e (by injection h with h;exact h.symm),f⟩
def dT.strs(h:dT M' es)(a:strKeys es=true):strKeys M'=true:=by
 rw[cC]at a⊢;exactλe b=>a e (h.mem.1 b)
def dT.look(h:dT M' es)(k:ByteArray):ek k M'=ek k es:=by
 rcases h with rfl|⟨a,b,c⟩
 .rfl
 .exact(yd a b c).1
def dT.JA(h:dT M' es)(k:ByteArray)(v:M):dT (dK k v M') (dK k v es):=by
 rcases h with rfl|⟨g,c,d⟩
 .exact .inl W
 .refine .inr ⟨(yd g c d).2 v,?_,?_⟩
  .intro e i;have a:e.1∈(dK k v es).map Prod.fst:=aij.2 ⟨e,i,rfl⟩;rcases lz (k:=k) (v:=v) c with f|⟨f,_⟩
   .rw[f]at a;obtain⟨j,l,m⟩:=aij.1 a;obtain⟨s,n⟩:=c j l;exact⟨s,m.symm.trans n⟩
   .rw[f]at a;rcases ain.1 a with a|a
    .obtain⟨j,l,m⟩:=aij.1 a;obtain⟨s,n⟩:=c j l;exact⟨s,m.symm.trans n⟩
    .exact⟨k,by simpa using a⟩
  .rcases lz (k:=k) (v:=v) c with a|⟨a,i⟩
   .rw[a];exact d
   .rw[a,ajP];exact⟨d,by simp,λl j b f e=>by simp at f;subst f;subst e;exact i j⟩
section ops
variable{X:cQ}{st:St}{dst:Option Nat}{ty:Nat}{pos:String}{af:Array Edge}{g:Option (Nat×Bool)}
def oI{P:Program}{b:Bool}{n a:Nat}{w:World}(h:P.underlying a=some .string):(Instr.checkKey b (n+1) a (.string s)).run P w=.ok () w:=by
 simp[Instr.checkKey,underlying,program,Sem.run,h]
def Ck[ht:ie X.P T e][B:fk X.P e z](C:st.ev x=some (.m (.mp i)))(D:st.ev y=some (.m (.d (.str k))))(E:st.H[i]?=some (.map es))(f:strKeys es=true):
  cD X ⟨dst,.lookup T x y true,ty,pos,af,g⟩ st (dq (.m (match ek k es with|some m=>.c_ [m,.d (.bool true)]|none=>.c_ [.d z,.d (.bool false)])) st):=by
 refine MN λA σ P c=>?_
 have h:=c.ev C;have o:=c.pw D;obtain⟨F,p,j⟩:=ht.u;obtain⟨G,H,I⟩:=(ci B.zero).run;generalize q:A.eval x=u at h;cases h with
 |m h=>cases h with
  |mp i Q R=>
   obtain⟨J,r,K,Z,s,L,M,S⟩:=c.hinv.obj i (.map es) (by rw[c.hH];exact E);rw[<-r.look k];replace f:=r.strs f;have t:∀b,(Instr.checkKey b 10000 F (.string k)).run X.P σ.w=.ok () σ.w:= λb=>oI (n:=9999) j
   rcases findNow_spec (σ:=σ) (k:=k) (n:=0) (es:=J) (us:=K.toList) f (by simpa using L) (λi e u a b=>M i e u a (by simpa using b))with⟨l,w,_,_⟩|⟨n,m,u,l,w,U,N,V,O,_⟩
   .rw[l];refine⟨.tuple #[G,.bool false],?_,.m (.c_ _ _ W ?_)⟩
    .simp only[execOp,q,o,Instr.lookup];simp[underlying,program,Sem.run,p,getObj,s,t,Instr.findKey,j,w,H]
    .intro n m v a d
     match n with
     |0=>simp at a d;subst a;subst d;exact .d (e9 I)
     |1=>simp at a d;subst a;subst d;exact .d (.bool _)
     |n+2=>simp at a
   .rw[l];refine⟨.tuple #[u.val,.bool true],?_,.m (.c_ _ _ W ?_)⟩
    .simp only[execOp,q,o,Instr.lookup];simp[underlying,program,Sem.run,p,getObj,s,t,Instr.findKey,j,N]
    .intro n Y v a d
     match n with
     |0=>simp at a d;subst a;subst d;exact O
     |1=>simp at a d;subst a;subst d;exact .d (.bool _)
     |n+2=>simp at a
def wm[ht:ie X.P T e][v:fk X.P e z](w:st.ev x=some (.m (.mp i)))(A:st.ev y=some (.m (.d (.str k))))(B:st.H[i]?=some (.map es))(c:strKeys es=true):
  cD X ⟨dst,.lookup T x y false,ty,pos,af,g⟩ st (dq (.m (match ek k es with|some m=>m|none=>.d z)) st):=by
 refine MN λt σ M a=>?_
 have h:=a.ev w;have j:=a.pw A;obtain⟨C,l,d⟩:=ht.u;obtain⟨D,E,F⟩:=(ci v.zero).run;generalize o:t.eval x=u at h;cases h with
 |m h=>cases h with
  |mp i N O=>
   obtain⟨G,p,H,S,q,I,J,P⟩:=a.hinv.obj i (.map es) (by rw[a.hH];exact B);rw[<-p.look k];replace c:=p.strs c;have r:∀b,(Instr.checkKey b 10000 C (.string k)).run X.P σ.w=.ok () σ.w:= λb=>oI (n:=9999) d
   rcases findNow_spec (σ:=σ) (k:=k) (n:=0) (es:=G) (us:=H.toList) c (by simpa using I) (λi e u a b=>J i e u a (by simpa using b))with⟨f,s,_,_⟩|⟨n,m,u,f,s,Q,K,R,L,_⟩
   .rw[f];refine⟨D,?_,.m (.d (e9 F))⟩;simp only[execOp,o,j,Instr.lookup];simp[underlying,program,Sem.run,l,getObj,q,r,Instr.findKey,d,s,E]
   .rw[f];refine⟨u.val,?_,.m L⟩;simp only[execOp,o,j,Instr.lookup];simp[underlying,program,Sem.run,l,getObj,q,r,Instr.findKey,d,K]
def sq{z:Operand}[ht:ie X.P T e](Q:st.ev x=some (.m (.mp i)))(R:st.ev y=some (.m (.d (.str k))))(S:st.ev z=some (.m m))(G:st.H[i]?=some (.map es))(q:strKeys es=true):
  cD X ⟨dst,.mapUpdate T x y z,ty,pos,af,g⟩ st (dq (.m .undef) ⟨st.sl,st.bx,st.H.set i (.map (dK k m es))⟩):=by
 intro p σ w l;have h:=l.ev Q;have H:=l.pw R;have r:=l.ev S;obtain⟨U,I,A⟩:=ht.u;generalize a:p.eval x=u at h;cases r with
 |m r=>
 cases h with
 |m h=>cases h with
  |mp i Sf hh=>
   have V:σ.H[i]?=some (.map es):=by rw[l.hH];exact G
   obtain⟨o,J,f,F,B,C,D,K⟩:=l.hinv.obj i (.map es) V;replace q:=J.strs q;have Y:=fH B;have L:∀b,(Instr.checkKey b 10000 U (.string k)).run X.P σ.w=.ok () σ.w:= λb=>oI (n:=9999) A
   have M:∀(a:Array MapEntry) (d:Nat),a.size=(dK k m o).length->(∀(n:Nat) e u,(dK k m o)[n]?=some e->a[n]?=some u->pv σ d e u)->lU a d->
     ∃f:Sg,f.w=cZ σ.w (σ.l i) (.map a d)/\bU X f w ⟨st.sl,st.bx,st.H.set i (.map (dK k m es))⟩ p:=by
    intro E N P Z g3;obtain⟨d,k1,k2,k3,k4,k5⟩:=l.jx (j:=i) (b':=σ.l i) (ob:=.map es) (NX:=.map (dK k m es)) (w':=cZ σ.w (σ.l i) (.map E N)) G trivial W W W (by rw[jb];exact ah9 _)
     (λc _ a=>iC a) (.inl W) (λo v a=>(a trivial).elim) W (by
      intro d OW hw _ _;exact⟨_,J.JA k m,E,N,by rw[hw];exact fI Y,P,λn e u a b=>(Z n e u a b).up λv a=>a.mono OW,g3⟩)
    exact⟨d,k1,k5⟩
   rcases findNow_spec (σ:=σ) (k:=k) (n:=0) (es:=o) (us:=f.toList) q (by simpa using C) (λi e u a b=>D i e u a (by simpa using b))with⟨h6,s,_,t⟩|⟨n,m',u,h6,s,t,h9,PK,Qn,O⟩
   .obtain⟨N,P,Z⟩:=M (f.push {key:=.string k,val:=p.eval z,born:=F}) (F+1) (by rw[t];simp[C]) (by
     intro n e u d a;rw[t]at d;rcases ais n o.length with E|E
     .rw[aim E]at d;rw[ajD,aid (by omega)]at a;exact(D n e u d a).Mb (by obtain⟨ac,hs⟩:=cC.1 q e (aiv d);rw[hs];simp)
     .rw[aix E]at d;have ac:n-o.length=0:=by
       rcases aiO (n-o.length)with h|h
       .exact h
       .rw[ail (by simp;omega)]at d;cases d
      rw[ac]at d;simp at d;subst d;rw[ajD,air (by omega)]at a;injection a with a;subst a
      exact .inl ⟨W,r⟩) K.push
    refine dy.skip ?_ ⟨.m .undef,_,N,w,⟨W,W⟩,P,Z,.m (.undef _)⟩;simp only[execOp,a,H,Instr.mapUpdate];simp[underlying,program,Sem.run,I,getObj,B,L,Instr.findKey,A,s,setObj,cZ]
   .have P2:n<f.size:=by
     have:=s;simp at this;rcases ais n f.size with h|h
     .exact h
     .simp[aiG h]at this
    obtain⟨P,Z,k2⟩:=M (f.modify n λe=>{e with key:=.string k,val:=p.eval z}) F (by rw[O];simp[C]) (by
     intro N e u' d a;rw[O]at d;rw[ajW]at a;by_cases E:n=N
     .subst E;rw[tW t]at d;injection d with d;subst d
      simp[P2]at a;subst a;exact .inl ⟨W,r⟩
     .rw[aiQ E]at d;rw[aid E]at a;exact D N e u' d a) (K.modify λ_=>rfl)
    refine dy.skip ?_ ⟨.m .undef,_,P,w,⟨W,W⟩,Z,k2,.m (.undef _)⟩;have Tp:f[n]?.map (·.key)=some (.string k):=by
     have:f[n]?=some u:=by simpa using s
     rw[this];simp[PK]
    have MO:(Instr.keyThatStays (.string k) (.string k)).run X.P σ.w=.ok (.string k) σ.w:=by simp[Instr.keyThatStays,Instr.sameBits,xo]
    simp only[execOp,a,H,Instr.mapUpdate];simp[underlying,program,Sem.run,I,getObj,B,L,Instr.findKey,A,h9,setObj,cZ,Tp,MO]
class kh(P:Program)(t:Nat)(k:outParam IntKind):Prop where
 u:P.underlying t=some (.int k)
def vh{s t:Nat}{k k' a:IntKind}{n:Int}[b:kh X.P s a][ht:kh X.P t k'](c:st.ev x=some (.m (.d (.int k n)))):
  cD X ⟨dst,.convert s t x,ty,pos,af,g⟩ st (dq (.m (.d (.int k' (k'.wrap n)))) st):=by
 refine MN λd e f a=>?_
 exact⟨.int k' (k'.wrap n),by simp[execOp,convert,underlying,program,Sem.run,b.u,ht.u,a.jU c,Conv.intToInt],.m (.d (.int _ _))⟩
end ops
end Go.Mt
namespace Go.Mt
variable{x y:Operand}{T i e off MF n ec len t j s f:Nat}{cs Nf new ms:List M}{m r:M}{z:D}{acc:Bool}{kk:ByteArray}{es:List (D×M)}{k2 k1 k0:IntKind}{H':Hp}{o:Oper}{v:V}{st:St}{ds:List D}{args:List Operand}{OU:Array Nat}
section mk
variable{X:cQ}{st:St}{dst:Option Nat}{ty:Nat}{pos:String}{af:Array Edge}{g:Option (Nat×Bool)}
def zL{f:Nat}[ht:aU X.P T e][j:bQ X.P e n][D:jD X.P e f][E:fk X.P e z](F:Nat.blt 0 n=true)(o:(bz z).length=n)
  (G:st.ev x=some (.m (.d (.int k1 len)))) (H:st.ev y=some (.m (.d (.int k2 len)))) (No:len*f<=140737488355328) (I:len<=140737488355328):
  cD X ⟨dst,.makeSlice T x y,ty,pos,af,g⟩ st (dq (.m (.bZ st.H.length 0 len)) ⟨st.sl,st.bx,st.H++[.row false n 0 (fQ n len (bz z))]⟩):=by
 intro Y a J c;have p:=bj F;have q:=c.jU G;have r:=c.jU H;obtain⟨l,K,i2,s⟩:=pD j.size D.bytes;obtain⟨v,L,M⟩:=(ci E.zero).run;have t:jy a ((bz z).map .d) v.cells:=(RM.d (e9 M):RM a (.d z) v).cells W;have N:v.cells.size=n:=by rw[t.1];simpa using o
 have w:jy a (fQ n len (bz z)) ((Array.range (len*n)).map λi=>v.cells[i%v.cells.size]!):=by
  refine⟨by simp[fQ],λi m u A d=>?_⟩;have B:i<len*n:=by
   rcases ais i (len*n)with h|h
   .exact h
   .rw[aiG (by simpa using h)]at d;cases d
  have S:i%n<n:=aj1 _ p;have O:i%n<(bz z).length:=by omega
  simp[fQ,B,o]at A;simp[B,N]at d;have P:i%n<v.cells.size:=by omega
  subst A;subst d;refine t.2 (i%n) _ _ ?_ ?_
  .simp[aiM O]
  .simp[P]
 obtain⟨b,k,Q,C,g4,R⟩:=c.newObj (.row false n 0 (fQ n len (bz z))) (.cells ((Array.range (len*n)).map λi=>v.cells[i%v.cells.size]!) e (0,0)) (by
  intro b A B;refine⟨p,_,e,len,len,by rw[B];exact iD _ _,by simp,ah9 _,⟨by simp[fQ],I⟩,?_⟩;intro d m u i h;exact⟨(w.2 d m u i h).1.mono A,(w.2 d m u i h).2⟩)
 refine dy.value (u:=.slice (some ⟨a.w.heap.size,0,none⟩) len len) (w':=b.w) ?_ ⟨_,_,b,J,⟨W,W⟩,W,R,?_⟩
 .have d:∀w:World,(typeInfo e).run X.P w=.ok l w:= λZ=>by simp[typeInfo,program,Sem.run,K]
  have i:∀w:World,(underlying T).run X.P w=.ok (.slice e) w:= λw=>by simp[underlying,program,Sem.run,ht.u]
  have B:IntKind.i64.wrap (len:Int)=len:=IntWalk.i64_in _ ⟨by omega,by omega⟩;have O:¬((l.bytes:Int)*(len:Int)>2^48):=by
   rw[s];have:((len*f:Nat):Int)<=140737488355328:=by omega
   rw[Int.natCast_mul,Int.mul_comm]at this;omega
  have P:¬((len:Int)<0):=by omega
  have S:¬(len*l.bytes>roomBytes):=by rw[s];unfold roomBytes;omega
  by_cases A:len*n=0
  .have U:len=0:=by
    rcases aku.1 A with h|h
    .exact h
    .omega
   subst U;have h:Array.range 0=(#[]:Array Nat):=by decide
   have V:IntKind.i64.wrap 0=0:=by decide
   simp only[execOp,Instr.makeSlice,q,r,asInt,asIntOf];simp[i,d,V,du j.size,askRoom,roomBytes,newRow,newObj,Sem.run,k,h]
  .simp only[execOp,Instr.makeSlice,q,r,asInt,asIntOf];simp[i,d,B,du j.size,askRoom,newRow,newObj,Sem.run,k,O,P,S,A,L]
   first|done|omega|(split<;>first|rfl|omega)
 .have i:a.H.length=st.H.length:=by rw[c.hH]
  have h:b.l st.H.length=a.w.heap.size:=by rw[<-i];exact Q
  refine .m (.bZ _ 0 len _ len (.inr ⟨false,n,0,fQ n len (bz z),by rw[C];simp,ah9 _⟩) ?_);intro P S U d;rw[C]at d;simp at d;obtain⟨A,B,O⟩:=d;subst A;subst B;subst O;exact⟨by rw[h],by simp[fQ],_,e,by rw[h,k];exact iD _ _,by simp⟩
end mk
section rules
variable{X:cQ}{ops:Array Oper}{rest:List Oper}{post:St->Prop}{MU:List Ef->St->Prop}{sl:List (Nat×V)}{bx:List (Nat×List M)}{H:Hp}{d ty:Nat}{pos:String}{af:Array Edge}
def js.ye(a:o.guard=none)(b:o.dst=some d)(c:d<X.n)
  (h:∀a,Ag ops o ⟨some d,v,[],[],none,true,some H'⟩ st a->cD X o a (dq v ⟨a.sl,a.bx,H'⟩)):js X ops o ⟨some d,v,[],[],none,true,some H'⟩ st:=
 λe f=>(h e f).DR a b c
def js.Bs(a:o.guard=none)(b:o.dst=none)
  (h:∀a,Ag ops o ⟨none,v,[],[],none,true,some H'⟩ st a->cD X o a (dq v ⟨a.sl,a.bx,H'⟩)):js X ops o ⟨none,v,[],[],none,true,some H'⟩ st:=
 λc d=>(h c d).Fk a b
def bK[ht:cI X.P T](a:Nat.blt d X.n=true)(b:aS sl x=some (.m (.ref i off)))(c:H[i]?=some (.box cs))(e:cs[off]?=some m)(k:TL X ops rest ⟨(d,(.m m))::sl,bx,H⟩ post):TL X ops (⟨some d,.load T x,ty,pos,af,none⟩::rest) ⟨sl,bx,H⟩ post:=
 M3 W W a (ly b c (by simp[dX,ht.cell,e])) k
def dj[ht:cI X.P T](a:Nat.blt d X.n=true)(b:aS sl x=some (.m (.ref i off)))(c:H[i]?=some (.box cs))(f:cs[off]?=some m)(k:TF X ops rest ⟨(d,(.m m))::sl,bx,H⟩ λa b=>MU (⟨some d,(.m m),[],[],none,true,none⟩::a) b):TF X ops (⟨some d,.load T x,ty,pos,af,none⟩::rest) ⟨sl,bx,H⟩ MU:=
 TF.cons (e:=⟨some d,(.m m),[],[],none,true,none⟩) (MK W W (bj a) λa a=>ly ((a.ev (x:=x) (by simp[Op.operands,Call.operands])).trans b) (by rw[a.H W];exact c) (by simp[dX,ht.cell,f])) W k
def iq[ht:dz X.P T n](b:Nat.blt d X.n=true)(c:aS sl x=some (.m (.ref i off)))(f:H[i]?=some (.box cs))(a:sub cs off n=some Nf)(g:gg Nf=some ds)(k:TF X ops rest ⟨(d,(.m (.d (.agg ds))))::sl,bx,H⟩ λa b=>MU (⟨some d,(.m (.d (.agg ds))),[],[],none,true,none⟩::a) b):TF X ops (⟨some d,.load T x,ty,pos,af,none⟩::rest) ⟨sl,bx,H⟩ MU:=
 TF.cons (e:=⟨some d,(.m (.d (.agg ds))),[],[],none,true,none⟩) (MK W W (bj b) λb b=>ly ((b.ev (x:=x) (by simp[Op.operands,Call.operands])).trans c) (by rw[b.H W];exact f) (by simp[dX,ht.agg,ht.size,aiF (sub_eq a).1,pack,(sub_eq a).2,g])) W k
def Gi[ht:cI X.P T](a:Nat.blt d X.n=true)(b:aS sl x=some (.m (.cz i MF off)))(c:H[i]?=some (.row acc ec MF cs))(e:cs[off]?=some m)(k:TL X ops rest ⟨(d,(.m m))::sl,bx,H⟩ post):TL X ops (⟨some d,.load T x,ty,pos,af,none⟩::rest) ⟨sl,bx,H⟩ post:=
 M3 W W a (vg b c (by simp[dX,ht.cell,e])) k
def vi[ht:cI X.P T](a:Nat.blt d X.n=true)(b:aS sl x=some (.m (.cz i MF off)))(c:H[i]?=some (.row acc ec MF cs))(f:cs[off]?=some m)(k:TF X ops rest ⟨(d,(.m m))::sl,bx,H⟩ λa b=>MU (⟨some d,(.m m),[],[],none,true,none⟩::a) b):TF X ops (⟨some d,.load T x,ty,pos,af,none⟩::rest) ⟨sl,bx,H⟩ MU:=
 TF.cons (e:=⟨some d,(.m m),[],[],none,true,none⟩) (MK W W (bj a) λa a=>vg ((a.ev (x:=x) (by simp[Op.operands,Call.operands])).trans b) (by rw[a.H W];exact c) (by simp[dX,ht.cell,f])) W k
def Gj[ht:dz X.P T n](a:Nat.blt d X.n=true)(b:aS sl x=some (.m (.cz i MF off)))(c:H[i]?=some (.row acc ec MF cs))(f:(cs.drop off).take n=Nf)(h:off+n<=cs.length)(g:gg Nf=some ds)(k:TF X ops rest ⟨(d,(.m (.d (.agg ds))))::sl,bx,H⟩ λa b=>MU (⟨some d,(.m (.d (.agg ds))),[],[],none,true,none⟩::a) b):TF X ops (⟨some d,.load T x,ty,pos,af,none⟩::rest) ⟨sl,bx,H⟩ MU:=
 TF.cons (e:=⟨some d,(.m (.d (.agg ds))),[],[],none,true,none⟩) (MK W W (bj a) λa a=>vg ((a.ev (x:=x) (by simp[Op.operands,Call.operands])).trans b) (by rw[a.H W];exact c) (by simp[dX,ht.agg,ht.size,aiF h,pack,f,g])) W k
def vj{a:IntKind}{i:Int}[ht:aU X.P t e][m:bQ X.P e ec](b:Nat.blt d X.n=true)(c:aS sl x=some (.m (.bZ j MF len)))(f:aS sl y=some (.m (.d (.int a i))))(g:H[j]?=some (.row acc ec MF cs))(h:0<=i)(l:i<len)(k:TL X ops rest ⟨(d,(.m (.cz j MF (i.toNat*ec))))::sl,bx,H⟩ post):TL X ops (⟨some d,.indexAddr t x y,ty,pos,af,none⟩::rest) ⟨sl,bx,H⟩ post:=
 M3 W W b (pC c f g h l) k
def mZ{a:IntKind}{i:Int}[ht:aU X.P t e][m:bQ X.P e ec](b:Nat.blt d X.n=true)(c:aS sl x=some (.m (.bZ j MF len)))(f:aS sl y=some (.m (.d (.int a i))))(g:H[j]?=some (.row acc ec MF cs))(h:0<=i)(l:i<len)(k:TF X ops rest ⟨(d,(.m (.cz j MF (i.toNat*ec))))::sl,bx,H⟩ λa b=>MU (⟨some d,(.m (.cz j MF (i.toNat*ec))),[],[],none,true,none⟩::a) b):TF X ops (⟨some d,.indexAddr t x y,ty,pos,af,none⟩::rest) ⟨sl,bx,H⟩ MU:=
 TF.cons (e:=⟨some d,(.m (.cz j MF (i.toNat*ec))),[],[],none,true,none⟩) (MK W W (bj b) λa a=>pC ((a.ev (x:=x) (by simp[Op.operands,Call.operands])).trans c) ((a.ev (x:=y) (by simp[Op.operands,Call.operands])).trans f) (by rw[a.H W];exact g) h l) W k
def Fm[ht:aU X.P t e](a:Nat.blt d X.n=true)(b:aS sl x=some (.m (.bZ j MF len)))(k:TL X ops rest ⟨(d,(.m (.d (.int .i64 len))))::sl,bx,H⟩ post):TL X ops (⟨some d,.call ⟨.builtin .len,#[x],#[t]⟩,ty,pos,af,none⟩::rest) ⟨sl,bx,H⟩ post:=
 M3 W W a (Cj b) k
def JB[ht:aU X.P t e](a:Nat.blt d X.n=true)(b:aS sl x=some (.m (.bZ j MF len)))(k:TF X ops rest ⟨(d,(.m (.d (.int .i64 len))))::sl,bx,H⟩ λa b=>MU (⟨some d,(.m (.d (.int .i64 len))),[],[],none,true,none⟩::a) b):TF X ops (⟨some d,.call ⟨.builtin .len,#[x],#[t]⟩,ty,pos,af,none⟩::rest) ⟨sl,bx,H⟩ MU:=
 TF.cons (e:=⟨some d,(.m (.d (.int .i64 len))),[],[],none,true,none⟩) (MK W W (bj a) λa a=>Cj ((a.ev (x:=x) (by simp[Op.operands,Call.operands])).trans b)) W k
def nH[ht:ie X.P T e][h:fk X.P e z](a:Nat.blt d X.n=true)(b:aS sl x=some (.m (.mp i)))(c:aS sl y=some (.m (.d (.str kk))))(f:H[i]?=some (.map es))(g:strKeys es=true)(k:TL X ops rest ⟨(d,(.m (match ek kk es with|some m=>.c_ [m,.d (.bool true)]|none=>.c_ [.d z,.d (.bool false)])))::sl,bx,H⟩ post):TL X ops (⟨some d,.lookup T x y true,ty,pos,af,none⟩::rest) ⟨sl,bx,H⟩ post:=
 M3 W W a (Ck b c f g) k
def lB[ht:ie X.P T e][h:fk X.P e z](a:Nat.blt d X.n=true)(b:aS sl x=some (.m (.mp i)))(c:aS sl y=some (.m (.d (.str kk))))(f:H[i]?=some (.map es))(g:strKeys es=true)(k:TL X ops rest ⟨(d,(.m (match ek kk es with|some m=>m|none=>.d z)))::sl,bx,H⟩ post):TL X ops (⟨some d,.lookup T x y false,ty,pos,af,none⟩::rest) ⟨sl,bx,H⟩ post:=
 M3 W W a (wm b c f g) k
def s4[ht:ie X.P T e][h:fk X.P e z](a:Nat.blt d X.n=true)(b:aS sl x=some (.m (.mp i)))(c:aS sl y=some (.m (.d (.str kk))))(f:H[i]?=some (.map es))(g:strKeys es=true)(k:TF X ops rest ⟨(d,(.m (match ek kk es with|some m=>m|none=>.d z)))::sl,bx,H⟩ λa b=>MU (⟨some d,(.m (match ek kk es with|some m=>m|none=>.d z)),[],[],none,true,none⟩::a) b):TF X ops (⟨some d,.lookup T x y false,ty,pos,af,none⟩::rest) ⟨sl,bx,H⟩ MU:=
 TF.cons (e:=⟨some d,(.m (match ek kk es with|some m=>m|none=>.d z)),[],[],none,true,none⟩) (MK W W (bj a) λa a=>wm ((a.ev (x:=x) (by simp[Op.operands,Call.operands])).trans b) ((a.ev (x:=y) (by simp[Op.operands,Call.operands])).trans c) (by rw[a.H W];exact f) g) W k
def HM{a:IntKind}{n:Int}[e:kh X.P s k0][ht:kh X.P t k2](b:Nat.blt d X.n=true)(c:aS sl x=some (.m (.d (.int a n))))(k:TL X ops rest ⟨(d,(.m (.d (.int k2 (k2.wrap n)))))::sl,bx,H⟩ post):TL X ops (⟨some d,.convert s t x,ty,pos,af,none⟩::rest) ⟨sl,bx,H⟩ post:=
 M3 W W b (vh c) k
def Cl{a:IntKind}{n:Int}[f:kh X.P s k0][ht:kh X.P t k2](b:Nat.blt d X.n=true)(c:aS sl x=some (.m (.d (.int a n))))(k:TF X ops rest ⟨(d,(.m (.d (.int k2 (k2.wrap n)))))::sl,bx,H⟩ λa b=>MU (⟨some d,(.m (.d (.int k2 (k2.wrap n)))),[],[],none,true,none⟩::a) b):TF X ops (⟨some d,.convert s t x,ty,pos,af,none⟩::rest) ⟨sl,bx,H⟩ MU:=
 TF.cons (e:=⟨some d,(.m (.d (.int k2 (k2.wrap n)))),[],[],none,true,none⟩) (MK W W (bj b) λa a=>vh ((a.ev (x:=x) (by simp[Op.operands,Call.operands])).trans c)) W k
def oi(b:Nat.blt d X.n=true)(c:aS sl x=some (.m m))(a:fr m=some cs)(k:TL X ops rest ⟨(d,(.m (.ref H.length 0)))::sl,bx,H++[Ob.box cs]⟩ post):TL X ops (⟨some d,.box T x,ty,pos,af,none⟩::rest) ⟨sl,bx,H⟩ post:=
 M3 W W b ((by rw[<-(cS a).1];exact HL c (cS a).2)) k
def pE(a:Nat.blt d X.n=true)(k:TL X ops rest ⟨(d,(.m (.mp H.length)))::sl,bx,H++[Ob.map []]⟩ post):TL X ops (⟨some d,.makeMap T none,ty,pos,af,none⟩::rest) ⟨sl,bx,H⟩ post:=
 M3 W W a (Ci) k
def Bt{a:Nat}[ht:aU X.P T e][l:bQ X.P e n][m:jD X.P e a][o:fk X.P e z](b:Nat.blt d X.n=true)(c:aS sl x=some (.m (.d (.int k1 len))))(f:aS sl y=some (.m (.d (.int k2 len))))(g:Nat.blt 0 n=true)(h:(bz z).length=n)(i:len*a<=140737488355328)(j:len<=140737488355328)(k:TL X ops rest ⟨(d,(.m (.bZ H.length 0 len)))::sl,bx,H++[Ob.row false n 0 (fQ n len (bz z))]⟩ post):TL X ops (⟨some d,.makeSlice T x y,ty,pos,af,none⟩::rest) ⟨sl,bx,H⟩ post:=
 M3 W W b (zL g h c f i j) k
def cd[g:bQ X.P T n](b:aS sl x=some (.m (.ref i off)))(c:aS sl y=some (.m m))(d:H[i]?=some (.box cs))(a:fr m=some new)(e:Nat.beq new.length n=true)(f:wr cs off new=some Nf)(k:TL X ops rest ⟨sl,bx,H.set i (Ob.box Nf)⟩ post):TL X ops (⟨none,.store T x y,ty,pos,af,none⟩::rest) ⟨sl,bx,H⟩ post:=
 TL.Ff W W (x9 b c d (by rw[(cS a).1];exact aiw e) (cS a).2 (by rw[(cS a).1];exact sY f)) k
def fC[a:bQ X.P T n](d:aS sl x=some (.m (.ref i off)))(f:aS sl y=some (.m m))(h:H[i]?=some (.box cs))(b:fr m=some new)(j:Nat.beq new.length n=true)(l:wr cs off new=some Nf)(k:TF X ops rest ⟨sl,bx,H.set i (Ob.box Nf)⟩ λa b=>MU (⟨none,.m .undef,[],[],none,true,some (H.set i (Ob.box Nf))⟩::a) b):TF X ops (⟨none,.store T x y,ty,pos,af,none⟩::rest) ⟨sl,bx,H⟩ MU:=
 TF.cons (e:=⟨none,.m .undef,[],[],none,true,some (H.set i (Ob.box Nf))⟩) (js.Bs W W λo a=>(by have c:=a.H W;simp only at c;have:=(x9 (X:=X) (st:=o) (dst:=none) (ty:=ty) (pos:=pos) (af:=af) (g:=none) (T:=T) ((a.ev (x:=x) (by simp[Op.operands,Call.operands])).trans d) ((a.ev (x:=y) (by simp[Op.operands,Call.operands])).trans f) (by rw[a.H W];exact h) (by rw[(cS b).1];exact aiw j) (cS b).2 (by rw[(cS b).1];exact sY l));rw[c]at this;exact this)) W k
def Ak[g:bQ X.P T n](b:aS sl x=some (.m (.cz i MF off)))(c:aS sl y=some (.m m))(d:H[i]?=some (.row false ec MF cs))(a:fr m=some new)(e:Nat.beq new.length n=true)(f:dH cs off new=some Nf)(k:TL X ops rest ⟨sl,bx,H.set i (Ob.row false ec MF Nf)⟩ post):TL X ops (⟨none,.store T x y,ty,pos,af,none⟩::rest) ⟨sl,bx,H⟩ post:=
 TL.Ff W W (pB b c d (by rw[(cS a).1];exact aiw e) (cS a).2 (by rw[(cS a).1];exact f)) k
def Al[a:bQ X.P T n](d:aS sl x=some (.m (.cz i MF off)))(f:aS sl y=some (.m m))(h:H[i]?=some (.row false ec MF cs))(b:fr m=some new)(j:Nat.beq new.length n=true)(l:dH cs off new=some Nf)(k:TF X ops rest ⟨sl,bx,H.set i (Ob.row false ec MF Nf)⟩ λa b=>MU (⟨none,.m .undef,[],[],none,true,some (H.set i (Ob.row false ec MF Nf))⟩::a) b):TF X ops (⟨none,.store T x y,ty,pos,af,none⟩::rest) ⟨sl,bx,H⟩ MU:=
 TF.cons (e:=⟨none,.m .undef,[],[],none,true,some (H.set i (Ob.row false ec MF Nf))⟩) (js.Bs W W λo a=>(by have c:=a.H W;simp only at c;have:=(pB (X:=X) (st:=o) (dst:=none) (ty:=ty) (pos:=pos) (af:=af) (g:=none) (T:=T) ((a.ev (x:=x) (by simp[Op.operands,Call.operands])).trans d) ((a.ev (x:=y) (by simp[Op.operands,Call.operands])).trans f) (by rw[a.H W];exact h) (by rw[(cS b).1];exact aiw j) (cS b).2 (by rw[(cS b).1];exact l));rw[c]at this;exact this)) W k
def eU{z:Operand}[ht:ie X.P T e](a:aS sl x=some (.m (.mp i)))(b:aS sl y=some (.m (.d (.str kk))))(c:aS sl z=some (.m m))(d:H[i]?=some (.map es))(f:strKeys es=true)(k:TL X ops rest ⟨sl,bx,H.set i (Ob.map (dK kk m es))⟩ post):TL X ops (⟨none,.mapUpdate T x y z,ty,pos,af,none⟩::rest) ⟨sl,bx,H⟩ post:=
 TL.Ff W W (sq a b c d f) k
def mQ{z:Operand}[ht:ie X.P T e](c:aS sl x=some (.m (.mp i)))(d:aS sl y=some (.m (.d (.str kk))))(f:aS sl z=some (.m m))(h:H[i]?=some (.map es))(j:strKeys es=true)(k:TF X ops rest ⟨sl,bx,H.set i (Ob.map (dK kk m es))⟩ λa b=>MU (⟨none,.m .undef,[],[],none,true,some (H.set i (Ob.map (dK kk m es)))⟩::a) b):TF X ops (⟨none,.mapUpdate T x y z,ty,pos,af,none⟩::rest) ⟨sl,bx,H⟩ MU:=
 TF.cons (e:=⟨none,.m .undef,[],[],none,true,some (H.set i (Ob.map (dK kk m es)))⟩) (js.Bs W W λl a=>(by have b:=a.H W;simp only at b;have:=(sq (X:=X) (st:=l) (dst:=none) (ty:=ty) (pos:=pos) (af:=af) (g:=none) (T:=T) ((a.ev (x:=x) (by simp[Op.operands,Call.operands])).trans c) ((a.ev (x:=y) (by simp[Op.operands,Call.operands])).trans d) ((a.ev (x:=z) (by simp[Op.operands,Call.operands])).trans f) (by rw[a.H W];exact h) j);rw[b]at this;exact this)) W k
def bB[B:aW X.P f](h:CT X.P f ms H λa b=>a=r/\b=H')(o:Nat.blt d X.n=true)(p:gu sl args=some ms)
  (k:TF X ops rest ⟨(d,.m r)::sl,bx,H'⟩ λa b=>MU (⟨some d,.m r,[],[],none,true,some H'⟩::a) b):TF X ops (⟨some d,.call ⟨.value (.func f),args.toArray,OU⟩,ty,pos,af,none⟩::rest) ⟨sl,bx,H⟩ MU:=by
 refine TF.cons (e:=⟨some d,.m r,[],[],none,true,some H'⟩) (js.ye W W (bj o) λb l=>?_) W k;have m:=l.H W;simp only at m;have c:=vc (X:=X) (st:=b) (dst:=some d) (ty:=ty) (pos:=pos) (af:=af) (g:=none) (OU:=OU) (args:=args) (f:=f) (ms:=ms) (post:= λa b=>a=r/\b=H') (by rw[l.gu (λx a=>by simp[Op.operands,Call.operands];exact .inr a),oV];exact p) (by rw[m];exact h);intro i j q t;have a:=c i j q t;have n:∀v s,(∃a c,v=V.m a/\(a=r/\c=H')/\s=(⟨b.sl,b.bx,c⟩:St))->dq (.m r) ⟨b.sl,b.bx,H'⟩ v s:=by rintro v s ⟨C,D,rfl,⟨rfl,rfl⟩,rfl⟩;exact⟨W,W⟩
 unfold dy at a⊢;generalize (execOp i.eval _).run X.P j.w=z at*;cases z with
 |ok y E=>
  cases y<;>simp only at a⊢ <;>first
   |(obtain⟨v,s,u,w,c,a⟩:=a;exact⟨v,s,u,w,n _ _ c,a⟩)
   |exact a.mono λe F ⟨u,A,v,s,w,x,c,a⟩=>⟨u,A,v,s,w,x,n _ _ c,a⟩
   |exact a
 |halt y u=>exact a
def fD[B:aW X.P f](h:CT X.P f ms H λa b=>a=r/\b=H)(o:Nat.blt d X.n=true)(p:gu sl args=some ms)
  (k:TF X ops rest ⟨(d,.m r)::sl,bx,H⟩ λa b=>MU (⟨some d,.m r,[],[],none,true,none⟩::a) b):TF X ops (⟨some d,.call ⟨.value (.func f),args.toArray,OU⟩,ty,pos,af,none⟩::rest) ⟨sl,bx,H⟩ MU:=by
 refine TF.cons (e:=⟨some d,.m r,[],[],none,true,none⟩) (MK W W (bj o) λc m=>?_) W k;have i:=m.H W;simp only at i;have b:=vc (X:=X) (st:=c) (dst:=some d) (ty:=ty) (pos:=pos) (af:=af) (g:=none) (OU:=OU) (args:=args) (f:=f) (ms:=ms) (post:= λa b=>a=r/\b=H) (by rw[m.gu (λx a=>by simp[Op.operands,Call.operands];exact .inr a),oV];exact p) (by rw[i];exact h);intro j l q t;have a:=b j l q t;have n:∀v s,(∃a b,v=V.m a/\(a=r/\b=H)/\s=(⟨c.sl,c.bx,b⟩:St))->dq (.m r) c v s:=by rintro v s ⟨C,D,rfl,⟨rfl,rfl⟩,rfl⟩;exact⟨W,by rw[<-i]⟩
 unfold dy at a⊢;generalize (execOp j.eval _).run X.P l.w=z at*;cases z with
 |ok y E=>
  cases y<;>simp only at a⊢ <;>first
   |(obtain⟨v,s,u,w,b,a⟩:=a;exact⟨v,s,u,w,n _ _ b,a⟩)
   |exact a.mono λe F ⟨u,A,v,s,w,x,b,a⟩=>⟨u,A,v,s,w,x,n _ _ b,a⟩
   |exact a
 |halt y u=>exact a
end rules
end Go.Mt
namespace Go.Mt
variable{t s e:Nat}{m:M}{x:Operand}{rows:List (List D)}{ns:List Int}{cs MP:List M}{σ:Sg}{Oo:Nat->Nat->Prop}{a:Act}{w:World}{c:Code}{q:Exit->St->Prop}
def pF:List (List D)->Option (List Int)
 |[]=>some []
 |[.int .u8 n]::r=>match pF r with
  |some ns=>some (n::ns)
  |none=>none
 |_=>none
def yf:∀{rows:List (List D)} {ns:List Int},pF rows=some ns->rows=ns.map λn=>[.int .u8 n]
 |[],ns,h=>by simp[pF]at h;subst h;rfl
 |r::d,ns,h=>by
  unfold pF at h;split at h
  .rename_i e;cases e
  .rename_i n f e;injection e with a b;subst a;subst b
   split at h
   .rename_i g c;injection h with h;subst h
    simp[yf c]
   .cases h
  .cases h
section ops
variable{X:cQ}{st:St}{dst:Option Nat}{ty:Nat}{pos:String}{af:Array Edge}{g:Option (Nat×Bool)}
def Fo[f:aU X.P s e][j:kh X.P e .u8][ht:Bn X.P t](q:st.ev x=some (.m (.d (.sl rows))))(r:pF rows=some ns):
  cD X ⟨dst,.convert s t x,ty,pos,af,g⟩ st (dq (.m (.d (.str (strOfNums ns)))) st):=by
 have:=yf r;subst this;refine MN λo a F c=>?_
 have h:=c.mN q;generalize k:o.eval x=C at h;refine⟨.string (strOfNums ns),?_,.m (.d (.str _))⟩;generalize l:(ns.map λn=>[D.int .u8 n])=rows at h;cases h with
 |slnil d=>
  have:ns=[]:=by simpa using l
  subst this;cases d with
  |none=>
   have:=run_convert_bytes_nil (P:=X.P) a.w s e f.u j.u 0 0 t ht.u;simp[execOp,k,this,strOfNums];rfl
  |some d=>
   have i:(loadCells d 0).run X.P a.w=.ok #[] a.w:=by simp[loadCells,loadCellsFrom]
   simp only[execOp,k,Sem.run_bind];rw[run_convert_bytes_string a.w s t e (some d) 0 0 f.u j.u ht.u,run_bytesToString a.w d 0 0 [] (by simpa using i)];simp[strOfNums,ByteArray.empty,ByteArray.emptyWithCapacity];rfl
 |sl rows b p B u n v G H w y I z=>
  subst l;have J:(ns.map λn=>[D.int .u8 n]).length=ns.length:=by simp
  have A:u=1:=by
   cases ns with
   |nil=>simp at v
   |cons d ns=>rw[<-w [.int .u8 d] (by simp)];rfl
  subst A;have:=run_convert_bytes_arg (P:=X.P) a.w s e f.u j.u b p ns.length B ns W (by
   intro i c;have d:=(y i 0 (by simpa using c) (by omega)).1;have m:=z i 0 [.int .u8 ns[i]] (.int .u8 ns[i]) (by simp[c]) W;have:n i 0=.int .u8 ns[i]:=by generalize n i 0=E at m;cases m;rfl
   rw[this]at d;simp at d;simpa [c] using d) t ht.u
  simp[execOp,k,this]
end ops
section rules
variable{X:cQ}{ops:Array Oper}{rest:List Oper}{post:St->Prop}{MU:List Ef->St->Prop}{sl:List (Nat×V)}{bx:List (Nat×List M)}{H:Hp}{d ty:Nat}{pos:String}{af:Array Edge}
def KY[f:aU X.P s e][g:kh X.P e .u8][ht:Bn X.P t](a:Nat.blt d X.n=true)(b:aS sl x=some (.m (.d (.sl rows))))(c:pF rows=some ns)
  (k:TL X ops rest ⟨(d,.m (.d (.str (strOfNums ns))))::sl,bx,H⟩ post):TL X ops (⟨some d,.convert s t x,ty,pos,af,none⟩::rest) ⟨sl,bx,H⟩ post:=
 M3 W W a (Fo b c) k
def KZ[f:aU X.P s e][g:kh X.P e .u8][ht:Bn X.P t](a:Nat.blt d X.n=true)(b:aS sl x=some (.m (.d (.sl rows))))(c:pF rows=some ns)
  (k:TF X ops rest ⟨(d,.m (.d (.str (strOfNums ns))))::sl,bx,H⟩ λa b=>MU (⟨some d,.m (.d (.str (strOfNums ns))),[],[],none,false,none⟩::a) b):TF X ops (⟨some d,.convert s t x,ty,pos,af,none⟩::rest) ⟨sl,bx,H⟩ MU:=
 TF.cons (e:=⟨some d,.m (.d (.str (strOfNums ns))),[],[],none,false,none⟩) (MK W W (bj a) λa a=>Fo ((a.ev (x:=x) (by simp[Op.operands])).trans b) c) W k
def ep(H:Hp):M->Option D
 |.d x=>some x
 |.bZ i b a=>match H[i]? with
  |some (.row true c v cs)=>bif (Nat.beq v b&&Nat.blt 0 a)then(match chunk c a cs with
   |some rows=>some (.sl rows)
   |none=>none)else none
  |_=>none
 |_=>none
def RM.view(hi:iH σ Oo){d:D}{v:Value}(h:RM σ m v)(b:ep σ.H m=some d):RM σ (.d d) v:=by
 cases h with
 |d h=>simp[ep]at b;subst b;exact .d h
 |bZ i F E ad Z am G=>
  simp only[ep]at b;split at b
  .rename_i a v e k;cases l:(Nat.beq v F&&Nat.blt 0 E)with
   |false=>simp[l]at b
   |true=>
    simp only[l,aiP]at b;simp only[aiI]at l;have H:=aiw l.1;subst H;have h0:=bj l.2;split at b
    .rename_i c I;injection b with b;subst b
     obtain⟨J,n,g,ac,r,s⟩:=G true a e k;subst J;obtain⟨t,TD,T1,u,K,o,L,M,⟨N,Nk⟩,x⟩:=hi.obj i _ k;rw[r]at o;injection o with o;injection o with P Q;subst P;subst Q
     have R:u=Z:=ai9 t (by rw[<-L,<-s]);subst R;have S:K=E:=ai9 t (by rw[<-N,<-n]);subst S;obtain⟨p,y,z⟩:=qw I n;have T:c≠[]:=by rintro rfl;simp at p;omega
     have U:∀o,o<e.length->¬σ.O (σ.l i) o:=by
      intro A ho C;rcases(hi.own _ _).1 C with f|⟨B,V,f,X,j⟩
      .exact hi.sep i _ k trivial A f
      .have:=hi.inj B i V _ f k (Ob.lT j) trivial X;subst this;rw[k]at f;injection f with f;subst f
       simp only[Ob.ji]at j;rcases j with j|j
       .cases j
       .omega
     have q:∀i j,i<c.length->j<a->i*a+j<e.length:=by
      intro i j hi f;rw[n,<-p]
      calc i*a+j<i*a+a:=by omega
       _=(i+1)*a:=by rw[ajt]
       _<=c.length*a:=aiB _ hi
     have Ok:e.length<=g.size:=by rw[n,s];exact aiB _ M
     have Y:∀i j,i<c.length->j<a->∃r d,c[i]?=some r/\r[j]?=some d/\e[i*a+j]?=some (.d d):=by
      intro i j hi f;have A:c[i].length=a:=y _ (aif hi);have B:c[i]?=some c[i]:=by simp[hi]
      have C:c[i][j]?=some ((c[i])[j]'(by rw[A];exact f)):=by simp[A,f]
      exact⟨c[i],_,B,C,z i j _ _ B C⟩
     have:=gO.sl (O:=σ.O) (w:=σ.w) c (σ.l i) 0 u a (λi j=>g.getD (i*a+j) Go.undef) T (by omega) (by omega) y ?_ ?_ ?_
     .rw[p]at this;exact .d this
     .intro f j B A;rw[ai8];refine⟨?_,U _ (q f j B A)⟩;have:=q f j B A;simp[ea,World.cell?,r,show f*a+j<g.size by omega]
     .intro f j B A;obtain⟨V,d,_,_,C⟩:=Y f j B A;have X:=q f j B A;exact(x _ _ (g.getD (f*a+j) Go.undef) C (by simp[show f*a+j<g.size by omega])).2
     .intro f j B d C V;have A:=z f j B d C V;have X:f*a+j<e.length:=by rcases ais (f*a+j) e.length with h|h;exact h;simp[ail h]at A
      have:=(x _ _ (g.getD (f*a+j) Go.undef) A (by simp[show f*a+j<g.size by omega])).1;cases this with
      |d h=>exact h
    .cases b
  .cases b
 |_=>simp[ep]at b
def dw(H:Hp):List M->Option (List M)
 |[]=>some []
 |m::r=>match ep H m,dw H r with
  |some d,some a=>some (.d d::a)
  |_,_=>none
def jy.view(hi:iH σ Oo){n:Array Value}(h:jy σ cs n)(r:dw σ.H cs=some MP):jy σ MP n:=by
 have u:∀(cs MP:List M),dw σ.H cs=some MP->MP.length=cs.length/\∀(i:Nat) a,MP[i]?=some a->∃m d,cs[i]?=some m/\ep σ.H m=some d/\a=.d d:=by
  intro cs
  induction cs with
  |nil=>intro MP h;simp[dw]at h;subst h;simp
  |cons m w s=>
   intro MP h;simp only[dw]at h;split at h
   .rename_i d t j k;injection h with h;subst h
    obtain⟨f,l⟩:=s t k;refine⟨by simp[f],λi g a=>?_⟩;cases i with
    |zero=>simp at a;subst a;exact⟨m,d,by simp,j,rfl⟩
    |succ i=>simp at a;obtain⟨p,b,c,e,q⟩:=l i g a;exact⟨p,b,by simpa using c,e,q⟩
   .cases h
 obtain⟨j,k⟩:=u cs MP r;refine⟨by rw[h.1,j],λi g v a o=>?_⟩;obtain⟨m,d,f,l,rfl⟩:=k i g a;exact⟨(h.2 i m v f o).1.view hi l,(h.2 i m v f o).2⟩
def Inv.cA(h:Inv X ⟨sl,bx,H⟩ a w)(l:get bx t=some cs)(m:dw H cs=some MP):Inv X ⟨sl,(t,MP)::bx,H⟩ a w:=by
 obtain⟨k,i,rfl,c⟩:=h;have n:k.H=H:=c.hH;obtain⟨z,T,d,f⟩:=c.box t cs l;have g:∀u c,get ((t,MP)::bx) u=some c->∃c,get bx u=some c:=by
  intro u o d;rcases bL d with⟨rfl,rfl⟩|⟨q,p⟩
  .exact⟨cs,l⟩
  .exact⟨o,p⟩
 have j:∀b o,mx X.jB i ((t,MP)::bx) b o↔mx X.jB i bx b o:=by
  intro b r;constructor
  .rintro(d|⟨u,o,d,f⟩)
   .exact .inl d
   .obtain⟨p,q⟩:=g u o d;exact .inr ⟨u,p,q,f⟩
  .rintro(d|⟨u,o,d,f⟩)
   .exact .inl d
   .by_cases e:t=u
    .subst e;exact .inr ⟨t,MP,by simp[bP],f⟩
    .exact .inr ⟨u,o,by simp[bP,e,d],f⟩
 refine⟨k,i,W,c.hH,c.defers,c.size,c.slot,?_,?_,?_,?_,?_,c.mono,c.aT⟩
 .intro u o p;rcases bL p with⟨rfl,rfl⟩|⟨_,q⟩
  .exact⟨z,T,d,f.view c.hinv (by rw[n];exact m)⟩
  .exact c.box u o q
 .intro u v o r p q s;obtain⟨_,x⟩:=g u o p;obtain⟨_,y⟩:=g v r q;exact c.og u v _ _ x y s
 .intro u o p;obtain⟨_,q⟩:=g u o p;exact c.oR u _ q
 .intro u o p;obtain⟨_,q⟩:=g u o p;exact c.oS u _ q
 .exact⟨c.hinv.obj,c.hinv.inj,λb o=>by rw[j];exact c.hinv.own b o,λi k d f o g=>c.hinv.sep i k d f o ((j _ _).1 g),λb o d=>c.hinv.iW b o ((j _ _).1 d)⟩
def TC.cA(t:Nat)(b:get bx t=some cs)(d:dw H cs=some MP)(k:TC X c ⟨sl,(t,MP)::bx,H⟩ q):TC X c ⟨sl,bx,H⟩ q:=
 λa w e=>k a w (e.cA b d)
def Inv.aR{x:D}(h:Inv X ⟨sl,bx,H⟩ a w)(e:get sl t=some (.m m))(f:ep H m=some x):Inv X ⟨(t,.m (.d x))::sl,bx,H⟩ a w:=by
 obtain⟨d,g,rfl,b⟩:=h;have i:d.H=H:=b.hH;refine⟨d,g,W,b.hH,b.defers,b.size,?_,b.box,b.og,b.oR,b.oS,b.hinv,b.mono,b.aT⟩;intro u v j;rcases bL j with⟨rfl,rfl⟩|⟨_,k⟩
 .obtain⟨z,l,c⟩:=b.slot u _ e;cases c with
  |m c=>exact⟨z,l,.m (c.view b.hinv (by rw[i];exact f))⟩
 .exact b.slot u v k
def TL.aR(t:Nat){l:List Oper}{x:D}(b:get sl t=some (.m m))(c:ep H m=some x)(k:TL X ops l ⟨(t,.m (.d x))::sl,bx,H⟩ post):TL X ops l ⟨sl,bx,H⟩ post:=
 λa w d=>k a w (d.aR b c)
def TC.aR(t:Nat){x:D}(b:get sl t=some (.m m))(d:ep H m=some x)(k:TC X c ⟨(t,.m (.d x))::sl,bx,H⟩ q):TC X c ⟨sl,bx,H⟩ q:=
 λa w e=>k a w (e.aR b d)
end rules
def Acc(n i:Nat)(rs:List (List D))(m:M)(H:Hp):Prop:=
 (rs=[]/\m=.d (.sl []))\/(rs≠[]/\∃a,m=.bZ i a rs.length/\H[i]?=some (.row true n a (aM rs)))
def Acc.view{n i:Nat}{rs:List (List D)}{H:Hp}(h:Acc n i rs m H)(a:∀r∈rs,r.length=n):ep H m=some (.sl rs):=by
 rcases h with⟨rfl,rfl⟩|⟨b,f,rfl,c⟩
 .rfl
 .have d:Nat.blt 0 rs.length=true:=by rw[alc];cases rs;exact absurd W b;simp
  have e:chunk n rs.length (aM rs)=some rs:=qx a;simp[ep,c,d,e]
end Go.Mt
namespace Go.Mt
variable{e n t T len j MF U:Nat}{x y:Operand}{k kk:IntKind}{i:Int}{cs:List M}{z:D}
section ops
variable{X:cQ}{st:St}{dst:Option Nat}{ty:Nat}{pos:String}{af:Array Edge}{g:Option (Nat×Bool)}
def HN(c:st.ev x=some (.m (.d (.sl []))))[ht:aU X.P t e]:
  cD X ⟨dst,.call ⟨.builtin .cap,#[x],#[t]⟩,ty,pos,af,g⟩ st (dq (.m (.d (.int .i64 0))) st):=by
 refine MN λa j k d=>?_
 have h:=d.mN c;generalize f:a.eval x=u at h;refine⟨.int .i64 0,?_,.m (.d (.int _ _))⟩;cases h with
 |slnil a=>simp[execOp,resolve,invoke,builtin,Builtin.cap_,underlying,program,Sem.run,ht.u,f,goInt]
 |sl w b o cap l v i m n p q r s=>exact absurd W i
def DY(d:st.ev x=some (.m (.d (.sl []))))(f:st.ev y=some (.m (.d (.int k 0))))[ht:aU X.P t e][i:bQ X.P e n]:
  cD X ⟨dst,.slice t x none (some y) none,ty,pos,af,g⟩ st (dq (.m (.d (.sl []))) st):=by
 refine MN λc p q a=>?_
 have h:=a.mN d;have j:=a.jU f;generalize l:c.eval x=u at h;cases h with
 |slnil m=>
  refine⟨.slice m 0 0,?_,.m (.d (.slnil _))⟩;have o:∀w:World,(underlying t).run X.P w=.ok (.slice e) w:= λw=>by simp[underlying,program,Sem.run,ht.u]
  simp[execOp,Instr.sliceAt,Instr.slice,o,l,j,Instr.sliceBounds,Instr.sliceBound,asIntOf,du i.size]
 |sl E b o C r D m s v w z A B=>exact absurd W m
def tY[ht:aU X.P T e][j:bQ X.P e n]
  (k:st.ev x=some (.m (.d (.sl [])))) (l:st.ev y=some (.m (.d (.sl [])))):
  cD X ⟨dst,.call ⟨.builtin .append,#[x,y],#[T,T]⟩,ty,pos,af,g⟩ st (dq (.m (.d (.sl []))) st):=by
 refine MN λc s t d=>?_
 have f:=d.mN k;have h:=d.mN l;generalize m:c.eval x=u at f;generalize o:c.eval y=v at h;cases f with
 |sl E b i C p D a q r w z A B=>exact absurd W a
 |slnil i=>
  cases h with
  |sl F b p D q E a r w z A B C=>exact absurd W a
  |slnil a=>
   refine⟨.slice i 0 0,?_,.m (.d (.slnil _))⟩;have p:∀w:World,(underlying T).run X.P w=.ok (.slice e) w:= λw=>by simp[underlying,program,Sem.run,ht.u]
   have q:∀w:World,(Builtin.firstCells n 0 (.slice a 0 0)).run X.P w=.ok #[] w:=by
    intro w;cases a<;>simp[Builtin.firstCells,loadCells,loadCellsFrom]
   have r:∀w:World,(Builtin.lenOf (.slice a 0 0)).run X.P w=.ok 0 w:=by intro w;simp[Builtin.lenOf]
   simp only[execOp,resolve,invoke,builtin,Builtin.append_];simp only[Sem.run_bind,Sem.run_pure,Result.andThen_ok,aj3,aiq,aiL,m,o];cases i<;>simp[p,du j.size,r,q,storeCells]
def DZ(acc:Bool)(K:st.ev x=some (.m (.bZ j MF len)))(L:st.ev y=some (.m (.d (.int k i))))[ht:aU X.P t e][M:bQ X.P e n]
  (f:st.H[j]?=some (.row false n MF cs)) (N:0<=i) (co:i<=len):
  cD X ⟨dst,.slice t x none (some y) none,ty,pos,af,g⟩ st (dq (.m (.bZ j (MF+1) i.toNat)) ⟨st.sl,st.bx,st.H.set j (.row acc n (MF+1) (cs.take (i.toNat*n)))⟩):=by
 intro J d O a;have h:=a.ev K;have P:=a.jU L;have z:d.H[j]?=some (.row false n MF cs):=by rw[a.hH];exact f
 obtain⟨q,ac,A,b,B,r,s,h5,⟨Q,Sn⟩,C⟩:=a.hinv.obj j _ z;generalize R:J.eval x=u at h;cases h with
 |m h=>cases h with
  |bZ j MF len ad am XR S=>
   obtain⟨T,D,TD,T1,l,U⟩:=S false n cs z;subst T;rw[r]at l;injection l with l;injection l with V Y
   subst V;subst Y;have Z:b=am:=ai9 q (by rw[<-s,<-U]);subst Z;have P2:B=len:=ai9 q (by rw[<-Q,<-D]);subst P2;have jc:i.toNat<=B:=by omega
   have E:(cs.take (i.toNat*n)).length=i.toNat*n:=by
    rw[ait,D];exact ajw (aiB _ jc)
   obtain⟨p,F,G,H,g4,g5⟩:=a.jx (j:=j) (b':=d.l j) (ob:=.row false n MF cs) (NX:=.row acc n (MF+1) (cs.take (i.toNat*n))) (w':=d.w) f trivial W W W (ah9 _)
    (λc _ _=>rfl) (.inl W) (by
     intro ce v ho w;exact absurd (Or.inl W) ho) ⟨W,.inl (by omega)⟩ (by
     intro p hm QW _ _;refine⟨q,ac,A,b,i.toNat,by rw[QW];exact r,s,by omega,⟨E,by omega⟩,?_⟩;intro k m v o I;have w:cs[k]?=some m:=by
      rw[ajz]at o;split at o
      .exact o
      .cases o
     exact⟨(C k m v w I).1.mono hm,(C k m v w I).2⟩)
   refine dy.value (u:=.slice (some ⟨d.l j,0,none⟩) i.toNat b) (w':=p.w) ?_ ⟨_,_,p,O,⟨W,W⟩,W,g5,?_⟩
   .have o:∀w:World,(underlying t).run X.P w=.ok (.slice e) w:= λw=>by simp[underlying,program,Sem.run,ht.u]
    have w:0<=i/\i<=(b:Int):=⟨N,by omega⟩;simp[execOp,Instr.sliceAt,Instr.slice,o,R,P,Instr.sliceBounds,Instr.sliceBound,asIntOf,du M.size,w,kx,F]
   .refine .m (.bZ j (MF+1) i.toNat _ b (.inr ⟨acc,n,MF+1,_,by rw[H];exact tW f,ah9 _⟩) ?_);intro OO Tm Nf w;rw[H]at w;have I:j<st.H.length:=by rcases ais j st.H.length with o|o;exact o;simp[ail o]at f
    simp[I]at w;obtain⟨f1,f2,f3⟩:=w;subst f1;subst f2;subst f3;exact⟨by rw[G],E,_,A,by rw[G,F];exact r,s⟩
def Cm{z:Array Value}(d:0<z.size)(h:∀(i:Nat) (v:Value),z[i]?=some v->flat v=true)(i:Nat)(v:Value)(a:(Builtin.zeroCells z n)[i]?=some v):flat v=true:=by
 have e:i<n*z.size:=by
  rcases ais i (n*z.size)with b|b
  .exact b
  .rw[aiG (by rw[j_];exact b)]at a;cases a
 have c:i%z.size<z.size:=aj1 _ d;simp[Builtin.zeroCells,e,c]at a;exact h (i%z.size) v (by simp[c,a])
def Cn{h:Nat}[ht:aU X.P T e][I:kh X.P U k][r:bQ X.P e n][J:jD X.P e h][K:fk X.P e z](L:Nat.blt 0 n=true)(N:(bz z).length=n)
  (O:st.ev x=some (.m (.d (.sl [])))) (P:st.ev y=some (.m (.d (.int k len)))) (hl:0<len) (No:len*h<=140737488355328) (s:len<=140737488355328):
  cD X ⟨dst,.call ⟨.builtin .append,#[x,y],#[T,U]⟩,ty,pos,af,g⟩ st (dq (.m (.bZ st.H.length 0 len)) ⟨st.sl,st.bx,st.H++[.row false n 0 (List.replicate (len*n) .undef)]⟩):=by
 intro q a t j;have Q:=bj L;have l:=j.mN O;have R:=j.jU P;obtain⟨p,S,i2,w⟩:=pD r.size J.bytes;obtain⟨c,V,Y⟩:=(ci K.zero).run;have A:jy a ((bz z).map .d) c.cells:=(RM.d (e9 Y):RM a (.d z) c).cells W;have Z:c.cells.size=n:=by rw[A.1];simpa using N
 have G:∀(i:Nat) (v:Value),c.cells[i]?=some v->flat v=true:=by
  intro i v f;have B:i<c.cells.size:=by rcases ais i c.cells.size with d|d;exact d;simp[aiG d]at f
  have o:i<(bz z).length:=by omega
  exact(A.2 i (.d (bz z)[i]) v (by simp[o]) f).2
 generalize ac:q.eval x=u at l;cases l with
 |sl H b o cap f F d i s B C D E=>exact absurd W d
 |slnil B=>
  let cap:=len+a.w.tape a.w.drawn (.appendCap len 0 e)%(2^63-len)
  let d:=Builtin.zeroCells c.cells len++Builtin.zeroCells c.cells (cap-len)
  have OA:len<=cap:=akk _ _;have C:d.size=cap*n:=by
   simp only[d,akI,j_,Z];rw[<-aiY];congr 1;omega
  have hd:bU X {a with w:=a.w.drew} t st q:=j.ext (fW.drew _);have Rt:db a {a with w:=a.w.drew} :=db.ext (fW.drew _);have D:(List.replicate (len*n) M.undef).length=len*n:=by simp
  obtain⟨f,E,g2,F,g4,g5⟩:=hd.newObj (.row false n 0 (List.replicate (len*n) .undef)) (.cells d e (0,0)) (by
   intro f hm hw;refine⟨Q,d,e,cap,len,by rw[hw];exact iD _ _,C,OA,⟨D,s⟩,?_⟩;intro k m v o i;have NK:m=.undef:=by
    rw[List.getElem?_replicate]at o;split at o
    .injection o with H;exact H.symm
    .cases o
   subst NK;refine⟨.undef _,?_⟩;simp only[d,akg]at i;split at i
   .exact Cm (by omega) G _ _ i
   .exact Cm (by omega) G _ _ i)
  refine dy.value (u:=.slice (some ⟨a.w.heap.size,0,none⟩) len cap) (w':=f.w) ?_ ⟨_,_,f,t,⟨W,W⟩,W,g5,?_⟩
  .have o:∀w:World,(typeInfo e).run X.P w=.ok p w:= λw=>by simp[typeInfo,program,Sem.run,S]
   have H:∀w:World,(underlying T).run X.P w=.ok (.slice e) w:= λw=>by simp[underlying,program,Sem.run,ht.u]
   have YS:∀w:World,(underlying U).run X.P w=.ok (.int k) w:= λw=>by simp[underlying,program,Sem.run,I.u]
   have UD:IntKind.i64.wrap (len:Int)=len:=IntWalk.i64_in _ ⟨by omega,by omega⟩;have XV:¬((len:Int)*(p.bytes:Int)>2^48):=by
    rw[w];have:((len*h:Nat):Int)<=140737488355328:=by omega
    rw[Int.natCast_mul]at this;omega
   have YT:¬(281474976710656<(len:Int)*(p.bytes:Int)):=by omega
   have UE:¬((len:Int)<0):=by omega
   have c1:¬len=0:=by omega
   have c2:¬(9223372036854775807<((len:Nat):Int)):=by omega
   have c3:¬(281474976710656<Builtin.nextslicecap len 0*p.bytes):=by
    rw[w];have l:=qD (fZ:=len) (cap:=0) (by omega);have:=aiB h l;rw[akq]at this;omega
   have c4:¬len*n=0:=by
    intro i;rcases aku.1 i with i|i<;>omega
   have am:(Builtin.firstCells n 0 (.slice B 0 0)).run X.P a.w.drew=.ok #[] a.w.drew:=by
    cases B<;>simp[Builtin.firstCells,loadCells,loadCellsFrom]
   have TR:(Question.appendCap len 0 e).cut (a.w.tape a.w.drawn (Question.appendCap len 0 e))=cap:=rfl;have QX:(Question.appendCap len 0 e).forced=false:=rfl;simp only[execOp,resolve,invoke,builtin,Builtin.append_];simp only[Sem.run_bind,Sem.run_pure,Result.andThen_ok,aj3,aiq,aiL,ac,R];simp[H,YS,o,du r.size,asInt,asIntOf,UD,YT,UE,c1,c2,c3,c4];simp only[QX,aju,ai2];rw[am];simp only[Result.andThen_ok,V,TR];simp[newRow,newObj,Sem.run,E,d]
  .have H:a.H.length=st.H.length:=by rw[j.hH]
   have o:f.l st.H.length=a.w.heap.size:=by rw[<-H];exact g2
   refine .m (.bZ _ 0 len _ cap (.inr ⟨false,n,0,List.replicate (len*n) .undef,by rw[F];simp,ah9 _⟩) ?_);intro OO Tm MP i;rw[F]at i;simp at i;obtain⟨e1,e2,e3⟩:=i;subst e1;subst e2;subst e3;exact⟨by rw[o],D,d,e,by rw[o,E];exact iD _ _,C⟩
end ops
section walk
variable{X:cQ}{ops:Array Oper}{rest:List Oper}{post:St->Prop}{sl:List (Nat×V)}{bx:List (Nat×List M)}{H:Hp}{d:Nat}{ty:Nat}{pos:String}{af:Array Edge}
def tZ[ht:aU X.P t e](a:Nat.blt d X.n=true)(b:aS sl x=some (.m (.d (.sl []))))(k:TL X ops rest ⟨(d,.m (.d (.int .i64 0)))::sl,bx,H⟩ post):
  TL X ops (⟨some d,.call ⟨.builtin .cap,#[x],#[t]⟩,ty,pos,af,none⟩::rest) ⟨sl,bx,H⟩ post:=M3 W W a (HN b) k
def rG[ht:aU X.P t e][f:bQ X.P e n](a:Nat.blt d X.n=true)(b:aS sl x=some (.m (.d (.sl []))))(c:aS sl y=some (.m (.d (.int kk 0))))(k:TL X ops rest ⟨(d,.m (.d (.sl [])))::sl,bx,H⟩ post):
  TL X ops (⟨some d,.slice t x none (some y) none,ty,pos,af,none⟩::rest) ⟨sl,bx,H⟩ post:=M3 W W a (DY b c) k
def oj[ht:aU X.P T e][f:bQ X.P e n](a:Nat.blt d X.n=true)(b:aS sl x=some (.m (.d (.sl []))))(c:aS sl y=some (.m (.d (.sl []))))(k:TL X ops rest ⟨(d,.m (.d (.sl [])))::sl,bx,H⟩ post):
  TL X ops (⟨some d,.call ⟨.builtin .append,#[x,y],#[T,T]⟩,ty,pos,af,none⟩::rest) ⟨sl,bx,H⟩ post:=M3 W W a (tY b c) k
def oY(acc:Bool)[ht:aU X.P t e][f:bQ X.P e n](a:Nat.blt d X.n=true)(b:aS sl x=some (.m (.bZ j MF len)))(c:aS sl y=some (.m (.d (.int kk i))))
  (f:H[j]?=some (.row false n MF cs)) (g:0<=i) (h:i<=len) (k:TL X ops rest ⟨(d,.m (.bZ j (MF+1) i.toNat))::sl,bx,H.set j (.row acc n (MF+1) (cs.take (i.toNat*n)))⟩ post):
  TL X ops (⟨some d,.slice t x none (some y) none,ty,pos,af,none⟩::rest) ⟨sl,bx,H⟩ post:=M3 W W a (DZ acc b c f g h) k
def pG{a:Nat}[ht:aU X.P T e][g:kh X.P U kk][h:bQ X.P e n][i:jD X.P e a][j:fk X.P e z](b:Nat.blt d X.n=true)(c:aS sl x=some (.m (.d (.sl []))))(f:aS sl y=some (.m (.d (.int kk len))))
  (g:Nat.blt 0 n=true) (h:(bz z).length=n) (i:0<len) (j:len*a<=140737488355328) (a:len<=140737488355328) (k:TL X ops rest ⟨(d,.m (.bZ H.length 0 len))::sl,bx,H++[.row false n 0 (List.replicate (len*n) .undef)]⟩ post):
  TL X ops (⟨some d,.call ⟨.builtin .append,#[x,y],#[T,U]⟩,ty,pos,af,none⟩::rest) ⟨sl,bx,H⟩ post:=M3 W W b (Cn g h c f i j a) k
end walk
end Go.Mt
namespace Go.Mt
variable{ρ:Nat->Nat}{σ τ:Sg}{n b:Nat}{m:M}{ob:Ob}
inductive MB(n:Nat):M->Prop where
 |d (x:D):MB n (.d x)
 |ref (i off:Nat) (h:i<n):MB n (.ref i off)
 |bZ (i MF len:Nat) (h:i<n):MB n (.bZ i MF len)
 |cz (i MF off:Nat) (h:i<n):MB n (.cz i MF off)
 |mp (i:Nat) (h:i<n):MB n (.mp i)
 |it (i:Nat) (h:i<n):MB n (.it i)
 |agg (cs:List M) (h:∀m∈cs,MB n m):MB n (.agg cs)
 |fn (f:Nat) (cs:List M) (h:∀m∈cs,MB n m):MB n (.fn f cs)
 |c_ (cs:List M) (h:∀m∈cs,MB n m):MB n (.c_ cs)
 |undef:MB n .undef
def Bu(n:Nat):Ob->Prop
 |.box a=>∀m∈a,MB n m
 |.row _ _ _ a=>∀m∈a,MB n m
 |.map a=>∀e∈a,MB n e.2
 |.iter x=>MB n x
 |.dead=>True
 |.free=>True
def HB(n:Nat)(H:Hp):Prop:=∀a∈H,Bu n a
mutual
def dx(ρ:Nat->Nat):M->M
 |.d x=>.d x
 |.ref i a=>.ref (ρ i) a
 |.bZ i a b=>.bZ (ρ i) a b
 |.cz i a b=>.cz (ρ i) a b
 |.mp i=>.mp (ρ i)
 |.it i=>.it (ρ i)
 |.agg a=>.agg (iE ρ a)
 |.fn f a=>.fn f (iE ρ a)
 |.c_ a=>.c_ (iE ρ a)
 |.undef=>.undef
def iE(ρ:Nat->Nat):List M->List M
 |[]=>[]
 |m::r=>dx ρ m::iE ρ r
end
def yg(ρ:Nat->Nat)(l:List M):iE ρ l=l.map (dx ρ):=by induction l with
 |nil=>rfl
 |cons b r a=>simp[iE,a]
def fU(ρ:Nat->Nat)(l:List M)(i:Nat):(iE ρ l)[i]?=(l[i]?).map (dx ρ):=by rw[yg];simp
def cL(ρ:Nat->Nat)(l:List M):(iE ρ l).length=l.length:=by rw[yg];simp
def cH(ρ:Nat->Nat):Ob->Ob
 |.box a=>.box (iE ρ a)
 |.row d b c a=>.row d b c (iE ρ a)
 |.map a=>.map (a.map λe=>(e.1,dx ρ e.2))
 |.iter x=>.iter (dx ρ x)
 |.dead=>.dead
 |.free=>.free
def fa(ρ:Nat->Nat)(ob:Ob):(cH ρ ob).live↔ob.live:=by cases ob<;>simp[cH,Ob.live]
def oq(ρ:Nat->Nat)(ob:Ob)(o:Nat):(cH ρ ob).ji o↔ob.ji o:=by cases ob<;>simp[cH,Ob.ji,cL]
structure KA(ρ:Nat->Nat)(n:Nat)(σ τ:Sg):Prop where
 w:σ.w=τ.w
 O:∀b o,¬σ.O b o->¬τ.O b o
 len:∀(i:Nat) ob,σ.H[i]?=some ob->i<n
 ob:∀(i:Nat) ob,σ.H[i]?=some ob->τ.H[ρ i]?=some (cH ρ ob)
 l:∀(i:Nat) ob,σ.H[i]?=some ob->τ.l (ρ i)=σ.l i
def RM.up(a:KA ρ n σ τ){v:Value}(h:RM σ m v):RM τ (dx ρ m) v:=by
 induction h with
 |d h=>rw[dx];exact .d (h.mono λb o v c e=>⟨by rw[<-a.w];exact c,a.O b o e⟩)
 |ref i c e h=>
  rw[dx,<-a.l i _ h];exact .ref (ρ i) c _ (a.ob i _ h)
 |bZ i j s g t f k=>
  rw[dx];have l:∃a,σ.H[i]?=some a:=by
   rcases f with h|⟨r,p,q,c,h,_⟩
   .exact⟨_,h⟩
   .exact⟨_,h⟩
  obtain⟨o,e⟩:=l;refine .bZ _ j s g t ?_ ?_
  .rcases f with h|⟨r,p,q,u,h,c⟩
   .exact .inl (a.ob i _ h)
   .exact .inr ⟨r,p,q,_,a.ob i _ h,c⟩
  .intro x w u c;rw[a.ob i _ e]at c;injection c with c
   cases o<;>simp only[cH]at c<;>cases c;obtain⟨p,q,r⟩:=k _ _ _ e;rw[a.l i _ e,cL,<-a.w];exact⟨p,q,r⟩
 |cz i g q b f j=>
  rw[dx];have k:∃a,σ.H[i]?=some a:=by
   rcases f with h|⟨r,o,p,c,h,_⟩
   .exact⟨_,h⟩
   .exact⟨_,h⟩
  obtain⟨l,e⟩:=k;refine .cz _ g q b ?_ ?_
  .rcases f with h|⟨r,o,p,s,h,c⟩
   .exact .inl (a.ob i _ h)
   .exact .inr ⟨r,o,p,_,a.ob i _ h,c⟩
  .intro r p o c;rw[a.ob i _ e]at c;injection c with c
   cases l<;>simp only[cH]at c<;>cases c;rw[a.l i _ e];exact j _ _ _ e
 |mp i c h=>
  rw[dx,<-a.l i _ h];exact .mp (ρ i) _ (a.ob i _ h)
 |it i x h=>
  rw[dx,<-a.l i _ h];exact .it (ρ i) _ (a.ob i _ h)
 |agg p f g j h k=>
  rw[dx];refine .agg _ f (by rw[cL];exact g) j λi m v c l=>?_
  rw[fU]at c;obtain⟨o,e,rfl⟩:=aiE.1 c;exact k i o v e l
 |fn f q g p j h k=>
  rw[dx];refine .fn f _ g p (by rw[cL];exact j) λi m v c l=>?_
  rw[fU]at c;obtain⟨o,e,rfl⟩:=aiE.1 c;exact k i o v e l
 |xe f g r j q k h l=>
  rw[dx];refine .xe f g _ j q (by rw[cL];exact k) λi m v c o=>?_
  rw[fU]at c;obtain⟨p,e,rfl⟩:=aiE.1 c;exact l i p v e o
 |c_ o f g h j=>
  rw[dx];refine .c_ _ f (by rw[cL];exact g) λi m v c k=>?_
  rw[fU]at c;obtain⟨l,e,rfl⟩:=aiE.1 c;exact j i l v e k
 |undef v=>rw[dx];exact .undef v
structure D0(ρ:Nat->Nat)(n:Nat)(σ τ:Sg):Prop where
 w:σ.w=τ.w
 O:∀b o,¬τ.O b o->¬σ.O b o
 has:∀i:Nat,i<n->∃ob,σ.H[i]?=some ob
 ob:∀(i:Nat) ob,σ.H[i]?=some ob->τ.H[ρ i]?=some (cH ρ ob)
 l:∀(i:Nat) ob,σ.H[i]?=some ob->τ.l (ρ i)=σ.l i
def RM.down(a:D0 ρ n σ τ)(s:MB n m):∀{v:Value},RM τ (dx ρ m) v->RM σ m v:=by
 induction s with
 |d x=>
  intro v h;rw[dx]at h;cases h with
  |d h=>exact .d (h.mono λb o v c e=>⟨by rw[a.w];exact c,a.O b o e⟩)
 |ref i f h=>
  intro v e;rw[dx]at e;obtain⟨g,c⟩:=a.has i h;cases e with
  |ref j f k h=>
   rw[a.ob i _ c]at h;injection h with h
   cases g<;>simp only[cH]at h<;>cases h;rw[a.l i _ c];exact .ref i f _ c
 |bZ i j q h=>
  intro v g;rw[dx]at g;obtain⟨t,e⟩:=a.has i h;have k:=a.ob i _ e;cases g with
  |bZ A j q r y c w=>
   refine .bZ i j q r y ?_ ?_
   .rw[k]at c;cases t with
    |dead=>exact .inl e
    |free=>rcases c with h|⟨l,o,p,u,h,f⟩<;>simp[cH]at h
    |row p l o f=>
     rcases c with h|⟨x,z,B,C,h,u⟩
     .simp[cH]at h
     .simp only[cH]at h;injection h with h;injection h with D E F G
      exact .inr ⟨p,l,o,f,e,by omega⟩
    |box l=>rcases c with h|⟨o,p,u,x,h,f⟩<;>simp[cH]at h
    |map l=>rcases c with h|⟨o,p,u,x,h,f⟩<;>simp[cH]at h
    |iter l=>rcases c with h|⟨o,p,u,x,h,f⟩<;>simp[cH]at h
   .intro z x u f;rw[e]at f;injection f with f
    subst f;obtain⟨l,o,p⟩:=w z x (iE ρ u) k;rw[a.l i _ e]at l p;rw[cL]at o;rw[a.w];exact⟨l,o,p⟩
 |cz i j l h=>
  intro v g;rw[dx]at g;obtain⟨o,e⟩:=a.has i h;have k:=a.ob i _ e;cases g with
  |cz w j l b c q=>
   refine .cz i j l b ?_ ?_
   .rw[k]at c;cases o with
    |dead=>exact .inl e
    |free=>rcases c with h|⟨p,r,t,u,h,f⟩<;>simp[cH]at h
    |row t p r f=>
     rcases c with h|⟨x,y,z,A,h,u⟩
     .simp[cH]at h
     .simp only[cH]at h;injection h with h;injection h with B C D E
      exact .inr ⟨t,p,r,f,e,by omega⟩
    |box p=>rcases c with h|⟨r,t,u,x,h,f⟩<;>simp[cH]at h
    |map p=>rcases c with h|⟨r,t,u,x,h,f⟩<;>simp[cH]at h
    |iter p=>rcases c with h|⟨r,t,u,x,h,f⟩<;>simp[cH]at h
   .intro t r p f;rw[e]at f;injection f with f
    subst f;rw[<-a.l i _ e];exact q t r (iE ρ p) k
 |mp i h=>
  intro v e;rw[dx]at e;obtain⟨f,c⟩:=a.has i h;cases e with
  |mp g j h=>
   rw[a.ob i _ c]at h;injection h with h
   cases f<;>simp only[cH]at h<;>cases h;rw[a.l i _ c];exact .mp i _ c
 |it i h=>
  intro v e;rw[dx]at e;obtain⟨f,c⟩:=a.has i h;cases e with
  |it g x h=>
   rw[a.ob i _ c]at h;injection h with h
   cases f<;>simp only[cH]at h<;>cases h;rw[a.l i _ c];exact .it i _ c
 |agg h p j=>
  intro v c;rw[dx]at c;cases c with
  |agg q k e l g=>
   refine .agg h k (by rw[cL]at e;exact e) l λi m v f o=>?_
   exact j m (aiv f) (g i (dx ρ m) v (by rw[fU,f];rfl) o)
 |fn f e r g=>
  intro v c;rw[dx]at c;cases c with
  |fn t q l p h k=>
   refine .fn f e l p (by rw[cL]at h;exact h) λj m v i o=>?_
   exact g m (aiv i) (k j (dx ρ m) v (by rw[fU,i];rfl) o)
  |xe p u t l q h k=>
   refine .xe p f e l q (by rw[cL]at h;exact h) λj m v i o=>?_
   exact g m (aiv i) (k j (dx ρ m) v (by rw[fU,i];rfl) o)
 |c_ h o j=>
  intro v c;rw[dx]at c;cases c with
  |c_ p k e g=>
   refine .c_ h k (by rw[cL]at e;exact e) λi m v f l=>?_
   exact j m (aiv f) (g i (dx ρ m) v (by rw[fU,f];rfl) l)
 |undef=>intro v h;exact .undef v
def fN.up(d:σ.w=τ.w)(a:∀m v,RM σ m v->RM τ (dx ρ m) v)(h:fN σ b ob):fN τ b (cH ρ ob):=by
 cases ob with
 |box q=>
  obtain⟨p,T,n,o,f⟩:=h;refine⟨p,T,by rw[<-d];exact n,by rw[cL];exact o,λi m v g j=>?_⟩;rw[fU]at g;obtain⟨k,l,rfl⟩:=aiE.1 g;exact⟨a _ _ (f i k v l j).1,(f i k v l j).2⟩
 |row A y z x=>
  obtain⟨s,u,T,w,n,o,p,q,⟨r,t⟩,k⟩:=h;refine⟨s,u,T,w,n,by rw[<-d];exact o,p,q,⟨by rw[cL];exact r,t⟩,λi m v f g=>?_⟩;rw[fU]at f;obtain⟨j,l,rfl⟩:=aiE.1 f;exact⟨a _ _ (k i j v l g).1,(k i j v l g).2⟩
 |map s=>
  obtain⟨t,n,o,c,g,j,k,p⟩:=h;refine⟨_,n.map (dx ρ),o,c,by rw[<-d];exact g,by simpa using j,λi e u f q=>?_,p⟩;rw[aiZ]at f;obtain⟨r,l,rfl⟩:=aiE.1 f;exact(k i r u l q).up λv d=>a _ _ d
 |iter x=>
  rcases h with⟨i,s,j,l,f,g⟩|⟨m,T,f,g⟩
  .exact .inl ⟨i,s,j,l,by rw[<-d];exact f,g.imp (λh=>⟨h.1,a _ _ h.2⟩) λh=>⟨a _ _ h.1,h.2⟩⟩
  .exact .inr ⟨m,T,by rw[<-d];exact f,a _ _ g⟩
 |dead=>trivial
 |free=>trivial
def fN.down(f:σ.w=τ.w)(a:∀m v,MB n m->RM τ (dx ρ m) v->RM σ m v)(d:Bu n ob)(h:fN τ b (cH ρ ob)):fN σ b ob:=by
 cases ob with
 |box r=>
  obtain⟨q,T,l,g,o⟩:=h;refine⟨q,T,by rw[f];exact l,by rw[cL]at g;exact g,λk m v i p=>?_⟩;have j:=o k (dx ρ m) v (by rw[fU,i];rfl) p;exact⟨a _ _ (d m (aiv i)) j.1,j.2⟩
 |row B z A y=>
  obtain⟨s,w,T,x,l,o,p,q,⟨i,t⟩,u⟩:=h;refine⟨s,w,T,x,l,by rw[f];exact o,p,q,⟨by rw[cL]at i;exact i,t⟩,λk m v g r=>?_⟩;have j:=u k (dx ρ m) v (by rw[fU,g];rfl) r;exact⟨a _ _ (d m (aiv g)) j.1,j.2⟩
 |map x=>
  obtain⟨y,q,r,c,k,l,o,s⟩:=h;obtain⟨t,g,rfl⟩:=q.KU;refine⟨t,g,r,c,by rw[f];exact k,by simpa using l,λj e u i w=>?_,s⟩;have p:=o j (e.1,dx ρ e.2) u (by rw[aiZ,i];rfl) w;exact p.up λv f=>a _ _ (d e (g.mem.1 (aiv i))) f
 |iter x=>
  rcases h with⟨j,s,k,l,g,i⟩|⟨m,T,g,i⟩
  .exact .inl ⟨j,s,k,l,by rw[f];exact g,i.imp (λh=>⟨h.1,a _ _ d h.2⟩) λh=>⟨a _ _ d h.1,h.2⟩⟩
  .exact .inr ⟨m,T,by rw[f];exact g,a _ _ d i⟩
 |dead=>trivial
 |free=>trivial
end Go.Mt
namespace Go.Mt
def eX{H:Hp}{i:Nat}{ob:Ob}(h:H[i]?=some ob):i<H.length:=by
 rcases ais i H.length with a|a
 .exact a
 .simp[ail a]at h
def CT.frame{P:Program}{f:Nat}{ms:List M}{H K:Hp}{post:M->Hp->Prop}(ρ:Nat->Nat)(ac:∀i j,i<H.length->j<H.length->ρ i=ρ j->i=j)
  (d:∀(i:Nat) ob,H[i]?=some ob->K[ρ i]?=some (cH ρ ob)) (hB:HB H.length H) (Og:∀m∈ms,MB H.length m)
  (h:CT P f ms H λr k=>k.length=H.length/\post r k):
  CT P f (iE ρ ms) K λr k=>∃a H',post a H'/\H'.length=H.length/\r=dx ρ a/\k.length=K.length/\(∀(i:Nat) ob,H'[i]?=some ob->k[ρ i]?=some (cH ρ ob))/\∀j,(∀i,i<H.length->ρ i≠j)->k[j]?=K[j]?:=by
 intro σ R vs p a O9;have co:∀i,i<H.length->ρ i<K.length:=by
  intro i u;have:=d i H[i] (by simp[u]);exact eX this
 let am:Nat->Nat->Prop:= λb o=>R b o\/∃(j:Nat) (ob:Ob),(∀i,i<H.length->ρ i≠j)/\σ.H[j]?=some ob/\σ.l j=b/\ob.ji o
 let t:Sg:=⟨σ.w,σ.O,λi=>σ.l (ρ i),H⟩
 have VL:D0 ρ H.length t σ:=⟨rfl,λ_ _ h=>h,λi a=>⟨H[i],by simp[t,a]⟩,λi ob c=>by rw[a];exact d i ob c,λi ob a=>rfl⟩;have VM:∀m v,MB H.length m->RM σ (dx ρ m) v->RM t m v:= λm v S G=>RM.down VL S G
 have YU:iH t am:=by
  refine⟨?_,?_,?_,?_,?_⟩
  .intro i ob u;have D:σ.H[ρ i]?=some (cH ρ ob):=by rw[a];exact d i ob u
   exact fN.down (σ:=t) (τ:=σ) (ρ:=ρ) W VM (hB ob (aiv u)) (p.obj (ρ i) _ D)
  .intro i j u D E I N O w;have J:σ.H[ρ i]?=some (cH ρ u):=by rw[a];exact d i u E
   have Q:σ.H[ρ j]?=some (cH ρ D):=by rw[a];exact d j D I
   exact ac i j (eX E) (eX I) (p.inj _ _ _ _ J Q ((fa ρ u).2 N) ((fa ρ D).2 O) w)
  .intro b o;show σ.O b o↔_;rw[p.own];constructor
   .rintro(u|⟨j,ob,u,I,J⟩)
    .exact .inl (.inl u)
    .by_cases E:∃i,i<H.length/\ρ i=j
     .obtain⟨i,D,rfl⟩:=E;have N:=d i H[i] (by simp[D]);rw[a,N]at u;injection u with u
      subst u;exact .inr ⟨i,H[i],by simp[t,D],I,(oq ρ _ o).1 J⟩
     .exact .inl (.inr ⟨j,ob,λi a c=>E ⟨i,a,c⟩,u,I,J⟩)
   .rintro((u|⟨j,ob,I,u,D,E⟩)|⟨i,ob,u,D,E⟩)
    .exact .inl u
    .exact .inr ⟨j,ob,u,D,E⟩
    .exact .inr ⟨ρ i,cH ρ ob,by rw[a];exact d i ob u,D,(oq ρ _ o).2 E⟩
  .intro i ob D I o;have E:σ.H[ρ i]?=some (cH ρ ob):=by rw[a];exact d i ob D
   rintro(u|⟨j,Q,O,u,J,N⟩)
   .exact p.sep _ _ E ((fa ρ ob).2 I) o u
   .exact O i (eX D) (p.inj _ _ _ _ E u ((fa ρ ob).2 I) (Ob.lT N) J.symm)
  .rintro b o (u|⟨j,J,N,D,E,I⟩)
   .exact p.iW b o u
   .rw[<-E];exact(p.obj j J D).lt (Ob.lT I)
 have d5:n6 t ms vs:=by
  refine⟨by rw[O9.1,cL],λi m v u D=>?_⟩;exact VM m v (Og m (aiv u)) (O9.2 i (dx ρ m) v (by rw[fU,u];rfl) D)
 refine(h t am vs YU W d5).mono ?_;rintro e w' ⟨v,r0,c,w,QW,⟨F,PB⟩,L,G,A,x⟩
 classical
 let z:Nat->Option Nat:= λj=>if h:∃i,i<H.length/\ρ i=j then some h.choose else none
 have Y:∀i,i<H.length->z (ρ i)=some i:=by
  intro i u;have D:∃a,a<H.length/\ρ a=ρ i:=⟨i,u,rfl⟩;show(if h:∃a,a<H.length/\ρ a=ρ i then some h.choose else none)=some i;rw[dif_pos D];have:=D.choose_spec;rw[ac _ _ this.1 u this.2]
 have Z:∀j,(∀i,i<H.length->ρ i≠j)->z j=none:=by
  intro j D;show(if h:∃a,a<H.length/\ρ a=j then some h.choose else none)=none;rw[dif_neg];rintro⟨i,u,w⟩;exact D i u w
 have B:∀j,(∃i,i<H.length/\ρ i=j/\z j=some i)\/((∀i,i<H.length->ρ i≠j)/\z j=none):=by
  intro j;by_cases D:∃i,i<H.length/\ρ i=j
  .obtain⟨i,u,rfl⟩:=D;exact .inl ⟨i,u,W,Y i u⟩
  .have u:∀i,i<H.length->ρ i≠j:= λi a c=>D ⟨i,a,c⟩
   exact .inr ⟨u,Z j u⟩
 let l:Hp:=(List.range K.length).map λj=>match z j with
  |some i=>cH ρ (c.H.getD i .dead)
  |none=>K.getD j .dead
 let g:Nat->Nat:= λj=>match z j with
  |some i=>c.l i
  |none=>σ.l j
 have s:∀(i:Nat) ob,c.H[i]?=some ob->l[ρ i]?=some (cH ρ ob):=by
  intro i ob u;have D:i<H.length:=by rw[<-F];exact eX u
  simp[l,co i D,Y i D,u]
 have y:∀j,(∀i,i<H.length->ρ i≠j)->l[j]?=K[j]?:=by
  intro j D;by_cases u:j<K.length
  .simp[l,u,Z j D]
  .simp[l,u]
 have n:∀(i:Nat),i<H.length->g (ρ i)=c.l i:=by
  intro i u;show(match z (ρ i)with|some i=>c.l i|none=>σ.l (ρ i))=_;rw[Y i u]
 have q:∀j,(∀i,i<H.length->ρ i≠j)->g j=σ.l j:=by
  intro j u;show(match z j with|some i=>c.l i|none=>σ.l j)=_;rw[Z j u]
 let τ:Sg:=⟨c.w,c.O,g,l⟩
 have d6:KA ρ H.length c τ:=⟨rfl,λ_ _ h=>h,λi ob a=>by rw[<-F];exact eX a,s,λi ob a=>n i (by rw[<-F];exact eX a)⟩;have Sl:∀m v,RM c m v->RM τ (dx ρ m) v:= λm v G=>G.up d6
 have C:∀(j:Nat) ob,l[j]?=some ob->(∃i a,i<H.length/\ρ i=j/\c.H[i]?=some a/\ob=cH ρ a)\/((∀i,i<H.length->ρ i≠j)/\σ.H[j]?=some ob):=by
  intro j ob u;rcases B j with⟨i,D,rfl,_⟩|⟨E,_⟩
  .have I:i<c.H.length:=by rw[F];exact D
   have:=s i c.H[i] (by simp[I]);rw[this]at u;injection u with u
   exact .inl ⟨i,c.H[i],D,W,by simp[I],u.symm⟩
  .rw[y j E]at u;exact .inr ⟨E,by rw[a];exact u⟩
 have T:∀(j:Nat) ob,(∀i,i<H.length->ρ i≠j)->σ.H[j]?=some ob->ob.live->∀(i:Nat) x,H[i]?=some x->x.live->σ.l (ρ i)≠σ.l j:=by
  intro j ob I E O i u D J w;have N:σ.H[ρ i]?=some (cH ρ u):=by rw[a];exact d i u D
  exact I i (eX D) (p.inj _ _ _ _ N E ((fa ρ u).2 J) O w)
 have Ss:∀(j:Nat) ob,(∀i,i<H.length->ρ i≠j)->σ.H[j]?=some ob->ob.live->c.w.heap[σ.l j]?=σ.w.heap[σ.l j]?:=by
  intro j ob J u D;refine x.aT (σ.l j) ((p.obj j ob u).lt D) ?_;intro i E I N;exact T j ob J u D i E I N
 have TS:db σ τ:=by
  refine⟨A.cell,?_,?_,?_,?_,?_,?_⟩
  .intro j Q u;rcases B j with⟨i,D,rfl,_⟩|⟨E,_⟩
   .have J:=d i H[i] (by simp[D]);rw[a,J]at u;injection u with u
    cases I:H[i]with
    |box U=>
     obtain⟨⟨V,N⟩,O⟩:=A.box i U (by show H[i]?=_;simp[D,I]);exact⟨⟨_,s i _ N⟩,by show g (ρ i)=_;rw[n i D];exact O⟩
    |_=>rw[I]at u;simp[cH]at u
   .exact⟨⟨Q,by show l[j]?=_;rw[y j E,<-a];exact u⟩,q j E⟩
  .intro j Q u;rcases B j with⟨i,D,rfl,_⟩|⟨E,_⟩
   .have J:=d i H[i] (by simp[D]);rw[a,J]at u;injection u with u
    cases I:H[i]with
    |map U=>
     obtain⟨⟨V,N⟩,O⟩:=A.map i U (by show H[i]?=_;simp[D,I]);exact⟨⟨_,s i _ N⟩,by show g (ρ i)=_;rw[n i D];exact O⟩
    |_=>rw[I]at u;simp[cH]at u
   .exact⟨⟨Q,by show l[j]?=_;rw[y j E,<-a];exact u⟩,q j E⟩
  .intro j Q u;rcases B j with⟨i,D,rfl,_⟩|⟨E,_⟩
   .have J:=d i H[i] (by simp[D]);rw[a,J]at u;injection u with u
    cases I:H[i]with
    |iter U=>
     obtain⟨⟨V,N⟩,O⟩:=A.iter i U (by show H[i]?=_;simp[D,I]);exact⟨⟨_,s i _ N⟩,by show g (ρ i)=_;rw[n i D];exact O⟩
    |_=>rw[I]at u;simp[cH]at u
   .exact⟨⟨Q,by show l[j]?=_;rw[y j E,<-a];exact u⟩,q j E⟩
  .intro j u;rcases B j with⟨i,D,rfl,_⟩|⟨I,_⟩
   .have J:=d i H[i] (by simp[D]);rw[a,J]at u;injection u with u
    cases E:H[i]with
    |dead=>
     have N:=A.dead i (by show H[i]?=_;simp[D,E]);exact s i _ N
    |_=>rw[E]at u;simp[cH]at u
   .show l[j]?=_;rw[y j I,<-a];exact u
  .intro j ce ec X U u;rcases B j with⟨i,D,rfl,_⟩|⟨E,_⟩
   .have N:=d i H[i] (by simp[D]);rw[a,N]at u;injection u with u
    cases I:H[i]with
    |row a0 e0 v0 V=>
     rw[I]at u;simp only[cH]at u;cases u;rcases A.row i _ _ _ V (by show H[i]?=_;rw[aiM D,I])with J|⟨a1,v1,c1,J,O,h5⟩
     .exact .inl (s i _ J)
     .refine .inr ⟨a1,v1,_,s i _ J,O,λQ=>?_⟩;obtain⟨y1,y2,y3⟩:=h5 Q;exact⟨by show g (ρ i)=_;rw[n i D];exact y1,by rw[cL,cL];exact y2,y3⟩
    |_=>rw[I]at u;simp[cH]at u
   .refine .inr ⟨ce,X,U,by show l[j]?=_;rw[y j E,<-a];exact u,ah9 _,λ_=>⟨q j E,rfl,λJ N I=>?_⟩⟩;exact⟨J,by rw[<-Ss j _ E u trivial]at I;exact I,W⟩
  .intro j E;rcases B j with⟨i,u,rfl,_⟩|⟨D,_⟩
   .obtain⟨ob,I⟩:=A.has i H[i] (by show H[i]?=_;simp[u]);exact⟨_,s i _ I⟩
   .exact⟨_,by show l[j]?=_;rw[y j D,<-a];exact E⟩
 have d7:∀(j:Nat) ob,(∀i,i<H.length->ρ i≠j)->σ.H[j]?=some ob->fN τ (σ.l j) ob:=by
  intro j ob E u;by_cases D:ob.live
  .exact(p.obj j ob u).fY TS (λx a=>by show c.w.heap[σ.l j]?=_;rw[Ss j ob E u D];exact a)
  .cases ob<;>first|trivial|exact absurd trivial D
 refine⟨v,dx ρ r0,τ,w,QW,⟨r0,c.H,PB,F,W,by simp[τ,l],s,y⟩,?_,Sl _ _ G,TS,?_⟩
 .refine⟨?_,?_,?_,?_,?_⟩
  .intro j ob I;rcases C j ob I with⟨i,J,E,rfl,u,rfl⟩|⟨D,u⟩
   .show fN τ (g (ρ i)) _;rw[n i E];exact fN.up (σ:=c) (τ:=τ) (ρ:=ρ) W Sl (L.obj i J u)
   .show fN τ (g j) _;rw[q j D];exact d7 j ob D u
  .intro E D Q N h1 h2 I J w;have u:g E=g D:=w;rcases C E Q h1 with⟨O,x0,Ov,rfl,ce,rfl⟩|⟨U,V⟩
   .rcases C D N h2 with⟨i2,y0,PQ,rfl,YV,rfl⟩|⟨Su,SV⟩
    .rw[n O Ov,n i2 PQ]at u;rw[L.inj _ _ _ _ ce YV ((fa ρ _).1 I) ((fa ρ _).1 J) u]
    .exfalso;rw[n O Ov,q D Su]at u;rcases x.loc O x0 ce ((fa ρ _).1 I)with X|⟨NX,X,h4,h5⟩
     .have:=(p.obj D N SV).lt J;have h6:t.w.heap.size=σ.w.heap.size:=rfl;omega
     .exact T D N Su SV J O NX X h4 (h5.symm.trans u)
   .rcases C D N h2 with⟨X,y0,PQ,rfl,YV,rfl⟩|⟨Su,SV⟩
    .exfalso;rw[q E U,n X PQ]at u;rcases x.loc X y0 YV ((fa ρ _).1 J)with h3|⟨NX,h3,h4,h5⟩
     .have:=(p.obj E Q V).lt I;have h6:t.w.heap.size=σ.w.heap.size:=rfl;omega
     .exact T E Q U V I X NX h3 h4 (h5.symm.trans u.symm)
    .rw[q E U,q D Su]at u;exact p.inj _ _ _ _ V SV I J u
  .intro b o;show c.O b o↔_;rw[L.own];constructor
   .rintro((u|⟨j,ob,I,u,D,E⟩)|⟨i,ob,u,D,E⟩)
    .exact .inl u
    .exact .inr ⟨j,ob,by show l[j]?=_;rw[y j I,<-a];exact u,by show g j=b;rw[q j I];exact D,E⟩
    .have J:i<H.length:=by rw[<-F];exact eX u
     exact .inr ⟨ρ i,cH ρ ob,s i ob u,by show g (ρ i)=b;rw[n i J];exact D,(oq ρ _ o).2 E⟩
   .rintro(E|⟨j,ob,E,N,I⟩)
    .exact .inl (.inl E)
    .have D:g j=b:=N;rcases C j ob E with⟨i,O,J,rfl,u,rfl⟩|⟨u,Q⟩
     .rw[n i J]at D;exact .inr ⟨i,O,u,D,(oq ρ _ o).1 I⟩
     .rw[q j u]at D;exact .inl (.inr ⟨j,ob,u,Q,D,I⟩)
  .intro j ob J D o E;rcases C j ob J with⟨i,N,I,rfl,u,rfl⟩|⟨u,O⟩
   .have Q:R (c.l i) o:=by rw[<-n i I];exact E
    exact L.sep i N u ((fa ρ _).1 D) o (.inl Q)
   .have Q:R (σ.l j) o:=by rw[<-q j u];exact E
    exact p.sep j ob O D o Q
  .exactλb o a=>L.iW b o (.inl a)
 .refine⟨x.os,x.output,x.tape,x.size,?_,?_⟩
  .intro b S E;refine x.aT b S ?_;intro i ob u D;exact E (ρ i) (cH ρ ob) (by rw[a];exact d i ob u) ((fa ρ _).2 D)
  .intro j ob N I;rcases C j ob N with⟨i,O,E,rfl,u,rfl⟩|⟨u,Q⟩
   .rcases x.loc i O u ((fa ρ _).1 I)with D|⟨J,D,U,V⟩
    .exact .inl (by show _<=g (ρ i);rw[n i E];exact D)
    .exact .inr ⟨cH ρ J,by rw[a];exact d i J D,(fa ρ _).2 U,by show g (ρ i)=_;rw[n i E];exact V⟩
   .exact .inr ⟨ob,Q,I,q j u⟩
variable{n f:Nat}{H:Hp}{P:Program}{ms:List M}{post:M->Hp->Prop}
mutual
def Bv(n:Nat):M->Bool
 |.d _=>true
 |.ref i _=>Nat.blt i n
 |.bZ i _ _=>Nat.blt i n
 |.cz i _ _=>Nat.blt i n
 |.mp i=>Nat.blt i n
 |.it i=>Nat.blt i n
 |.agg a=>wq n a
 |.fn _ a=>wq n a
 |.c_ a=>wq n a
 |.undef=>true
def wq(n:Nat):List M->Bool
 |[]=>true
 |m::r=>Bv n m&&wq n r
end
mutual
def jd:∀{m:M},Bv n m=true->MB n m
 |.d x,_=>.d x
 |.ref i a,h=>.ref i a (bj h)
 |.bZ i v l,h=>.bZ i v l (bj h)
 |.cz i v l,h=>.cz i v l (bj h)
 |.mp i,h=>.mp i (bj h)
 |.it i,h=>.it i (bj h)
 |.agg a,h=>.agg a (oZ (by simpa [Bv] using h))
 |.fn f a,h=>.fn f a (oZ (by simpa [Bv] using h))
 |.c_ a,h=>.c_ a (oZ (by simpa [Bv] using h))
 |.undef,_=>.undef
def oZ:∀{l:List M},wq n l=true->∀m∈l,MB n m
 |[],_=>by simp
 |b::r,h=>by
  rw[wq,aiI]at h;intro m a;rcases aib.1 a with e|a
  .rw[e];exact jd h.1
  .exact oZ h.2 m a
end
def LD(n:Nat):Ob->Bool
 |.box a=>wq n a
 |.row _ _ _ a=>wq n a
 |.map a=>a.all λe=>Bv n e.2
 |.iter x=>Bv n x
 |.dead=>true
 |.free=>true
def Fp{ob:Ob}(h:LD n ob=true):Bu n ob:=by
 cases ob with
 |box a=>exact oZ h
 |row a e v b=>exact oZ h
 |map b=>intro e a;exact jd (ajm.1 h e a)
 |iter x=>exact jd h
 |dead=>trivial
 |free=>trivial
def JC(h:H.all (LD n)=true):HB n H:= λa b=>Fp (ajm.1 h a b)
mutual
def qE:∀m:M,dx (λi=>i) m=m
 |.d x=>by rw[dx]
 |.ref i a=>by rw[dx]
 |.bZ i v l=>by rw[dx]
 |.cz i v l=>by rw[dx]
 |.mp i=>by rw[dx]
 |.it i=>by rw[dx]
 |.agg a=>by rw[dx,lC a]
 |.fn f a=>by rw[dx,lC a]
 |.c_ a=>by rw[dx,lC a]
 |.undef=>by rw[dx]
def lC:∀l:List M,iE (λi=>i) l=l
 |[]=>by rw[iE]
 |m::r=>by rw[iE,qE m,lC r]
end
def vk(ob:Ob):cH (λi=>i) ob=ob:=by
 cases ob with
 |box a=>simp[cH,lC]
 |row a e v b=>simp[cH,lC]
 |map a=>simp[cH,qE]
 |iter x=>simp[cH,qE]
 |dead=>rfl
 |free=>rfl
def CT.suffix(F:Hp)(e:HB H.length H)(g:∀m∈ms,MB H.length m)
  (h:CT P f ms H λr k=>k.length=H.length/\post r k):CT P f ms (H++F) λr k=>∃H',k=H'++F/\H'.length=H.length/\post r H':=by
 have c:=CT.frame (K:=H++F) (λi=>i) (λi j _ _ h=>h) (λi a a=>by rw[vk,aim (eX a)];exact a) e g h;rw[lC]at c;refine c.mono ?_;rintro r k ⟨o,H',j,b,rfl,p,l,n⟩;rw[qE];refine⟨H',?_,b,j⟩;apply ajQ;intro i;rcases ais i H.length with a|a
 .have d:=l i H'[i] (by simp[b,a]);rw[vk]at d;rw[d,aim (by omega)];simp[b,a]
 .rw[n i (λj a a=>by omega),aix a,aix (by omega),b]
def CT.drop(n:Nat)(T:H.length<=n)
  (h:CT P f ms H λr k=>n<=k.length/\MB n r/\HB n (k.take n)/\post r (k.take n)):CT P f ms H post:=by
 intro σ t i S u A;refine(h σ t i S u A).mono ?_;rintro e U ⟨v,s,a,B,C,⟨V,D,E,F⟩,q,G,k,o⟩
 let τ:Sg:=⟨a.w,λb o=>t b o\/∃(i:Nat) (c:Ob),(a.H.take n)[i]?=some c/\a.l i=b/\c.ji o,a.l,a.H.take n⟩
 have j:∀(i:Nat) c,(a.H.take n)[i]?=some c->i<n/\a.H[i]?=some c:=by
  intro l p g;rw[ajz]at g;split at g
  .exact⟨by assumption,g⟩
  .cases g
 have c:∀(i:Nat) c,i<n->a.H[i]?=some c->(a.H.take n)[i]?=some c:=by
  intro l p g h;rw[ajz,air g];exact h
 have w:∀b o,¬a.O b o->¬τ.O b o:=by
  intro b I r g;apply r;rw[q.own];rcases g with g|⟨l,p,g,x,y⟩
  .exact .inl g
  .exact .inr ⟨l,p,(j l p g).2,x,y⟩
 have X:D0 (λi=>i) n τ a->True:= λ_=>trivial
 have z:∀m v,MB n m->RM a m v->RM τ m v:=by
  intro m v I
  induction I generalizing v with
  |d x=>intro h;cases h with
   |d h=>exact .d (h.mono λb o v a c=>⟨a,w b o c⟩)
  |ref g l p=>intro h;cases h with
   |ref g l r h=>exact .ref g l r (c g _ p h)
  |bZ g p r l=>intro h;cases h with
   |bZ g p r x N O K=>
    refine .bZ g p r x N ?_ λi c a h=>K i c a (j g _ h).2
    rcases O with h|⟨Q,L,M,J,h,y⟩
    .exact .inl (c g _ l h)
    .exact .inr ⟨Q,L,M,J,c g _ l h,y⟩
  |cz g p r l=>intro h;cases h with
   |cz g p r b M J=>
    refine .cz g p r b ?_ λi c a h=>J i c a (j g _ h).2
    rcases M with h|⟨N,K,L,y,h,x⟩
    .exact .inl (c g _ l h)
    .exact .inr ⟨N,K,L,y,c g _ l h,x⟩
  |mp g l=>intro h;cases h with
   |mp g p h=>exact .mp g p (c g _ l h)
  |it g l=>intro h;cases h with
   |it g x h=>exact .it g x (c g _ l h)
  |agg g x l=>intro h;cases h with
   |agg g i p r h=>exact .agg g i p r λi m v a c=>l m (aiv a) v (h i m v a c)
  |fn f g y l=>intro h;cases h with
   |fn f g i r p h=>exact .fn f g i r p λi m v a c=>l m (aiv a) v (h i m v a c)
   |xe f x g i r p h=>exact .xe f _ g i r p λi m v a c=>l m (aiv a) v (h i m v a c)
  |c_ g r l=>intro h;cases h with
   |c_ g i p h=>exact .c_ g i p λi m v a c=>l m (aiv a) v (h i m v a c)
  |undef=>intro h;exact .undef v
 have R:∀(i:Nat) c,(a.H.take n)[i]?=some c->fN τ (a.l i) c:=by
  intro l g p;have r:=q.obj l g (j l g p).2;have x:=E g (aiv p);refine fN.down (σ:=τ) (τ:=a) (ρ:= λi=>i) (n:=n) W (λm v c a=>z m v c (by rw[qE]at a;exact a)) x (by rw[vk];exact r)
 refine⟨v,s,τ,B,C,F,?_,z s v D G,?_,?_⟩
 .refine⟨R,?_,λb o=>aj2,?_,q.iW⟩
  .intro g l x y p r;exact q.inj g l x y (j g x p).2 (j l y r).2
  .intro g l p;exact q.sep g l (j g l p).2
 .have l:∀(i:Nat) a,σ.H[i]?=some a->i<n:=by
   intro p r g;rw[u]at g;have:=eX g;omega
  refine⟨?_,?_,?_,?_,?_,?_,λi a=>let⟨x,g⟩:=k.has i _ a;⟨x,c i _ (l i _ a) g⟩⟩
  .intro b p v g y;have r:=k.cell b p v g y;exact⟨r.1,w b p r.2⟩
  .intro p I r;obtain⟨⟨J,g⟩,y⟩:=k.box p I r;exact⟨⟨J,c p _ (l p _ r) g⟩,y⟩
  .intro p I r;obtain⟨⟨J,g⟩,y⟩:=k.map p I r;exact⟨⟨J,c p _ (l p _ r) g⟩,y⟩
  .intro p I r;obtain⟨⟨J,g⟩,y⟩:=k.iter p I r;exact⟨⟨J,c p _ (l p _ r) g⟩,y⟩
  .intro p r;exact c p _ (l p _ r) (k.dead p r)
  .intro p Q L K J r;rcases k.row p Q L K J r with g|⟨O,M,N,g,y,I⟩
   .exact .inl (c p _ (l p _ r) g)
   .exact .inr ⟨O,M,N,c p _ (l p _ r) g,y,I⟩
 .refine⟨o.os,o.output,o.tape,o.size,o.aT,?_⟩;intro g l p r;exact o.loc g l (j g l p).2 r
def CT.D1{ds:List D}{post:List D->Prop}(h:PT P f ds post):CT P f (ds.map .d) H λr k=>(∃d,r=mI (d.map .d)/\post d)/\k=H:=by
 intro a u l i m g;refine(h a.O a.w l i.Fe ⟨by simpa using g.1,λj d v n o=>?_⟩).mono ?_
 .have:=g.2 j (.d d) v (by simp[n]) o;cases this with
  |d h=>exact h
 .rintro e p ⟨v,r,q,s,c,t⟩;refine⟨v,_,{a with w:=p},q,rfl,⟨⟨r,rfl,s⟩,m⟩,?_,t.DN (λb o v a c=>⟨a,c⟩),db.ext c,?_⟩
  .exact i.ext c
  .exact bF.ext c
end Go.Mt
namespace Go.Mt
variable{X:cQ}{st:St}{a:Act}{w:World}
def Inv.base(h:Inv X st a w):X.s0.H.length<=st.H.length:=by
 obtain⟨d,m,rfl,l⟩:=h;have f:=l.mono;rw[<-l.hH];rcases ais d.H.length X.s0.H.length with j|j
 .exfalso;have b:X.s0.H[d.H.length]?=some X.s0.H[d.H.length]:=by simp[j]
  have g:d.H[d.H.length]?=none:=by simp
  cases i:X.s0.H[d.H.length]with
  |box n=>rw[i]at b;obtain⟨⟨o,k⟩,_⟩:=f.box _ _ b;rw[g]at k;cases k
  |map n=>rw[i]at b;obtain⟨⟨o,k⟩,_⟩:=f.map _ _ b;rw[g]at k;cases k
  |iter n=>rw[i]at b;obtain⟨⟨o,k⟩,_⟩:=f.iter _ _ b;rw[g]at k;cases k
  |dead=>rw[i]at b;have k:=f.dead _ b;rw[g]at k;cases k
  |free=>rw[i]at b;obtain⟨_,k⟩:=f.free _ b;rw[g]at k;cases k
  |row a e v c=>
   rw[i]at b;rcases f.row _ _ _ _ _ b with k|⟨_,_,_,k,_⟩<;>(rw[g]at k;cases k)
 .exact j
def TC.base{c:Code}{q:Exit->St->Prop}(k:X.s0.H.length<=st.H.length->TC X c st q):TC X c st q:=
 λb w a=>k a.base b w a
def Inv.ki{sl:List (Nat×V)}{bx:List (Nat×List M)}{H:Hp}{j ec MF:Nat}{cs:List M}(g:H[j]?=some (.row false ec MF cs))(h:Inv X ⟨sl,bx,H⟩ a w):
  Inv X ⟨sl,bx,H.set j (.row true ec MF cs)⟩ a w:=by
 obtain⟨d,i,rfl,e⟩:=h;have l:d.H[j]?=some (.row false ec MF cs):=by rw[e.hH];exact g
 have o:=e.hinv.obj j _ l;obtain⟨f,p,C,D,E,q⟩:=e.jx (j:=j) (b':=d.l j) (ob:=.row false ec MF cs) (NX:=.row true ec MF cs) (w':=d.w) g trivial W W W (ah9 _)
  (λc _ _=>rfl) (.inl W) (λo v d e=>absurd (Or.inl W) d) ⟨rfl,.inr ⟨rfl,rfl,rfl,λd T h=>⟨d,h,rfl⟩⟩⟩ (by
   intro f r s _ _;obtain⟨t,A,T,B,n,u,x,y,z,k⟩:=o;exact⟨t,A,T,B,n,by rw[s];exact u,x,y,z,λi m v a b=>⟨(k i m v a b).1.mono r,(k i m v a b).2⟩⟩)
 exact⟨f,i,p,q⟩
end Go.Mt
namespace Go.Mt
def s5(H:Hp)(rows:List (List D)):M:=match rows with
 |[]=>.d (.sl [])
 |_::r=>.bZ H.length 0 (r.length+1)
def jt(H:Hp)(ec:Nat)(rows:List (List D)):Hp:=match rows with
 |[]=>H
 |q::r=>H++[.row true ec 0 (aM (q::r))]
def Bw(H:Hp)(ec:Nat)(r1 r2:List (List D)):Hp:=match r1,r2 with
 |[],[]=>H
 |[],q::r=>H++[.row true ec 0 (aM (q::r))]
 |q::r,r2=>H++[.row true ec 1 (aM (q::r)++aM r2)]
def get_mem{α:Type} :∀{l:List (Nat×α)} {t:Nat} {v:α},get l t=some v->(t,v)∈l
 |[],t,v,h=>by simp[get]at h
 |(k,x)::r,t,v,h=>by
  rw[bP]at h;by_cases e:k=t
  .rw[air e]at h;injection h with h;subst h;subst e;simp
  .rw[aid e]at h;exact ajb _ (get_mem h)
variable{X:cQ}{ops:Array Oper}{rest:List Oper}{post:St->Prop}{sl:List (Nat×V)}{bx:List (Nat×List M)}{H:Hp}{d ty:Nat}{pos:String}{af:Array Edge}
def o0{T:Nat}{cs:List M}[a:iY X.P T cs](b:Nat.blt d X.n=true)(k:TL X ops rest ⟨(d,.m (.ref H.length 0))::sl,bx,H++[Ob.box cs]⟩ post):
  TL X ops (⟨some d,.alloc T,ty,pos,af,none⟩::rest) ⟨sl,bx,H⟩ post:=by
 obtain⟨z,e,c⟩:=a.h;subst c;exact M3 W W b DW k
end Go.Mt
namespace Go.Mt.Co
end Go.Mt.Co
namespace Go.Mt
variable{X:cQ}{σ:Sg}{MH:Nat->Nat}{st:St}{a:Act}
def Place(H:Hp)(ob:Ob)(n:Nat)(H':Hp):Prop:=(n=H.length/\H'=H++[ob])\/(H[n]?=some .free/\H'=H.set n ob)
def bU.HO(hi:bU X σ MH st a)(ob:Ob)(x:Obj)(j:Nat)(G:st.H[j]?=some .free)
  (H:∀τ:Sg,db σ τ->τ.w={σ.w with heap:=σ.w.heap.push x} ->fN τ σ.w.heap.size ob):
  ∃τ:Sg,τ.w={σ.w with heap:=σ.w.heap.push x} /\τ.l j=σ.w.heap.size/\τ.H=st.H.set j ob/\db σ τ/\bU X τ MH ⟨st.sl,st.bx,st.H.set j ob⟩ a:=by
 have t:σ.H[j]?=some .free:=by rw[hi.hH];exact G
 have I:j<σ.H.length:=by rcases ais j σ.H.length with h|h;exact h;simp[ail h]at t
 let b:=σ.w.heap.size
 let u:World:={σ.w with heap:=σ.w.heap.push x}
 let g:Nat->Nat:= λi=>if i=j then b else σ.l i
 let τ:Sg:=⟨u,λc o=>σ.O c o\/(c=b/\ob.ji o),g,σ.H.set j ob⟩
 have m:fW σ.w u:=fW.alloc _ _;have k:∀(i:Nat) o,σ.H[i]?=some o->o≠.free->(σ.H.set j ob)[i]?=some o/\g i=σ.l i:=by
  intro i o h q;have p:i≠j:=by rintro rfl;rw[t]at h;injection h with h;exact q h.symm
  exact⟨by rw[aiQ (ajs p)];exact h,by simp[g,p]⟩
 have s:(σ.H.set j ob)[j]?=some ob:=by simp[I]
 have n:∀(i:Nat) o,(σ.H.set j ob)[i]?=some o->(σ.H[i]?=some o/\g i=σ.l i/\i≠j)\/(i=j/\o=ob):=by
  intro i o h;by_cases e:i=j
  .subst e;rw[s]at h;injection h with h;exact .inr ⟨W,h.symm⟩
  .rw[aiQ (ajs e)]at h;exact .inl ⟨h,by simp[g,e],e⟩
 have r:db σ τ:=by
  refine⟨λc o v f d=>⟨m.cell f,?_⟩,λi d h=>⟨⟨d,(k i _ h (by simp)).1⟩,(k i _ h (by simp)).2⟩,λi d h=>⟨⟨d,(k i _ h (by simp)).1⟩,(k i _ h (by simp)).2⟩,λi d h=>⟨⟨d,(k i _ h (by simp)).1⟩,(k i _ h (by simp)).2⟩,λi h=>(k i _ h (by simp)).1,
   λi g d f d h=>.inr ⟨g,f,d,(k i _ h (by simp)).1,ah9 _,λ_=>⟨(k i _ h (by simp)).2,rfl,λf T d=>⟨f,m.heap d,rfl⟩⟩⟩,λi h=>?_⟩
  .rintro(p|⟨p,_⟩)
   .exact d p
   .have:=kR f;omega
  .by_cases e:i=j
   .subst e;exact⟨_,s⟩
   .exact⟨.free,by show(σ.H.set j ob)[i]?=_;rw[aiQ (ajs e)];exact h⟩
 have z:∀(i:Nat) o,σ.H[i]?=some o->o.live->σ.l i<b:= λi o f d=>(hi.hinv.obj i o f).lt d
 have J:fN τ b ob:=H τ r W;have l:g j=b:=by simp[g]
 have L:iH τ (mx X.jB MH st.bx):=by
  refine⟨?_,?_,?_,?_,λc o h=>ajH (hi.hinv.iW c o h) m.size⟩
  .intro i o h;rcases n i o h with⟨f,d,_⟩|⟨rfl,rfl⟩
   .show fN τ (g i) o;rw[d];exact(hi.hinv.obj i o f).fY r λx d=>m.heap d
   .show fN τ (g _) o;rw[l];exact J
  .intro i q x y f d w A p;change g i=g q at p;rcases n i x f with⟨B,C,_⟩|⟨rfl,rfl⟩<;>rcases n q y d with⟨D,E,_⟩|⟨rfl,rfl⟩
   .rw[C,E]at p;exact hi.hinv.inj i q x y B D w A p
   .rw[C,l]at p;have:=z i x B w;omega
   .rw[E,l]at p;have:=z q y D A;omega
   .rfl
  .intro c o;show(σ.O c o\/(c=b/\ob.ji o))↔_;rw[hi.hinv.own];constructor
   .rintro((h|⟨i,x,f,d,q⟩)|⟨rfl,d⟩)
    .exact .inl h
    .have p:x≠.free:=by rintro rfl;exact q
     exact .inr ⟨i,x,(k i x f p).1,(by show g i=c;rw[(k i x f p).2];exact d),q⟩
    .exact .inr ⟨j,ob,s,l,d⟩
   .rintro(h|⟨i,x,f,d,p⟩)
    .exact .inl (.inl h)
    .rcases n i x f with⟨q,w,_⟩|⟨rfl,rfl⟩
     .exact .inl (.inr ⟨i,x,q,by rw[<-w];exact d,p⟩)
     .exact .inr ⟨by rw[<-d];exact l,p⟩
  .intro i o f d q p;rcases n i o f with⟨y,A,_⟩|⟨rfl,rfl⟩
   .exact hi.hinv.sep i o y d q (by rw[<-A];exact p)
   .have w:mx X.jB MH st.bx b q:=by rw[<-l];exact p
    have:=hi.hinv.iW _ _ w;exact Nat.lt_irrefl _ this
 have K:bF σ τ:=by
  refine⟨W,W,W,m.size,λc d _=>m.aT c d,?_⟩;intro i o f d;rcases n i o f with⟨p,q,_⟩|⟨rfl,rfl⟩
  .exact .inr ⟨o,p,d,q⟩
  .exact .inl (by show _<=g _;rw[l];exact ah9 _)
 have F:τ.H=st.H.set j ob:=by show σ.H.set j ob=_;rw[hi.hH]
 refine⟨τ,W,l,F,r,?_⟩;have:=hi.heap r L (λt d h=>m.aT _ ((hi.box t d h).lt trivial)) K;rw[F]at this;exact this
def bU.place(hi:bU X σ MH st a){ob:Ob}{n:Nat}{H':Hp}(d:Place st.H ob n H')(x:Obj)
  (b:∀τ:Sg,db σ τ->τ.w={σ.w with heap:=σ.w.heap.push x} ->fN τ σ.w.heap.size ob):
  ∃τ:Sg,τ.w={σ.w with heap:=σ.w.heap.push x} /\τ.l n=σ.w.heap.size/\τ.H[n]?=some ob/\db σ τ/\bU X τ MH ⟨st.sl,st.bx,H'⟩ a:=by
 rcases d with⟨rfl,rfl⟩|⟨c,rfl⟩
 .obtain⟨τ,e,f,g,h,i⟩:=hi.newObj ob x b;exact⟨τ,e,by rw[<-hi.hH];exact f,by rw[g];simp,h,i⟩
 .obtain⟨τ,e,f,g,i,j⟩:=hi.HO ob x n c b;have k:n<st.H.length:=by rcases ais n st.H.length with h|h;exact h;simp[ail h]at c
  exact⟨τ,e,f,by rw[g];simp[k],i,j⟩
end Go.Mt
