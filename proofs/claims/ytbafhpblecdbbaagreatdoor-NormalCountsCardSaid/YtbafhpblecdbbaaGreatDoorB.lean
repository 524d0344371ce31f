/- A part of the proof of the last text of this claim, without conditions. -/
import Derived.Test.YtbafhpblecdbbaaGreatDoorA
set_option maxRecDepth 4000
set_option linter.all false
namespace Go.Mt
variable{x y:Operand}{off t xt n yt T f s j g i:Nat}{o:Oper}{st Lv LB:St}{v:V}{m:Int}{cs LP:List M}{e:Ef}{kk:IntKind}{ds:List D}{op:Op}{w b:Bool}{post:List Ef->St->Prop}{rb:List Nat}{r:D}{rows:List (List D)}{parts:List (Nat×Operand)}{ms:List (Nat×M)}
section rules
variable{X:cY}{ops:Array Oper}{rest:List Oper}{post:List Ef->St->Prop}{sl:List (Nat×V)}{bx:List (Nat×List M)}{H:Hp}{d ty:Nat}{pos:String}{af:Array Edge}
def Ag.ev(h:Ag ops o e st Lv)(a:x∈o.op.operands.toList):Lv.ev x=st.ev x:=by
 cases x with
 |tmp t=>
  refine h.sl t ?_;unfold Oper.looksAt;refine agG.2 (.inl ?_);rw[List.mem_filterMap];exact⟨.tmp t,a,W⟩
 |_=>rfl
def cJ.C5(c:o.guard=none)(e:o.dst=some d)(f:d<X.n)(h:cJ X o st (dm v LB)):wx X ops o st ⟨(d,v)::LB.sl,LB.bx,LB.H⟩:=by
 rintro a w ⟨b,g,rfl,i⟩ K Q j;rw[agK (by simp[Region.wanted,c])];refine(h a b g i).wp ?_;rintro u p ⟨q,r,k,l,⟨rfl,rfl⟩,rfl,m,n⟩;rw[e];exact j _ _ ⟨k,l,W,m.set f n⟩
def cJ.Er(c:o.guard=none)(d:o.dst=none)(h:cJ X o st (dm v LB)):wx X ops o st LB:=by
 rintro a w ⟨b,e,rfl,f⟩ K Q g;rw[agK (by simp[Region.wanted,c])];refine(h a b e f).wp ?_;rintro u l ⟨m,n,i,j,⟨rfl,rfl⟩,rfl,k,p⟩;rw[d];exact g _ _ ⟨i,j,W,k⟩
def Lm{b:Bool}(a:o.guard=none)(c:o.dst=some d)(e:d<X.n)
  (h:∀a,Ag ops o ⟨some d,v,rb,[],none,b,none⟩ st a->cJ X o a (dm v a)):je X ops o ⟨some d,v,rb,[],none,b,none⟩ st:=
 λb f=>(h b f).C5 a c e
def je.writes{b:List (Nat×List M)}(a:o.guard=none)(c:o.dst=none)
  (h:∀a,Ag ops o ⟨none,v,rb,b,none,false,none⟩ st a->cJ X o a (dm v ⟨a.sl,b++a.bx,a.H⟩)):je X ops o ⟨none,v,rb,b,none,false,none⟩ st:=
 λb d=>(h b d).Er a c
def bA{dst:Option Nat}(f:(ops[j]?).bind (·.dst)=some g)(n:get sl g=some (.m (.d (.bool w))))
  (k:TF X ops (⟨dst,op,ty,pos,af,none⟩::rest) ⟨sl,bx,H⟩ post):TF X ops (⟨dst,op,ty,pos,af,some (j,w)⟩::rest) ⟨sl,bx,H⟩ post:=by
 obtain⟨h,o,p,q⟩:=k;cases p with
 |cons l r s=>
  rename_i e h;refine⟨e::h,o,.cons ?_ r s,q⟩;intro b a;have t:get b.sl g=some (.m (.d (.bool w))):=by
   rw[<-n];refine a.sl g ?_;unfold Oper.looksAt;refine agG.2 (.inr ?_);simp[f]
  have u:Ag ops ⟨dst,op,ty,pos,af,none⟩ e ⟨sl,bx,H⟩ b:=
   ⟨λt b=>a.sl t (by
    unfold Oper.looksAt at b⊢;simp only[agL]at b;exact agG.2 (.inl b)),a.bx,a.H,a.nw⟩
  have v:=l b u;rintro c x ⟨m,y,z,i⟩ K Q A;have d:=v c x ⟨m,y,z,i⟩ K Q A;have B:iw ops ⟨dst,op,ty,pos,af,some (j,w)⟩ b=some true:=by simp[iw,f,t]
  rw[agK (i.wanted B)];rw[agK (by simp[Region.wanted])]at d;have C:execOp c.eval ⟨dst,op,ty,pos,af,some (j,w)⟩=execOp c.eval ⟨dst,op,ty,pos,af,none⟩:=by cases op<;>rfl
  unfold Oper.wp at d⊢;rw[C];exact d
def f_(l:Nat.blt d X.n=true)(a:(ops[j]?).bind (·.dst)=some g)(n:get sl g=some (.m (.d (.bool b))))(o:(b==w)=false)
  (k:TF X ops rest ⟨(d,.m (.c_ []))::sl,bx,H⟩ λa c=>post (⟨some d,.m (.c_ []),[],[],none,false,none⟩::a) c):TF X ops (⟨some d,op,ty,pos,af,some (j,w)⟩::rest) ⟨sl,bx,H⟩ post:=by
 refine TF.cons (e:=⟨some d,.m (.c_ []),[],[],none,false,none⟩) ?_ W k;intro c p;have q:get c.sl g=some (.m (.d (.bool b))):=by
  rw[<-n];refine p.sl g ?_;unfold Oper.looksAt;refine agG.2 (.inr ?_);simp[a]
 rintro x z ⟨h,r,s,f⟩ K Q t;have u:iw ops ⟨some d,op,ty,pos,af,some (j,w)⟩ c=some false:=by simp[iw,a,q,o]
 rw[agw (by rw[f.wanted u];simp)];exact t _ _ ⟨h,r,s,f.set (bL l) (.m (.c_ [] #[] W (by intro y m v i;simp at i)))⟩
def jm(i:Nat.blt d X.n=true)(a:(ops[j]?).bind (·.dst)=some g)(l:get sl g=some (.m (.c_ [])))
  (k:TF X ops rest ⟨(d,.m (.c_ []))::sl,bx,H⟩ λa b=>post (⟨some d,.m (.c_ []),[],[],none,false,none⟩::a) b):TF X ops (⟨some d,op,ty,pos,af,some (j,w)⟩::rest) ⟨sl,bx,H⟩ post:=by
 refine TF.cons (e:=⟨some d,.m (.c_ []),[],[],none,false,none⟩) ?_ W k;intro b n;have o:get b.sl g=some (.m (.c_ [])):=by
  rw[<-l];refine n.sl g ?_;unfold Oper.looksAt;refine agG.2 (.inr ?_);simp[a]
 rintro t x ⟨f,p,q,c⟩ K Q r;have s:iw ops ⟨some d,op,ty,pos,af,some (j,w)⟩ b=some false:=by simp[iw,a,o]
 rw[agw (by rw[c.wanted s];simp)];exact r _ _ ⟨f,p,q,c.set (bL i) (.m (.c_ [] #[] W (by intro u m v h;simp at h)))⟩
def aO(a:Nat.blt d X.n=true)(b:bj sl x=some v)(k:TF X ops rest ⟨(d,v)::sl,bx,H⟩ λa b=>post (⟨some d,v,[],[],none,false,none⟩::a) b):
  TF X ops (⟨some d,.move x,ty,pos,af,none⟩::rest) ⟨sl,bx,H⟩ post:=
 TF.cons (e:=⟨some d,v,[],[],none,false,none⟩) (Lm W W (bL a) λa a=>wU ((a.ev (x:=x) (by simp[Op.operands,Call.operands])).trans b)) W k
def eX(a:Nat.blt d X.n=true)(b:bj sl x=some v)(k:TF X ops rest ⟨(d,v)::sl,bx,H⟩ λa b=>post (⟨some d,v,[],[],none,false,none⟩::a) b):
  TF X ops (⟨some d,.assign x,ty,pos,af,none⟩::rest) ⟨sl,bx,H⟩ post:=
 TF.cons (e:=⟨some d,v,[],[],none,false,none⟩) (Lm W W (bL a) λa a=>rT ((a.ev (x:=x) (by simp[Op.operands,Call.operands])).trans b)) W k
def qZ{c:Operand}(h:Nat.blt d X.n=true)(f:bj sl c=some (.m (.d (.bool b))))(g:bj sl (bif b then x else y)=some v)(k:TF X ops rest ⟨(d,v)::sl,bx,H⟩ λa f=>post (⟨some d,v,[],[],none,false,none⟩::a) f):
  TF X ops (⟨some d,.pick c x y,ty,pos,af,none⟩::rest) ⟨sl,bx,H⟩ post:=by
 refine TF.cons (e:=⟨some d,v,[],[],none,false,none⟩) (Lm W W (bL h) λi a=>?_) W k;cases b
 .exact rV ((a.ev (x:=c) (by simp[Op.operands])).trans f) ((a.ev (x:=y) (by simp[Op.operands])).trans g)
 .exact rU ((a.ev (x:=c) (by simp[Op.operands])).trans f) ((a.ev (x:=x) (by simp[Op.operands])).trans g)
def lY{op:BinOp}{n:Int}(a:Nat.blt d X.n=true)(b:bj sl x=some (.m (.d (.int kk m))))(c:bj sl y=some (.m (.d (.int kk n))))(f:lC op kk m n=some r)(k:TF X ops rest ⟨(d,(.m (.d r)))::sl,bx,H⟩ λa b=>post (⟨some d,(.m (.d r)),[],[],none,false,none⟩::a) b):
  TF X ops (⟨some d,.binOp op xt x y yt,ty,pos,af,none⟩::rest) ⟨sl,bx,H⟩ post:=
 TF.cons (e:=⟨some d,(.m (.d r)),[],[],none,false,none⟩) (Lm W W (bL a) λa a=>s5 ((a.ev (x:=x) (by simp[Op.operands,Call.operands])).trans b) ((a.ev (x:=y) (by simp[Op.operands,Call.operands])).trans c) f) W k
def Gw{n:Int}(a:Nat.blt d X.n=true)(b:bj sl x=some (.m (.d (.int .i64 m))))(c:bj sl y=some (.m (.d (.int .i64 n))))(f: -9223372036854775808<=m+n/\m+n<=9223372036854775807)(k:TF X ops rest ⟨(d,(.m (.d (.int .i64 (m+n)))))::sl,bx,H⟩ λa b=>post (⟨some d,(.m (.d (.int .i64 (m+n)))),[],[],none,false,none⟩::a) b):
  TF X ops (⟨some d,.binOp .add xt x y yt,ty,pos,af,none⟩::rest) ⟨sl,bx,H⟩ post:=
 TF.cons (e:=⟨some d,(.m (.d (.int .i64 (m+n)))),[],[],none,false,none⟩) (Lm W W (bL a) λa a=>s5 ((a.ev (x:=x) (by simp[Op.operands,Call.operands])).trans b) ((a.ev (x:=y) (by simp[Op.operands,Call.operands])).trans c) (by simp[lC,show IntKind.i64.wrap (m+n)=m+n from IntWalk.i64_in _ f])) W k
def fK{n:Int}(a:Nat.blt d X.n=true)(b:bj sl x=some (.m (.d (.int .i64 m))))(c:bj sl y=some (.m (.d (.int .i64 n))))(f: -9223372036854775808<=m-n/\m-n<=9223372036854775807)(k:TF X ops rest ⟨(d,(.m (.d (.int .i64 (m-n)))))::sl,bx,H⟩ λa b=>post (⟨some d,(.m (.d (.int .i64 (m-n)))),[],[],none,false,none⟩::a) b):
  TF X ops (⟨some d,.binOp .sub xt x y yt,ty,pos,af,none⟩::rest) ⟨sl,bx,H⟩ post:=
 TF.cons (e:=⟨some d,(.m (.d (.int .i64 (m-n)))),[],[],none,false,none⟩) (Lm W W (bL a) λa a=>s5 ((a.ev (x:=x) (by simp[Op.operands,Call.operands])).trans b) ((a.ev (x:=y) (by simp[Op.operands,Call.operands])).trans c) (by simp[lC,show IntKind.i64.wrap (m-n)=m-n from IntWalk.i64_in _ f])) W k
def JA{n:Int}(a:Nat.blt d X.n=true)(b:bj sl x=some (.m (.d (.int kk m))))(c:bj sl y=some (.m (.d (.int kk n))))(f:(n==0)=false)(k:TF X ops rest ⟨(d,(.m (.d (.int kk (kk.wrap (m.tdiv n))))))::sl,bx,H⟩ λa b=>post (⟨some d,(.m (.d (.int kk (kk.wrap (m.tdiv n))))),[],[],none,false,none⟩::a) b):
  TF X ops (⟨some d,.binOp .quo xt x y yt,ty,pos,af,none⟩::rest) ⟨sl,bx,H⟩ post:=
 TF.cons (e:=⟨some d,(.m (.d (.int kk (kk.wrap (m.tdiv n))))),[],[],none,false,none⟩) (Lm W W (bL a) λa a=>Iw ((a.ev (x:=x) (by simp[Op.operands,Call.operands])).trans b) ((a.ev (x:=y) (by simp[Op.operands,Call.operands])).trans c) f) W k
def C6{n:Int}(a:Nat.blt d X.n=true)(b:bj sl x=some (.m (.d (.int kk m))))(c:bj sl y=some (.m (.d (.int kk n))))(f:(n==0)=false)(k:TF X ops rest ⟨(d,(.m (.d (.int kk (m.tmod n)))))::sl,bx,H⟩ λa b=>post (⟨some d,(.m (.d (.int kk (m.tmod n)))),[],[],none,false,none⟩::a) b):
  TF X ops (⟨some d,.binOp .rem xt x y yt,ty,pos,af,none⟩::rest) ⟨sl,bx,H⟩ post:=
 TF.cons (e:=⟨some d,(.m (.d (.int kk (m.tmod n)))),[],[],none,false,none⟩) (Lm W W (bL a) λa a=>El ((a.ev (x:=x) (by simp[Op.operands,Call.operands])).trans b) ((a.ev (x:=y) (by simp[Op.operands,Call.operands])).trans c) f) W k
def JB(a:Nat.blt d X.n=true)(c:bj sl x=some (.m (.d (.bool b))))(k:TF X ops rest ⟨(d,(.m (.d (.bool (!b)))))::sl,bx,H⟩ λa c=>post (⟨some d,(.m (.d (.bool (!b)))),[],[],none,false,none⟩::a) c):
  TF X ops (⟨some d,.unOp .not xt x,ty,pos,af,none⟩::rest) ⟨sl,bx,H⟩ post:=
 TF.cons (e:=⟨some d,(.m (.d (.bool (!b)))),[],[],none,false,none⟩) (Lm W W (bL a) λa a=>AJ ((a.ev (x:=x) (by simp[Op.operands,Call.operands])).trans c)) W k
def oG{s u:ByteArray}(a:Nat.blt d X.n=true)(b:bj sl x=some (.m (.d (.str s))))(c:bj sl y=some (.m (.d (.str u))))(f:s.size+u.size<=9223372036854775807)(k:TF X ops rest ⟨(d,(.m (.d (.str (s++u)))))::sl,bx,H⟩ λa b=>post (⟨some d,(.m (.d (.str (s++u)))),[],[],none,false,none⟩::a) b):
  TF X ops (⟨some d,.binOp .add xt x y yt,ty,pos,af,none⟩::rest) ⟨sl,bx,H⟩ post:=
 TF.cons (e:=⟨some d,(.m (.d (.str (s++u)))),[],[],none,false,none⟩) (Lm W W (bL a) λa a=>w_ ((a.ev (x:=x) (by simp[Op.operands,Call.operands])).trans b) ((a.ev (x:=y) (by simp[Op.operands,Call.operands])).trans c) f) W k
def bI{cs:List D}{o:Nat}[c:aS X.P s f o](a:Nat.blt d X.n=true)(b:bj sl x=some (.m (.d (.ca cs off))))(k:TF X ops rest ⟨(d,(.m (.d (.ca cs (off+o)))))::sl,bx,H⟩ λa b=>post (⟨some d,(.m (.d (.ca cs (off+o)))),[],[],none,false,none⟩::a) b):
  TF X ops (⟨some d,.fieldAddr s x f,ty,pos,af,none⟩::rest) ⟨sl,bx,H⟩ post:=
 TF.cons (e:=⟨some d,(.m (.d (.ca cs (off+o)))),[],[],none,false,none⟩) (Lm W W (bL a) λa a=>rZ ((a.ev (x:=x) (by simp[Op.operands,Call.operands])).trans b)) W k
def aX{o:Nat}[c:aS X.P s f o](a:Nat.blt d X.n=true)(b:bj sl x=some (.loc t off))(k:TF X ops rest ⟨(d,(.loc t (off+o)))::sl,bx,H⟩ λa b=>post (⟨some d,(.loc t (off+o)),[],[],none,false,none⟩::a) b):
  TF X ops (⟨some d,.fieldAddr s x f,ty,pos,af,none⟩::rest) ⟨sl,bx,H⟩ post:=
 TF.cons (e:=⟨some d,(.loc t (off+o)),[],[],none,false,none⟩) (Lm W W (bL a) λa a=>r_ ((a.ev (x:=x) (by simp[Op.operands,Call.operands])).trans b)) W k
def bJ{o:Nat}[c:aS X.P s f o](a:Nat.blt d X.n=true)(b:bj sl x=some (.m (.ref i off)))(k:TF X ops rest ⟨(d,(.m (.ref i (off+o))))::sl,bx,H⟩ λa b=>post (⟨some d,(.m (.ref i (off+o))),[],[],none,false,none⟩::a) b):
  TF X ops (⟨some d,.fieldAddr s x f,ty,pos,af,none⟩::rest) ⟨sl,bx,H⟩ post:=
 TF.cons (e:=⟨some d,(.m (.ref i (off+o))),[],[],none,false,none⟩) (Lm W W (bL a) λa a=>sd ((a.ev (x:=x) (by simp[Op.operands,Call.operands])).trans b)) W k
def q8{a o:Nat}[g:aS X.P s f o](b:Nat.blt d X.n=true)(c:bj sl x=some (.m (.cF i a off)))(k:TF X ops rest ⟨(d,(.m (.cF i a (off+o))))::sl,bx,H⟩ λb c=>post (⟨some d,(.m (.cF i a (off+o))),[],[],none,false,none⟩::b) c):
  TF X ops (⟨some d,.fieldAddr s x f,ty,pos,af,none⟩::rest) ⟨sl,bx,H⟩ post:=
 TF.cons (e:=⟨some d,(.m (.cF i a (off+o))),[],[],none,false,none⟩) (Lm W W (bL b) λa a=>sg ((a.ev (x:=x) (by simp[Op.operands,Call.operands])).trans c)) W k
def cd{cs:List D}{v:D}[ht:cT X.P t](a:Nat.blt d X.n=true)(b:bj sl x=some (.m (.d (.ca cs off))))(c:cs[off]?=some v)(k:TF X ops rest ⟨(d,(.m (.d v)))::sl,bx,H⟩ λa b=>post (⟨some d,(.m (.d v)),[],[],none,false,none⟩::a) b):
  TF X ops (⟨some d,.load t x,ty,pos,af,none⟩::rest) ⟨sl,bx,H⟩ post:=
 TF.cons (e:=⟨some d,(.m (.d v)),[],[],none,false,none⟩) (Lm W W (bL a) λa a=>rW ((a.ev (x:=x) (by simp[Op.operands,Call.operands])).trans b) c) W k
def cx{cs:List D}[ht:dw X.P t n](a:Nat.blt d X.n=true)(b:bj sl x=some (.m (.d (.ca cs 0))))(c:cs.length=n)(k:TF X ops rest ⟨(d,(.m (.d (.agg cs))))::sl,bx,H⟩ λa b=>post (⟨some d,(.m (.d (.agg cs))),[],[],none,false,none⟩::a) b):
  TF X ops (⟨some d,.load t x,ty,pos,af,none⟩::rest) ⟨sl,bx,H⟩ post:=
 TF.cons (e:=⟨some d,(.m (.d (.agg cs))),[],[],none,false,none⟩) (Lm W W (bL a) λa a=>rX ((a.ev (x:=x) (by simp[Op.operands,Call.operands])).trans b) c) W k
def gm{cs:List D}[ht:dw X.P t n](b:Nat.blt d X.n=true)(c:bj sl x=some (.m (.d (.ca cs off))))(a:sub cs off n=some ds)(k:TF X ops rest ⟨(d,(.m (.d (.agg ds))))::sl,bx,H⟩ λa b=>post (⟨some d,(.m (.d (.agg ds))),[],[],none,false,none⟩::a) b):
  TF X ops (⟨some d,.load t x,ty,pos,af,none⟩::rest) ⟨sl,bx,H⟩ post:=
 TF.cons (e:=⟨some d,(.m (.d (.agg ds))),[],[],none,false,none⟩) (Lm W W (bL b) λb b=>o4 ((b.ev (x:=x) (by simp[Op.operands,Call.operands])).trans c) (agV (sub_eq a).1) (sub_eq a).2) W k
def bC{m:M}[ht:cT X.P T](a:Nat.blt d X.n=true)(b:bj sl x=some (.loc t off))(c:get bx t=some cs)(f:cs[off]?=some m)(k:TF X ops rest ⟨(d,(.m m))::sl,bx,H⟩ λa b=>post (⟨some d,(.m m),[t],[],none,false,none⟩::a) b):
  TF X ops (⟨some d,.load T x,ty,pos,af,none⟩::rest) ⟨sl,bx,H⟩ post:=
 TF.cons (e:=⟨some d,(.m m),[t],[],none,false,none⟩) (Lm W W (bL a) λa a=>sp ((a.ev (x:=x) (by simp[Op.operands,Call.operands])).trans b) ((a.bx t (by simp)).trans c) f) W k
def bG[ht:dw X.P T n](b:Nat.blt d X.n=true)(c:bj sl x=some (.loc t off))(f:get bx t=some cs)(a:sub cs off n=some LP)(g:fY LP=some ds)(k:TF X ops rest ⟨(d,(.m (.d (.agg ds))))::sl,bx,H⟩ λa b=>post (⟨some d,(.m (.d (.agg ds))),[t],[],none,false,none⟩::a) b):
  TF X ops (⟨some d,.load T x,ty,pos,af,none⟩::rest) ⟨sl,bx,H⟩ post:=
 TF.cons (e:=⟨some d,(.m (.d (.agg ds))),[t],[],none,false,none⟩) (Lm W W (bL b) λb b=>sq ((b.ev (x:=x) (by simp[Op.operands,Call.operands])).trans c) ((b.bx t (by simp)).trans f) (agV (sub_eq a).1) (by rw[(sub_eq a).2];exact g)) W k
def bO(a:Nat.blt d X.n=true)(b:bj sl x=some v)(c:si v=true)(k:TF X ops rest ⟨(d,v)::sl,bx,H⟩ λa b=>post (⟨some d,v,[],[],none,false,none⟩::a) b):
  TF X ops (⟨some d,.nilCheck x,ty,pos,af,none⟩::rest) ⟨sl,bx,H⟩ post:=
 TF.cons (e:=⟨some d,v,[],[],none,false,none⟩) (Lm W W (bL a) λa a=>o5 ((a.ev (x:=x) (by simp[Op.operands,Call.operands])).trans b) c) W k
def lG{e:Nat}{v:D}[ht:br X.P t e](a:Nat.blt d X.n=true)(b:bj sl x=some (.m (.d v)))(c:oc v=some n)(k:TF X ops rest ⟨(d,(.m (.d (.int .i64 n))))::sl,bx,H⟩ λa b=>post (⟨some d,(.m (.d (.int .i64 n))),[],[],none,false,none⟩::a) b):
  TF X ops (⟨some d,.call ⟨.builtin .len,#[x],#[t]⟩,ty,pos,af,none⟩::rest) ⟨sl,bx,H⟩ post:=
 TF.cons (e:=⟨some d,(.m (.d (.int .i64 n))),[],[],none,false,none⟩) (Lm W W (bL a) λa a=>wY ((a.ev (x:=x) (by simp[Op.operands,Call.operands])).trans b) c) W k
def bE{e:Nat}{r:List D}{i:Int}[ht:br X.P t e][j:cc X.P e n](a:Nat.blt d X.n=true)(b:bj sl x=some (.m (.d (.sl rows))))(c:bj sl y=some (.m (.d (.int kk i))))(f:0<=i)(g:rows[i.toNat]?=some r)(h:r.length=n)(k:TF X ops rest ⟨(d,(.m (.d (.ca r 0))))::sl,bx,H⟩ λa b=>post (⟨some d,(.m (.d (.ca r 0))),[],[],none,false,none⟩::a) b):
  TF X ops (⟨some d,.indexAddr t x y,ty,pos,af,none⟩::rest) ⟨sl,bx,H⟩ post:=
 TF.cons (e:=⟨some d,(.m (.d (.ca r 0))),[],[],none,false,none⟩) (Lm W W (bL a) λa a=>wZ ((a.ev (x:=x) (by simp[Op.operands,Call.operands])).trans b) ((a.ev (x:=y) (by simp[Op.operands,Call.operands])).trans c) f g h) W k
def k8{a:List M}{m:M}(b:Nat.blt d X.n=true)(c:bj sl x=some (.m (.c_ a)))(f:a[i]?=some m)(k:TF X ops rest ⟨(d,(.m m))::sl,bx,H⟩ λa b=>post (⟨some d,(.m m),[],[],none,false,none⟩::a) b):
  TF X ops (⟨some d,.extract x i,ty,pos,af,none⟩::rest) ⟨sl,bx,H⟩ post:=
 TF.cons (e:=⟨some d,(.m m),[],[],none,false,none⟩) (Lm W W (bL b) λa a=>pW ((a.ev (x:=x) (by simp[Op.operands,Call.operands])).trans c) f) W k
def Ag.gj(h:Ag ops o e st Lv):∀{xs:List Operand},(∀x∈xs,x∈o.op.operands.toList)->Lv.gj xs=st.gj xs
 |[],_=>rfl
 |x::r,a=>by
  simp only[St.gj];rw[h.ev (a x (by simp)),h.gj (λy b=>a y (by simp[b]))]
def Ag.gE(h:Ag ops o e st Lv):∀{xs:List Operand},(∀x∈xs,x∈o.op.operands.toList)->Lv.gE xs=st.gE xs
 |[],_=>rfl
 |x::r,a=>by
  simp only[St.gE];rw[h.ev (a x (by simp)),h.gE (λy b=>a y (by simp[b]))]
def Ag.dF(h:Ag ops o e st Lv):∀{xs:List (Nat×Operand)},(∀p∈xs,p.2∈o.op.operands.toList)->Mt.dF Lv xs=Mt.dF st xs
 |[],_=>rfl
 |(i,x)::r,a=>by
  simp only[Mt.dF];rw[h.ev (a (i,x) (by simp)),h.dF (λy b=>a y (by simp[b]))]
def bc{args:List Operand}{NI:Array Nat}[c:bu X.P f](h:PT X.P f ds (·=[r]))(a:Nat.blt d X.n=true)(b:gj sl args=some ds)(k:TF X ops rest ⟨(d,.m (.d r))::sl,bx,H⟩ λa b=>post (⟨some d,.m (.d r),[],[],none,false,none⟩::a) b):
  TF X ops (⟨some d,.call ⟨.value (.func f),args.toArray,NI⟩,ty,pos,af,none⟩::rest) ⟨sl,bx,H⟩ post:=
 TF.cons (e:=⟨some d,.m (.d r),[],[],none,false,none⟩) (Lm W W (bL a) λa a=>zp (by rw[a.gj (λx a=>by simp[Op.operands,Call.operands];exact .inr a),mW];exact b) h) W k
def dU{ps:List (Nat×Nat)}{z:List D}{a:List M}[ht:cK X.P T ps z](b:Nat.blt d X.n=true)(c:ez sl parts=some ms)(f:mm z=some a)
  (h:jH ps a ms=some cs) (i:fY cs=some ds) (k:TF X ops rest ⟨(d,.m (.d (.agg ds)))::sl,bx,H⟩ λa b=>post (⟨some d,.m (.d (.agg ds)),[],[],none,false,none⟩::a) b):TF X ops (⟨some d,.build T parts.toArray,ty,pos,af,none⟩::rest) ⟨sl,bx,H⟩ post:=by
 refine TF.cons (e:=⟨some d,.m (.d (.agg ds)),[],[],none,false,none⟩) (Lm W W (bL b) λb j=>?_) W k;have a:=mH (X:=X) (dst:=some d) (ty:=ty) (pos:=pos) (af:=af) (g:=none) (st:=b) (T:=T) (parts:=parts) (ms:=ms) (by rw[j.dF (λp a=>by simp[Op.operands];exact⟨_,a⟩),eA];exact c) (by rw[<-kD f];exact kZ h);have:pack cs=.d (.agg ds):=by simp[pack,i]
 rw[this]at a;exact a
def bm{e len:Nat}{z:D}[ht:br X.P T e][f:cc X.P e n][g:fC X.P e z](a:Nat.blt d X.n=true)(b:Nat.blt 0 n=true)(c:Nat.beq (bP z).length n=true)
  (i:Nat.ble (len*n) 16777216=true) (f:ez sl parts=some ms) (g:k7 0 ms=some rows) (j:Nat.beq rows.length len=true) (h:ju n rows=true)
  (k:TF X ops rest ⟨(d,.m (.d (.sl rows)))::sl,bx,H⟩ λa b=>post (⟨some d,.m (.d (.sl rows)),[],[],none,false,none⟩::a) b):TF X ops (⟨some d,.buildSlice T len parts.toArray,ty,pos,af,none⟩::rest) ⟨sl,bx,H⟩ post:=by
 refine TF.cons (e:=⟨some d,.m (.d (.sl rows)),[],[],none,false,none⟩) (Lm W W (bL a) λl a=>?_) W k;exact kE b c i (by rw[a.dF (λp a=>by simp[Op.operands];exact⟨_,a⟩),eA];exact f) g j h
def uB{sl:List (Nat×V)}{d:Nat}(h:∀t o,get sl t≠some (.loc d o)):∀t v,get sl t=some v->get (cV d sl) t=some v:=by
 have:∀(l:List (Nat×V)) (t:Nat) (v:V),get l t=some v->(∀o,v≠.loc d o)->get (cV d l) t=some v:=by
  intro l
  induction l with
  |nil=>intro t v h;simp[get]at h
  |cons x l c=>
   intro t v a b;obtain⟨j,u⟩:=x;cases u with
   |m m=>
    unfold cV;rcases bY a with⟨rfl,rfl⟩|⟨f,g⟩
    .simp[b_]
    .rw[b_,agw (λe=>f e.symm)];exact c t v g b
   |tl i k n o=>
    unfold cV;rcases bY a with⟨rfl,rfl⟩|⟨f,g⟩
    .simp[b_]
    .rw[b_,agw (λe=>f e.symm)];exact c t v g b
   |loc u o=>
    unfold cV;cases i:Nat.beq u d with
    |false=>
     rcases bY a with⟨rfl,rfl⟩|⟨f,g⟩
     .simp[b_]
     .simp only[aiu];rw[b_,agw (λe=>f e.symm)];exact c t v g b
    |true=>
     have:=agO i;subst this;rcases bY a with⟨rfl,rfl⟩|⟨f,g⟩
     .exact absurd W (b o)
     .simp only[ag6];rw[b_,agw (λe=>f e.symm)];exact c t v g b
 intro t v a;exact this sl t v a (λo b=>h t o (by rw[a,b]))
def fk[b:iS X.P T cs](c:Nat.blt d X.n=true)(k:TF X ops rest ⟨(d,.loc d 0)::sl,(d,cs)::bx,H⟩ λa b=>post (⟨some d,.loc d 0,[],[(d,cs)],some d,false,none⟩::a) b):
  TF X ops (⟨some d,.alloc T,ty,pos,af,none⟩::rest) ⟨sl,bx,H⟩ post:=by
 refine TF.cons (e:=⟨some d,.loc d 0,[],[(d,cs)],some d,false,none⟩) ?_ W k;intro f h;obtain⟨z,x,i⟩:=b.h;subst i;have j:=(zt (X:=X) (st:=f) (d:=d) (T:=T) (ty:=ty) (pos:=pos) (af:=af) (g:=none)).C5 (ops:=ops) W W (bL c);intro a w l K Q m;refine j a w l K Q λn o p=>m n o ?_
 have q:=uB (h.nw d W);refine p.gN (λt v r=>?_) (λ_=>rfl);rcases bY r with⟨rfl,rfl⟩|⟨s,u⟩
 .simp[b_]
 .rw[b_,agw (λe=>s e.symm)];exact q t v u
def bS{new:List M}{m:M}[j:cc X.P T n](b:bj sl x=some (.loc t off))(c:bj sl y=some (.m m))(d:get bx t=some cs)(a:fj m=some new)
  (f:Nat.beq new.length n=true) (g:wr cs off new=some LP) (k:TF X ops rest ⟨sl,(t,LP)::bx,H⟩ λa b=>post (⟨none,.m .undef,[],[(t,LP)],none,false,none⟩::a) b):TF X ops (⟨none,.store T x y,ty,pos,af,none⟩::rest) ⟨sl,bx,H⟩ post:=by
 obtain⟨h,i⟩:=cU a;subst h;exact TF.cons (e:=⟨none,.m .undef,[],[(t,LP)],none,false,none⟩) (je.writes W W λa a=>xb ((a.ev (x:=x) (by simp[Op.operands])).trans b) ((a.ev (x:=y) (by simp[Op.operands])).trans c) ((a.bx t (by simp)).trans d) (agO f) i (ss g)) W k
end rules
end Go.Mt
namespace Go.Mt
variable{X:cY}{σ:Sg}{Li:Nat->Nat}{st:St}{a:Act}{ob:Ob}
def cj.heap{τ:Sg}(hi:cj X σ Li st a)(b:db σ τ)(c:ie τ (lU X.jj Li st.bx))
  (d:∀t b,get st.bx t=some b->τ.w.heap[Li t]?=σ.w.heap[Li t]?) (e:bT σ τ):cj X τ Li ⟨st.sl,st.bx,τ.H⟩ a:=
 ⟨rfl,hi.defers,hi.size,λt v c=>let⟨u,f,g⟩:=hi.slot t v c;⟨u,f,g.mono b⟩,λt c h=>(hi.box t c h).fT b (λx b=>by rw[d t c h];exact b),hi.nK,hi.oA,hi.oB,c,hi.mono.trans b,hi.a_.trans e⟩
def cj.JC(hi:cj X σ Li st a){t:Nat}{cs:List M}(h:get st.bx t=some cs){i:Nat}(c:σ.H[i]?=some ob)(d:ob.live):Li t≠σ.l i:=
 λe=>mA hi.hinv (b:=Li t) (.inr ⟨t,cs,h,rfl⟩) i ob c d e.symm
def cj.newObj(hi:cj X σ Li st a)(ob:Ob)(x:Obj)
  (B:∀τ:Sg,db σ τ->τ.w={σ.w with heap:=σ.w.heap.push x} ->fJ τ σ.w.heap.size ob):
  ∃τ:Sg,τ.w={σ.w with heap:=σ.w.heap.push x} /\τ.l σ.H.length=σ.w.heap.size/\τ.H=st.H++[ob]/\db σ τ/\cj X τ Li ⟨st.sl,st.bx,st.H++[ob]⟩ a:=by
 let b:=σ.w.heap.size
 let q:World:={σ.w with heap:=σ.w.heap.push x}
 let g:Nat->Nat:= λi=>if i=σ.H.length then b else σ.l i
 let τ:Sg:=⟨q,λc o=>σ.O c o\/(c=b/\ob.iP o),g,σ.H++[ob]⟩
 have k:fS σ.w q:=fS.alloc _ _;have f:∀(i:Nat) o,σ.H[i]?=some o->(σ.H++[ob])[i]?=some o/\g i=σ.l i:=by
  intro i o m;have n:i<σ.H.length:=by rcases agJ i σ.H.length with h|h;exact h;simp[agD h]at m
  exact⟨by rw[agF n];exact m,by simp[g,show i≠σ.H.length by omega]⟩
 have l:∀(i:Nat) o,(σ.H++[ob])[i]?=some o->(σ.H[i]?=some o/\g i=σ.l i)\/(i=σ.H.length/\o=ob):=by
  intro i o h;rcases agJ i σ.H.length with m|m
  .rw[agF m]at h;exact .inl ⟨h,(f i o h).2⟩
  .rw[agP m]at h;have:i-σ.H.length=0:=by
    rcases ag5 (i-σ.H.length)with r|r
    .exact r
    .rw[agD (by simp;omega)]at h;cases h
   rw[this]at h;simp at h;exact .inr ⟨by omega,h.symm⟩
 have p:db σ τ:=by
  refine⟨λc o v e d=>⟨k.cell e,?_⟩,λi d h=>⟨⟨d,(f i _ h).1⟩,(f i _ h).2⟩,λi d h=>⟨⟨d,(f i _ h).1⟩,(f i _ h).2⟩,λi d h=>⟨⟨d,(f i _ h).1⟩,(f i _ h).2⟩,λi h=>(f i _ h).1,
   λi g d e d h=>.inr ⟨g,e,d,(f i _ h).1,ags _,λ_=>⟨(f i _ h).2,rfl,λe T d=>⟨e,k.heap d,rfl⟩⟩⟩,λi h=>⟨_,(f i _ h).1⟩⟩
  rintro(h|⟨h,_⟩)
  .exact d h
  .have:=kC e;omega
 have n:∀(i:Nat) o,σ.H[i]?=some o->o.live->σ.l i<b:= λi o e d=>(hi.hinv.obj i o e).lt d
 have C:fJ τ b ob:=B τ p W;have j:g σ.H.length=b:=by simp[g]
 have E:ie τ (lU X.jj Li st.bx):=by
  refine⟨?_,?_,?_,?_,λc o h=>ahY (hi.hinv.iG c o h) k.size⟩
  .intro i o h;rcases l i o h with⟨e,d⟩|⟨rfl,rfl⟩
   .show fJ τ (g i) o;rw[d];exact(hi.hinv.obj i o e).fT p λx d=>k.heap d
   .show fJ τ (g _) o;rw[j];exact C
  .intro i m x y e d r s h;change g i=g m at h;rcases l i x e with⟨t,u⟩|⟨rfl,rfl⟩<;>rcases l m y d with⟨w,z⟩|⟨rfl,rfl⟩
   .rw[u,z]at h;exact hi.hinv.inj i m x y t w r s h
   .rw[u,j]at h;have:=n i x t r;omega
   .rw[z,j]at h;have:=n m y w s;omega
   .rfl
  .intro c o;show(σ.O c o\/(c=b/\ob.iP o))↔_;rw[hi.hinv.own];constructor
   .rintro((h|⟨i,x,e,d,m⟩)|⟨rfl,d⟩)
    .exact .inl h
    .exact .inr ⟨i,x,(f i x e).1,(by show g i=c;rw[(f i x e).2];exact d),m⟩
    .exact .inr ⟨σ.H.length,ob,by simp[τ],j,d⟩
   .rintro(m|⟨i,x,e,d,h⟩)
    .exact .inl (.inl m)
    .rcases l i x e with⟨r,s⟩|⟨rfl,rfl⟩
     .exact .inl (.inr ⟨i,x,r,by rw[<-s];exact d,h⟩)
     .exact .inr ⟨by rw[<-d];exact j,h⟩
  .intro i o e d m h;rcases l i o e with⟨s,t⟩|⟨rfl,rfl⟩
   .exact hi.hinv.sep i o s d m (by rw[<-t];exact h)
   .have r:lU X.jj Li st.bx b m:=by rw[<-j];exact h
    have:=hi.hinv.iG _ _ r;exact Nat.lt_irrefl _ this
 have D:bT σ τ:=by
  refine⟨W,W,W,k.size,λc d _=>k.a_ c d,?_⟩;intro i o e d;rcases l i o e with⟨h,m⟩|⟨rfl,rfl⟩
  .exact .inr ⟨o,h,d,m⟩
  .exact .inl (by show _<=g _;rw[j];exact ags _)
 have A:τ.H=st.H++[ob]:=by show σ.H++[ob]=_;rw[hi.hH]
 refine⟨τ,W,j,A,p,?_⟩;have:=hi.heap p E (λt d h=>k.a_ _ ((hi.box t d h).lt trivial)) D;rw[A]at this;exact this
def turns(a d:Prop):Ob->Ob->Prop
 |.box _,.box _=>a
 |.map _,.map _=>a
 |.iter _,.iter _=>a
 |.row _ _ _ _,.dead=>True
 |.row _ e b f,.row _ g c h=>g=e/\(b<c\/(c=b/\h.length=f.length/\a/\d))
 |_,_=>False
def cj.jg(hi:cj X σ Li st a){j b':Nat}{MA:Ob}{w':World}(L:st.H[j]?=some ob)(q:ob.live)
  (U:w'.os=σ.w.os) (M:w'.output=σ.w.output) (N:w'.tape=σ.w.tape) (H:σ.w.heap.size<=w'.heap.size)
  (w:∀c,c<σ.w.heap.size->c≠σ.l j->w'.heap[c]?=σ.w.heap[c]?) (b:b'=σ.l j\/σ.w.heap.size<=b')
  (O:∀o v,¬ob.iP o->d_ σ.w (σ.l j) o=some v->d_ w' (σ.l j) o=some v/\(b'=σ.l j->¬MA.iP o))
  (p:turns (b'=σ.l j) (∀d T,σ.w.heap[σ.l j]?=some (.cells d T (0,0))->∃b,w'.heap[σ.l j]?=some (.cells b T (0,0))/\b.size=d.size) ob MA)
  (P:∀τ:Sg,db σ τ->τ.w=w'->τ.l j=b'->τ.H=st.H.set j MA->fJ τ b' MA):
  ∃τ:Sg,τ.w=w'/\τ.l j=b'/\τ.H=st.H.set j MA/\db σ τ/\cj X τ Li ⟨st.sl,st.bx,st.H.set j MA⟩ a:=by
 have I:=hi.hH;have l:σ.H[j]?=some ob:=by rw[I];exact L
 have Q:j<σ.H.length:=by rcases agJ j σ.H.length with h|h;exact h;simp[agD h]at l
 let g:Nat->Nat:= λi=>if i=j then b' else σ.l i
 let s:=σ.H.set j MA
 let y:=lU X.jj Li st.bx
 let τ:Sg:=⟨w',λc o=>y c o\/∃(i:Nat) (x:Ob),s[i]?=some x/\g i=c/\x.iP o,g,s⟩
 have n:∀(i:Nat) x,i≠j->σ.H[i]?=some x->s[i]?=some x/\g i=σ.l i:=by
  intro i x r h;exact⟨by show(σ.H.set j MA)[i]?=_;rw[ag8 (ahJ r)];exact h,by simp[g,r]⟩
 have f:s[j]?=some MA/\g j=b':=⟨by show(σ.H.set j MA)[j]?=_;simp[Q],by simp[g]⟩;have t:∀(i:Nat) x,s[i]?=some x->(i≠j/\σ.H[i]?=some x/\g i=σ.l i)\/(i=j/\x=MA):=by
  intro i x h;by_cases e:i=j
  .subst e;rw[f.1]at h;injection h with h;exact .inr ⟨W,h.symm⟩
  .have:σ.H[i]?=some x:=by
    have d:(σ.H.set j MA)[i]?=some x:=h;rw[ag8 (ahJ e)]at d;exact d
   exact .inl ⟨e,this,(n i x e this).2⟩
 have z:∀(i:Nat) o,σ.H[i]?=some o->o.live->σ.l i<σ.w.heap.size:= λi o m d=>(hi.hinv.obj i o m).lt d
 have ac:=z j ob l q;have B:∀(i:Nat) x,i≠j->σ.H[i]?=some x->x.live->σ.l i≠σ.l j:= λi x e m d k=>e (hi.hinv.inj i j x ob m l d q k)
 have C:db σ τ:=by
  refine⟨?_,?_,?_,?_,?_,?_,?_⟩
  .intro c o v m d;have E:=kC m;have A:(c≠σ.l j\/(b'=σ.l j->¬MA.iP o))->¬(y c o\/∃(i:Nat) (x:Ob),s[i]?=some x/\g i=c/\x.iP o):=by
    rintro r (k|⟨i,x,k,u,D⟩)
    .exact d ((hi.hinv.own c o).2 (.inl k))
    .rcases t i x k with⟨e,G,J⟩|⟨rfl,rfl⟩
     .exact d ((hi.hinv.own c o).2 (.inr ⟨i,x,G,by rw[<-J];exact u,D⟩))
     .rw[f.2]at u;rcases b with b|b
      .rcases r with r|r
       .exact r (by rw[<-u];exact b)
       .exact r b D
      .omega
   by_cases e:c=σ.l j
   .subst e;have u:¬ob.iP o:= λh=>d ((hi.hinv.own _ o).2 (.inr ⟨j,ob,l,rfl,h⟩))
    obtain⟨k,r⟩:=O o v u m;exact⟨k,A (.inr r)⟩
   .exact⟨by rw[lD (w c E e)];exact m,A (.inl e)⟩
  .intro i r h;by_cases e:i=j
   .subst e;rw[l]at h;injection h with h;subst h
    cases MA with
    |box u=>exact⟨⟨u,f.1⟩,by show g i=_;rw[f.2];exact p⟩
    |_=>exact p.elim
   .exact⟨⟨r,(n i _ e h).1⟩,(n i _ e h).2⟩
  .intro i r h;by_cases e:i=j
   .subst e;rw[l]at h;injection h with h;subst h
    cases MA with
    |map u=>exact⟨⟨u,f.1⟩,by show g i=_;rw[f.2];exact p⟩
    |_=>exact p.elim
   .exact⟨⟨r,(n i _ e h).1⟩,(n i _ e h).2⟩
  .intro i r h;by_cases e:i=j
   .subst e;rw[l]at h;injection h with h;subst h
    cases MA with
    |iter u=>exact⟨⟨u,f.1⟩,by show g i=_;rw[f.2];exact p⟩
    |_=>exact p.elim
   .exact⟨⟨r,(n i _ e h).1⟩,(n i _ e h).2⟩
  .intro i h;by_cases e:i=j
   .subst e;rw[l]at h;injection h with h;subst h;exact q.elim
   .exact(n i _ e h).1
  .intro i T Z E A h;by_cases e:i=j
   .subst e;rw[l]at h;injection h with h;subst h
    cases MA with
    |dead=>exact .inl f.1
    |row G RY J D=>
     obtain⟨K,d⟩:=p;subst K;refine .inr ⟨G,J,D,f.1,?_,?_⟩
     .rcases d with d|⟨d,_⟩<;>omega
     .intro hv;rcases d with d|⟨_,k,r,u⟩
      .omega
      .exact⟨by show g i=_;rw[f.2];exact r,k,u⟩
    |_=>exact p.elim
   .refine .inr ⟨T,E,A,(n i _ e h).1,ags _,λ_=>⟨(n i _ e h).2,rfl,λu D r=>⟨u,?_,rfl⟩⟩⟩;show w'.heap[σ.l i]?=_;rw[w _ (z i _ h trivial) (B i _ e h trivial)];exact r
  .intro i h;by_cases e:i=j
   .subst e;exact⟨_,f.1⟩
   .exact⟨_,(n i _ e h).1⟩
 have F:τ.H=st.H.set j MA:=by show σ.H.set j MA=_;rw[I]
 have R:fJ τ b' MA:=P τ C W f.2 F;have S:∀o,¬y (σ.l j) o:= λo=>hi.hinv.sep j ob l q o
 have Y:ie τ y:=by
  refine⟨?_,?_,λc o=>ail,?_,λc o h=>ahY (hi.hinv.iG c o h) H⟩
  .intro i x h;rcases t i x h with⟨e,r,A⟩|⟨rfl,rfl⟩
   .show fJ τ (g i) x;rw[A];by_cases u:x.live
    .refine(hi.hinv.obj i x r).fT C λE D=>?_
     show w'.heap[_]?=_;rw[w _ (z i x r u) (B i x e r u)];exact D
    .cases x<;>first|trivial|exact(u trivial).elim
   .show fJ τ (g i) x;rw[f.2];exact R
  .intro i u x A m d k D r;change g i=g u at r;rcases t i x m with⟨e,E,J⟩|⟨rfl,rfl⟩<;>rcases t u A d with⟨T,G,K⟩|⟨rfl,rfl⟩
   .rw[J,K]at r;exact hi.hinv.inj i u x A E G k D r
   .rw[J,f.2]at r;rcases b with b|b
    .exact absurd (r.trans b) (B i x e E k)
    .have:=z i x E k;omega
   .rw[K,f.2]at r;rcases b with b|b
    .exact absurd (r.symm.trans b) (B u A T G D)
    .have:=z u A G D;omega
   .rfl
  .intro i x m d o k;rcases t i x m with⟨e,u,A⟩|⟨rfl,rfl⟩
   .exact hi.hinv.sep i x u d o (by rw[<-A];exact k)
   .have r:y b' o:=by rw[<-f.2];exact k
    rcases b with b|b
    .exact S o (by rw[<-b];exact r)
    .have:=hi.hinv.iG _ _ r;omega
 have V:bT σ τ:=by
  refine⟨U,M,N,H,λc b d=>w c b (λe=>d j ob l q e.symm),?_⟩;intro i x m d;rcases t i x m with⟨e,r,u⟩|⟨rfl,rfl⟩
  .exact .inr ⟨x,r,d,u⟩
  .rcases b with b|b
   .exact .inr ⟨ob,l,q,by show g i=_;rw[f.2];exact b⟩
   .exact .inl (by show _<=g i;rw[f.2];exact b)
 refine⟨τ,W,f.2,F,C,?_⟩;have:=hi.heap C Y (λt b h=>w _ ((hi.box t b h).lt trivial) (hi.JC h l q)) V;rw[F]at this;exact this
end Go.Mt
namespace Go.Mt
variable{T off i Lh ec n t e j len:Nat}{x y:Operand}{cs Ls:List M}{m:M}{acc:Bool}
section ops
variable{X:cY}{st:St}{dst:Option Nat}{ty:Nat}{pos:String}{af:Array Edge}{g:Option (Nat×Bool)}
def Gx(e:st.ev x=some (.m m))(f:m.s6=true):
  cJ X ⟨dst,.box T x,ty,pos,af,g⟩ st (dm (.m (.ref st.H.length 0)) ⟨st.sl,st.bx,st.H++[.box (cellsOf m)]⟩):=by
 intro c a i b;have h:=b.ev e;cases h with
 |m h=>
  have j:=h.cells f;obtain⟨d,k,l,n,r,o⟩:=b.newObj (.box (cellsOf m)) (.cells (c.eval x).cells T (0,0)) (by
   intro d p q;exact⟨_,T,by rw[q];simp,j.mono p⟩)
  refine dv.value (u:=.pointer (some ⟨a.w.heap.size,0,none⟩)) (w':={a.w with heap:=a.w.heap.push (.cells (c.eval x).cells T (0,0))}) ?_ ⟨_,_,d,i,⟨rfl,rfl⟩,k,o,?_⟩
  .simp[execOp,Instr.box,newVar,newRow,newObj,Sem.run]
  .rw[<-l,b.hH];exact .m (.ref _ 0 (cellsOf m) (by rw[n];simp))
def C7{z:D}[d:wD X.P T z]:
  cJ X ⟨dst,.alloc T,ty,pos,af,g⟩ st (dm (.m (.ref st.H.length 0)) ⟨st.sl,st.bx,st.H++[.box ((bP z).map .d)]⟩):=by
 intro q a e c;obtain⟨v,f,h⟩:=d.run;have i:RM a (.d z) v:=.d (eW h);have j:jh a ((bP z).map .d) v.cells:=i.cells W;obtain⟨b,k,l,m,r,n⟩:=c.newObj (.box ((bP z).map .d)) (.cells v.cells T (0,0)) (by
  intro b o p;exact⟨_,T,by rw[p];simp,j.mono o⟩)
 refine dv.value (u:=.pointer (some ⟨a.w.heap.size,0,none⟩)) (w':={a.w with heap:=a.w.heap.push (.cells v.cells T (0,0))}) ?_ ⟨_,_,b,e,⟨rfl,rfl⟩,k,n,?_⟩
 .simp[execOp,Instr.alloc,f,newVar,newRow,newObj,Sem.run]
 .rw[<-l,c.hH];exact .m (.ref _ 0 ((bP z).map .d) (by rw[m];simp))
def BD:
  cJ X ⟨dst,.makeMap T none,ty,pos,af,g⟩ st (dm (.m (.mp st.H.length)) ⟨st.sl,st.bx,st.H++[.map []]⟩):=by
 intro k a d c;obtain⟨b,e,f,h,l,i⟩:=c.newObj (.map []) (.map #[] 0) (by
  intro b m j;exact⟨[],.inl W,#[],0,by rw[j];simp,rfl,by simp,by simp[lB]⟩)
 refine dv.value (u:=.map (some a.w.heap.size)) (w':={a.w with heap:=a.w.heap.push (.map #[] 0)}) ?_ ⟨_,_,b,d,⟨rfl,rfl⟩,e,i,?_⟩
 .simp[execOp,Instr.makeMap,newObj,Sem.run]
 .rw[<-f,c.hH];exact .m (.mp _ [] (by rw[h];simp))
def k9(d:st.ev x=some (.m (.ref i off)))(e:st.H[i]?=some (.box cs))(f:ef X.P T cs off=some m):
  cJ X ⟨dst,.load T x,ty,pos,af,g⟩ st (dm (.m m) st):=by
 refine Lq λc o p a=>?_
 have h:=a.ev d;generalize j:c.eval x=u at h;cases h with
 |m h=>cases h with
  |ref i off q r=>
   obtain⟨t,s,k,b⟩:=a.hinv.obj i (.box cs) (by rw[a.hH];exact e);obtain⟨v,l,n⟩:=mV f k (by rw[b.1];exact ags _) b.2;exact⟨v,by simp[execOp,j,Instr.loadAt,Instr.sureAddr,l],.m n⟩
def zy(f:st.ev x=some (.m (.cF i Lh off)))(j:st.H[i]?=some (.row acc ec Lh cs))(k:ef X.P T cs off=some m):
  cJ X ⟨dst,.load T x,ty,pos,af,g⟩ st (dm (.m m) st):=by
 refine Lq λd e A a=>?_
 have h:=a.ev f;generalize l:d.eval x=y at h;cases h with
 |m h=>cases h with
  |cF i Lh off b C n=>
   have c:e.H[i]?=some (.row acc ec Lh cs):=by rw[a.hH];exact j
   have o:=n acc ec cs c;subst o;obtain⟨_,D,B,E,z,p,q,r,⟨s,_⟩,t⟩:=a.hinv.obj i _ c;obtain⟨v,u,w⟩:=mV k p (by rw[q,s];exact agR _ r) t;exact⟨v,by simp[execOp,l,Instr.loadAt,Instr.sureAddr,u],.m w⟩
def xj[s:cc X.P T n](u:st.ev x=some (.m (.ref i off)))(w:st.ev y=some (.m m))(o:st.H[i]?=some (.box cs))
  (z:(cellsOf m).length=n) (A:m.s6=true) (f:dE cs off (cellsOf m)=some Ls):
  cJ X ⟨dst,.store T x y,ty,pos,af,g⟩ st (dm (.m .undef) ⟨st.sl,st.bx,st.H.set i (.box Ls)⟩):=by
 intro e b B a;have h:=a.ev u;have k:=a.ev w;generalize C:e.eval x=N at h;cases h with
 |m h=>cases h with
  |ref i off O Q=>
   cases k with
   |m k=>
    have D:b.H[i]?=some (.box cs):=by rw[a.hH];exact o
    obtain⟨M,p,q,r⟩:=a.hinv.obj i _ D;have d:=k.cells A;obtain⟨E,F,R⟩:=r.write d f;have G:(e.eval y).cells.size=n:=by rw[d.1,z]
    have H:=od (P:=X.P) (t:=T) (off:=off) q (by rw[s.size,G]) (by rw[r.1,d.1];exact F) d.flat;have I:=fD q;obtain⟨l,J,S,U,V,K⟩:=a.jg (j:=i) (b':=b.l i) (ob:=.box cs) (MA:=.box Ls) (w':=cW b.w (b.l i) (.cells (ey M off (e.eval y).cells.toList) p (0,0))) o trivial W W W (by rw[iJ];exact ags _)
     (λc _ a=>hM a) (.inl W) (λo v a=>(a trivial).elim) W (by
      intro l L f _ _;exact⟨_,p,by rw[f];exact fE I,E.mono L⟩)
    refine dv.skip (by simp only[execOp,C,Instr.storeAt,Instr.sureAddr];simp[H];rfl) ?_;exact⟨.m .undef,_,l,B,⟨W,W⟩,J,K,.m (.undef _)⟩
def C8{σ:Sg}{new:List M}{arr:Array Value}{c:Array Value}(p:cs.length<=arr.size)(h:∀(i:Nat) (m:M) (v:Value),cs[i]?=some m->arr[i]?=some v->RM σ m v/\flat v=true)
  (d:jh σ new c) (f:dE cs off new=some Ls):
  (∀(i:Nat) (m:M) (v:Value),Ls[i]?=some m->(ey arr off c.toList)[i]?=some v->RM σ m v/\flat v=true)/\off+new.length<=cs.length/\Ls.length=cs.length:=by
 have g:jh σ cs (arr.extract 0 cs.length):=by
  refine⟨by simp;omega,λi m v b a=>?_⟩;rw[ahC]at a;split at a
  .simp at a;exact h i m v b a
  .cases a
 obtain⟨j,k,e⟩:=g.write d f;refine⟨λi m v b a=>?_,k,e⟩;have n:i<cs.length:=by rw[<-e];rcases agJ i Ls.length with h|h;exact h;simp[agD h]at b
 refine j.2 i m v b ?_;have o:=d.1;rw[lE _ _ _ _ (by simp;omega)]at a⊢;split
 .rename_i l;rw[agK l]at a;exact a
 .rename_i l;rw[agw l]at a;rw[ahC,agK (by omega)];simpa using a
def o7[F:cc X.P T n](G:st.ev x=some (.m (.cF i Lh off)))(H:st.ev y=some (.m m))(r:st.H[i]?=some (.row false ec Lh cs))
  (I:(cellsOf m).length=n) (J:m.s6=true) (l:dE cs off (cellsOf m)=some Ls):
  cJ X ⟨dst,.store T x y,ty,pos,af,g⟩ st (dm (.m .undef) ⟨st.sl,st.bx,st.H.set i (.row false ec Lh Ls)⟩):=by
 intro k d K a;have h:=a.ev G;have o:=a.ev H;generalize L:k.eval x=am at h;cases h with
 |m h=>cases h with
  |cF i Lh off b ce M=>
   cases o with
   |m o=>
    have s:d.H[i]?=some (.row false ec Lh cs):=by rw[a.hH];exact r
    have N:=M false ec cs s;subst N;obtain⟨O,E,u,ac,Q,p,w,z,⟨A,R⟩,S⟩:=a.hinv.obj i _ s;have e:=o.cells J;have U:cs.length<=E.size:=by rw[w,A];exact agR _ z
    obtain⟨B,k2,C⟩:=C8 U S e l;have V:(k.eval y).cells.size=n:=by rw[e.1,I]
    have Y:=od (P:=X.P) (t:=T) (off:=off) p (by rw[F.size,V]) (by rw[e.1];omega) e.flat;have D:=fD p;obtain⟨q,Z,g2,g3,g4,g5⟩:=a.jg (j:=i) (b':=d.l i) (ob:=.row false ec Lh cs) (MA:=.row false ec Lh Ls) (w':=cW d.w (d.l i) (.cells (ey E off (k.eval y).cells.toList) u (0,0))) r trivial W W W (by rw[iJ];exact ags _)
     (λc _ a=>hM a) (.inl W) (λo v a=>(a (.inl W)).elim) ⟨rfl,.inr ⟨rfl,C,rfl,λar T' f=>by
      rw[p]at f;injection f with f;injection f with e1 e2;subst e1;subst e2
      exact⟨_,fE D,fZ _ _ _⟩⟩⟩ (by
      intro q f l _ _;exact⟨O,_,u,ac,Q,by rw[l];exact fE D,by rw[fZ];exact w,z,⟨by rw[C];exact A,R⟩,λi m v a b=>⟨(B i m v a b).1.mono f,(B i m v a b).2⟩⟩)
    refine dv.skip (by simp only[execOp,L,Instr.storeAt,Instr.sureAddr];simp[Y];rfl) ?_;exact⟨.m .undef,_,q,K,⟨W,W⟩,Z,g5,.m (.undef _)⟩
def o8{k:IntKind}{i:Int}[ht:br X.P t e][d:cc X.P e ec](f:st.ev x=some (.m (.cy j Lh len)))(l:st.ev y=some (.m (.d (.int k i))))
  (n:st.H[j]?=some (.row acc ec Lh cs)) (o:0<=i) (p:i<len):
  cJ X ⟨dst,.indexAddr t x y,ty,pos,af,g⟩ st (dm (.m (.cF j Lh (i.toNat*ec))) st):=by
 refine Lq λc b A a=>?_
 have h:=a.ev f;have q:=a.jF l;generalize r:c.eval x=z at h;cases h with
 |m h=>cases h with
  |cy j Lh len B G w s=>
   have u:b.H[j]?=some (.row acc ec Lh cs):=by rw[a.hH];exact n
   obtain⟨v,C,H,D,E,F⟩:=s acc ec cs u;subst v;refine⟨.pointer (some ⟨b.l j,i.toNat*ec,none⟩),?_,.m (.cF j Lh _ _ w λ_ _ _ _=>rfl)⟩;simp[execOp,r,q,Instr.indexAt,asIntOf,underlying,program,Sem.run,ht.u,dr d.size,o,p,j_]
def Gy[ht:br X.P t e](b:st.ev x=some (.m (.cy j Lh len))):
  cJ X ⟨dst,.call ⟨.builtin .len,#[x],#[t]⟩,ty,pos,af,g⟩ st (dm (.m (.d (.int .i64 len))) st):=by
 refine Lq λa f i c=>?_
 have h:=c.ev b;generalize d:a.eval x=u at h;refine⟨.int .i64 len,?_,.m (.d (.int _ _))⟩;cases h with
 |m h=>cases h with
  |cy j Lh len k n o l=>
   simp[execOp,resolve,invoke,builtin,Builtin.len_,underlying,program,Sem.run,ht.u,d,goInt]
end ops
end Go.Mt
namespace Go.Mt
variable{n b:Nat}{P:Program}{w:World}
def xk(a:Nat)(h:256<=a):∀r c,256<=c->c<=2*a->Builtin.growBy a r c<=2*a
 |0,c,_,b=>b
 |r+1,c,d,b=>by
  unfold Builtin.growBy;split
  .exact b
  .exact xk a h r _ (by omega) (by omega)
def p_{fU cap:Nat}(h:cap<fU):Builtin.nextslicecap fU cap<=2*fU:=by
 unfold Builtin.nextslicecap;split
 .omega
 .split
  .omega
  .exact xk fU (by omega) 4 cap (by omega) (by omega)
def hU(h:Array Obj)(x:Obj):(h.push x)[h.size]?=some x:=by simp
def th{α:Type}{l:List α}{j:Nat}{x y:α}(h:l[j]?=some x):(l.set j y)[j]?=some y:=by
 have:j<l.length:=by rcases agJ j l.length with a|a;exact a;simp[agD a]at h
 simp[this]
def jQ(z:Array Value)(n:Nat):(Builtin.zeroCells z n).size=n*z.size:=by simp[Builtin.zeroCells]
def gI.firstCells{O:Nat->Nat->Prop}{w:World}{rows:List (List D)}{v:Value}(e:0<n)(h:gI O w (.sl rows) v)(q:∀r∈rows,r.length=n):
  ∃a:Array Value,(∀w':World,(Builtin.lenOf v).run P w'=.ok rows.length w')/\(∀w':World,w'.heap=w.heap->(Builtin.firstCells n rows.length v).run P w'=.ok a w')/\a.size=rows.length*n/\
   ∀(i j:Nat) r d,rows[i]?=some r->r[j]?=some d->∃u,a[i*n+j]?=some u/\gI O w d u/\flat u=true:=by
 cases h with
 |slnil a=>
  cases a with
  |none=>exact⟨#[],λ_=>by simp[Builtin.lenOf],λ_ _=>by simp[Builtin.firstCells],by simp,by simp⟩
  |some a=>exact⟨#[],λ_=>by simp[Builtin.lenOf],λ_ _=>by simp[Builtin.firstCells,loadCells,loadCellsFrom],by simp,by simp⟩
 |sl rows b F I a l s G H m t x y=>
  have z:a=n:=by
   cases rows with
   |nil=>exact absurd W s
   |cons r f=>rw[<-m r (by simp)];exact q r (by simp)
  subst z
  let c:Array Value:=((List.range (rows.length*a)).map λk=>l (k/a) (k%a)).toArray
  have o:c.size=rows.length*a:=by simp[c]
  have E:∀k,k<rows.length*a->k/a<rows.length/\k%a<a/\k/a*a+k%a=k:=by
   intro k f;refine⟨(Nat.div_lt_iff_lt_mul e).2 f,aik _ e,?_⟩;have:=Nat.div_add_mod k a;rw[aju]at this;exact this
  refine⟨c,λ_=>by simp[Builtin.lenOf],?_,o,?_⟩
  .intro w' g;simp only[Builtin.firstCells,loadCells];refine jk _ 0 _ (by omega) (by simp) ?_;intro k f;rw[o]at f;obtain⟨p,A,B⟩:=E k f;have:c.getD k undef=l (k/a) (k%a):=by simp[c,f]
   rw[this];have:=(t _ _ p A).1;rw[B]at this;rw[lD (w:=w) (by rw[g])];exact this
  .intro i j r d f k;have p:i<rows.length:=by rcases agJ i rows.length with h|h;exact h;simp[agD h]at f
   have g:j<a:=by
    rw[<-m r (agN f)];rcases agJ j r.length with h|h;exact h;simp[agD h]at k
   have A:i*a+j<rows.length*a:=by
    calc i*a+j<i*a+a:=by omega
     _=(i+1)*a:=by rw[ahK]
     _<=rows.length*a:=agR _ p
   refine⟨l i j,?_,y i j r d f k,x i j p g⟩;have B:(i*a+j)/a=i:=by rw[aju,Nat.mul_add_div e,Nat.div_eq_of_lt g];omega
   have C:(i*a+j)%a=j:=by rw[aju,Nat.mul_add_mod,Nat.mod_eq_of_lt g]
   simp[c,A,B,C]
def bf(rows:List (List D)):List M:=(rows.map λr=>r.map M.d).flatten
def oh{n:Nat} :∀{rows:List (List D)},(∀r∈rows,r.length=n)->(bf rows).length=rows.length*n
 |[],_=>by simp[bf]
 |r::a,h=>by
  have:=oh (n:=n) (rows:=a) (λr a=>h r (by simp[a]));unfold bf at*;simp only[agH,List.flatten_cons,agq,agt,this,h r (by simp),agA,ahK];omega
def xl(f:0<n):∀{rows:List (List D)} {k:Nat} {m:M},(∀r∈rows,r.length=n)->(bf rows)[k]?=some m->∃i j r d,k=i*n+j/\rows[i]?=some r/\r[j]?=some d/\m=.d d
 |[],k,m,_,h=>by simp[bf]at h
 |r::g,k,m,e,h=>by
  have b:r.length=n:=e r (by simp);have a:((r.map M.d)++bf g)[k]?=some m:=by simpa [bf] using h
  rcases agJ k n with c|c
  .rw[agF (by simp[b,c])]at a;simp only[ahh,agU]at a;obtain⟨d,l,rfl⟩:=a;exact⟨0,k,r,d,by simp,by simp,l,rfl⟩
  .rw[agP (by simp[b,c])]at a;simp only[agt,b]at a;obtain⟨i,j,l,d,s,o,p,q⟩:=xl f (λr a=>e r (by simp[a])) a;exact⟨i+1,j,l,d,by rw[ahK];omega,by simpa using o,p,q⟩
class jx(P:Program)(t:Nat)(n:outParam Nat):Prop where
 bytes:wT P t=some n
def o9{t:Nat}(h:ij P t=some n)(a:wT P t=some b):∃i:TypeInfo,P.info? t=some i/\i.size=n/\i.bytes=b:=by
 unfold ij at h;unfold wT at a;cases c:P.info? t with
 |none=>simp[c]at h
 |some i=>simp[c]at h a;exact⟨i,W,h,a⟩
section ops
variable{X:cY}{st:St}{dst:Option Nat}{ty:Nat}{pos:String}{af:Array Edge}{g:Option (Nat×Bool)}
def ti{k T:Nat}{arr:Array Value}{a:Nat×Nat}(h:w.heap[b]?=some (.cells arr T a))(c:k<=arr.size):(loadCells ⟨b,0,none⟩ k).run P w=.ok (arr.extract 0 k) w:=by
 unfold loadCells;have a:(arr.extract 0 k).size=k:=by simp;omega
 refine jk k 0 _ (by omega) (by simp) ?_;intro i c;rw[a]at c;have a:i<arr.size:=by omega
 have c:i<min k arr.size:=by omega
 simp[d_,World.cell?,h,a,c]
end ops
end Go.Mt
namespace Go.Mt
variable{k s:ByteArray}{es LM r:List (D×M)}{x y:Operand}{m v:M}{T e i:Nat}{z:D}
def wE(a b:ByteArray):(a==b)=decide (a=b):=by
 cases a with
 |mk a=>
 cases b with
 |mk b=>
 have:((ByteArray.mk a)==(ByteArray.mk b))=(a==b):=rfl;rw[this];by_cases h:a=b
 .subst h;simp
 .simp[h]
def eP(k:ByteArray):List (D×M)->Option M
 |[]=>none
 |(.str s,m)::r=>bif decide (s=k)then some m else eP k r
 |_::r=>eP k r
def dH(k:ByteArray)(v:M):List (D×M)->List (D×M)
 |[]=>[(.str k,v)]
 |(.str s,m)::r=>bif decide (s=k)then(.str k,v)::r else(.str s,m)::dH k v r
 |x::r=>x::dH k v r
def strKeys:List (D×M)->Bool
 |[]=>true
 |(.str _,_)::r=>strKeys r
 |_=>false
class iq(P:Program)(t:Nat)(e:outParam Nat):Prop where
 u:∃k,P.underlying t=some (.map k e)/\P.underlying k=some .string
def findNow_spec{σ:Sg}{c:Nat}{k:ByteArray} :∀{es:List (D×M)} {us:List MapEntry} {n:Nat},strKeys es=true->us.length=es.length->(∀(i:Nat) e u,es[i]?=some e->us[i]?=some u->oZ σ c e u)->
  (eP k es=none/\Instr.findNow .string (.string k) us n=some none/\dH k=dH k/\(∀v,dH k v es=es++[(.str k,v)]))\/
  ∃i m u,eP k es=some m/\us[i]?=some u/\es[i]?=some (.str k,m)/\Instr.findNow .string (.string k) us n=some (some (n+i,u.val))/\u.key=.string k/\RM σ m u.val/\(∀v,dH k v es=es.set i (.str k,v))
 |[],us,n,_,a,_=>by
  have:us=[]:=by simpa using a
  subst this;exact .inl ⟨W,W,W,λv=>rfl⟩
 |(t,m)::r,us,n,l,j,h=>by
  cases t with
  |str s=>
   cases us with
   |nil=>simp at j
   |cons u us=>
    obtain⟨d,w⟩:wA (.str s)=some u.key/\RM σ m u.val:=by
     rcases h 0 _ _ rfl rfl with a|⟨a,_⟩|⟨a,_⟩
     .exact a
     .cases a
     .cases a
    simp only[wA,ahl]at d;by_cases e:s=k
    .subst e;refine .inr ⟨0,m,u,by simp[eP],rfl,rfl,?_,d.symm,w,λv=>by simp[dH]⟩;simp[Instr.findNow,<-d,Instr.sameNow,wE]
    .have x:(k==s)=false:=by rw[wE];simp;exactλh=>e h.symm
     have o:Instr.findNow .string (.string k) (u::us) n=Instr.findNow .string (.string k) us (n+1):=by
      simp[Instr.findNow,<-d,Instr.sameNow,x]
     have p:eP k ((.str s,m)::r)=eP k r:=by simp[eP,e]
     have q:∀v,dH k v ((.str s,m)::r)=(.str s,m)::dH k v r:= λv=>by simp[dH,e]
     rcases findNow_spec (σ:=σ) (k:=k) (n:=n+1) (es:=r) (us:=us) l (by simpa using j) (λi e u a b=>h (i+1) e u (by simpa using a) (by simpa using b))with⟨a,f,_,g⟩|⟨i,y,z,a,f,g,A,B,C,E⟩
     .exact .inl ⟨by rw[p];exact a,by rw[o];exact f,W,λv=>by rw[q,g];rfl⟩
     .exact .inr ⟨i+1,y,z,by rw[p];exact a,by simpa using f,by simpa using g,by rw[o,A];congr 3;omega,B,C,λv=>by rw[q,E];rfl⟩
  |_=>simp[strKeys]at l
def cI:∀{es:List (D×M)},strKeys es=true↔ ∀e∈es,∃s,e.1=.str s
 |[]=>by simp[strKeys]
 |(d,m)::r=>by
  cases d with
  |str s=>simp only[strKeys];rw[cI];simp
  |_=>simp[strKeys]
def gY:eP k ((.str s,m)::r)=if s=k then some m else eP k r:=by
 simp only[eP];by_cases h:s=k<;>simp[h]
def mZ:dH k v ((.str s,m)::r)=if s=k then(.str k,v)::r else(.str s,m)::dH k v r:=by
 simp only[dH];by_cases h:s=k<;>simp[h]
def xm{a b:List (D×M)}(h:a.Perm b):(∀e∈b,∃s,e.1=.str s)->(b.map Prod.fst).Nodup->eP k a=eP k b/\∀v,(dH k v a).Perm (dH k v b):=by
 induction h with
 |nil=>intro _ _;exact⟨W,λv=>.refl _⟩
 |cons x _ i=>
  intro c f;obtain⟨d,m⟩:=x;obtain⟨s,g⟩:=c (d,m) (by simp);simp only at g;subst g;obtain⟨j,l⟩:=i (λe f=>c e (by simp[f])) (by simp at f;exact f.2);simp only[gY,mZ];by_cases e:s=k
  .simp only[e,ah3];exact⟨trivial,λv=>.cons _ (by assumption)⟩
  .simp only[e,ahL];exact⟨j,λv=>.cons _ (l v)⟩
 |swap x y q=>
  intro f g;obtain⟨d,m⟩:=x;obtain⟨n,o⟩:=y;obtain⟨s,i⟩:=f (d,m) (by simp);obtain⟨c,j⟩:=f (n,o) (by simp);simp only at i j;subst i;subst j;have p:s≠c:=by simp at g;intro e;exact g.1.1 e
  simp only[gY,mZ];by_cases e:s=k
  .subst e;have l:¬c=s:= λh=>p h.symm
   simp only[l,ah3,ahL];exact⟨trivial,λv=>.swap _ _ _⟩
  .by_cases l:c=k
   .simp only[e,l,ah3,ahL];exact⟨trivial,λv=>.swap _ _ _⟩
   .simp only[e,l,ahL];exact⟨trivial,λv=>.swap _ _ _⟩
 |trans q g i j=>
  intro c f;obtain⟨l,n⟩:=j c f;obtain⟨o,p⟩:=i (λe f=>c e (g.mem_iff.1 f)) ((g.map _).nodup_iff.2 f);exact⟨o.trans l,λv=>(p v).trans (n v)⟩
def k_{k:ByteArray}{v:M} :∀{es:List (D×M)},(∀e∈es,∃s,e.1=.str s)->(dH k v es).map Prod.fst=es.map Prod.fst\/((dH k v es).map Prod.fst=es.map Prod.fst++[.str k]/\D.str k∉es.map Prod.fst)
 |[],_=>.inr ⟨rfl,by simp⟩
 |(d,m)::r,b=>by
  obtain⟨s,c⟩:=b (d,m) (by simp);simp only at c;subst c;rw[mZ];by_cases e:s=k
  .subst e;exact .inl (by simp)
  .rw[agw e];rcases k_ (k:=k) (v:=v) (es:=r) λe a=>b e (by simp[a])with a|⟨a,f⟩
   .exact .inl (by simp[a])
   .refine .inr ⟨by simp[a],?_⟩;simp only[agH,agu,ajv];exact⟨λh=>e (by injection h with h;exact h.symm),f⟩
def dQ.strs(h:dQ LM es)(a:strKeys es=true):strKeys LM=true:=by
 rw[cI]at a⊢;exactλe b=>a e (h.mem.1 b)
def dQ.look(h:dQ LM es)(k:ByteArray):eP k LM=eP k es:=by
 rcases h with rfl|⟨a,b,c⟩
 .rfl
 .exact(xm a b c).1
def dQ.Iz(h:dQ LM es)(k:ByteArray)(v:M):dQ (dH k v LM) (dH k v es):=by
 rcases h with rfl|⟨g,c,d⟩
 .exact .inl W
 .refine .inr ⟨(xm g c d).2 v,?_,?_⟩
  .intro e i;have a:e.1∈(dH k v es).map Prod.fst:=agC.2 ⟨e,i,rfl⟩;rcases k_ (k:=k) (v:=v) c with f|⟨f,_⟩
   .rw[f]at a;obtain⟨j,l,m⟩:=agC.1 a;obtain⟨s,n⟩:=c j l;exact⟨s,m.symm.trans n⟩
   .rw[f]at a;rcases agG.1 a with a|a
    .obtain⟨j,l,m⟩:=agC.1 a;obtain⟨s,n⟩:=c j l;exact⟨s,m.symm.trans n⟩
    .exact⟨k,by simpa using a⟩
  .rcases k_ (k:=k) (v:=v) c with a|⟨a,i⟩
   .rw[a];exact d
   .rw[a,ah6];exact⟨d,by simp,λl j b f e=>by simp at f;subst f;subst e;exact i j⟩
section ops
variable{X:cY}{st:St}{dst:Option Nat}{ty:Nat}{pos:String}{af:Array Edge}{g:Option (Nat×Bool)}
def oi{P:Program}{b:Bool}{n a:Nat}{w:World}(h:P.underlying a=some .string):(Instr.checkKey b (n+1) a (.string s)).run P w=.ok () w:=by
 simp[Instr.checkKey,underlying,program,Sem.run,h]
def BE[ht:iq X.P T e][B:fC X.P e z](C:st.ev x=some (.m (.mp i)))(D:st.ev y=some (.m (.d (.str k))))(E:st.H[i]?=some (.map es))(f:strKeys es=true):
  cJ X ⟨dst,.lookup T x y true,ty,pos,af,g⟩ st (dm (.m (match eP k es with|some m=>.c_ [m,.d (.bool true)]|none=>.c_ [.d z,.d (.bool false)])) st):=by
 refine Lq λA σ P c=>?_
 have h:=c.ev C;have o:=c.o0 D;obtain⟨F,p,j⟩:=ht.u;obtain⟨G,H,I⟩:=(cz B.zero).run;generalize q:A.eval x=u at h;cases h with
 |m h=>cases h with
  |mp i Q R=>
   obtain⟨J,r,K,Z,s,L,M,S⟩:=c.hinv.obj i (.map es) (by rw[c.hH];exact E);rw[<-r.look k];replace f:=r.strs f;have t:∀b,(Instr.checkKey b 10000 F (.string k)).run X.P σ.w=.ok () σ.w:= λb=>oi (n:=9999) j
   rcases findNow_spec (σ:=σ) (k:=k) (n:=0) (es:=J) (us:=K.toList) f (by simpa using L) (λi e u a b=>M i e u a (by simpa using b))with⟨l,w,_,_⟩|⟨n,m,u,l,w,U,N,V,O,_⟩
   .rw[l];refine⟨.tuple #[G,.bool false],?_,.m (.c_ _ _ W ?_)⟩
    .simp only[execOp,q,o,Instr.lookup];simp[underlying,program,Sem.run,p,getObj,s,t,Instr.findKey,j,w,H]
    .intro n m v a d
     match n with
     |0=>simp at a d;subst a;subst d;exact .d (eW I)
     |1=>simp at a d;subst a;subst d;exact .d (.bool _)
     |n+2=>simp at a
   .rw[l];refine⟨.tuple #[u.val,.bool true],?_,.m (.c_ _ _ W ?_)⟩
    .simp only[execOp,q,o,Instr.lookup];simp[underlying,program,Sem.run,p,getObj,s,t,Instr.findKey,j,N]
    .intro n Y v a d
     match n with
     |0=>simp at a d;subst a;subst d;exact O
     |1=>simp at a d;subst a;subst d;exact .d (.bool _)
     |n+2=>simp at a
def vC[ht:iq X.P T e][v:fC X.P e z](w:st.ev x=some (.m (.mp i)))(A:st.ev y=some (.m (.d (.str k))))(B:st.H[i]?=some (.map es))(c:strKeys es=true):
  cJ X ⟨dst,.lookup T x y false,ty,pos,af,g⟩ st (dm (.m (match eP k es with|some m=>m|none=>.d z)) st):=by
 refine Lq λt σ M a=>?_
 have h:=a.ev w;have j:=a.o0 A;obtain⟨C,l,d⟩:=ht.u;obtain⟨D,E,F⟩:=(cz v.zero).run;generalize o:t.eval x=u at h;cases h with
 |m h=>cases h with
  |mp i N O=>
   obtain⟨G,p,H,S,q,I,J,P⟩:=a.hinv.obj i (.map es) (by rw[a.hH];exact B);rw[<-p.look k];replace c:=p.strs c;have r:∀b,(Instr.checkKey b 10000 C (.string k)).run X.P σ.w=.ok () σ.w:= λb=>oi (n:=9999) d
   rcases findNow_spec (σ:=σ) (k:=k) (n:=0) (es:=G) (us:=H.toList) c (by simpa using I) (λi e u a b=>J i e u a (by simpa using b))with⟨f,s,_,_⟩|⟨n,m,u,f,s,Q,K,R,L,_⟩
   .rw[f];refine⟨D,?_,.m (.d (eW F))⟩;simp only[execOp,o,j,Instr.lookup];simp[underlying,program,Sem.run,l,getObj,q,r,Instr.findKey,d,s,E]
   .rw[f];refine⟨u.val,?_,.m L⟩;simp only[execOp,o,j,Instr.lookup];simp[underlying,program,Sem.run,l,getObj,q,r,Instr.findKey,d,K]
def rH{z:Operand}[ht:iq X.P T e](Q:st.ev x=some (.m (.mp i)))(R:st.ev y=some (.m (.d (.str k))))(S:st.ev z=some (.m m))(G:st.H[i]?=some (.map es))(q:strKeys es=true):
  cJ X ⟨dst,.mapUpdate T x y z,ty,pos,af,g⟩ st (dm (.m .undef) ⟨st.sl,st.bx,st.H.set i (.map (dH k m es))⟩):=by
 intro p σ w l;have h:=l.ev Q;have H:=l.o0 R;have r:=l.ev S;obtain⟨U,I,A⟩:=ht.u;generalize a:p.eval x=u at h;cases r with
 |m r=>
 cases h with
 |m h=>cases h with
  |mp i QQ hh=>
   have V:σ.H[i]?=some (.map es):=by rw[l.hH];exact G
   obtain⟨o,J,f,F,B,C,D,K⟩:=l.hinv.obj i (.map es) V;replace q:=J.strs q;have Y:=fD B;have L:∀b,(Instr.checkKey b 10000 U (.string k)).run X.P σ.w=.ok () σ.w:= λb=>oi (n:=9999) A
   have M:∀(a:Array MapEntry) (d:Nat),a.size=(dH k m o).length->(∀(n:Nat) e u,(dH k m o)[n]?=some e->a[n]?=some u->oZ σ d e u)->lB a d->
     ∃f:Sg,f.w=cW σ.w (σ.l i) (.map a d)/\cj X f w ⟨st.sl,st.bx,st.H.set i (.map (dH k m es))⟩ p:=by
    intro E N P Z g3;obtain⟨d,k1,k2,k3,k4,k5⟩:=l.jg (j:=i) (b':=σ.l i) (ob:=.map es) (MA:=.map (dH k m es)) (w':=cW σ.w (σ.l i) (.map E N)) G trivial W W W (by rw[iJ];exact ags _)
     (λc _ a=>hM a) (.inl W) (λo v a=>(a trivial).elim) W (by
      intro d Nz hw _ _;exact⟨_,J.Iz k m,E,N,by rw[hw];exact fE Y,P,λn e u a b=>(Z n e u a b).up λv a=>a.mono Nz,g3⟩)
    exact⟨d,k1,k5⟩
   rcases findNow_spec (σ:=σ) (k:=k) (n:=0) (es:=o) (us:=f.toList) q (by simpa using C) (λi e u a b=>D i e u a (by simpa using b))with⟨h6,s,_,t⟩|⟨n,m',u,h6,s,t,h9,Oj,PA,O⟩
   .obtain⟨N,P,Z⟩:=M (f.push {key:=.string k,val:=p.eval z,born:=F}) (F+1) (by rw[t];simp[C]) (by
     intro n e u d a;rw[t]at d;rcases agJ n o.length with E|E
     .rw[agF E]at d;rw[ahU,agw (by omega)]at a;exact(D n e u d a).KM (by obtain⟨ac,hs⟩:=cI.1 q e (agN d);rw[hs];simp)
     .rw[agP E]at d;have ac:n-o.length=0:=by
       rcases ag5 (n-o.length)with h|h
       .exact h
       .rw[agD (by simp;omega)]at d;cases d
      rw[ac]at d;simp at d;subst d;rw[ahU,agK (by omega)]at a;injection a with a;subst a
      exact .inl ⟨W,r⟩) K.push
    refine dv.skip ?_ ⟨.m .undef,_,N,w,⟨W,W⟩,P,Z,.m (.undef _)⟩;simp only[execOp,a,H,Instr.mapUpdate];simp[underlying,program,Sem.run,I,getObj,B,L,Instr.findKey,A,s,setObj,cW]
   .have OF:n<f.size:=by
     have:=s;simp at this;rcases agJ n f.size with h|h
     .exact h
     .simp[agX h]at this
    obtain⟨P,Z,k2⟩:=M (f.modify n λe=>{e with key:=.string k,val:=p.eval z}) F (by rw[O];simp[C]) (by
     intro N e u' d a;rw[O]at d;rw[aid]at a;by_cases E:n=N
     .subst E;rw[th t]at d;injection d with d;subst d
      simp[OF]at a;subst a;exact .inl ⟨W,r⟩
     .rw[ag8 E]at d;rw[agw E]at a;exact D N e u' d a) (K.modify λ_=>rfl)
    refine dv.skip ?_ ⟨.m .undef,_,P,w,⟨W,W⟩,Z,k2,.m (.undef _)⟩;have R0:f[n]?.map (·.key)=some (.string k):=by
     have:f[n]?=some u:=by simpa using s
     rw[this];simp[Oj]
    have Lt:(Instr.keyThatStays (.string k) (.string k)).run X.P σ.w=.ok (.string k) σ.w:=by simp[Instr.keyThatStays,Instr.sameBits,wE]
    simp only[execOp,a,H,Instr.mapUpdate];simp[underlying,program,Sem.run,I,getObj,B,L,Instr.findKey,A,h9,setObj,cW,R0,Lt]
class jU(P:Program)(t:Nat)(k:outParam IntKind):Prop where
 u:P.underlying t=some (.int k)
def uC{s t:Nat}{k k' a:IntKind}{n:Int}[b:jU X.P s a][ht:jU X.P t k'](c:st.ev x=some (.m (.d (.int k n)))):
  cJ X ⟨dst,.convert s t x,ty,pos,af,g⟩ st (dm (.m (.d (.int k' (k'.wrap n)))) st):=by
 refine Lq λd e f a=>?_
 exact⟨.int k' (k'.wrap n),by simp[execOp,convert,underlying,program,Sem.run,b.u,ht.u,a.jF c,Conv.intToInt],.m (.d (.int _ _))⟩
end ops
end Go.Mt
namespace Go.Mt
variable{x y:Operand}{T i e off n Lh ec len t j nb s f:Nat}{cs LP new ms:List M}{m r:M}{z:D}{kk:ByteArray}{es:List (D×M)}{k2 k1 k0:IntKind}{acc:Bool}{H':Hp}{o:Oper}{v:V}{st:St}{ds:List D}{args:List Operand}{NI:Array Nat}
section mk
variable{X:cY}{st:St}{dst:Option Nat}{ty:Nat}{pos:String}{af:Array Edge}{g:Option (Nat×Bool)}
def yU[ht:br X.P T e][f:cc X.P e n][C:jx X.P e nb][D:fC X.P e z](E:Nat.blt 0 n=true)(l:(bP z).length=n)
  (F:st.ev x=some (.m (.d (.int k1 len)))) (G:st.ev y=some (.m (.d (.int k2 len)))) (Z:len*nb<=140737488355328) (H:len<=140737488355328):
  cJ X ⟨dst,.makeSlice T x y,ty,pos,af,g⟩ st (dm (.m (.cy st.H.length 0 len)) ⟨st.sl,st.bx,st.H++[.row false n 0 (fM n len (bP z))]⟩):=by
 intro V a I c;have o:=bL E;have p:=c.jF F;have q:=c.jF G;obtain⟨k,J,i2,r⟩:=o9 f.size C.bytes;obtain⟨v,K,L⟩:=(cz D.zero).run;have s:jh a ((bP z).map .d) v.cells:=(RM.d (eW L):RM a (.d z) v).cells W;have M:v.cells.size=n:=by rw[s.1];simpa using l
 have t:jh a (fM n len (bP z)) ((Array.range (len*n)).map λi=>v.cells[i%v.cells.size]!):=by
  refine⟨by simp[fM],λi m u w d=>?_⟩;have A:i<len*n:=by
   rcases agJ i (len*n)with h|h
   .exact h
   .rw[agX (by simpa using h)]at d;cases d
  have R:i%n<n:=aik _ o;have N:i%n<(bP z).length:=by omega
  simp[fM,A,l]at w;simp[A,M]at d;have O:i%n<v.cells.size:=by omega
  subst w;subst d;refine s.2 (i%n) _ _ ?_ ?_
  .simp[ag3 N]
  .simp[O]
 obtain⟨b,j,P,B,g4,Q⟩:=c.newObj (.row false n 0 (fM n len (bP z))) (.cells ((Array.range (len*n)).map λi=>v.cells[i%v.cells.size]!) e (0,0)) (by
  intro b w A;refine⟨o,_,e,len,len,by rw[A];exact hU _ _,by simp,ags _,⟨by simp[fM],H⟩,?_⟩;intro d m u i h;exact⟨(t.2 d m u i h).1.mono w,(t.2 d m u i h).2⟩)
 refine dv.value (u:=.slice (some ⟨a.w.heap.size,0,none⟩) len len) (w':=b.w) ?_ ⟨_,_,b,I,⟨W,W⟩,W,Q,?_⟩
 .have d:∀w:World,(typeInfo e).run X.P w=.ok k w:= λY=>by simp[typeInfo,program,Sem.run,J]
  have i:∀w:World,(underlying T).run X.P w=.ok (.slice e) w:= λw=>by simp[underlying,program,Sem.run,ht.u]
  have A:IntKind.i64.wrap (len:Int)=len:=IntWalk.i64_in _ ⟨by omega,by omega⟩;have N:¬((k.bytes:Int)*(len:Int)>2^48):=by
   rw[r];have:((len*nb:Nat):Int)<=140737488355328:=by omega
   rw[Int.natCast_mul,Int.mul_comm]at this;omega
  have O:¬((len:Int)<0):=by omega
  have R:¬(len*k.bytes>roomBytes):=by rw[r];unfold roomBytes;omega
  by_cases w:len*n=0
  .have S:len=0:=by
    rcases aiM.1 w with h|h
    .exact h
    .omega
   subst S;have h:Array.range 0=(#[]:Array Nat):=by decide
   have U:IntKind.i64.wrap 0=0:=by decide
   simp only[execOp,Instr.makeSlice,p,q,asInt,asIntOf];simp[i,d,U,dr f.size,askRoom,roomBytes,newRow,newObj,Sem.run,j,h]
  .simp only[execOp,Instr.makeSlice,p,q,asInt,asIntOf];simp[i,d,A,dr f.size,askRoom,newRow,newObj,Sem.run,j,N,O,R,w,K];omega
 .have i:a.H.length=st.H.length:=by rw[c.hH]
  have h:b.l st.H.length=a.w.heap.size:=by rw[<-i];exact P
  refine .m (.cy _ 0 len _ len (.inr ⟨false,n,0,fM n len (bP z),by rw[B];simp,ags _⟩) ?_);intro O R S d;rw[B]at d;simp at d;obtain⟨w,A,N⟩:=d;subst w;subst A;subst N;exact⟨by rw[h],by simp[fM],_,e,by rw[h,j];exact hU _ _,by simp⟩
end mk
section rules
variable{X:cY}{ops:Array Oper}{rest:List Oper}{post:St->Prop}{Lw:List Ef->St->Prop}{sl:List (Nat×V)}{bx:List (Nat×List M)}{H:Hp}{d ty:Nat}{pos:String}{af:Array Edge}
def je.xn(a:o.guard=none)(b:o.dst=some d)(c:d<X.n)
  (h:∀a,Ag ops o ⟨some d,v,[],[],none,true,some H'⟩ st a->cJ X o a (dm v ⟨a.sl,a.bx,H'⟩)):je X ops o ⟨some d,v,[],[],none,true,some H'⟩ st:=
 λe f=>(h e f).C5 a b c
def je.AP(a:o.guard=none)(b:o.dst=none)
  (h:∀a,Ag ops o ⟨none,v,[],[],none,true,some H'⟩ st a->cJ X o a (dm v ⟨a.sl,a.bx,H'⟩)):je X ops o ⟨none,v,[],[],none,true,some H'⟩ st:=
 λc d=>(h c d).Er a b
def eC[ht:cT X.P T](a:Nat.blt d X.n=true)(b:bj sl x=some (.m (.ref i off)))(c:H[i]?=some (.box cs))(e:cs[off]?=some m)(k:TL X ops rest ⟨(d,(.m m))::sl,bx,H⟩ post):TL X ops (⟨some d,.load T x,ty,pos,af,none⟩::rest) ⟨sl,bx,H⟩ post:=
 LA W W a (k9 b c (by simp[ef,ht.cell,e])) k
def dy[ht:cT X.P T](a:Nat.blt d X.n=true)(b:bj sl x=some (.m (.ref i off)))(c:H[i]?=some (.box cs))(f:cs[off]?=some m)(k:TF X ops rest ⟨(d,(.m m))::sl,bx,H⟩ λa b=>Lw (⟨some d,(.m m),[],[],none,true,none⟩::a) b):TF X ops (⟨some d,.load T x,ty,pos,af,none⟩::rest) ⟨sl,bx,H⟩ Lw:=
 TF.cons (e:=⟨some d,(.m m),[],[],none,true,none⟩) (Lm W W (bL a) λa a=>k9 ((a.ev (x:=x) (by simp[Op.operands,Call.operands])).trans b) (by rw[a.H W];exact c) (by simp[ef,ht.cell,f])) W k
def zA[ht:dw X.P T n](b:Nat.blt d X.n=true)(c:bj sl x=some (.m (.ref i off)))(f:H[i]?=some (.box cs))(a:sub cs off n=some LP)(g:fY LP=some ds)(k:TF X ops rest ⟨(d,(.m (.d (.agg ds))))::sl,bx,H⟩ λa b=>Lw (⟨some d,(.m (.d (.agg ds))),[],[],none,true,none⟩::a) b):TF X ops (⟨some d,.load T x,ty,pos,af,none⟩::rest) ⟨sl,bx,H⟩ Lw:=
 TF.cons (e:=⟨some d,(.m (.d (.agg ds))),[],[],none,true,none⟩) (Lm W W (bL b) λb b=>k9 ((b.ev (x:=x) (by simp[Op.operands,Call.operands])).trans c) (by rw[b.H W];exact f) (by simp[ef,ht.agg,ht.size,agV (sub_eq a).1,pack,(sub_eq a).2,g])) W k
def uD[ht:cT X.P T](a:Nat.blt d X.n=true)(b:bj sl x=some (.m (.cF i Lh off)))(c:H[i]?=some (.row acc ec Lh cs))(f:cs[off]?=some m)(k:TF X ops rest ⟨(d,(.m m))::sl,bx,H⟩ λa b=>Lw (⟨some d,(.m m),[],[],none,true,none⟩::a) b):TF X ops (⟨some d,.load T x,ty,pos,af,none⟩::rest) ⟨sl,bx,H⟩ Lw:=
 TF.cons (e:=⟨some d,(.m m),[],[],none,true,none⟩) (Lm W W (bL a) λa a=>zy ((a.ev (x:=x) (by simp[Op.operands,Call.operands])).trans b) (by rw[a.H W];exact c) (by simp[ef,ht.cell,f])) W k
def Fb[ht:dw X.P T n](a:Nat.blt d X.n=true)(b:bj sl x=some (.m (.cF i Lh off)))(c:H[i]?=some (.row acc ec Lh cs))(f:(cs.drop off).take n=LP)(h:off+n<=cs.length)(g:fY LP=some ds)(k:TF X ops rest ⟨(d,(.m (.d (.agg ds))))::sl,bx,H⟩ λa b=>Lw (⟨some d,(.m (.d (.agg ds))),[],[],none,true,none⟩::a) b):TF X ops (⟨some d,.load T x,ty,pos,af,none⟩::rest) ⟨sl,bx,H⟩ Lw:=
 TF.cons (e:=⟨some d,(.m (.d (.agg ds))),[],[],none,true,none⟩) (Lm W W (bL a) λa a=>zy ((a.ev (x:=x) (by simp[Op.operands,Call.operands])).trans b) (by rw[a.H W];exact c) (by simp[ef,ht.agg,ht.size,agV h,pack,f,g])) W k
def zB{a:IntKind}{i:Int}[ht:br X.P t e][m:cc X.P e ec](b:Nat.blt d X.n=true)(c:bj sl x=some (.m (.cy j Lh len)))(f:bj sl y=some (.m (.d (.int a i))))(g:H[j]?=some (.row acc ec Lh cs))(h:0<=i)(l:i<len)(k:TL X ops rest ⟨(d,(.m (.cF j Lh (i.toNat*ec))))::sl,bx,H⟩ post):TL X ops (⟨some d,.indexAddr t x y,ty,pos,af,none⟩::rest) ⟨sl,bx,H⟩ post:=
 LA W W b (o8 c f g h l) k
def mI{a:IntKind}{i:Int}[ht:br X.P t e][m:cc X.P e ec](b:Nat.blt d X.n=true)(c:bj sl x=some (.m (.cy j Lh len)))(f:bj sl y=some (.m (.d (.int a i))))(g:H[j]?=some (.row acc ec Lh cs))(h:0<=i)(l:i<len)(k:TF X ops rest ⟨(d,(.m (.cF j Lh (i.toNat*ec))))::sl,bx,H⟩ λa b=>Lw (⟨some d,(.m (.cF j Lh (i.toNat*ec))),[],[],none,true,none⟩::a) b):TF X ops (⟨some d,.indexAddr t x y,ty,pos,af,none⟩::rest) ⟨sl,bx,H⟩ Lw:=
 TF.cons (e:=⟨some d,(.m (.cF j Lh (i.toNat*ec))),[],[],none,true,none⟩) (Lm W W (bL b) λa a=>o8 ((a.ev (x:=x) (by simp[Op.operands,Call.operands])).trans c) ((a.ev (x:=y) (by simp[Op.operands,Call.operands])).trans f) (by rw[a.H W];exact g) h l) W k
def IA[ht:br X.P t e](a:Nat.blt d X.n=true)(b:bj sl x=some (.m (.cy j Lh len)))(k:TF X ops rest ⟨(d,(.m (.d (.int .i64 len))))::sl,bx,H⟩ λa b=>Lw (⟨some d,(.m (.d (.int .i64 len))),[],[],none,true,none⟩::a) b):TF X ops (⟨some d,.call ⟨.builtin .len,#[x],#[t]⟩,ty,pos,af,none⟩::rest) ⟨sl,bx,H⟩ Lw:=
 TF.cons (e:=⟨some d,(.m (.d (.int .i64 len))),[],[],none,true,none⟩) (Lm W W (bL a) λa a=>Gy ((a.ev (x:=x) (by simp[Op.operands,Call.operands])).trans b)) W k
def o_[ht:iq X.P T e][h:fC X.P e z](a:Nat.blt d X.n=true)(b:bj sl x=some (.m (.mp i)))(c:bj sl y=some (.m (.d (.str kk))))(f:H[i]?=some (.map es))(g:strKeys es=true)(k:TL X ops rest ⟨(d,(.m (match eP kk es with|some m=>.c_ [m,.d (.bool true)]|none=>.c_ [.d z,.d (.bool false)])))::sl,bx,H⟩ post):TL X ops (⟨some d,.lookup T x y true,ty,pos,af,none⟩::rest) ⟨sl,bx,H⟩ post:=
 LA W W a (BE b c f g) k
def sv[ht:iq X.P T e][h:fC X.P e z](a:Nat.blt d X.n=true)(b:bj sl x=some (.m (.mp i)))(c:bj sl y=some (.m (.d (.str kk))))(f:H[i]?=some (.map es))(g:strKeys es=true)(k:TL X ops rest ⟨(d,(.m (match eP kk es with|some m=>m|none=>.d z)))::sl,bx,H⟩ post):TL X ops (⟨some d,.lookup T x y false,ty,pos,af,none⟩::rest) ⟨sl,bx,H⟩ post:=
 LA W W a (vC b c f g) k
def xo[ht:iq X.P T e][h:fC X.P e z](a:Nat.blt d X.n=true)(b:bj sl x=some (.m (.mp i)))(c:bj sl y=some (.m (.d (.str kk))))(f:H[i]?=some (.map es))(g:strKeys es=true)(k:TF X ops rest ⟨(d,(.m (match eP kk es with|some m=>m|none=>.d z)))::sl,bx,H⟩ λa b=>Lw (⟨some d,(.m (match eP kk es with|some m=>m|none=>.d z)),[],[],none,true,none⟩::a) b):TF X ops (⟨some d,.lookup T x y false,ty,pos,af,none⟩::rest) ⟨sl,bx,H⟩ Lw:=
 TF.cons (e:=⟨some d,(.m (match eP kk es with|some m=>m|none=>.d z)),[],[],none,true,none⟩) (Lm W W (bL a) λa a=>vC ((a.ev (x:=x) (by simp[Op.operands,Call.operands])).trans b) ((a.ev (x:=y) (by simp[Op.operands,Call.operands])).trans c) (by rw[a.H W];exact f) g) W k
def Gz{a:IntKind}{n:Int}[e:jU X.P s k0][ht:jU X.P t k2](b:Nat.blt d X.n=true)(c:bj sl x=some (.m (.d (.int a n))))(k:TL X ops rest ⟨(d,(.m (.d (.int k2 (k2.wrap n)))))::sl,bx,H⟩ post):TL X ops (⟨some d,.convert s t x,ty,pos,af,none⟩::rest) ⟨sl,bx,H⟩ post:=
 LA W W b (uC c) k
def BF{a:IntKind}{n:Int}[f:jU X.P s k0][ht:jU X.P t k2](b:Nat.blt d X.n=true)(c:bj sl x=some (.m (.d (.int a n))))(k:TF X ops rest ⟨(d,(.m (.d (.int k2 (k2.wrap n)))))::sl,bx,H⟩ λa b=>Lw (⟨some d,(.m (.d (.int k2 (k2.wrap n)))),[],[],none,true,none⟩::a) b):TF X ops (⟨some d,.convert s t x,ty,pos,af,none⟩::rest) ⟨sl,bx,H⟩ Lw:=
 TF.cons (e:=⟨some d,(.m (.d (.int k2 (k2.wrap n)))),[],[],none,true,none⟩) (Lm W W (bL b) λa a=>uC ((a.ev (x:=x) (by simp[Op.operands,Call.operands])).trans c)) W k
def nP(b:Nat.blt d X.n=true)(c:bj sl x=some (.m m))(a:fj m=some cs)(k:TL X ops rest ⟨(d,(.m (.ref H.length 0)))::sl,bx,H++[Ob.box cs]⟩ post):TL X ops (⟨some d,.box T x,ty,pos,af,none⟩::rest) ⟨sl,bx,H⟩ post:=
 LA W W b ((by rw[<-(cU a).1];exact Gx c (cU a).2)) k
def jn(a:Nat.blt d X.n=true)(k:TL X ops rest ⟨(d,(.m (.mp H.length)))::sl,bx,H++[Ob.map []]⟩ post):TL X ops (⟨some d,.makeMap T none,ty,pos,af,none⟩::rest) ⟨sl,bx,H⟩ post:=
 LA W W a (BD) k
def AQ[ht:br X.P T e][j:cc X.P e n][l:jx X.P e nb][m:fC X.P e z](a:Nat.blt d X.n=true)(b:bj sl x=some (.m (.d (.int k1 len))))(c:bj sl y=some (.m (.d (.int k2 len))))(f:Nat.blt 0 n=true)(g:(bP z).length=n)(h:len*nb<=140737488355328)(i:len<=140737488355328)(k:TL X ops rest ⟨(d,(.m (.cy H.length 0 len)))::sl,bx,H++[Ob.row false n 0 (fM n len (bP z))]⟩ post):TL X ops (⟨some d,.makeSlice T x y,ty,pos,af,none⟩::rest) ⟨sl,bx,H⟩ post:=
 LA W W a (yU f g b c h i) k
def c8[g:cc X.P T n](b:bj sl x=some (.m (.ref i off)))(c:bj sl y=some (.m m))(d:H[i]?=some (.box cs))(a:fj m=some new)(e:Nat.beq new.length n=true)(f:wr cs off new=some LP)(k:TL X ops rest ⟨sl,bx,H.set i (Ob.box LP)⟩ post):TL X ops (⟨none,.store T x y,ty,pos,af,none⟩::rest) ⟨sl,bx,H⟩ post:=
 TL.Ek W W (xj b c d (by rw[(cU a).1];exact agO e) (cU a).2 (by rw[(cU a).1];exact ss f)) k
def iy[a:cc X.P T n](d:bj sl x=some (.m (.ref i off)))(f:bj sl y=some (.m m))(h:H[i]?=some (.box cs))(b:fj m=some new)(j:Nat.beq new.length n=true)(l:wr cs off new=some LP)(k:TF X ops rest ⟨sl,bx,H.set i (Ob.box LP)⟩ λa b=>Lw (⟨none,.m .undef,[],[],none,true,some (H.set i (Ob.box LP))⟩::a) b):TF X ops (⟨none,.store T x y,ty,pos,af,none⟩::rest) ⟨sl,bx,H⟩ Lw:=
 TF.cons (e:=⟨none,.m .undef,[],[],none,true,some (H.set i (Ob.box LP))⟩) (je.AP W W λo a=>(by have c:=a.H W;simp only at c;have:=(xj (X:=X) (st:=o) (dst:=none) (ty:=ty) (pos:=pos) (af:=af) (g:=none) (T:=T) ((a.ev (x:=x) (by simp[Op.operands,Call.operands])).trans d) ((a.ev (x:=y) (by simp[Op.operands,Call.operands])).trans f) (by rw[a.H W];exact h) (by rw[(cU b).1];exact agO j) (cU b).2 (by rw[(cU b).1];exact ss l));rw[c]at this;exact this)) W k
def zC[g:cc X.P T n](b:bj sl x=some (.m (.cF i Lh off)))(c:bj sl y=some (.m m))(d:H[i]?=some (.row false ec Lh cs))(a:fj m=some new)(e:Nat.beq new.length n=true)(f:dE cs off new=some LP)(k:TL X ops rest ⟨sl,bx,H.set i (Ob.row false ec Lh LP)⟩ post):TL X ops (⟨none,.store T x y,ty,pos,af,none⟩::rest) ⟨sl,bx,H⟩ post:=
 TL.Ek W W (o7 b c d (by rw[(cU a).1];exact agO e) (cU a).2 (by rw[(cU a).1];exact f)) k
def zD[a:cc X.P T n](d:bj sl x=some (.m (.cF i Lh off)))(f:bj sl y=some (.m m))(h:H[i]?=some (.row false ec Lh cs))(b:fj m=some new)(j:Nat.beq new.length n=true)(l:dE cs off new=some LP)(k:TF X ops rest ⟨sl,bx,H.set i (Ob.row false ec Lh LP)⟩ λa b=>Lw (⟨none,.m .undef,[],[],none,true,some (H.set i (Ob.row false ec Lh LP))⟩::a) b):TF X ops (⟨none,.store T x y,ty,pos,af,none⟩::rest) ⟨sl,bx,H⟩ Lw:=
 TF.cons (e:=⟨none,.m .undef,[],[],none,true,some (H.set i (Ob.row false ec Lh LP))⟩) (je.AP W W λo a=>(by have c:=a.H W;simp only at c;have:=(o7 (X:=X) (st:=o) (dst:=none) (ty:=ty) (pos:=pos) (af:=af) (g:=none) (T:=T) ((a.ev (x:=x) (by simp[Op.operands,Call.operands])).trans d) ((a.ev (x:=y) (by simp[Op.operands,Call.operands])).trans f) (by rw[a.H W];exact h) (by rw[(cU b).1];exact agO j) (cU b).2 (by rw[(cU b).1];exact l));rw[c]at this;exact this)) W k
def fW{z:Operand}[ht:iq X.P T e](a:bj sl x=some (.m (.mp i)))(b:bj sl y=some (.m (.d (.str kk))))(c:bj sl z=some (.m m))(d:H[i]?=some (.map es))(f:strKeys es=true)(k:TL X ops rest ⟨sl,bx,H.set i (Ob.map (dH kk m es))⟩ post):TL X ops (⟨none,.mapUpdate T x y z,ty,pos,af,none⟩::rest) ⟨sl,bx,H⟩ post:=
 TL.Ek W W (rH a b c d f) k
def pa{z:Operand}[ht:iq X.P T e](c:bj sl x=some (.m (.mp i)))(d:bj sl y=some (.m (.d (.str kk))))(f:bj sl z=some (.m m))(h:H[i]?=some (.map es))(j:strKeys es=true)(k:TF X ops rest ⟨sl,bx,H.set i (Ob.map (dH kk m es))⟩ λa b=>Lw (⟨none,.m .undef,[],[],none,true,some (H.set i (Ob.map (dH kk m es)))⟩::a) b):TF X ops (⟨none,.mapUpdate T x y z,ty,pos,af,none⟩::rest) ⟨sl,bx,H⟩ Lw:=
 TF.cons (e:=⟨none,.m .undef,[],[],none,true,some (H.set i (Ob.map (dH kk m es)))⟩) (je.AP W W λl a=>(by have b:=a.H W;simp only at b;have:=(rH (X:=X) (st:=l) (dst:=none) (ty:=ty) (pos:=pos) (af:=af) (g:=none) (T:=T) ((a.ev (x:=x) (by simp[Op.operands,Call.operands])).trans c) ((a.ev (x:=y) (by simp[Op.operands,Call.operands])).trans d) ((a.ev (x:=z) (by simp[Op.operands,Call.operands])).trans f) (by rw[a.H W];exact h) j);rw[b]at this;exact this)) W k
def bt[B:bu X.P f](h:CT X.P f ms H λa b=>a=r/\b=H')(o:Nat.blt d X.n=true)(p:gE sl args=some ms)
  (k:TF X ops rest ⟨(d,.m r)::sl,bx,H'⟩ λa b=>Lw (⟨some d,.m r,[],[],none,true,some H'⟩::a) b):TF X ops (⟨some d,.call ⟨.value (.func f),args.toArray,NI⟩,ty,pos,af,none⟩::rest) ⟨sl,bx,H⟩ Lw:=by
 refine TF.cons (e:=⟨some d,.m r,[],[],none,true,some H'⟩) (je.xn W W (bL o) λb l=>?_) W k;have m:=l.H W;simp only at m;have c:=uy (X:=X) (st:=b) (dst:=some d) (ty:=ty) (pos:=pos) (af:=af) (g:=none) (NI:=NI) (args:=args) (f:=f) (ms:=ms) (post:= λa b=>a=r/\b=H') (by rw[l.gE (λx a=>by simp[Op.operands,Call.operands];exact .inr a),oE];exact p) (by rw[m];exact h);intro i j q t;have a:=c i j q t;have n:∀v s,(∃a c,v=V.m a/\(a=r/\c=H')/\s=(⟨b.sl,b.bx,c⟩:St))->dm (.m r) ⟨b.sl,b.bx,H'⟩ v s:=by rintro v s ⟨C,D,rfl,⟨rfl,rfl⟩,rfl⟩;exact⟨W,W⟩
 unfold dv at a⊢;generalize (execOp i.eval _).run X.P j.w=z at*;cases z with
 |ok y E=>
  cases y<;>simp only at a⊢ <;>first
   |(obtain⟨v,s,u,w,c,a⟩:=a;exact⟨v,s,u,w,n _ _ c,a⟩)
   |exact a.mono λe F ⟨u,A,v,s,w,x,c,a⟩=>⟨u,A,v,s,w,x,n _ _ c,a⟩
   |exact a
 |halt y u=>exact a
def fO[B:bu X.P f](h:CT X.P f ms H λa b=>a=r/\b=H)(o:Nat.blt d X.n=true)(p:gE sl args=some ms)
  (k:TF X ops rest ⟨(d,.m r)::sl,bx,H⟩ λa b=>Lw (⟨some d,.m r,[],[],none,true,none⟩::a) b):TF X ops (⟨some d,.call ⟨.value (.func f),args.toArray,NI⟩,ty,pos,af,none⟩::rest) ⟨sl,bx,H⟩ Lw:=by
 refine TF.cons (e:=⟨some d,.m r,[],[],none,true,none⟩) (Lm W W (bL o) λc m=>?_) W k;have i:=m.H W;simp only at i;have b:=uy (X:=X) (st:=c) (dst:=some d) (ty:=ty) (pos:=pos) (af:=af) (g:=none) (NI:=NI) (args:=args) (f:=f) (ms:=ms) (post:= λa b=>a=r/\b=H) (by rw[m.gE (λx a=>by simp[Op.operands,Call.operands];exact .inr a),oE];exact p) (by rw[i];exact h);intro j l q t;have a:=b j l q t;have n:∀v s,(∃a b,v=V.m a/\(a=r/\b=H)/\s=(⟨c.sl,c.bx,b⟩:St))->dm (.m r) c v s:=by rintro v s ⟨C,D,rfl,⟨rfl,rfl⟩,rfl⟩;exact⟨W,by rw[<-i]⟩
 unfold dv at a⊢;generalize (execOp j.eval _).run X.P l.w=z at*;cases z with
 |ok y E=>
  cases y<;>simp only at a⊢ <;>first
   |(obtain⟨v,s,u,w,b,a⟩:=a;exact⟨v,s,u,w,n _ _ b,a⟩)
   |exact a.mono λe F ⟨u,A,v,s,w,x,b,a⟩=>⟨u,A,v,s,w,x,n _ _ b,a⟩
   |exact a
 |halt y u=>exact a
end rules
end Go.Mt
namespace Go.Mt
variable{t s e:Nat}{m:M}{x:Operand}{rows:List (List D)}{ns:List Int}{σ:Sg}{Oo:Nat->Nat->Prop}{cs Ls:List M}{a:Act}{w:World}
def pb:List (List D)->Option (List Int)
 |[]=>some []
 |[.int .u8 n]::r=>match pb r with
  |some ns=>some (n::ns)
  |none=>none
 |_=>none
def xp:∀{rows:List (List D)} {ns:List Int},pb rows=some ns->rows=ns.map λn=>[.int .u8 n]
 |[],ns,h=>by simp[pb]at h;subst h;rfl
 |r::d,ns,h=>by
  unfold pb at h;split at h
  .rename_i e;cases e
  .rename_i n f e;injection e with a b;subst a;subst b
   split at h
   .rename_i g c;injection h with h;subst h
    simp[xp c]
   .cases h
  .cases h
section ops
variable{X:cY}{st:St}{dst:Option Nat}{ty:Nat}{pos:String}{af:Array Edge}{g:Option (Nat×Bool)}
def Es[f:br X.P s e][j:jU X.P e .u8][ht:AK X.P t](q:st.ev x=some (.m (.d (.sl rows))))(r:pb rows=some ns):
  cJ X ⟨dst,.convert s t x,ty,pos,af,g⟩ st (dm (.m (.d (.str (strOfNums ns)))) st):=by
 have:=xp r;subst this;refine Lq λo a F c=>?_
 have h:=c.mz q;generalize k:o.eval x=C at h;refine⟨.string (strOfNums ns),?_,.m (.d (.str _))⟩;generalize l:(ns.map λn=>[D.int .u8 n])=rows at h;cases h with
 |slnil d=>
  have:ns=[]:=by simpa using l
  subst this;cases d with
  |none=>
   have:=run_convert_bytes_nil (P:=X.P) a.w s e f.u j.u 0 0 t ht.u;simp[execOp,k,this,strOfNums];rfl
  |some d=>
   have i:(loadCells d 0).run X.P a.w=.ok #[] a.w:=by simp[loadCells,loadCellsFrom]
   simp only[execOp,k,Sem.run_bind];rw[run_convert_bytes_string a.w s t e (some d) 0 0 f.u j.u ht.u,run_bytesToString a.w d 0 0 [] (by simpa using i)];simp[strOfNums,ByteArray.empty,ByteArray.emptyWithCapacity];rfl
 |sl rows b p B u n v G H w y I z=>
  subst l;have J:(ns.map λn=>[D.int .u8 n]).length=ns.length:=by simp
  have A:u=1:=by
   cases ns with
   |nil=>simp at v
   |cons d ns=>rw[<-w [.int .u8 d] (by simp)];rfl
  subst A;have:=run_convert_bytes_arg (P:=X.P) a.w s e f.u j.u b p ns.length B ns W (by
   intro i c;have d:=(y i 0 (by simpa using c) (by omega)).1;have m:=z i 0 [.int .u8 ns[i]] (.int .u8 ns[i]) (by simp[c]) W;have:n i 0=.int .u8 ns[i]:=by generalize n i 0=E at m;cases m;rfl
   rw[this]at d;simp at d;simpa [c] using d) t ht.u
  simp[execOp,k,this]
end ops
section rules
variable{X:cY}{ops:Array Oper}{rest:List Oper}{post:St->Prop}{Lw:List Ef->St->Prop}{sl:List (Nat×V)}{bx:List (Nat×List M)}{H:Hp}{d ty:Nat}{pos:String}{af:Array Edge}
def JD[f:br X.P s e][g:jU X.P e .u8][ht:AK X.P t](a:Nat.blt d X.n=true)(b:bj sl x=some (.m (.d (.sl rows))))(c:pb rows=some ns)
  (k:TL X ops rest ⟨(d,.m (.d (.str (strOfNums ns))))::sl,bx,H⟩ post):TL X ops (⟨some d,.convert s t x,ty,pos,af,none⟩::rest) ⟨sl,bx,H⟩ post:=
 LA W W a (Es b c) k
def JE[f:br X.P s e][g:jU X.P e .u8][ht:AK X.P t](a:Nat.blt d X.n=true)(b:bj sl x=some (.m (.d (.sl rows))))(c:pb rows=some ns)
  (k:TF X ops rest ⟨(d,.m (.d (.str (strOfNums ns))))::sl,bx,H⟩ λa b=>Lw (⟨some d,.m (.d (.str (strOfNums ns))),[],[],none,false,none⟩::a) b):TF X ops (⟨some d,.convert s t x,ty,pos,af,none⟩::rest) ⟨sl,bx,H⟩ Lw:=
 TF.cons (e:=⟨some d,.m (.d (.str (strOfNums ns))),[],[],none,false,none⟩) (Lm W W (bL a) λa a=>Es ((a.ev (x:=x) (by simp[Op.operands])).trans b) c) W k
def eK(H:Hp):M->Option D
 |.d x=>some x
 |.cy i b a=>match H[i]? with
  |some (.row true c v cs)=>bif (Nat.beq v b&&Nat.blt 0 a)then(match chunk c a cs with
   |some rows=>some (.sl rows)
   |none=>none)else none
  |_=>none
 |_=>none
def RM.view(hi:ie σ Oo){d:D}{v:Value}(h:RM σ m v)(b:eK σ.H m=some d):RM σ (.d d) v:=by
 cases h with
 |d h=>simp[eK]at b;subst b;exact .d h
 |cy i F E ad Z am G=>
  simp only[eK]at b;split at b
  .rename_i a v e k;cases l:(Nat.beq v F&&Nat.blt 0 E)with
   |false=>simp[l]at b
   |true=>
    simp only[l,ag6]at b;simp only[agZ]at l;have H:=agO l.1;subst H;have h0:=bL l.2;split at b
    .rename_i c I;injection b with b;subst b
     obtain⟨J,n,g,ac,r,s⟩:=G true a e k;subst J;obtain⟨t,Se,T1,u,K,o,L,M,⟨N,LV⟩,x⟩:=hi.obj i _ k;rw[r]at o;injection o with o;injection o with P Q;subst P;subst Q
     have R:u=Z:=ahs t (by rw[<-L,<-s]);subst R;have S:K=E:=ahs t (by rw[<-N,<-n]);subst S;obtain⟨p,y,z⟩:=pY I n;have T:c≠[]:=by rintro rfl;simp at p;omega
     have U:∀o,o<e.length->¬σ.O (σ.l i) o:=by
      intro A ho C;rcases(hi.own _ _).1 C with f|⟨B,V,f,X,j⟩
      .exact hi.sep i _ k trivial A f
      .have:=hi.inj B i V _ f k (Ob.lz j) trivial X;subst this;rw[k]at f;injection f with f;subst f
       simp only[Ob.iP]at j;rcases j with j|j
       .cases j
       .omega
     have q:∀i j,i<c.length->j<a->i*a+j<e.length:=by
      intro i j hi f;rw[n,<-p]
      calc i*a+j<i*a+a:=by omega
       _=(i+1)*a:=by rw[ahK]
       _<=c.length*a:=agR _ hi
     have M0:e.length<=g.size:=by rw[n,s];exact agR _ M
     have Y:∀i j,i<c.length->j<a->∃r d,c[i]?=some r/\r[j]?=some d/\e[i*a+j]?=some (.d d):=by
      intro i j hi f;have A:c[i].length=a:=y _ (agx hi);have B:c[i]?=some c[i]:=by simp[hi]
      have C:c[i][j]?=some ((c[i])[j]'(by rw[A];exact f)):=by simp[A,f]
      exact⟨c[i],_,B,C,z i j _ _ B C⟩
     have:=gI.sl (O:=σ.O) (w:=σ.w) c (σ.l i) 0 u a (λi j=>g.getD (i*a+j) Go.undef) T (by omega) (by omega) y ?_ ?_ ?_
     .rw[p]at this;exact .d this
     .intro f j B A;rw[ahq];refine⟨?_,U _ (q f j B A)⟩;have:=q f j B A;simp[d_,World.cell?,r,show f*a+j<g.size by omega]
     .intro f j B A;obtain⟨V,d,_,_,C⟩:=Y f j B A;have X:=q f j B A;exact(x _ _ (g.getD (f*a+j) Go.undef) C (by simp[show f*a+j<g.size by omega])).2
     .intro f j B d C V;have A:=z f j B d C V;have X:f*a+j<e.length:=by rcases agJ (f*a+j) e.length with h|h;exact h;simp[agD h]at A
      have:=(x _ _ (g.getD (f*a+j) Go.undef) A (by simp[show f*a+j<g.size by omega])).1;cases this with
      |d h=>exact h
    .cases b
  .cases b
 |_=>simp[eK]at b
def dV(H:Hp):List M->Option (List M)
 |[]=>some []
 |m::r=>match eK H m,dV H r with
  |some d,some a=>some (.d d::a)
  |_,_=>none
def jh.view(hi:ie σ Oo){n:Array Value}(h:jh σ cs n)(r:dV σ.H cs=some Ls):jh σ Ls n:=by
 have u:∀(cs Ls:List M),dV σ.H cs=some Ls->Ls.length=cs.length/\∀(i:Nat) a,Ls[i]?=some a->∃m d,cs[i]?=some m/\eK σ.H m=some d/\a=.d d:=by
  intro cs
  induction cs with
  |nil=>intro Ls h;simp[dV]at h;subst h;simp
  |cons m w s=>
   intro Ls h;simp only[dV]at h;split at h
   .rename_i d t j k;injection h with h;subst h
    obtain⟨f,l⟩:=s t k;refine⟨by simp[f],λi g a=>?_⟩;cases i with
    |zero=>simp at a;subst a;exact⟨m,d,by simp,j,rfl⟩
    |succ i=>simp at a;obtain⟨p,b,c,e,q⟩:=l i g a;exact⟨p,b,by simpa using c,e,q⟩
   .cases h
 obtain⟨j,k⟩:=u cs Ls r;refine⟨by rw[h.1,j],λi g v a o=>?_⟩;obtain⟨m,d,f,l,rfl⟩:=k i g a;exact⟨(h.2 i m v f o).1.view hi l,(h.2 i m v f o).2⟩
def Inv.cZ(h:Inv X ⟨sl,bx,H⟩ a w)(l:get bx t=some cs)(m:dV H cs=some Ls):Inv X ⟨sl,(t,Ls)::bx,H⟩ a w:=by
 obtain⟨k,i,rfl,c⟩:=h;have n:k.H=H:=c.hH;obtain⟨z,T,d,f⟩:=c.box t cs l;have g:∀u c,get ((t,Ls)::bx) u=some c->∃c,get bx u=some c:=by
  intro u o d;rcases bY d with⟨rfl,rfl⟩|⟨q,p⟩
  .exact⟨cs,l⟩
  .exact⟨o,p⟩
 have j:∀b o,lU X.jj i ((t,Ls)::bx) b o↔lU X.jj i bx b o:=by
  intro b r;constructor
  .rintro(d|⟨u,o,d,f⟩)
   .exact .inl d
   .obtain⟨p,q⟩:=g u o d;exact .inr ⟨u,p,q,f⟩
  .rintro(d|⟨u,o,d,f⟩)
   .exact .inl d
   .by_cases e:t=u
    .subst e;exact .inr ⟨t,Ls,by simp[b_],f⟩
    .exact .inr ⟨u,o,by simp[b_,e,d],f⟩
 refine⟨k,i,W,c.hH,c.defers,c.size,c.slot,?_,?_,?_,?_,?_,c.mono,c.a_⟩
 .intro u o p;rcases bY p with⟨rfl,rfl⟩|⟨_,q⟩
  .exact⟨z,T,d,f.view c.hinv (by rw[n];exact m)⟩
  .exact c.box u o q
 .intro u v o r p q s;obtain⟨_,x⟩:=g u o p;obtain⟨_,y⟩:=g v r q;exact c.nK u v _ _ x y s
 .intro u o p;obtain⟨_,q⟩:=g u o p;exact c.oA u _ q
 .intro u o p;obtain⟨_,q⟩:=g u o p;exact c.oB u _ q
 .exact⟨c.hinv.obj,c.hinv.inj,λb o=>by rw[j];exact c.hinv.own b o,λi k d f o g=>c.hinv.sep i k d f o ((j _ _).1 g),λb o d=>c.hinv.iG b o ((j _ _).1 d)⟩
def Inv.bg{x:D}(h:Inv X ⟨sl,bx,H⟩ a w)(e:get sl t=some (.m m))(f:eK H m=some x):Inv X ⟨(t,.m (.d x))::sl,bx,H⟩ a w:=by
 obtain⟨d,g,rfl,b⟩:=h;have i:d.H=H:=b.hH;refine⟨d,g,W,b.hH,b.defers,b.size,?_,b.box,b.nK,b.oA,b.oB,b.hinv,b.mono,b.a_⟩;intro u v j;rcases bY j with⟨rfl,rfl⟩|⟨_,k⟩
 .obtain⟨z,l,c⟩:=b.slot u _ e;cases c with
  |m c=>exact⟨z,l,.m (c.view b.hinv (by rw[i];exact f))⟩
 .exact b.slot u v k
def TL.bg(t:Nat){l:List Oper}{x:D}(b:get sl t=some (.m m))(c:eK H m=some x)(k:TL X ops l ⟨(t,.m (.d x))::sl,bx,H⟩ post):TL X ops l ⟨sl,bx,H⟩ post:=
 λa w d=>k a w (d.bg b c)
def TC.bg(t:Nat){c:Code}{q:Exit->St->Prop}{x:D}(b:get sl t=some (.m m))(d:eK H m=some x)(k:TC X c ⟨(t,.m (.d x))::sl,bx,H⟩ q):TC X c ⟨sl,bx,H⟩ q:=
 λa w e=>k a w (e.bg b d)
end rules
def Acc(n i:Nat)(rs:List (List D))(m:M)(H:Hp):Prop:=
 (rs=[]/\m=.d (.sl []))\/(rs≠[]/\∃a,m=.cy i a rs.length/\H[i]?=some (.row true n a (bf rs)))
def Acc.view{n i:Nat}{rs:List (List D)}{H:Hp}(h:Acc n i rs m H)(a:∀r∈rs,r.length=n):eK H m=some (.sl rs):=by
 rcases h with⟨rfl,rfl⟩|⟨b,f,rfl,c⟩
 .rfl
 .have d:Nat.blt 0 rs.length=true:=by rw[ajr];cases rs;exact absurd W b;simp
  have e:chunk n rs.length (bf rs)=some rs:=pZ a;simp[eK,c,d,e]
end Go.Mt
namespace Go.Mt
variable{e n t T len j Lh U nb:Nat}{x y:Operand}{k kk:IntKind}{i:Int}{cs:List M}{z:D}
section ops
variable{X:cY}{st:St}{dst:Option Nat}{ty:Nat}{pos:String}{af:Array Edge}{g:Option (Nat×Bool)}
def GA(c:st.ev x=some (.m (.d (.sl []))))[ht:br X.P t e]:
  cJ X ⟨dst,.call ⟨.builtin .cap,#[x],#[t]⟩,ty,pos,af,g⟩ st (dm (.m (.d (.int .i64 0))) st):=by
 refine Lq λa j k d=>?_
 have h:=d.mz c;generalize f:a.eval x=u at h;refine⟨.int .i64 0,?_,.m (.d (.int _ _))⟩;cases h with
 |slnil a=>simp[execOp,resolve,invoke,builtin,Builtin.cap_,underlying,program,Sem.run,ht.u,f,goInt]
 |sl w b o cap l v i m n p q r s=>exact absurd W i
def C9(d:st.ev x=some (.m (.d (.sl []))))(f:st.ev y=some (.m (.d (.int k 0))))[ht:br X.P t e][i:cc X.P e n]:
  cJ X ⟨dst,.slice t x none (some y) none,ty,pos,af,g⟩ st (dm (.m (.d (.sl []))) st):=by
 refine Lq λc p q a=>?_
 have h:=a.mz d;have j:=a.jF f;generalize l:c.eval x=u at h;cases h with
 |slnil m=>
  refine⟨.slice m 0 0,?_,.m (.d (.slnil _))⟩;have o:∀w:World,(underlying t).run X.P w=.ok (.slice e) w:= λw=>by simp[underlying,program,Sem.run,ht.u]
  simp[execOp,Instr.sliceAt,Instr.slice,o,l,j,Instr.sliceBounds,Instr.sliceBound,asIntOf,dr i.size]
 |sl E b o C r D m s v w z A B=>exact absurd W m
def tj[ht:br X.P T e][j:cc X.P e n]
  (k:st.ev x=some (.m (.d (.sl [])))) (l:st.ev y=some (.m (.d (.sl [])))):
  cJ X ⟨dst,.call ⟨.builtin .append,#[x,y],#[T,T]⟩,ty,pos,af,g⟩ st (dm (.m (.d (.sl []))) st):=by
 refine Lq λc s t d=>?_
 have f:=d.mz k;have h:=d.mz l;generalize m:c.eval x=u at f;generalize o:c.eval y=v at h;cases f with
 |sl E b i C p D a q r w z A B=>exact absurd W a
 |slnil i=>
  cases h with
  |sl F b p D q E a r w z A B C=>exact absurd W a
  |slnil a=>
   refine⟨.slice i 0 0,?_,.m (.d (.slnil _))⟩;have p:∀w:World,(underlying T).run X.P w=.ok (.slice e) w:= λw=>by simp[underlying,program,Sem.run,ht.u]
   have q:∀w:World,(Builtin.firstCells n 0 (.slice a 0 0)).run X.P w=.ok #[] w:=by
    intro w;cases a<;>simp[Builtin.firstCells,loadCells,loadCellsFrom]
   have r:∀w:World,(Builtin.lenOf (.slice a 0 0)).run X.P w=.ok 0 w:=by intro w;simp[Builtin.lenOf]
   simp only[execOp,resolve,invoke,builtin,Builtin.append_];simp only[Sem.run_bind,Sem.run_pure,Result.andThen_ok,aim,agH,ag1,m,o];cases i<;>simp[p,dr j.size,r,q,storeCells]
def C_(acc:Bool)(K:st.ev x=some (.m (.cy j Lh len)))(L:st.ev y=some (.m (.d (.int k i))))[ht:br X.P t e][M:cc X.P e n]
  (f:st.H[j]?=some (.row false n Lh cs)) (N:0<=i) (co:i<=len):
  cJ X ⟨dst,.slice t x none (some y) none,ty,pos,af,g⟩ st (dm (.m (.cy j (Lh+1) i.toNat)) ⟨st.sl,st.bx,st.H.set j (.row acc n (Lh+1) (cs.take (i.toNat*n)))⟩):=by
 intro J d O a;have h:=a.ev K;have P:=a.jF L;have z:d.H[j]?=some (.row false n Lh cs):=by rw[a.hH];exact f
 obtain⟨q,ac,A,b,B,r,s,h5,⟨Q,QV⟩,C⟩:=a.hinv.obj j _ z;generalize R:J.eval x=u at h;cases h with
 |m h=>cases h with
  |cy j Lh len ad am Ws S=>
   obtain⟨T,D,Se,T1,l,U⟩:=S false n cs z;subst T;rw[r]at l;injection l with l;injection l with V Y
   subst V;subst Y;have Z:b=am:=ahs q (by rw[<-s,<-U]);subst Z;have OF:B=len:=ahs q (by rw[<-Q,<-D]);subst OF;have iK:i.toNat<=B:=by omega
   have E:(cs.take (i.toNat*n)).length=i.toNat*n:=by
    rw[agM,D];exact ahN (agR _ iK)
   obtain⟨p,F,G,H,g4,g5⟩:=a.jg (j:=j) (b':=d.l j) (ob:=.row false n Lh cs) (MA:=.row acc n (Lh+1) (cs.take (i.toNat*n))) (w':=d.w) f trivial W W W (ags _)
    (λc _ _=>rfl) (.inl W) (by
     intro ce v ho w;exact absurd (Or.inl W) ho) ⟨W,.inl (by omega)⟩ (by
     intro p hm Py _ _;refine⟨q,ac,A,b,i.toNat,by rw[Py];exact r,s,by omega,⟨E,by omega⟩,?_⟩;intro k m v o I;have w:cs[k]?=some m:=by
      rw[ahQ]at o;split at o
      .exact o
      .cases o
     exact⟨(C k m v w I).1.mono hm,(C k m v w I).2⟩)
   refine dv.value (u:=.slice (some ⟨d.l j,0,none⟩) i.toNat b) (w':=p.w) ?_ ⟨_,_,p,O,⟨W,W⟩,W,g5,?_⟩
   .have o:∀w:World,(underlying t).run X.P w=.ok (.slice e) w:= λw=>by simp[underlying,program,Sem.run,ht.u]
    have w:0<=i/\i<=(b:Int):=⟨N,by omega⟩;simp[execOp,Instr.sliceAt,Instr.slice,o,R,P,Instr.sliceBounds,Instr.sliceBound,asIntOf,dr M.size,w,j_,F]
   .refine .m (.cy j (Lh+1) i.toNat _ b (.inr ⟨acc,n,Lh+1,_,by rw[H];exact th f,ags _⟩) ?_);intro No RY LP w;rw[H]at w;have I:j<st.H.length:=by rcases agJ j st.H.length with o|o;exact o;simp[agD o]at f
    simp[I]at w;obtain⟨f1,f2,f3⟩:=w;subst f1;subst f2;subst f3;exact⟨by rw[G],E,_,A,by rw[G,F];exact r,s⟩
def BG{z:Array Value}(d:0<z.size)(h:∀(i:Nat) (v:Value),z[i]?=some v->flat v=true)(i:Nat)(v:Value)(a:(Builtin.zeroCells z n)[i]?=some v):flat v=true:=by
 have e:i<n*z.size:=by
  rcases agJ i (n*z.size)with b|b
  .exact b
  .rw[agX (by rw[jQ];exact b)]at a;cases a
 have c:i%z.size<z.size:=aik _ d;simp[Builtin.zeroCells,e,c]at a;exact h (i%z.size) v (by simp[c,a])
def BH[ht:br X.P T e][H:jU X.P U k][q:cc X.P e n][I:jx X.P e nb][J:fC X.P e z](K:Nat.blt 0 n=true)(L:(bP z).length=n)
  (N:st.ev x=some (.m (.d (.sl [])))) (O:st.ev y=some (.m (.d (.int k len)))) (hl:0<len) (L1:len*nb<=140737488355328) (r:len<=140737488355328):
  cJ X ⟨dst,.call ⟨.builtin .append,#[x,y],#[T,U]⟩,ty,pos,af,g⟩ st (dm (.m (.cy st.H.length 0 len)) ⟨st.sl,st.bx,st.H++[.row false n 0 (List.replicate (len*n) .undef)]⟩):=by
 intro p a s h;have P:=bL K;have j:=h.mz N;have Q:=h.jF O;obtain⟨o,R,i2,t⟩:=o9 q.size I.bytes;obtain⟨c,S,V⟩:=(cz J.zero).run;have w:jh a ((bP z).map .d) c.cells:=(RM.d (eW V):RM a (.d z) c).cells W;have Y:c.cells.size=n:=by rw[w.1];simpa using L
 have A:∀(i:Nat) (v:Value),c.cells[i]?=some v->flat v=true:=by
  intro i v f;have B:i<c.cells.size:=by rcases agJ i c.cells.size with d|d;exact d;simp[agX d]at f
  have l:i<(bP z).length:=by omega
  exact(w.2 i (.d (bP z)[i]) v (by simp[l]) f).2
 generalize ac:p.eval x=u at j;cases j with
 |sl G b f cap i F d l r B C D E=>exact absurd W d
 |slnil B=>
  let cap:=len+a.w.tape a.w.drawn (.appendCap len 0 e)%(2^63-len)
  let d:=Builtin.zeroCells c.cells len++Builtin.zeroCells c.cells (cap-len)
  have M9:len<=cap:=aiC _ _;have C:d.size=cap*n:=by
   simp only[d,ai0,jQ,Y];rw[<-ahp];congr 1;omega
  have Z:cj X {a with w:=a.w.drew} s st p:=h.ext (fS.drew _);have PJ:db a {a with w:=a.w.drew} :=db.ext (fS.drew _);have D:(List.replicate (len*n) M.undef).length=len*n:=by simp
  obtain⟨f,E,g2,F,g4,g5⟩:=Z.newObj (.row false n 0 (List.replicate (len*n) .undef)) (.cells d e (0,0)) (by
   intro f hm hw;refine⟨P,d,e,cap,len,by rw[hw];exact hU _ _,C,M9,⟨D,r⟩,?_⟩;intro k m v l i;have Mm:m=.undef:=by
    rw[List.getElem?_replicate]at l;split at l
    .injection l with G;exact G.symm
    .cases l
   subst Mm;refine⟨.undef _,?_⟩;simp only[d,aiz]at i;split at i
   .exact BG (by omega) A _ _ i
   .exact BG (by omega) A _ _ i)
  refine dv.value (u:=.slice (some ⟨a.w.heap.size,0,none⟩) len cap) (w':=f.w) ?_ ⟨_,_,f,s,⟨W,W⟩,W,g5,?_⟩
  .have l:∀w:World,(typeInfo e).run X.P w=.ok o w:= λw=>by simp[typeInfo,program,Sem.run,R]
   have G:∀w:World,(underlying T).run X.P w=.ok (.slice e) w:= λw=>by simp[underlying,program,Sem.run,ht.u]
   have Xu:∀w:World,(underlying U).run X.P w=.ok (.int k) w:= λw=>by simp[underlying,program,Sem.run,H.u]
   have S_:IntKind.i64.wrap (len:Int)=len:=IntWalk.i64_in _ ⟨by omega,by omega⟩;have Ww:¬((len:Int)*(o.bytes:Int)>2^48):=by
    rw[t];have:((len*nb:Nat):Int)<=140737488355328:=by omega
    rw[Int.natCast_mul]at this;omega
   have Xv:¬(281474976710656<(len:Int)*(o.bytes:Int)):=by omega
   have S':¬((len:Int)<0):=by omega
   have c1:¬len=0:=by omega
   have c2:¬(9223372036854775807<((len:Nat):Int)):=by omega
   have c3:¬(281474976710656<Builtin.nextslicecap len 0*o.bytes):=by
    rw[t];have j:=p_ (fU:=len) (cap:=0) (by omega);have:=agR nb j;rw[aiI]at this;omega
   have c4:¬len*n=0:=by
    intro i;rcases aiM.1 i with i|i<;>omega
   have am:(Builtin.firstCells n 0 (.slice B 0 0)).run X.P a.w.drew=.ok #[] a.w.drew:=by
    cases B<;>simp[Builtin.firstCells,loadCells,loadCellsFrom]
   have Sr:(Question.appendCap len 0 e).cut (a.w.tape a.w.drawn (Question.appendCap len 0 e))=cap:=rfl;have PB:(Question.appendCap len 0 e).forced=false:=rfl;simp only[execOp,resolve,invoke,builtin,Builtin.append_];simp only[Sem.run_bind,Sem.run_pure,Result.andThen_ok,aim,agH,ag1,ac,Q];simp[G,Xu,l,dr q.size,asInt,asIntOf,S_,Xv,S',c1,c2,c3,c4];simp only[PB,ahL,ahj];rw[am];simp only[Result.andThen_ok,S,Sr];simp[newRow,newObj,Sem.run,E,d]
  .have G:a.H.length=st.H.length:=by rw[h.hH]
   have l:f.l st.H.length=a.w.heap.size:=by rw[<-G];exact g2
   refine .m (.cy _ 0 len _ cap (.inr ⟨false,n,0,List.replicate (len*n) .undef,by rw[F];simp,ags _⟩) ?_);intro No RY Ls i;rw[F]at i;simp at i;obtain⟨e1,e2,e3⟩:=i;subst e1;subst e2;subst e3;exact⟨by rw[l],D,d,e,by rw[l,E];exact hU _ _,C⟩
end ops
section walk
variable{X:cY}{ops:Array Oper}{rest:List Oper}{post:St->Prop}{sl:List (Nat×V)}{bx:List (Nat×List M)}{H:Hp}{d:Nat}{ty:Nat}{pos:String}{af:Array Edge}
def q9[ht:br X.P t e](a:Nat.blt d X.n=true)(b:bj sl x=some (.m (.d (.sl []))))(k:TL X ops rest ⟨(d,.m (.d (.int .i64 0)))::sl,bx,H⟩ post):
  TL X ops (⟨some d,.call ⟨.builtin .cap,#[x],#[t]⟩,ty,pos,af,none⟩::rest) ⟨sl,bx,H⟩ post:=LA W W a (GA b) k
def uE[ht:br X.P t e][f:cc X.P e n](a:Nat.blt d X.n=true)(b:bj sl x=some (.m (.d (.sl []))))(c:bj sl y=some (.m (.d (.int kk 0))))(k:TL X ops rest ⟨(d,.m (.d (.sl [])))::sl,bx,H⟩ post):
  TL X ops (⟨some d,.slice t x none (some y) none,ty,pos,af,none⟩::rest) ⟨sl,bx,H⟩ post:=LA W W a (C9 b c) k
def gO[ht:br X.P T e][f:cc X.P e n](a:Nat.blt d X.n=true)(b:bj sl x=some (.m (.d (.sl []))))(c:bj sl y=some (.m (.d (.sl []))))(k:TL X ops rest ⟨(d,.m (.d (.sl [])))::sl,bx,H⟩ post):
  TL X ops (⟨some d,.call ⟨.builtin .append,#[x,y],#[T,T]⟩,ty,pos,af,none⟩::rest) ⟨sl,bx,H⟩ post:=LA W W a (tj b c) k
def uF(acc:Bool)[ht:br X.P t e][f:cc X.P e n](a:Nat.blt d X.n=true)(b:bj sl x=some (.m (.cy j Lh len)))(c:bj sl y=some (.m (.d (.int kk i))))
  (f:H[j]?=some (.row false n Lh cs)) (g:0<=i) (h:i<=len) (k:TL X ops rest ⟨(d,.m (.cy j (Lh+1) i.toNat))::sl,bx,H.set j (.row acc n (Lh+1) (cs.take (i.toNat*n)))⟩ post):
  TL X ops (⟨some d,.slice t x none (some y) none,ty,pos,af,none⟩::rest) ⟨sl,bx,H⟩ post:=LA W W a (C_ acc b c f g h) k
def sx[ht:br X.P T e][f:jU X.P U kk][g:cc X.P e n][h:jx X.P e nb][i:fC X.P e z](a:Nat.blt d X.n=true)(b:bj sl x=some (.m (.d (.sl []))))(c:bj sl y=some (.m (.d (.int kk len))))
  (f:Nat.blt 0 n=true) (g:(bP z).length=n) (h:0<len) (i:len*nb<=140737488355328) (j:len<=140737488355328) (k:TL X ops rest ⟨(d,.m (.cy H.length 0 len))::sl,bx,H++[.row false n 0 (List.replicate (len*n) .undef)]⟩ post):
  TL X ops (⟨some d,.call ⟨.builtin .append,#[x,y],#[T,U]⟩,ty,pos,af,none⟩::rest) ⟨sl,bx,H⟩ post:=LA W W a (BH f g b c h i j) k
end walk
end Go.Mt
namespace Go.Mt
variable{ρ:Nat->Nat}{σ τ:Sg}{n b:Nat}{m:M}{ob:Ob}
inductive MB(n:Nat):M->Prop where
 |d (x:D):MB n (.d x)
 |ref (i off:Nat) (h:i<n):MB n (.ref i off)
 |cy (i a len:Nat) (h:i<n):MB n (.cy i a len)
 |cF (i a off:Nat) (h:i<n):MB n (.cF i a off)
 |mp (i:Nat) (h:i<n):MB n (.mp i)
 |it (i:Nat) (h:i<n):MB n (.it i)
 |agg (cs:List M) (h:∀m∈cs,MB n m):MB n (.agg cs)
 |fn (f:Nat) (cs:List M) (h:∀m∈cs,MB n m):MB n (.fn f cs)
 |c_ (cs:List M) (h:∀m∈cs,MB n m):MB n (.c_ cs)
 |undef:MB n .undef
def AR(n:Nat):Ob->Prop
 |.box a=>∀m∈a,MB n m
 |.row _ _ _ a=>∀m∈a,MB n m
 |.map a=>∀e∈a,MB n e.2
 |.iter x=>MB n x
 |.dead=>True
 |.free=>True
def HB(n:Nat)(H:Hp):Prop:=∀a∈H,AR n a
mutual
def du(ρ:Nat->Nat):M->M
 |.d x=>.d x
 |.ref i a=>.ref (ρ i) a
 |.cy i a b=>.cy (ρ i) a b
 |.cF i a b=>.cF (ρ i) a b
 |.mp i=>.mp (ρ i)
 |.it i=>.it (ρ i)
 |.agg a=>.agg (hY ρ a)
 |.fn f a=>.fn f (hY ρ a)
 |.c_ a=>.c_ (hY ρ a)
 |.undef=>.undef
def hY(ρ:Nat->Nat):List M->List M
 |[]=>[]
 |m::r=>du ρ m::hY ρ r
end
def xq(ρ:Nat->Nat)(l:List M):hY ρ l=l.map (du ρ):=by induction l with
 |nil=>rfl
 |cons b r a=>simp[hY,a]
def fP(ρ:Nat->Nat)(l:List M)(i:Nat):(hY ρ l)[i]?=(l[i]?).map (du ρ):=by rw[xq];simp
def cN(ρ:Nat->Nat)(l:List M):(hY ρ l).length=l.length:=by rw[xq];simp
def cL(ρ:Nat->Nat):Ob->Ob
 |.box a=>.box (hY ρ a)
 |.row d b c a=>.row d b c (hY ρ a)
 |.map a=>.map (a.map λe=>(e.1,du ρ e.2))
 |.iter x=>.iter (du ρ x)
 |.dead=>.dead
 |.free=>.free
def eY(ρ:Nat->Nat)(ob:Ob):(cL ρ ob).live↔ob.live:=by cases ob<;>simp[cL,Ob.live]
def nQ(ρ:Nat->Nat)(ob:Ob)(o:Nat):(cL ρ ob).iP o↔ob.iP o:=by cases ob<;>simp[cL,Ob.iP,cN]
structure Jm(ρ:Nat->Nat)(n:Nat)(σ τ:Sg):Prop where
 w:σ.w=τ.w
 O:∀b o,¬σ.O b o->¬τ.O b o
 len:∀(i:Nat) ob,σ.H[i]?=some ob->i<n
 ob:∀(i:Nat) ob,σ.H[i]?=some ob->τ.H[ρ i]?=some (cL ρ ob)
 l:∀(i:Nat) ob,σ.H[i]?=some ob->τ.l (ρ i)=σ.l i
def RM.up(a:Jm ρ n σ τ){v:Value}(h:RM σ m v):RM τ (du ρ m) v:=by
 induction h with
 |d h=>rw[du];exact .d (h.mono λb o v c e=>⟨by rw[<-a.w];exact c,a.O b o e⟩)
 |ref i c e h=>
  rw[du,<-a.l i _ h];exact .ref (ρ i) c _ (a.ob i _ h)
 |cy i j s g t f k=>
  rw[du];have l:∃a,σ.H[i]?=some a:=by
   rcases f with h|⟨r,p,q,c,h,_⟩
   .exact⟨_,h⟩
   .exact⟨_,h⟩
  obtain⟨o,e⟩:=l;refine .cy _ j s g t ?_ ?_
  .rcases f with h|⟨r,p,q,u,h,c⟩
   .exact .inl (a.ob i _ h)
   .exact .inr ⟨r,p,q,_,a.ob i _ h,c⟩
  .intro x w u c;rw[a.ob i _ e]at c;injection c with c
   cases o<;>simp only[cL]at c<;>cases c;obtain⟨p,q,r⟩:=k _ _ _ e;rw[a.l i _ e,cN,<-a.w];exact⟨p,q,r⟩
 |cF i g q b f j=>
  rw[du];have k:∃a,σ.H[i]?=some a:=by
   rcases f with h|⟨r,o,p,c,h,_⟩
   .exact⟨_,h⟩
   .exact⟨_,h⟩
  obtain⟨l,e⟩:=k;refine .cF _ g q b ?_ ?_
  .rcases f with h|⟨r,o,p,s,h,c⟩
   .exact .inl (a.ob i _ h)
   .exact .inr ⟨r,o,p,_,a.ob i _ h,c⟩
  .intro r p o c;rw[a.ob i _ e]at c;injection c with c
   cases l<;>simp only[cL]at c<;>cases c;rw[a.l i _ e];exact j _ _ _ e
 |mp i c h=>
  rw[du,<-a.l i _ h];exact .mp (ρ i) _ (a.ob i _ h)
 |it i x h=>
  rw[du,<-a.l i _ h];exact .it (ρ i) _ (a.ob i _ h)
 |agg p f g j h k=>
  rw[du];refine .agg _ f (by rw[cN];exact g) j λi m v c l=>?_
  rw[fP]at c;obtain⟨o,e,rfl⟩:=agU.1 c;exact k i o v e l
 |fn f q g p j h k=>
  rw[du];refine .fn f _ g p (by rw[cN];exact j) λi m v c l=>?_
  rw[fP]at c;obtain⟨o,e,rfl⟩:=agU.1 c;exact k i o v e l
 |ww f g r j q k h l=>
  rw[du];refine .ww f g _ j q (by rw[cN];exact k) λi m v c o=>?_
  rw[fP]at c;obtain⟨p,e,rfl⟩:=agU.1 c;exact l i p v e o
 |c_ o f g h j=>
  rw[du];refine .c_ _ f (by rw[cN];exact g) λi m v c k=>?_
  rw[fP]at c;obtain⟨l,e,rfl⟩:=agU.1 c;exact j i l v e k
 |undef v=>rw[du];exact .undef v
structure C'(ρ:Nat->Nat)(n:Nat)(σ τ:Sg):Prop where
 w:σ.w=τ.w
 O:∀b o,¬τ.O b o->¬σ.O b o
 has:∀i:Nat,i<n->∃ob,σ.H[i]?=some ob
 ob:∀(i:Nat) ob,σ.H[i]?=some ob->τ.H[ρ i]?=some (cL ρ ob)
 l:∀(i:Nat) ob,σ.H[i]?=some ob->τ.l (ρ i)=σ.l i
def RM.down(a:C' ρ n σ τ)(s:MB n m):∀{v:Value},RM τ (du ρ m) v->RM σ m v:=by
 induction s with
 |d x=>
  intro v h;rw[du]at h;cases h with
  |d h=>exact .d (h.mono λb o v c e=>⟨by rw[a.w];exact c,a.O b o e⟩)
 |ref i f h=>
  intro v e;rw[du]at e;obtain⟨g,c⟩:=a.has i h;cases e with
  |ref j f k h=>
   rw[a.ob i _ c]at h;injection h with h
   cases g<;>simp only[cL]at h<;>cases h;rw[a.l i _ c];exact .ref i f _ c
 |cy i j q h=>
  intro v g;rw[du]at g;obtain⟨t,e⟩:=a.has i h;have k:=a.ob i _ e;cases g with
  |cy A j q r y c w=>
   refine .cy i j q r y ?_ ?_
   .rw[k]at c;cases t with
    |dead=>exact .inl e
    |free=>rcases c with h|⟨l,o,p,u,h,f⟩<;>simp[cL]at h
    |row p l o f=>
     rcases c with h|⟨x,z,B,C,h,u⟩
     .simp[cL]at h
     .simp only[cL]at h;injection h with h;injection h with D E F G
      exact .inr ⟨p,l,o,f,e,by omega⟩
    |box l=>rcases c with h|⟨o,p,u,x,h,f⟩<;>simp[cL]at h
    |map l=>rcases c with h|⟨o,p,u,x,h,f⟩<;>simp[cL]at h
    |iter l=>rcases c with h|⟨o,p,u,x,h,f⟩<;>simp[cL]at h
   .intro z x u f;rw[e]at f;injection f with f
    subst f;obtain⟨l,o,p⟩:=w z x (hY ρ u) k;rw[a.l i _ e]at l p;rw[cN]at o;rw[a.w];exact⟨l,o,p⟩
 |cF i j l h=>
  intro v g;rw[du]at g;obtain⟨o,e⟩:=a.has i h;have k:=a.ob i _ e;cases g with
  |cF w j l b c q=>
   refine .cF i j l b ?_ ?_
   .rw[k]at c;cases o with
    |dead=>exact .inl e
    |free=>rcases c with h|⟨p,r,t,u,h,f⟩<;>simp[cL]at h
    |row t p r f=>
     rcases c with h|⟨x,y,z,A,h,u⟩
     .simp[cL]at h
     .simp only[cL]at h;injection h with h;injection h with B C D E
      exact .inr ⟨t,p,r,f,e,by omega⟩
    |box p=>rcases c with h|⟨r,t,u,x,h,f⟩<;>simp[cL]at h
    |map p=>rcases c with h|⟨r,t,u,x,h,f⟩<;>simp[cL]at h
    |iter p=>rcases c with h|⟨r,t,u,x,h,f⟩<;>simp[cL]at h
   .intro t r p f;rw[e]at f;injection f with f
    subst f;rw[<-a.l i _ e];exact q t r (hY ρ p) k
 |mp i h=>
  intro v e;rw[du]at e;obtain⟨f,c⟩:=a.has i h;cases e with
  |mp g j h=>
   rw[a.ob i _ c]at h;injection h with h
   cases f<;>simp only[cL]at h<;>cases h;rw[a.l i _ c];exact .mp i _ c
 |it i h=>
  intro v e;rw[du]at e;obtain⟨f,c⟩:=a.has i h;cases e with
  |it g x h=>
   rw[a.ob i _ c]at h;injection h with h
   cases f<;>simp only[cL]at h<;>cases h;rw[a.l i _ c];exact .it i _ c
 |agg h p j=>
  intro v c;rw[du]at c;cases c with
  |agg q k e l g=>
   refine .agg h k (by rw[cN]at e;exact e) l λi m v f o=>?_
   exact j m (agN f) (g i (du ρ m) v (by rw[fP,f];rfl) o)
 |fn f e r g=>
  intro v c;rw[du]at c;cases c with
  |fn t q l p h k=>
   refine .fn f e l p (by rw[cN]at h;exact h) λj m v i o=>?_
   exact g m (agN i) (k j (du ρ m) v (by rw[fP,i];rfl) o)
  |ww p u t l q h k=>
   refine .ww p f e l q (by rw[cN]at h;exact h) λj m v i o=>?_
   exact g m (agN i) (k j (du ρ m) v (by rw[fP,i];rfl) o)
 |c_ h o j=>
  intro v c;rw[du]at c;cases c with
  |c_ p k e g=>
   refine .c_ h k (by rw[cN]at e;exact e) λi m v f l=>?_
   exact j m (agN f) (g i (du ρ m) v (by rw[fP,f];rfl) l)
 |undef=>intro v h;exact .undef v
def fJ.up(d:σ.w=τ.w)(a:∀m v,RM σ m v->RM τ (du ρ m) v)(h:fJ σ b ob):fJ τ b (cL ρ ob):=by
 cases ob with
 |box q=>
  obtain⟨p,T,n,o,f⟩:=h;refine⟨p,T,by rw[<-d];exact n,by rw[cN];exact o,λi m v g j=>?_⟩;rw[fP]at g;obtain⟨k,l,rfl⟩:=agU.1 g;exact⟨a _ _ (f i k v l j).1,(f i k v l j).2⟩
 |row A y z x=>
  obtain⟨s,u,T,w,n,o,p,q,⟨r,t⟩,k⟩:=h;refine⟨s,u,T,w,n,by rw[<-d];exact o,p,q,⟨by rw[cN];exact r,t⟩,λi m v f g=>?_⟩;rw[fP]at f;obtain⟨j,l,rfl⟩:=agU.1 f;exact⟨a _ _ (k i j v l g).1,(k i j v l g).2⟩
 |map s=>
  obtain⟨t,n,o,c,g,j,k,p⟩:=h;refine⟨_,n.map (du ρ),o,c,by rw[<-d];exact g,by simpa using j,λi e u f q=>?_,p⟩;rw[ahh]at f;obtain⟨r,l,rfl⟩:=agU.1 f;exact(k i r u l q).up λv d=>a _ _ d
 |iter x=>
  rcases h with⟨i,s,j,l,f,g⟩|⟨m,T,f,g⟩
  .exact .inl ⟨i,s,j,l,by rw[<-d];exact f,g.imp (λh=>⟨h.1,a _ _ h.2⟩) λh=>⟨a _ _ h.1,h.2⟩⟩
  .exact .inr ⟨m,T,by rw[<-d];exact f,a _ _ g⟩
 |dead=>trivial
 |free=>trivial
def fJ.down(f:σ.w=τ.w)(a:∀m v,MB n m->RM τ (du ρ m) v->RM σ m v)(d:AR n ob)(h:fJ τ b (cL ρ ob)):fJ σ b ob:=by
 cases ob with
 |box r=>
  obtain⟨q,T,l,g,o⟩:=h;refine⟨q,T,by rw[f];exact l,by rw[cN]at g;exact g,λk m v i p=>?_⟩;have j:=o k (du ρ m) v (by rw[fP,i];rfl) p;exact⟨a _ _ (d m (agN i)) j.1,j.2⟩
 |row B z A y=>
  obtain⟨s,w,T,x,l,o,p,q,⟨i,t⟩,u⟩:=h;refine⟨s,w,T,x,l,by rw[f];exact o,p,q,⟨by rw[cN]at i;exact i,t⟩,λk m v g r=>?_⟩;have j:=u k (du ρ m) v (by rw[fP,g];rfl) r;exact⟨a _ _ (d m (agN g)) j.1,j.2⟩
 |map x=>
  obtain⟨y,q,r,c,k,l,o,s⟩:=h;obtain⟨t,g,rfl⟩:=q.Jy;refine⟨t,g,r,c,by rw[f];exact k,by simpa using l,λj e u i w=>?_,s⟩;have p:=o j (e.1,du ρ e.2) u (by rw[ahh,i];rfl) w;exact p.up λv f=>a _ _ (d e (g.mem.1 (agN i))) f
 |iter x=>
  rcases h with⟨j,s,k,l,g,i⟩|⟨m,T,g,i⟩
  .exact .inl ⟨j,s,k,l,by rw[f];exact g,i.imp (λh=>⟨h.1,a _ _ d h.2⟩) λh=>⟨a _ _ d h.1,h.2⟩⟩
  .exact .inr ⟨m,T,by rw[f];exact g,a _ _ d i⟩
 |dead=>trivial
 |free=>trivial
end Go.Mt
namespace Go.Mt
def eS{H:Hp}{i:Nat}{ob:Ob}(h:H[i]?=some ob):i<H.length:=by
 rcases agJ i H.length with a|a
 .exact a
 .simp[agD a]at h
def CT.frame{P:Program}{f:Nat}{ms:List M}{H K:Hp}{post:M->Hp->Prop}(ρ:Nat->Nat)(YN:∀i j,i<H.length->j<H.length->ρ i=ρ j->i=j)
  (d:∀(i:Nat) ob,H[i]?=some ob->K[ρ i]?=some (cL ρ ob)) (hB:HB H.length H) (M7:∀m∈ms,MB H.length m)
  (h:CT P f ms H λr k=>k.length=H.length/\post r k):
  CT P f (hY ρ ms) K λr k=>∃a H',post a H'/\H'.length=H.length/\r=du ρ a/\k.length=K.length/\(∀(i:Nat) ob,H'[i]?=some ob->k[ρ i]?=some (cL ρ ob))/\∀j,(∀i,i<H.length->ρ i≠j)->k[j]?=K[j]?:=by
 intro σ R vs p a NJ;have ac:∀i,i<H.length->ρ i<K.length:=by
  intro i u;have:=d i H[i] (by simp[u]);exact eS this
 let YO:Nat->Nat->Prop:= λb o=>R b o\/∃(j:Nat) (ob:Ob),(∀i,i<H.length->ρ i≠j)/\σ.H[j]?=some ob/\σ.l j=b/\ob.iP o
 let t:Sg:=⟨σ.w,σ.O,λi=>σ.l (ρ i),H⟩
 have Uw:C' ρ H.length t σ:=⟨rfl,λ_ _ h=>h,λi a=>⟨H[i],by simp[t,a]⟩,λi ob c=>by rw[a];exact d i ob c,λi ob a=>rfl⟩;have Ux:∀m v,MB H.length m->RM σ (du ρ m) v->RM t m v:= λm v S G=>RM.down Uw S G
 have Xw:ie t YO:=by
  refine⟨?_,?_,?_,?_,?_⟩
  .intro i ob u;have D:σ.H[ρ i]?=some (cL ρ ob):=by rw[a];exact d i ob u
   exact fJ.down (σ:=t) (τ:=σ) (ρ:=ρ) W Ux (hB ob (agN u)) (p.obj (ρ i) _ D)
  .intro i j u D E I N O w;have J:σ.H[ρ i]?=some (cL ρ u):=by rw[a];exact d i u E
   have Q:σ.H[ρ j]?=some (cL ρ D):=by rw[a];exact d j D I
   exact YN i j (eS E) (eS I) (p.inj _ _ _ _ J Q ((eY ρ u).2 N) ((eY ρ D).2 O) w)
  .intro b o;show σ.O b o↔_;rw[p.own];constructor
   .rintro(u|⟨j,ob,u,I,J⟩)
    .exact .inl (.inl u)
    .by_cases E:∃i,i<H.length/\ρ i=j
     .obtain⟨i,D,rfl⟩:=E;have N:=d i H[i] (by simp[D]);rw[a,N]at u;injection u with u
      subst u;exact .inr ⟨i,H[i],by simp[t,D],I,(nQ ρ _ o).1 J⟩
     .exact .inl (.inr ⟨j,ob,λi a c=>E ⟨i,a,c⟩,u,I,J⟩)
   .rintro((u|⟨j,ob,I,u,D,E⟩)|⟨i,ob,u,D,E⟩)
    .exact .inl u
    .exact .inr ⟨j,ob,u,D,E⟩
    .exact .inr ⟨ρ i,cL ρ ob,by rw[a];exact d i ob u,D,(nQ ρ _ o).2 E⟩
  .intro i ob D I o;have E:σ.H[ρ i]?=some (cL ρ ob):=by rw[a];exact d i ob D
   rintro(u|⟨j,Q,O,u,J,N⟩)
   .exact p.sep _ _ E ((eY ρ ob).2 I) o u
   .exact O i (eS D) (p.inj _ _ _ _ E u ((eY ρ ob).2 I) (Ob.lz N) J.symm)
  .rintro b o (u|⟨j,J,N,D,E,I⟩)
   .exact p.iG b o u
   .rw[<-E];exact(p.obj j J D).lt (Ob.lz I)
 have YP:nC t ms vs:=by
  refine⟨by rw[NJ.1,cN],λi m v u D=>?_⟩;exact Ux m v (M7 m (agN u)) (NJ.2 i (du ρ m) v (by rw[fP,u];rfl) D)
 refine(h t YO vs Xw W YP).mono ?_;rintro e w' ⟨v,r0,c,w,Py,⟨F,N_⟩,L,G,A,x⟩
 classical
 let z:Nat->Option Nat:= λj=>if h:∃i,i<H.length/\ρ i=j then some h.choose else none
 have Y:∀i,i<H.length->z (ρ i)=some i:=by
  intro i u;have D:∃a,a<H.length/\ρ a=ρ i:=⟨i,u,rfl⟩;show(if h:∃a,a<H.length/\ρ a=ρ i then some h.choose else none)=some i;rw[dif_pos D];have:=D.choose_spec;rw[YN _ _ this.1 u this.2]
 have Z:∀j,(∀i,i<H.length->ρ i≠j)->z j=none:=by
  intro j D;show(if h:∃a,a<H.length/\ρ a=j then some h.choose else none)=none;rw[dif_neg];rintro⟨i,u,w⟩;exact D i u w
 have B:∀j,(∃i,i<H.length/\ρ i=j/\z j=some i)\/((∀i,i<H.length->ρ i≠j)/\z j=none):=by
  intro j;by_cases D:∃i,i<H.length/\ρ i=j
  .obtain⟨i,u,rfl⟩:=D;exact .inl ⟨i,u,W,Y i u⟩
  .have u:∀i,i<H.length->ρ i≠j:= λi a c=>D ⟨i,a,c⟩
   exact .inr ⟨u,Z j u⟩
 let l:Hp:=(List.range K.length).map λj=>match z j with
  |some i=>cL ρ (c.H.getD i .dead)
  |none=>K.getD j .dead
 let g:Nat->Nat:= λj=>match z j with
  |some i=>c.l i
  |none=>σ.l j
 have s:∀(i:Nat) ob,c.H[i]?=some ob->l[ρ i]?=some (cL ρ ob):=by
  intro i ob u;have D:i<H.length:=by rw[<-F];exact eS u
  simp[l,ac i D,Y i D,u]
 have y:∀j,(∀i,i<H.length->ρ i≠j)->l[j]?=K[j]?:=by
  intro j D;by_cases u:j<K.length
  .simp[l,u,Z j D]
  .simp[l,u]
 have n:∀(i:Nat),i<H.length->g (ρ i)=c.l i:=by
  intro i u;show(match z (ρ i)with|some i=>c.l i|none=>σ.l (ρ i))=_;rw[Y i u]
 have q:∀j,(∀i,i<H.length->ρ i≠j)->g j=σ.l j:=by
  intro j u;show(match z j with|some i=>c.l i|none=>σ.l j)=_;rw[Z j u]
 let τ:Sg:=⟨c.w,c.O,g,l⟩
 have YQ:Jm ρ H.length c τ:=⟨rfl,λ_ _ h=>h,λi ob a=>by rw[<-F];exact eS a,s,λi ob a=>n i (by rw[<-F];exact eS a)⟩;have QU:∀m v,RM c m v->RM τ (du ρ m) v:= λm v G=>G.up YQ
 have C:∀(j:Nat) ob,l[j]?=some ob->(∃i a,i<H.length/\ρ i=j/\c.H[i]?=some a/\ob=cL ρ a)\/((∀i,i<H.length->ρ i≠j)/\σ.H[j]?=some ob):=by
  intro j ob u;rcases B j with⟨i,D,rfl,_⟩|⟨E,_⟩
  .have I:i<c.H.length:=by rw[F];exact D
   have:=s i c.H[i] (by simp[I]);rw[this]at u;injection u with u
   exact .inl ⟨i,c.H[i],D,W,by simp[I],u.symm⟩
  .rw[y j E]at u;exact .inr ⟨E,by rw[a];exact u⟩
 have T:∀(j:Nat) ob,(∀i,i<H.length->ρ i≠j)->σ.H[j]?=some ob->ob.live->∀(i:Nat) x,H[i]?=some x->x.live->σ.l (ρ i)≠σ.l j:=by
  intro j ob I E O i u D J w;have N:σ.H[ρ i]?=some (cL ρ u):=by rw[a];exact d i u D
  exact I i (eS D) (p.inj _ _ _ _ N E ((eY ρ u).2 J) O w)
 have QY:∀(j:Nat) ob,(∀i,i<H.length->ρ i≠j)->σ.H[j]?=some ob->ob.live->c.w.heap[σ.l j]?=σ.w.heap[σ.l j]?:=by
  intro j ob J u D;refine x.a_ (σ.l j) ((p.obj j ob u).lt D) ?_;intro i E I N;exact T j ob J u D i E I N
 have Ss:db σ τ:=by
  refine⟨A.cell,?_,?_,?_,?_,?_,?_⟩
  .intro j Q u;rcases B j with⟨i,D,rfl,_⟩|⟨E,_⟩
   .have J:=d i H[i] (by simp[D]);rw[a,J]at u;injection u with u
    cases I:H[i]with
    |box U=>
     obtain⟨⟨V,N⟩,O⟩:=A.box i U (by show H[i]?=_;simp[D,I]);exact⟨⟨_,s i _ N⟩,by show g (ρ i)=_;rw[n i D];exact O⟩
    |_=>rw[I]at u;simp[cL]at u
   .exact⟨⟨Q,by show l[j]?=_;rw[y j E,<-a];exact u⟩,q j E⟩
  .intro j Q u;rcases B j with⟨i,D,rfl,_⟩|⟨E,_⟩
   .have J:=d i H[i] (by simp[D]);rw[a,J]at u;injection u with u
    cases I:H[i]with
    |map U=>
     obtain⟨⟨V,N⟩,O⟩:=A.map i U (by show H[i]?=_;simp[D,I]);exact⟨⟨_,s i _ N⟩,by show g (ρ i)=_;rw[n i D];exact O⟩
    |_=>rw[I]at u;simp[cL]at u
   .exact⟨⟨Q,by show l[j]?=_;rw[y j E,<-a];exact u⟩,q j E⟩
  .intro j Q u;rcases B j with⟨i,D,rfl,_⟩|⟨E,_⟩
   .have J:=d i H[i] (by simp[D]);rw[a,J]at u;injection u with u
    cases I:H[i]with
    |iter U=>
     obtain⟨⟨V,N⟩,O⟩:=A.iter i U (by show H[i]?=_;simp[D,I]);exact⟨⟨_,s i _ N⟩,by show g (ρ i)=_;rw[n i D];exact O⟩
    |_=>rw[I]at u;simp[cL]at u
   .exact⟨⟨Q,by show l[j]?=_;rw[y j E,<-a];exact u⟩,q j E⟩
  .intro j u;rcases B j with⟨i,D,rfl,_⟩|⟨I,_⟩
   .have J:=d i H[i] (by simp[D]);rw[a,J]at u;injection u with u
    cases E:H[i]with
    |dead=>
     have N:=A.dead i (by show H[i]?=_;simp[D,E]);exact s i _ N
    |_=>rw[E]at u;simp[cL]at u
   .show l[j]?=_;rw[y j I,<-a];exact u
  .intro j am ec X U u;rcases B j with⟨i,D,rfl,_⟩|⟨E,_⟩
   .have N:=d i H[i] (by simp[D]);rw[a,N]at u;injection u with u
    cases I:H[i]with
    |row a0 e0 v0 V=>
     rw[I]at u;simp only[cL]at u;cases u;rcases A.row i _ _ _ V (by show H[i]?=_;rw[ag3 D,I])with J|⟨a1,v1,c1,J,O,h5⟩
     .exact .inl (s i _ J)
     .refine .inr ⟨a1,v1,_,s i _ J,O,λQ=>?_⟩;obtain⟨y1,y2,y3⟩:=h5 Q;exact⟨by show g (ρ i)=_;rw[n i D];exact y1,by rw[cN,cN];exact y2,y3⟩
    |_=>rw[I]at u;simp[cL]at u
   .refine .inr ⟨am,X,U,by show l[j]?=_;rw[y j E,<-a];exact u,ags _,λ_=>⟨q j E,rfl,λJ N I=>?_⟩⟩;exact⟨J,by rw[<-QY j _ E u trivial]at I;exact I,W⟩
  .intro j E;rcases B j with⟨i,u,rfl,_⟩|⟨D,_⟩
   .obtain⟨ob,I⟩:=A.has i H[i] (by show H[i]?=_;simp[u]);exact⟨_,s i _ I⟩
   .exact⟨_,by show l[j]?=_;rw[y j D,<-a];exact E⟩
 have YR:∀(j:Nat) ob,(∀i,i<H.length->ρ i≠j)->σ.H[j]?=some ob->fJ τ (σ.l j) ob:=by
  intro j ob E u;by_cases D:ob.live
  .exact(p.obj j ob u).fT Ss (λx a=>by show c.w.heap[σ.l j]?=_;rw[QY j ob E u D];exact a)
  .cases ob<;>first|trivial|exact absurd trivial D
 refine⟨v,du ρ r0,τ,w,Py,⟨r0,c.H,N_,F,W,by simp[τ,l],s,y⟩,?_,QU _ _ G,Ss,?_⟩
 .refine⟨?_,?_,?_,?_,?_⟩
  .intro j ob I;rcases C j ob I with⟨i,J,E,rfl,u,rfl⟩|⟨D,u⟩
   .show fJ τ (g (ρ i)) _;rw[n i E];exact fJ.up (σ:=c) (τ:=τ) (ρ:=ρ) W QU (L.obj i J u)
   .show fJ τ (g j) _;rw[q j D];exact YR j ob D u
  .intro E D Q N h1 h2 I J w;have u:g E=g D:=w;rcases C E Q h1 with⟨O,x0,M8,rfl,YS,rfl⟩|⟨U,V⟩
   .rcases C D N h2 with⟨i2,y0,Oq,rfl,Xx,rfl⟩|⟨Od,Rt⟩
    .rw[n O M8,n i2 Oq]at u;rw[L.inj _ _ _ _ YS Xx ((eY ρ _).1 I) ((eY ρ _).1 J) u]
    .exfalso;rw[n O M8,q D Od]at u;rcases x.loc O x0 YS ((eY ρ _).1 I)with X|⟨MA,X,h4,h5⟩
     .have:=(p.obj D N Rt).lt J;have h6:t.w.heap.size=σ.w.heap.size:=rfl;omega
     .exact T D N Od Rt J O MA X h4 (h5.symm.trans u)
   .rcases C D N h2 with⟨X,y0,Oq,rfl,Xx,rfl⟩|⟨Od,Rt⟩
    .exfalso;rw[q E U,n X Oq]at u;rcases x.loc X y0 Xx ((eY ρ _).1 J)with h3|⟨MA,h3,h4,h5⟩
     .have:=(p.obj E Q V).lt I;have h6:t.w.heap.size=σ.w.heap.size:=rfl;omega
     .exact T E Q U V I X MA h3 h4 (h5.symm.trans u.symm)
    .rw[q E U,q D Od]at u;exact p.inj _ _ _ _ V Rt I J u
  .intro b o;show c.O b o↔_;rw[L.own];constructor
   .rintro((u|⟨j,ob,I,u,D,E⟩)|⟨i,ob,u,D,E⟩)
    .exact .inl u
    .exact .inr ⟨j,ob,by show l[j]?=_;rw[y j I,<-a];exact u,by show g j=b;rw[q j I];exact D,E⟩
    .have J:i<H.length:=by rw[<-F];exact eS u
     exact .inr ⟨ρ i,cL ρ ob,s i ob u,by show g (ρ i)=b;rw[n i J];exact D,(nQ ρ _ o).2 E⟩
   .rintro(E|⟨j,ob,E,N,I⟩)
    .exact .inl (.inl E)
    .have D:g j=b:=N;rcases C j ob E with⟨i,O,J,rfl,u,rfl⟩|⟨u,Q⟩
     .rw[n i J]at D;exact .inr ⟨i,O,u,D,(nQ ρ _ o).1 I⟩
     .rw[q j u]at D;exact .inl (.inr ⟨j,ob,u,Q,D,I⟩)
  .intro j ob J D o E;rcases C j ob J with⟨i,N,I,rfl,u,rfl⟩|⟨u,O⟩
   .have Q:R (c.l i) o:=by rw[<-n i I];exact E
    exact L.sep i N u ((eY ρ _).1 D) o (.inl Q)
   .have Q:R (σ.l j) o:=by rw[<-q j u];exact E
    exact p.sep j ob O D o Q
  .exactλb o a=>L.iG b o (.inl a)
 .refine⟨x.os,x.output,x.tape,x.size,?_,?_⟩
  .intro b S E;refine x.a_ b S ?_;intro i ob u D;exact E (ρ i) (cL ρ ob) (by rw[a];exact d i ob u) ((eY ρ _).2 D)
  .intro j ob N I;rcases C j ob N with⟨i,O,E,rfl,u,rfl⟩|⟨u,Q⟩
   .rcases x.loc i O u ((eY ρ _).1 I)with D|⟨J,D,U,V⟩
    .exact .inl (by show _<=g (ρ i);rw[n i E];exact D)
    .exact .inr ⟨cL ρ J,by rw[a];exact d i J D,(eY ρ _).2 U,by show g (ρ i)=_;rw[n i E];exact V⟩
   .exact .inr ⟨ob,Q,I,q j u⟩
variable{n f:Nat}{H:Hp}{P:Program}{ms:List M}{post:M->Hp->Prop}
mutual
def AS(n:Nat):M->Bool
 |.d _=>true
 |.ref i _=>Nat.blt i n
 |.cy i _ _=>Nat.blt i n
 |.cF i _ _=>Nat.blt i n
 |.mp i=>Nat.blt i n
 |.it i=>Nat.blt i n
 |.agg a=>vD n a
 |.fn _ a=>vD n a
 |.c_ a=>vD n a
 |.undef=>true
def vD(n:Nat):List M->Bool
 |[]=>true
 |m::r=>AS n m&&vD n r
end
mutual
def iL:∀{m:M},AS n m=true->MB n m
 |.d x,_=>.d x
 |.ref i a,h=>.ref i a (bL h)
 |.cy i v l,h=>.cy i v l (bL h)
 |.cF i v l,h=>.cF i v l (bL h)
 |.mp i,h=>.mp i (bL h)
 |.it i,h=>.it i (bL h)
 |.agg a,h=>.agg a (oH (by simpa [AS] using h))
 |.fn f a,h=>.fn f a (oH (by simpa [AS] using h))
 |.c_ a,h=>.c_ a (oH (by simpa [AS] using h))
 |.undef,_=>.undef
def oH:∀{l:List M},vD n l=true->∀m∈l,MB n m
 |[],_=>by simp
 |b::r,h=>by
  rw[vD,agZ]at h;intro m a;rcases agu.1 a with e|a
  .rw[e];exact iL h.1
  .exact oH h.2 m a
end
def Kd(n:Nat):Ob->Bool
 |.box a=>vD n a
 |.row _ _ _ a=>vD n a
 |.map a=>a.all λe=>AS n e.2
 |.iter x=>AS n x
 |.dead=>true
 |.free=>true
def Et{ob:Ob}(h:Kd n ob=true):AR n ob:=by
 cases ob with
 |box a=>exact oH h
 |row a e v b=>exact oH h
 |map b=>intro e a;exact iL (ahD.1 h e a)
 |iter x=>exact iL h
 |dead=>trivial
 |free=>trivial
def IB(h:H.all (Kd n)=true):HB n H:= λa b=>Et (ahD.1 h a b)
mutual
def qa:∀m:M,du (λi=>i) m=m
 |.d x=>by rw[du]
 |.ref i a=>by rw[du]
 |.cy i v l=>by rw[du]
 |.cF i v l=>by rw[du]
 |.mp i=>by rw[du]
 |.it i=>by rw[du]
 |.agg a=>by rw[du,lb a]
 |.fn f a=>by rw[du,lb a]
 |.c_ a=>by rw[du,lb a]
 |.undef=>by rw[du]
def lb:∀l:List M,hY (λi=>i) l=l
 |[]=>by rw[hY]
 |m::r=>by rw[hY,qa m,lb r]
end
def uG(ob:Ob):cL (λi=>i) ob=ob:=by
 cases ob with
 |box a=>simp[cL,lb]
 |row a e v b=>simp[cL,lb]
 |map a=>simp[cL,qa]
 |iter x=>simp[cL,qa]
 |dead=>rfl
 |free=>rfl
def CT.suffix(F:Hp)(e:HB H.length H)(g:∀m∈ms,MB H.length m)
  (h:CT P f ms H λr k=>k.length=H.length/\post r k):CT P f ms (H++F) λr k=>∃H',k=H'++F/\H'.length=H.length/\post r H':=by
 have c:=CT.frame (K:=H++F) (λi=>i) (λi j _ _ h=>h) (λi a a=>by rw[uG,agF (eS a)];exact a) e g h;rw[lb]at c;refine c.mono ?_;rintro r k ⟨o,H',j,b,rfl,p,l,n⟩;rw[qa];refine⟨H',?_,b,j⟩;apply ah7;intro i;rcases agJ i H.length with a|a
 .have d:=l i H'[i] (by simp[b,a]);rw[uG]at d;rw[d,agF (by omega)];simp[b,a]
 .rw[n i (λj a a=>by omega),agP a,agP (by omega),b]
def CT.drop(n:Nat)(T:H.length<=n)
  (h:CT P f ms H λr k=>n<=k.length/\MB n r/\HB n (k.take n)/\post r (k.take n)):CT P f ms H post:=by
 intro σ t i S u A;refine(h σ t i S u A).mono ?_;rintro e U ⟨v,s,a,B,C,⟨V,D,E,F⟩,q,G,k,o⟩
 let τ:Sg:=⟨a.w,λb o=>t b o\/∃(i:Nat) (c:Ob),(a.H.take n)[i]?=some c/\a.l i=b/\c.iP o,a.l,a.H.take n⟩
 have j:∀(i:Nat) c,(a.H.take n)[i]?=some c->i<n/\a.H[i]?=some c:=by
  intro l p g;rw[ahQ]at g;split at g
  .exact⟨by assumption,g⟩
  .cases g
 have c:∀(i:Nat) c,i<n->a.H[i]?=some c->(a.H.take n)[i]?=some c:=by
  intro l p g h;rw[ahQ,agK g];exact h
 have w:∀b o,¬a.O b o->¬τ.O b o:=by
  intro b I r g;apply r;rw[q.own];rcases g with g|⟨l,p,g,x,y⟩
  .exact .inl g
  .exact .inr ⟨l,p,(j l p g).2,x,y⟩
 have X:C' (λi=>i) n τ a->True:= λ_=>trivial
 have z:∀m v,MB n m->RM a m v->RM τ m v:=by
  intro m v I
  induction I generalizing v with
  |d x=>intro h;cases h with
   |d h=>exact .d (h.mono λb o v a c=>⟨a,w b o c⟩)
  |ref g l p=>intro h;cases h with
   |ref g l r h=>exact .ref g l r (c g _ p h)
  |cy g p r l=>intro h;cases h with
   |cy g p r x O Q K=>
    refine .cy g p r x O ?_ λi c a h=>K i c a (j g _ h).2
    rcases Q with h|⟨R,L,M,J,h,y⟩
    .exact .inl (c g _ l h)
    .exact .inr ⟨R,L,M,J,c g _ l h,y⟩
  |cF g p r l=>intro h;cases h with
   |cF g p r b M J=>
    refine .cF g p r b ?_ λi c a h=>J i c a (j g _ h).2
    rcases M with h|⟨O,K,L,y,h,x⟩
    .exact .inl (c g _ l h)
    .exact .inr ⟨O,K,L,y,c g _ l h,x⟩
  |mp g l=>intro h;cases h with
   |mp g p h=>exact .mp g p (c g _ l h)
  |it g l=>intro h;cases h with
   |it g x h=>exact .it g x (c g _ l h)
  |agg g x l=>intro h;cases h with
   |agg g i p r h=>exact .agg g i p r λi m v a c=>l m (agN a) v (h i m v a c)
  |fn f g y l=>intro h;cases h with
   |fn f g i r p h=>exact .fn f g i r p λi m v a c=>l m (agN a) v (h i m v a c)
   |ww f x g i r p h=>exact .ww f _ g i r p λi m v a c=>l m (agN a) v (h i m v a c)
  |c_ g r l=>intro h;cases h with
   |c_ g i p h=>exact .c_ g i p λi m v a c=>l m (agN a) v (h i m v a c)
  |undef=>intro h;exact .undef v
 have N:∀(i:Nat) c,(a.H.take n)[i]?=some c->fJ τ (a.l i) c:=by
  intro l g p;have r:=q.obj l g (j l g p).2;have x:=E g (agN p);refine fJ.down (σ:=τ) (τ:=a) (ρ:= λi=>i) (n:=n) W (λm v c a=>z m v c (by rw[qa]at a;exact a)) x (by rw[uG];exact r)
 refine⟨v,s,τ,B,C,F,?_,z s v D G,?_,?_⟩
 .refine⟨N,?_,λb o=>ail,?_,q.iG⟩
  .intro g l x y p r;exact q.inj g l x y (j g x p).2 (j l y r).2
  .intro g l p;exact q.sep g l (j g l p).2
 .have l:∀(i:Nat) a,σ.H[i]?=some a->i<n:=by
   intro p r g;rw[u]at g;have:=eS g;omega
  refine⟨?_,?_,?_,?_,?_,?_,λi a=>let⟨x,g⟩:=k.has i _ a;⟨x,c i _ (l i _ a) g⟩⟩
  .intro b p v g y;have r:=k.cell b p v g y;exact⟨r.1,w b p r.2⟩
  .intro p I r;obtain⟨⟨J,g⟩,y⟩:=k.box p I r;exact⟨⟨J,c p _ (l p _ r) g⟩,y⟩
  .intro p I r;obtain⟨⟨J,g⟩,y⟩:=k.map p I r;exact⟨⟨J,c p _ (l p _ r) g⟩,y⟩
  .intro p I r;obtain⟨⟨J,g⟩,y⟩:=k.iter p I r;exact⟨⟨J,c p _ (l p _ r) g⟩,y⟩
  .intro p r;exact c p _ (l p _ r) (k.dead p r)
  .intro p R L K J r;rcases k.row p R L K J r with g|⟨Q,M,O,g,y,I⟩
   .exact .inl (c p _ (l p _ r) g)
   .exact .inr ⟨Q,M,O,c p _ (l p _ r) g,y,I⟩
 .refine⟨o.os,o.output,o.tape,o.size,o.a_,?_⟩;intro g l p r;exact o.loc g l (j g l p).2 r
def CT.Da{ds:List D}{post:List D->Prop}(h:PT P f ds post):CT P f (ds.map .d) H λr k=>(∃d,r=mi (d.map .d)/\post d)/\k=H:=by
 intro a u l i m g;refine(h a.O a.w l i.Ej ⟨by simpa using g.1,λj d v n o=>?_⟩).mono ?_
 .have:=g.2 j (.d d) v (by simp[n]) o;cases this with
  |d h=>exact h
 .rintro e p ⟨v,r,q,s,c,t⟩;refine⟨v,_,{a with w:=p},q,rfl,⟨⟨r,rfl,s⟩,m⟩,?_,t.C1 (λb o v a c=>⟨a,c⟩),db.ext c,?_⟩
  .exact i.ext c
  .exact bT.ext c
end Go.Mt
namespace Go.Mt
variable{X:cY}{st:St}{a:Act}{w:World}
def Inv.base(h:Inv X st a w):X.s0.H.length<=st.H.length:=by
 obtain⟨d,m,rfl,l⟩:=h;have f:=l.mono;rw[<-l.hH];rcases agJ d.H.length X.s0.H.length with j|j
 .exfalso;have b:X.s0.H[d.H.length]?=some X.s0.H[d.H.length]:=by simp[j]
  have g:d.H[d.H.length]?=none:=by simp
  cases i:X.s0.H[d.H.length]with
  |box n=>rw[i]at b;obtain⟨⟨o,k⟩,_⟩:=f.box _ _ b;rw[g]at k;cases k
  |map n=>rw[i]at b;obtain⟨⟨o,k⟩,_⟩:=f.map _ _ b;rw[g]at k;cases k
  |iter n=>rw[i]at b;obtain⟨⟨o,k⟩,_⟩:=f.iter _ _ b;rw[g]at k;cases k
  |dead=>rw[i]at b;have k:=f.dead _ b;rw[g]at k;cases k
  |free=>rw[i]at b;obtain⟨_,k⟩:=f.free _ b;rw[g]at k;cases k
  |row a e v c=>
   rw[i]at b;rcases f.row _ _ _ _ _ b with k|⟨_,_,_,k,_⟩<;>(rw[g]at k;cases k)
 .exact j
def TC.base{c:Code}{q:Exit->St->Prop}(k:X.s0.H.length<=st.H.length->TC X c st q):TC X c st q:=
 λb w a=>k a.base b w a
def Inv.lc{sl:List (Nat×V)}{bx:List (Nat×List M)}{H:Hp}{j d e:Nat}{cs:List M}(k:H[j]?=some (.row false d e cs))(h:Inv X ⟨sl,bx,H⟩ a w):
  Inv X ⟨sl,bx,H.set j (.row true d e cs)⟩ a w:=by
 obtain⟨f,o,rfl,g⟩:=h;have p:f.H[j]?=some (.row false d e cs):=by rw[g.hH];exact k
 have q:=g.hinv.obj j _ p;obtain⟨i,r,E,F,G,s⟩:=g.jg (j:=j) (b':=f.l j) (ob:=.row false d e cs) (MA:=.row true d e cs) (w':=f.w) k trivial W W W (ags _)
  (λc _ _=>rfl) (.inl W) (λo v d e=>absurd (Or.inl W) d) ⟨rfl,.inr ⟨rfl,rfl,rfl,λd T h=>⟨d,h,rfl⟩⟩⟩ (by
   intro i t u _ _;obtain⟨x,C,T,D,n,y,z,A,B,l⟩:=q;exact⟨x,C,T,D,n,by rw[u];exact y,z,A,B,λi m v a b=>⟨(l i m v a b).1.mono t,(l i m v a b).2⟩⟩)
 exact⟨i,o,r,s⟩
end Go.Mt
namespace Go.Mt
def sy(H:Hp)(rows:List (List D)):M:=match rows with
 |[]=>.d (.sl [])
 |_::r=>.cy H.length 0 (r.length+1)
def jf(H:Hp)(a:Nat)(rows:List (List D)):Hp:=match rows with
 |[]=>H
 |q::r=>H++[.row true a 0 (bf (q::r))]
def AT(H:Hp)(a:Nat)(r1 r2:List (List D)):Hp:=match r1,r2 with
 |[],[]=>H
 |[],q::r=>H++[.row true a 0 (bf (q::r))]
 |q::r,r2=>H++[.row true a 1 (bf (q::r)++bf r2)]
def get_mem{α:Type} :∀{l:List (Nat×α)} {t:Nat} {v:α},get l t=some v->(t,v)∈l
 |[],t,v,h=>by simp[get]at h
 |(k,x)::r,t,v,h=>by
  rw[b_]at h;by_cases e:k=t
  .rw[agK e]at h;injection h with h;subst h;subst e;simp
  .rw[agw e]at h;exact aht _ (get_mem h)
variable{X:cY}{ops:Array Oper}{rest:List Oper}{post:St->Prop}{sl:List (Nat×V)}{bx:List (Nat×List M)}{H:Hp}{d ty:Nat}{pos:String}{af:Array Edge}
def uH{T:Nat}{cs:List M}[a:iS X.P T cs](b:Nat.blt d X.n=true)(k:TL X ops rest ⟨(d,.m (.ref H.length 0))::sl,bx,H++[Ob.box cs]⟩ post):
  TL X ops (⟨some d,.alloc T,ty,pos,af,none⟩::rest) ⟨sl,bx,H⟩ post:=by
 obtain⟨z,e,c⟩:=a.h;subst c;exact LA W W b C7 k
end Go.Mt
namespace Go.Mt.BI
end Go.Mt.BI
namespace Go.Mt
variable{X:cY}{σ:Sg}{Li:Nat->Nat}{st:St}{a:Act}
def Place(H:Hp)(ob:Ob)(n:Nat)(H':Hp):Prop:=(n=H.length/\H'=H++[ob])\/(H[n]?=some .free/\H'=H.set n ob)
def cj.GD(hi:cj X σ Li st a)(ob:Ob)(x:Obj)(j:Nat)(G:st.H[j]?=some .free)
  (H:∀τ:Sg,db σ τ->τ.w={σ.w with heap:=σ.w.heap.push x} ->fJ τ σ.w.heap.size ob):
  ∃τ:Sg,τ.w={σ.w with heap:=σ.w.heap.push x} /\τ.l j=σ.w.heap.size/\τ.H=st.H.set j ob/\db σ τ/\cj X τ Li ⟨st.sl,st.bx,st.H.set j ob⟩ a:=by
 have t:σ.H[j]?=some .free:=by rw[hi.hH];exact G
 have I:j<σ.H.length:=by rcases agJ j σ.H.length with h|h;exact h;simp[agD h]at t
 let b:=σ.w.heap.size
 let u:World:={σ.w with heap:=σ.w.heap.push x}
 let g:Nat->Nat:= λi=>if i=j then b else σ.l i
 let τ:Sg:=⟨u,λc o=>σ.O c o\/(c=b/\ob.iP o),g,σ.H.set j ob⟩
 have m:fS σ.w u:=fS.alloc _ _;have k:∀(i:Nat) o,σ.H[i]?=some o->o≠.free->(σ.H.set j ob)[i]?=some o/\g i=σ.l i:=by
  intro i o h q;have p:i≠j:=by rintro rfl;rw[t]at h;injection h with h;exact q h.symm
  exact⟨by rw[ag8 (ahJ p)];exact h,by simp[g,p]⟩
 have s:(σ.H.set j ob)[j]?=some ob:=by simp[I]
 have n:∀(i:Nat) o,(σ.H.set j ob)[i]?=some o->(σ.H[i]?=some o/\g i=σ.l i/\i≠j)\/(i=j/\o=ob):=by
  intro i o h;by_cases e:i=j
  .subst e;rw[s]at h;injection h with h;exact .inr ⟨W,h.symm⟩
  .rw[ag8 (ahJ e)]at h;exact .inl ⟨h,by simp[g,e],e⟩
 have r:db σ τ:=by
  refine⟨λc o v f d=>⟨m.cell f,?_⟩,λi d h=>⟨⟨d,(k i _ h (by simp)).1⟩,(k i _ h (by simp)).2⟩,λi d h=>⟨⟨d,(k i _ h (by simp)).1⟩,(k i _ h (by simp)).2⟩,λi d h=>⟨⟨d,(k i _ h (by simp)).1⟩,(k i _ h (by simp)).2⟩,λi h=>(k i _ h (by simp)).1,
   λi g d f d h=>.inr ⟨g,f,d,(k i _ h (by simp)).1,ags _,λ_=>⟨(k i _ h (by simp)).2,rfl,λf T d=>⟨f,m.heap d,rfl⟩⟩⟩,λi h=>?_⟩
  .rintro(p|⟨p,_⟩)
   .exact d p
   .have:=kC f;omega
  .by_cases e:i=j
   .subst e;exact⟨_,s⟩
   .exact⟨.free,by show(σ.H.set j ob)[i]?=_;rw[ag8 (ahJ e)];exact h⟩
 have z:∀(i:Nat) o,σ.H[i]?=some o->o.live->σ.l i<b:= λi o f d=>(hi.hinv.obj i o f).lt d
 have J:fJ τ b ob:=H τ r W;have l:g j=b:=by simp[g]
 have L:ie τ (lU X.jj Li st.bx):=by
  refine⟨?_,?_,?_,?_,λc o h=>ahY (hi.hinv.iG c o h) m.size⟩
  .intro i o h;rcases n i o h with⟨f,d,_⟩|⟨rfl,rfl⟩
   .show fJ τ (g i) o;rw[d];exact(hi.hinv.obj i o f).fT r λx d=>m.heap d
   .show fJ τ (g _) o;rw[l];exact J
  .intro i q x y f d w A p;change g i=g q at p;rcases n i x f with⟨B,C,_⟩|⟨rfl,rfl⟩<;>rcases n q y d with⟨D,E,_⟩|⟨rfl,rfl⟩
   .rw[C,E]at p;exact hi.hinv.inj i q x y B D w A p
   .rw[C,l]at p;have:=z i x B w;omega
   .rw[E,l]at p;have:=z q y D A;omega
   .rfl
  .intro c o;show(σ.O c o\/(c=b/\ob.iP o))↔_;rw[hi.hinv.own];constructor
   .rintro((h|⟨i,x,f,d,q⟩)|⟨rfl,d⟩)
    .exact .inl h
    .have p:x≠.free:=by rintro rfl;exact q
     exact .inr ⟨i,x,(k i x f p).1,(by show g i=c;rw[(k i x f p).2];exact d),q⟩
    .exact .inr ⟨j,ob,s,l,d⟩
   .rintro(h|⟨i,x,f,d,p⟩)
    .exact .inl (.inl h)
    .rcases n i x f with⟨q,w,_⟩|⟨rfl,rfl⟩
     .exact .inl (.inr ⟨i,x,q,by rw[<-w];exact d,p⟩)
     .exact .inr ⟨by rw[<-d];exact l,p⟩
  .intro i o f d q p;rcases n i o f with⟨y,A,_⟩|⟨rfl,rfl⟩
   .exact hi.hinv.sep i o y d q (by rw[<-A];exact p)
   .have w:lU X.jj Li st.bx b q:=by rw[<-l];exact p
    have:=hi.hinv.iG _ _ w;exact Nat.lt_irrefl _ this
 have K:bT σ τ:=by
  refine⟨W,W,W,m.size,λc d _=>m.a_ c d,?_⟩;intro i o f d;rcases n i o f with⟨p,q,_⟩|⟨rfl,rfl⟩
  .exact .inr ⟨o,p,d,q⟩
  .exact .inl (by show _<=g _;rw[l];exact ags _)
 have F:τ.H=st.H.set j ob:=by show σ.H.set j ob=_;rw[hi.hH]
 refine⟨τ,W,l,F,r,?_⟩;have:=hi.heap r L (λt d h=>m.a_ _ ((hi.box t d h).lt trivial)) K;rw[F]at this;exact this
def cj.place(hi:cj X σ Li st a){ob:Ob}{n:Nat}{H':Hp}(d:Place st.H ob n H')(x:Obj)
  (b:∀τ:Sg,db σ τ->τ.w={σ.w with heap:=σ.w.heap.push x} ->fJ τ σ.w.heap.size ob):
  ∃τ:Sg,τ.w={σ.w with heap:=σ.w.heap.push x} /\τ.l n=σ.w.heap.size/\τ.H[n]?=some ob/\db σ τ/\cj X τ Li ⟨st.sl,st.bx,H'⟩ a:=by
 rcases d with⟨rfl,rfl⟩|⟨c,rfl⟩
 .obtain⟨τ,e,f,g,h,i⟩:=hi.newObj ob x b;exact⟨τ,e,by rw[<-hi.hH];exact f,by rw[g];simp,h,i⟩
 .obtain⟨τ,e,f,g,i,j⟩:=hi.GD ob x n c b;have k:n<st.H.length:=by rcases agJ n st.H.length with h|h;exact h;simp[agD h]at c
  exact⟨τ,e,f,by rw[g];simp[k],i,j⟩
end Go.Mt
namespace Go.Mt
variable{n T e nb len j Lh k2:Nat}{x y:Operand}{z:D}{rows:List (List D)}{cs LP:List M}{acc:Bool}{σ:Sg}{m my:M}
def Src(P:Program)(σ:Sg)(n:Nat)(v:Value)(cs:List M)(len:Nat):Prop:=
 (∀a:World,(Builtin.lenOf v).run P a=.ok len a)/\cs.length=len*n/\len<=140737488355328/\∃b:Array Value,(∀a:World,a.heap=σ.w.heap->(Builtin.firstCells n len v).run P a=.ok b a)/\b.size=len*n/\
  ∀(k:Nat) (m:M),cs[k]?=some m->∃u,b[k]?=some u/\RM σ m u/\flat u=true
def zE(H:Hp)(n:Nat):M->Option (List M×Nat)
 |.d (.sl rows)=>bif ju n rows then some (bf rows,rows.length)else none
 |.d .oa=>some ([],0)
 |.cy i Lh len=>match H[i]? with
  |some (.row _ a b cs)=>bif (Nat.beq n a&&Nat.beq Lh b)then some (cs,len)else none
  |_=>none
 |_=>none
def IC{P:Program}{x:Nat->Nat->Prop}(hi:ie σ x)(o:0<n){v:Value}(h:RM σ m v)(a:zE σ.H n m=some (cs,len)):Src P σ n v cs len:=by
 unfold zE at a;split at a
 .rename_i i;cases c:ju n i with
  |false=>simp[c]at a
  |true=>
   simp only[c,ag6]at a;injection a with a;injection a with l e
   subst l;subst e;have f:=su c;cases h with
   |d h=>
    obtain⟨p,q,s,t,y⟩:=h.firstCells (P:=P) o f;have g:i.length<=140737488355328:=by
     cases h with
     |slnil E=>simp
     |sl i b E N G O H I g J K L M=>exact g
    refine⟨q,oh f,g,p,s,t,λF m z=>?_⟩;obtain⟨j,k,r,d,rfl,e,A,rfl⟩:=xl o f z;obtain⟨u,B,C,D⟩:=y j k r d e A;exact⟨u,B,.d C,D⟩
 .injection a with a;injection a with e f
  subst e;subst f;cases h with
  |d h=>cases h with
   |oa c g=>
    cases c with
    |none=>exact⟨λ_=>by simp[Builtin.lenOf],by simp,by simp,#[],λ_ _=>by simp[Builtin.firstCells],by simp,by simp⟩
    |some c=>exact⟨λ_=>by simp[Builtin.lenOf],by simp,by simp,#[],λ_ _=>by simp[Builtin.firstCells,loadCells,loadCellsFrom],by simp,by simp⟩
 .rename_i l r y;split at a
  .rename_i N z A i s;cases c:(Nat.beq n z&&Nat.beq r A)with
   |false=>simp[c]at a
   |true=>
    simp only[c,ag6]at a;injection a with a;injection a with g f
    subst g;subst f;simp only[agZ]at c;have q:=agO c.1;have t:=agO c.2;subst q;subst t;cases h with
    |cy l r len O V X B=>
     obtain⟨g,f,Q,R,q,t⟩:=B N n i s;subst g;obtain⟨C,e,S,T,j,D,E,F,⟨G,H⟩,I⟩:=hi.obj l _ s;have J:j=y:=ahs C (by rw[<-G,<-f]);subst J;have K:j*n<=e.size:=by rw[E];exact agR _ F
     refine⟨λ_=>by simp[Builtin.lenOf],f,H,e.extract 0 (j*n),λL M=>?_,by simp;omega,λk m p=>?_⟩
     .simp only[Builtin.firstCells];exact ti (w:=L) (by rw[M];exact D) K
     .have U:k<i.length:=by rcases agJ k i.length with h|h;exact h;simp[agD h]at p
      have u:k<e.size:=by omega
      refine⟨e[k],?_,I k m e[k] p (by simp[u])⟩;rw[ahC,agK (by omega)];simp[u]
  .cases a
 .cases a
def cj.src{X:cY}{st:St}{Li:Nat->Nat}{a:Act}(h:cj X σ Li st a)(c:0<n)(d:st.ev x=some (.m m))(e:zE st.H n m=some (cs,len)):Src X.P σ n (a.eval x) cs len:=by
 have b:=h.ev d;cases b with
 |m b=>exact IC h.hinv c b (by rw[h.hH];exact e)
section ops
variable{X:cY}{st:St}{dst:Option Nat}{ty:Nat}{pos:String}{af:Array Edge}{g:Option (Nat×Bool)}{pn:Nat}{H':Hp}
def AU(acc:Bool)[ht:br X.P T e][r:cc X.P e n][J:jx X.P e nb][K:fC X.P e z](L:Nat.blt 0 n=true)(L_:(bP z).length=n)
  (M:st.ev x=some (.m (.d (.sl [])))) (N:st.ev y=some (.m my)) (d:zE st.H n my=some (LP,k2)) (P:0<k2) (L1:k2*nb<=140737488355328) (Q:Place st.H (.row acc n 0 LP) pn H'):
  cJ X ⟨dst,.call ⟨.builtin .append,#[x,y],#[T,T]⟩,ty,pos,af,g⟩ st (dm (.m (.cy pn 0 k2)) ⟨st.sl,st.bx,H'⟩):=by
 intro h a s l;have t:=bL L;have f:=l.mz M;obtain⟨q,R,i2,S⟩:=o9 r.size J.bytes;obtain⟨A,U,V⟩:=(cz K.zero).run;have Y:A.cells.size=n:=by have:=(eW (O:=a.O) (w:=a.w) V).cells.1;omega
 obtain⟨B,C,Z,o,D,v3,v4⟩:=l.src t N d;have ce:=P;generalize hu:h.eval x=u at f;generalize p:h.eval y=wv at B D;cases f with
 |slnil E=>
  let cap:=k2+a.w.tape a.w.drawn (.appendCap k2 0 e)%(2^63-k2)
  let c:=o++Builtin.zeroCells A.cells (cap-k2)
  have M9:k2<=cap:=aiC _ _;have F:c.size=cap*n:=by
   simp only[c,ai0,jQ,v3,Y];rw[<-ahp];congr 1;omega
  have hd:cj X {a with w:=a.w.drew} s st h:=l.ext (fS.drew _);have PJ:db a {a with w:=a.w.drew} :=db.ext (fS.drew _);obtain⟨i,G,g2,H,g4,g5⟩:=hd.place Q (.cells c e (0,0)) (by
   intro i hm p;refine⟨t,c,e,cap,k2,by rw[p];exact hU _ _,F,M9,⟨C,Z⟩,?_⟩;intro k m v Oz d;obtain⟨u,I,u2,u3⟩:=v4 k m Oz;have Lx:k<o.size:=by rcases agJ k o.size with j|j;exact j;simp[agX j]at I
   have:c[k]?=some u:=by simp only[c];rw[agY Lx];exact I
   rw[this]at d;injection d with d;subst d
   exact⟨(u2.mono PJ).mono hm,u3⟩)
  refine dv.value (u:=.slice (some ⟨a.w.heap.size,0,none⟩) k2 cap) (w':=i.w) ?_ ⟨_,_,i,s,⟨W,W⟩,W,g5,?_⟩
  .have c1:¬k2<=0:=by omega
   have j:¬(((k2:Nat):Int)>IntKind.i64.max/\nb=0):=by
    rintro⟨f,h2⟩;have:((k2:Nat):Int)<=140737488355328:=by omega
    have h3:IntKind.i64.max=9223372036854775807:=by decide
    omega
   have c3:¬(Builtin.nextslicecap k2 0*nb>2^48):=by
    have f:=p_ (fU:=k2) (cap:=0) (by omega);have:=agR nb f;rw[aiI]at this;omega
   have am:(Builtin.firstCells n 0 (.slice E 0 0)).run X.P a.w.drew=.ok #[] a.w.drew:=by
    cases E<;>simp[Builtin.firstCells,loadCells,loadCellsFrom]
   have k:∀w:World,(typeInfo e).run X.P w=.ok q w:= λw=>by simp[typeInfo,program,Sem.run,R]
   have I:∀w:World,(underlying T).run X.P w=.ok (.slice e) w:= λw=>by simp[underlying,program,Sem.run,ht.u]
   simp only[execOp,resolve,invoke,builtin,Builtin.append_];simp only[Sem.run_bind,Sem.run_pure,Result.andThen_ok,aim,agH,ag1,hu,p];simp[I,k,dr r.size];have Sr:(Question.appendCap k2 0 e).cut (a.w.tape a.w.drawn (Question.appendCap k2 0 e))=cap:=rfl;have PB:(Question.appendCap k2 0 e).forced=false:=rfl;have P1:=D a.w.drew W;have ac:¬k2=0:=by omega
   have YW:¬(9223372036854775807<((k2:Nat):Int)/\q.bytes=0):=by
    rintro⟨f,h2⟩;have h3:IntKind.i64.max=9223372036854775807:=by decide
    exact j ⟨by omega,by omega⟩
   have Xy:¬(281474976710656<Builtin.nextslicecap k2 0*q.bytes):=by rw[S];omega
   simp only[B,ac,YW,Xy,PB,Result.andThen_ok,ahL,ahj];rw[am];simp only[Result.andThen_ok];rw[P1];simp only[Result.andThen_ok,U,Sr];simp[newRow,newObj,Sem.run,G,c]
  .have k:=g2;refine .m (.cy _ 0 k2 _ cap (.inr ⟨acc,n,0,LP,H,ags _⟩) ?_);intro No RY Ls j;rw[H]at j;simp at j;obtain⟨I,e2,e3⟩:=j;subst I;subst e2;subst e3;exact⟨by rw[k];rfl,C,c,e,by rw[k,G];exact hU _ _,F⟩
 |sl am b i cap k ac c j E F G H I=>exact absurd W c
def AV[ht:br X.P T e][K:cc X.P e n][hb:jx X.P e nb][hz:fC X.P e z](L_:(bP z).length=n)
  (hx:st.ev x=some (.m (.cy j Lh len))) (hy:st.ev y=some (.m my)) (d:zE st.H n my=some (LP,k2)) (o:st.H[j]?=some (.row acc n Lh cs)) (L1:(len+k2)*nb<=140737488355328) (V:len+k2<=140737488355328):
  cJ X ⟨dst,.call ⟨.builtin .append,#[x,y],#[T,T]⟩,ty,pos,af,g⟩ st (dm (.m (.cy j (Lh+1) (len+k2))) ⟨st.sl,st.bx,st.H.set j (.row acc n (Lh+1) (cs++LP))⟩):=by
 intro H a L p;have q:=p.ev hx;have Y:a.H[j]?=some (.row acc n Lh cs):=by rw[p.hH];exact o
 obtain⟨G,i1,i2,i3⟩:=o9 K.size hb.bytes;obtain⟨Z,NO,NR⟩:=(cz hz.zero).run;have Sq:Z.cells.size=n:=by have:=(eW (O:=a.O) (w:=a.w) NR).cells.1;omega
 obtain⟨t,k,N,h,b,r,A,h5,⟨h6,QV⟩,C⟩:=p.hinv.obj j _ Y;obtain⟨Q,O0,Uz,f,R,v3,v4⟩:=p.src t hy d;generalize hu:H.eval x=u at q;generalize hw:H.eval y=wv at Q R;have R1:∀w:World,(typeInfo e).run X.P w=.ok G w:= λw=>by simp[typeInfo,program,Sem.run,i1]
 have MX:∀w:World,(underlying T).run X.P w=.ok (.slice e) w:= λw=>by simp[underlying,program,Sem.run,ht.u]
 cases q with
 |m q=>cases q with
  |cy j Lh len ad cap ce Mh=>
   obtain⟨e1,D,Se,T1,E,e4⟩:=Mh acc n cs Y;subst e1;rw[r]at E;injection E with E;injection E with e5 e6
   subst e5;subst e6;have M9:h=cap:=ahs t (by rw[<-A,<-e4]);subst M9;have OF:b=len:=ahs t (by rw[<-h6,<-D]);subst OF;have B:(cs++LP).length=(b+k2)*n:=by rw[agq,D,O0,ahp]
   have Sv:∀(k:Nat) (m:M),(cs++LP)[k]?=some m->(k<cs.length/\cs[k]?=some m)\/(cs.length<=k/\∃u,f[k-cs.length]?=some u/\RM a m u/\flat u=true):=by
    intro s m l;rcases agJ s cs.length with i|i
    .rw[agF i]at l;exact .inl ⟨i,l⟩
    .rw[agP i]at l;obtain⟨u,I,J,S⟩:=v4 _ m l;exact .inr ⟨i,u,I,J,S⟩
   have YX:∀v∈f.toList,flat v=true:=by
    intro v d;obtain⟨i,s⟩:=aiA.1 d;have NA:i<f.size:=by rcases agJ i f.size with l|l;exact l;simp[agX l]at s
    have S:i<LP.length:=by omega
    obtain⟨u,I,U,J⟩:=v4 i LP[i] (by simp[S]);have:f[i]?=some v:=by simpa using s
    rw[I]at this;injection this with this;subst this;exact J
   by_cases F:b+k2<=h
   .
    have Wz:b*n+f.toList.length<=k.size:=by
     rw[A];simp[v3];rw[<-ahp];exact agR _ F
    have Lt:=lW (P:=X.P) (off:=b*n) f.toList 0 a.w k r (by simpa using Wz) YX;simp only[ahW]at Lt;have S:=fD r;have Ld:∀a,(ey k (b*n) f.toList)[a]?=if b*n<=a/\a<b*n+f.toList.length then f.toList[a-b*n]? else k[a]?:= λk=>lE _ _ _ _ Wz
    obtain⟨J,g1,g2,g3,g4,g5⟩:=p.jg (j:=j) (b':=a.l j) (ob:=.row acc n Lh cs) (MA:=.row acc n (Lh+1) (cs++LP)) (w':=cW a.w (a.l j) (.cells (ey k (b*n) f.toList) N (0,0))) o trivial W W W (by rw[iJ];exact ags _)
     (λc _ a=>hM a) (.inl W) (by
      intro ac v U s;have am:acc=true/\ac<cs.length:=by
       simp only[Ob.iP,ajv,Nat.not_le]at U;refine⟨?_,U.2⟩;cases acc
       .exact absurd W U.1
       .rfl
      refine⟨?_,λ_ i=>?_⟩
      .simp only[d_,World.cell?,fE S];simp only[d_,World.cell?,r]at s;simp at s⊢;rw[Ld,agw (by omega)];exact s
      .simp only[Ob.iP]at i;rcases i with i|i
       .rw[am.1]at i;cases i
       .rw[B,ahp]at i;omega) ⟨rfl,.inl (by omega)⟩ (by
      intro J hm Py _ _;refine⟨t,_,N,h,b+k2,by rw[Py];exact fE S,by rw[fZ];exact A,F,⟨B,V⟩,?_⟩;intro l m v Oz d;rw[Ld]at d;rcases Sv l m Oz with⟨hk,s⟩|⟨hk,u,u1,u2,u3⟩
      .rw[agw (by omega)]at d;exact⟨(C l m v s d).1.mono hm,(C l m v s d).2⟩
      .have NA:l-cs.length<f.size:=by rcases agJ (l-cs.length) f.size with I|I;exact I;simp[agX I]at u1
       rw[agK (by simp;omega)]at d;have:f.toList[l-b*n]?=some u:=by rw[<-D];simpa using u1
       rw[this]at d;injection d with d;subst d
       exact⟨u2.mono hm,u3⟩)
    refine dv.value (u:=.slice (some ⟨a.l j,0,none⟩) (b+k2) h) (w':=J.w) ?_ ⟨_,_,J,L,⟨W,W⟩,W,g5,?_⟩
    .simp only[execOp,resolve,invoke,builtin,Builtin.append_];simp only[Sem.run_bind,Sem.run_pure,Result.andThen_ok,aim,agH,ag1,hu,hw];simp[MX,R1,dr K.size,Q,F,R a.w W,j_,Lt,g1]
    .refine .m (.cy j (Lh+1) (b+k2) _ h (.inr ⟨acc,n,Lh+1,cs++LP,by rw[g3];exact th o,ags _⟩) ?_);intro No RY ac l;rw[g3]at l;have s:j<st.H.length:=by rcases agJ j st.H.length with i|i;exact i;simp[agD i]at o
     simp[s]at l;obtain⟨I,U,f3⟩:=l;subst I;subst U;subst f3;exact⟨by rw[g2],B,_,N,by rw[g2,g1];exact fE S,by rw[fZ];exact A⟩
   .
    let fU:=b+k2
    let cap:=fU+a.w.tape a.w.drawn (.appendCap fU h e)%(2^63-fU)
    let i:=k.extract 0 (b*n)++f++Builtin.zeroCells Z.cells (cap-fU)
    have Xz:fU<=cap:=aiC _ _;have QR:b*n<=k.size:=by rw[A];exact agR _ h5
    have WA:(k.extract 0 (b*n)).size=b*n:=by simp;omega
    have UA:i.size=cap*n:=by
     simp only[i,ai0,jQ,v3,Sq,WA];rw[<-ahp,<-ahp];congr 1;omega
    have hd:cj X {a with w:=a.w.drew} L st H:=p.ext (fS.drew _);have PJ:db a {a with w:=a.w.drew} :=db.ext (fS.drew _)
    let w':World:={a.w.drew with heap:=a.w.drew.heap.push (.cells i e (0,0))}
    have U:fS a.w.drew w':=fS.alloc _ _;have RX:∀a,a<cs.length->i[a]?=k[a]?:=by
     intro l s;simp only[i];rw[Array.append_assoc,agY (by omega),ahC,agK (by omega)];simp
    have ac:∀k,cs.length<=k->k-cs.length<f.size->i[k]?=f[k-cs.length]?:=by
     intro l s I;simp only[i];rw[Array.append_assoc,aho (by omega),agY (by omega),WA,D]
    obtain⟨J,g1,g2,g3,g4,g5⟩:=hd.jg (j:=j) (b':=a.w.heap.size) (ob:=.row acc n Lh cs) (MA:=.row acc n (Lh+1) (cs++LP)) (w':=w') o trivial W W W U.size
     (λc a _=>U.a_ c a) (.inr (ags _)) (by
      intro am v ho s;exact⟨U.cell s,λb=>by have:=fD r;exact absurd b (by show ¬a.w.heap.size=a.l j;omega)⟩) ⟨rfl,.inl (by omega)⟩ (by
      intro J hm P2 _ _;refine⟨t,i,e,cap,fU,by rw[P2];exact hU _ _,UA,Xz,⟨B,V⟩,?_⟩;intro l m v Oz d;rcases Sv l m Oz with⟨S,s⟩|⟨S,u,u1,u2,u3⟩
      .rw[RX l S]at d;exact⟨((C l m v s d).1.mono PJ).mono hm,(C l m v s d).2⟩
      .have NA:l-cs.length<f.size:=by rcases agJ (l-cs.length) f.size with I|I;exact I;simp[agX I]at u1
       rw[ac l S NA,u1]at d;injection d with d;subst d
       exact⟨(u2.mono PJ).mono hm,u3⟩)
    refine dv.value (u:=.slice (some ⟨a.w.heap.size,0,none⟩) fU cap) (w':=J.w) ?_ ⟨_,_,J,L,⟨W,W⟩,W,g5,?_⟩
    .have YW:¬(9223372036854775807<(((b+k2:Nat):Nat):Int)/\G.bytes=0):=by rintro⟨l,_⟩;omega
     have s:¬(281474976710656<Builtin.nextslicecap (b+k2) h*G.bytes):=by
      rw[i3];have q:=p_ (fU:=b+k2) (cap:=h) (by omega);have:=agR nb q;rw[aiI]at this;omega
     have I:(Question.appendCap (b+k2) h e).cut (a.w.tape a.w.drawn (Question.appendCap (b+k2) h e))=cap:=rfl;have S:(Question.appendCap (b+k2) h e).forced=false:=rfl;have P1:=R a.w.drew W;have am:(Builtin.firstCells n b (.slice (some ⟨a.l j,0,none⟩) b h)).run X.P a.w.drew=.ok (k.extract 0 (b*n)) a.w.drew:=by
      simp only[Builtin.firstCells];exact ti (w:=a.w.drew) r QR
     simp only[execOp,resolve,invoke,builtin,Builtin.append_];simp only[Sem.run_bind,Sem.run_pure,Result.andThen_ok,aim,agH,ag1,hu,hw];simp[MX,R1,dr K.size];simp only[Q,Result.andThen_ok];rw[agw F];have YY:¬(9223372036854775807<(b:Int)+(k2:Int)/\G.bytes=0):=by rintro⟨l,_⟩;omega
     simp only[YY,s,S,ahL,ahj];rw[am];simp only[Result.andThen_ok];rw[P1];simp only[Result.andThen_ok,NO,I];simp[newRow,newObj,Sem.run,g1,i,w',fU];rfl
    .refine .m (.cy j (Lh+1) fU _ cap (.inr ⟨acc,n,Lh+1,cs++LP,by rw[g3];exact th o,ags _⟩) ?_);intro No RY am s;rw[g3]at s;have I:j<st.H.length:=by rcases agJ j st.H.length with l|l;exact l;simp[agD l]at o
     simp[I]at s;obtain⟨S,f2,f3⟩:=s;subst S;subst f2;subst f3;exact⟨by rw[g2],B,i,e,by rw[g2,g1];exact hU _ _,UA⟩
end ops
def Eu{H:Hp} :∀{rows:List (List D)},(∀r∈rows,r.length=n)->zE H n (.d (.sl rows))=some (bf rows,rows.length):=by
 intro rows h;have:ju n rows=true:=by
  induction rows with
  |nil=>rfl
  |cons r b a=>simp only[ju,agZ];exact⟨by rw[h r ahn];exact ajs n,a λq a=>h q (aht _ a)⟩
 show(bif ju n rows then some (bf rows,rows.length)else none)=_;rw[this];rfl
section ops
variable{X:cY}{st:St}{dst:Option Nat}{ty:Nat}{pos:String}{af:Array Edge}{g:Option (Nat×Bool)}
def vE(acc:Bool)[ht:br X.P T e][c:cc X.P e n][d:jx X.P e nb][f:fC X.P e z](a:Nat.blt 0 n=true)(b:(bP z).length=n)
  (c:st.ev x=some (.m (.d (.sl [])))) (d:st.ev y=some (.m (.d (.sl rows)))) (f:rows≠[]) (h:∀r∈rows,r.length=n) (i:rows.length*nb<=140737488355328):
  cJ X ⟨dst,.call ⟨.builtin .append,#[x,y],#[T,T]⟩,ty,pos,af,g⟩ st (dm (.m (.cy st.H.length 0 rows.length)) ⟨st.sl,st.bx,st.H++[.row acc n 0 (bf rows)]⟩):=
 AU acc a b c d (Eu h) (List.length_pos_iff.2 f) i (.inl ⟨rfl,rfl⟩)
def vF[ht:br X.P T e][b:cc X.P e n][c:jx X.P e nb][d:fC X.P e z](a:(bP z).length=n)
  (b:st.ev x=some (.m (.cy j Lh len))) (c:st.ev y=some (.m (.d (.sl rows)))) (d:st.H[j]?=some (.row acc n Lh cs)) (f:∀r∈rows,r.length=n) (h:(len+rows.length)*nb<=140737488355328) (i:len+rows.length<=140737488355328):
  cJ X ⟨dst,.call ⟨.builtin .append,#[x,y],#[T,T]⟩,ty,pos,af,g⟩ st (dm (.m (.cy j (Lh+1) (len+rows.length))) ⟨st.sl,st.bx,st.H.set j (.row acc n (Lh+1) (cs++bf rows))⟩):=
 AV a b c (Eu f) d h i
end ops
section rules
variable{X:cY}{ops:Array Oper}{rest:List Oper}{post:St->Prop}{Lw:List Ef->St->Prop}{sl:List (Nat×V)}{bx:List (Nat×List M)}{H:Hp}{d ty:Nat}{pos:String}{af:Array Edge}
def fl(acc:Bool)[ht:br X.P T e][l:cc X.P e n][m:jx X.P e nb][o:fC X.P e z](a:Nat.blt d X.n=true)(b:bj sl x=some (.m (.d (.sl []))))(c:bj sl y=some (.m (.d (.sl rows))))(f:Nat.blt 0 n=true)(g:(bP z).length=n)(h:rows≠[])(i:∀r∈rows,r.length=n)(j:rows.length*nb<=140737488355328)(k:TL X ops rest ⟨(d,(.m (.cy H.length 0 rows.length)))::sl,bx,H++[Ob.row acc n 0 (bf rows)]⟩ post):TL X ops (⟨some d,.call ⟨.builtin .append,#[x,y],#[T,T]⟩,ty,pos,af,none⟩::rest) ⟨sl,bx,H⟩ post:=
 LA W W a (vE acc f g b c h i j) k
def pc(acc:Bool)[ht:br X.P T e][b:cc X.P e n][o:jx X.P e nb][p:fC X.P e z](a:Nat.blt d X.n=true)(c:bj sl x=some (.m (.d (.sl []))))(f:bj sl y=some (.m (.d (.sl rows))))(h:Nat.blt 0 n=true)(i:(bP z).length=n)(j:rows≠[])(l:∀r∈rows,r.length=n)(m:rows.length*nb<=140737488355328)(k:TF X ops rest ⟨(d,(.m (.cy H.length 0 rows.length)))::sl,bx,H++[Ob.row acc n 0 (bf rows)]⟩ λa b=>Lw (⟨some d,(.m (.cy H.length 0 rows.length)),[],[],none,true,some (H++[Ob.row acc n 0 (bf rows)])⟩::a) b):TF X ops (⟨some d,.call ⟨.builtin .append,#[x,y],#[T,T]⟩,ty,pos,af,none⟩::rest) ⟨sl,bx,H⟩ Lw:=
 TF.cons (e:=⟨some d,(.m (.cy H.length 0 rows.length)),[],[],none,true,some (H++[Ob.row acc n 0 (bf rows)])⟩) (je.xn W W (bL a) λo a=>(by have b:=a.H W;simp only at b;have:=(vE (X:=X) (st:=o) (dst:=some d) (ty:=ty) (pos:=pos) (af:=af) (g:=none) (T:=T) acc h i ((a.ev (x:=x) (by simp[Op.operands,Call.operands])).trans c) ((a.ev (x:=y) (by simp[Op.operands,Call.operands])).trans f) j l m);rw[b]at this;exact this)) W k
def fm[ht:br X.P T e][m:cc X.P e n][o:jx X.P e nb][p:fC X.P e z](a:Nat.blt d X.n=true)(b:bj sl x=some (.m (.cy j Lh len)))(c:bj sl y=some (.m (.d (.sl rows))))(f:H[j]?=some (.row acc n Lh cs))(g:(bP z).length=n)(h:∀r∈rows,r.length=n)(i:(len+rows.length)*nb<=140737488355328)(l:len+rows.length<=140737488355328)(k:TL X ops rest ⟨(d,(.m (.cy j (Lh+1) (len+rows.length))))::sl,bx,H.set j (Ob.row acc n (Lh+1) (cs++bf rows))⟩ post):TL X ops (⟨some d,.call ⟨.builtin .append,#[x,y],#[T,T]⟩,ty,pos,af,none⟩::rest) ⟨sl,bx,H⟩ post:=
 LA W W a (vF g b c f h i l) k
def m_[ht:br X.P T e][b:cc X.P e n][p:jx X.P e nb][q:fC X.P e z](a:Nat.blt d X.n=true)(c:bj sl x=some (.m (.cy j Lh len)))(f:bj sl y=some (.m (.d (.sl rows))))(h:H[j]?=some (.row acc n Lh cs))(i:(bP z).length=n)(l:∀r∈rows,r.length=n)(m:(len+rows.length)*nb<=140737488355328)(o:len+rows.length<=140737488355328)(k:TF X ops rest ⟨(d,(.m (.cy j (Lh+1) (len+rows.length))))::sl,bx,H.set j (Ob.row acc n (Lh+1) (cs++bf rows))⟩ λa b=>Lw (⟨some d,(.m (.cy j (Lh+1) (len+rows.length))),[],[],none,true,some (H.set j (Ob.row acc n (Lh+1) (cs++bf rows)))⟩::a) b):TF X ops (⟨some d,.call ⟨.builtin .append,#[x,y],#[T,T]⟩,ty,pos,af,none⟩::rest) ⟨sl,bx,H⟩ Lw:=
 TF.cons (e:=⟨some d,(.m (.cy j (Lh+1) (len+rows.length))),[],[],none,true,some (H.set j (Ob.row acc n (Lh+1) (cs++bf rows)))⟩) (je.xn W W (bL a) λp a=>(by have b:=a.H W;simp only at b;have:=(vF (X:=X) (st:=p) (dst:=some d) (ty:=ty) (pos:=pos) (af:=af) (g:=none) (T:=T) i ((a.ev (x:=x) (by simp[Op.operands,Call.operands])).trans c) ((a.ev (x:=y) (by simp[Op.operands,Call.operands])).trans f) (by rw[a.H W];exact h) l m o);rw[b]at this;exact this)) W k
end rules
section walk
variable{X:cY}{ops:Array Oper}{rest:List Oper}{post:St->Prop}{sl:List (Nat×V)}{bx:List (Nat×List M)}{H:Hp}{d:Nat}{ty:Nat}{pos:String}{af:Array Edge}
def Ev[ht:br X.P T e][j:cc X.P e n][l:jx X.P e nb][m:fC X.P e z](a:Nat.blt d X.n=true)(b:bj sl x=some (.m (.d (.sl []))))(c:bj sl y=some (.m (.d (.sl rows))))(f:Nat.blt 0 n=true)(g:(bP z).length=n)
  (h:∀r∈rows,r.length=n) (i:rows.length*nb<=140737488355328) (k:TL X ops rest ⟨(d,.m (sy H rows))::sl,bx,jf H n rows⟩ post):
  TL X ops (⟨some d,.call ⟨.builtin .append,#[x,y],#[T,T]⟩,ty,pos,af,none⟩::rest) ⟨sl,bx,H⟩ post:=by
 cases rows with
 |nil=>exact gO a b c k
 |cons q r=>exact fl true a b c f g (by simp) h i k
def ID{r1 r2:List (List D)}[ht:br X.P T e][A:cc X.P e n][B:jx X.P e nb][C:fC X.P e z](c:Nat.blt d X.n=true)(a:bj sl x=some (.m (sy H r1)))(f:bj sl y=some (.m (.d (.sl r2))))(o:Nat.blt 0 n=true)(g:(bP z).length=n)
  (p:∀r∈r1,r.length=n) (b:∀r∈r2,r.length=n) (j:(r1.length+r2.length)*nb<=140737488355328) (s:r1.length+r2.length<=140737488355328) (k:TL X ops rest ⟨(d,.m (.d (.sl (r1++r2))))::sl,bx,AT H n r1 r2⟩ post):
  TL X ops (⟨some d,.call ⟨.builtin .append,#[x,y],#[T,T]⟩,ty,pos,af,none⟩::rest) ⟨sl,bx,jf H n r1⟩ post:=by
 have l:∀(u v:V) (a:Hp),TL X ops rest ⟨(d,v)::sl,bx,a⟩ post->TL X ops rest ⟨(d,v)::(d,u)::sl,bx,a⟩ post:=by
  intro u v r h m w q;refine h m w (q.gN ?_ (λ_=>rfl));intro t x a;rw[b_]at a⊢;by_cases e:d=t
  .rw[agK e]at a⊢;exact a
  .rw[agw e]at a⊢;rw[b_,agw e];exact a
 cases r1 with
 |nil=>
  cases r2 with
  |nil=>exact gO c a f k
  |cons q r=>
   refine fl true c a f o g (by simp) b (by simpa using j) ?_;refine TL.bg d (by rw[b_,agK W];rfl) (Acc.view (n:=n) (i:=H.length) (rs:=q::r) (.inr ⟨by simp,0,rfl,by simp[jf]⟩) b) ?_;exact l _ _ _ k
 |cons q r=>
  refine fm (acc:=true) (cs:=bf (q::r)) c a f (by simp[jf]) g b j s ?_;have e:(jf H n (q::r)).set H.length (.row true n (0+1) (bf (q::r)++bf r2))=AT H n (q::r) r2:=by simp[jf,AT]
  rw[e];refine TL.bg d (by rw[b_,agK W]) (Acc.view (n:=n) (i:=H.length) (rs:=q::r++r2) (.inr ⟨by simp,1,by simp;omega,by simp[AT,bf]⟩) (by
   intro m t;rcases agG.1 t with h|h
   .exact p m h
   .exact b m h)) ?_
  exact l _ _ _ k
end walk
end Go.Mt
namespace Go.Mt
namespace BI
end BI
end Go.Mt
