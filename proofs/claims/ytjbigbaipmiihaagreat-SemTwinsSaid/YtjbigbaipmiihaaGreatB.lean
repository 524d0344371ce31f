/- A part of the proof of the last text of this claim, without conditions. -/
import Derived.Test.YtjbigbaipmiihaaGreatA
set_option maxRecDepth 4000
set_option linter.all false
namespace Go.Mt
section rules
variable{X:bD}{ops:Array Oper}{rest:List Oper}{post:List Ef->St->Prop}{sl:List (Nat×V)}{bx:List (Nat×List M)}{H:Hp}{d ty:Nat}{pos:String}{af:Array Edge}
theorem Ag.ev{o:Oper}{e:Ef}{st b:St}(h:Ag ops o e st b){x:Operand}(c:x∈o.op.operands.toList):b.ev x=st.ev x:=by
 cases x with
 |tmp a=>
  refine h.sl a ?_;unfold Oper.looksAt;refine aql.2 (.inl ?_);rw[List.mem_filterMap];exact⟨.tmp a,c,rfl⟩
 |_=>rfl
theorem cE.FU{o:Oper}{st a:St}{v:V}(e:o.guard=none)(f:o.dst=some d)(g:d<X.n)(h:cE X o st (c_ v a)):Hu X ops o st ⟨(d,v)::a.sl,a.bx,a.H⟩:=by
 rintro b q ⟨c,i,rfl,j⟩ r s k;rw[aqy (by simp[Region.wanted,e])];refine(h b c i j).wp ?_;rintro t u ⟨w,x,l,m,⟨rfl,rfl⟩,rfl,n,p⟩;rw[f];exact k _ _ ⟨l,m,rfl,n.set g p⟩
theorem cE.Hv{o:Oper}{st a:St}{v:V}(d:o.guard=none)(e:o.dst=none)(h:cE X o st (c_ v a)):Hu X ops o st a:=by
 rintro b m ⟨c,f,rfl,g⟩ n p i;rw[aqy (by simp[Region.wanted,d])];refine(h b c f g).wp ?_;rintro q r ⟨s,t,j,k,⟨rfl,rfl⟩,rfl,l,u⟩;rw[e];exact i _ _ ⟨j,k,rfl,l⟩
theorem M2{o:Oper}{v:V}{b:List Nat}{rh:Bool}{st:St}(c:o.guard=none)(e:o.dst=some d)(f:d<X.n)
  (h: ∀a,Ag ops o ⟨some d,v,b,[],none,rh,none⟩ st a->cE X o a (c_ v a)):kT X ops o ⟨some d,v,b,[],none,rh,none⟩ st:=
 λa g=>(h a g).FU c e f
theorem kT.writes{o:Oper}{v:V}{c:List Nat}{b:List (Nat×List M)}{st:St}(d:o.guard=none)(e:o.dst=none)
  (h: ∀a,Ag ops o ⟨none,v,c,b,none,false,none⟩ st a->cE X o a (c_ v ⟨a.sl,b++a.bx,a.H⟩)):kT X ops o ⟨none,v,c,b,none,false,none⟩ st:=
 λa f=>(h a f).Hv d e
theorem aU{dst:Option Nat}{op:Op}{j g:Nat}{w:Bool}{post:List Ef->St->Prop}(h:(ops[j]?).bind (·.dst)=some g)(r:get sl g=some (.m (.d (.bool w))))
  (k:TF X ops (⟨dst,op,ty,pos,af,none⟩::rest) ⟨sl,bx,H⟩ post):TF X ops (⟨dst,op,ty,pos,af,some (j,w)⟩::rest) ⟨sl,bx,H⟩ post:=by
 obtain⟨i,s,t,u⟩:=k;cases t with
 |cons m v x=>
  rename_i e i;refine⟨e::i,s,.cons ?_ v x,u⟩;intro b a;have y:get b.sl g=some (.m (.d (.bool w))):=by
   rw[<-r];refine a.sl g ?_;unfold Oper.looksAt;refine aql.2 (.inr ?_);simp[h]
  have z:Ag ops ⟨dst,op,ty,pos,af,none⟩ e ⟨sl,bx,H⟩ b:=
   ⟨λn d=>a.sl n (by
    unfold Oper.looksAt at d⊢;simp only[aqC]at d;exact aql.2 (.inl d)),a.bx,a.H,a.nw⟩
  have A:=m b z;rintro c B ⟨o,C,D,l⟩ p q E;have f:=A c B ⟨o,C,D,l⟩ p q E;have F:jq ops ⟨dst,op,ty,pos,af,some (j,w)⟩ b=some true:=by simp[jq,h,y]
  rw[aqy (l.wanted F)];rw[aqy (by simp[Region.wanted])]at f;have G:execOp c.eval ⟨dst,op,ty,pos,af,some (j,w)⟩=execOp c.eval ⟨dst,op,ty,pos,af,none⟩:=by cases op<;>rfl
  unfold Oper.wp at f⊢;rw[G];exact f
theorem bg{op:Op}{j g:Nat}{w b:Bool}{post:List Ef->St->Prop}(l:Nat.blt d X.n=true)(a:(ops[j]?).bind (·.dst)=some g)(n:get sl g=some (.m (.d (.bool b))))(o:(b==w)=false)
  (k:TF X ops rest ⟨(d,.m (.cZ []))::sl,bx,H⟩ λp q=>post (⟨some d,.m (.cZ []),[],[],none,false,none⟩::p) q):TF X ops (⟨some d,op,ty,pos,af,some (j,w)⟩::rest) ⟨sl,bx,H⟩ post:=by
 refine TF.cons (e:=⟨some d,.m (.cZ []),[],[],none,false,none⟩) ?_ W k;intro c r;have s:get c.sl g=some (.m (.d (.bool b))):=by
  rw[<-n];refine r.sl g ?_;unfold Oper.looksAt;refine aql.2 (.inr ?_);simp[a]
 rintro z D ⟨h,t,u,f⟩ A B x;have y:jq ops ⟨some d,op,ty,pos,af,some (j,w)⟩ c=some false:=by simp[jq,a,s,o]
 rw[aqo (by rw[f.wanted y];simp)];exact x _ _ ⟨h,t,u,f.set (bL l) (.m (.cZ [] #[] W (by intro C m v i;simp at i)))⟩
theorem bh{op:Op}{j g:Nat}{w:Bool}{post:List Ef->St->Prop}(i:Nat.blt d X.n=true)(a:(ops[j]?).bind (·.dst)=some g)(l:get sl g=some (.m (.cZ [])))
  (k:TF X ops rest ⟨(d,.m (.cZ []))::sl,bx,H⟩ λn o=>post (⟨some d,.m (.cZ []),[],[],none,false,none⟩::n) o):TF X ops (⟨some d,op,ty,pos,af,some (j,w)⟩::rest) ⟨sl,bx,H⟩ post:=by
 refine TF.cons (e:=⟨some d,.m (.cZ []),[],[],none,false,none⟩) ?_ W k;intro b p;have q:get b.sl g=some (.m (.cZ [])):=by
  rw[<-l];refine p.sl g ?_;unfold Oper.looksAt;refine aql.2 (.inr ?_);simp[a]
 rintro x B ⟨f,r,s,c⟩ y z t;have u:jq ops ⟨some d,op,ty,pos,af,some (j,w)⟩ b=some false:=by simp[jq,a,q]
 rw[aqo (by rw[c.wanted u];simp)];exact t _ _ ⟨f,r,s,c.set (bL i) (.m (.cZ [] #[] W (by intro A m v h;simp at h)))⟩
theorem lX{op:BinOp}{c f:Nat}{x y:Operand}{a:IntKind}{m n:Int}{r:D}(g:Nat.blt d X.n=true)(h:bj sl x=some (.m (.d (.int a m))))(i:bj sl y=some (.m (.d (.int a n))))(j:lB op a m n=some r)(k:TF X ops rest ⟨(d,(.m (.d r)))::sl,bx,H⟩ λl o=>post (⟨some d,(.m (.d r)),[],[],none,false,none⟩::l) o):
  TF X ops (⟨some d,.binOp op c x y f,ty,pos,af,none⟩::rest) ⟨sl,bx,H⟩ post:=
 TF.cons (e:=⟨some d,(.m (.d r)),[],[],none,false,none⟩) (M2 W W (bL g) λp b=>ul ((b.ev (x:=x) (by simp[Op.operands,Call.operands])).trans h) ((b.ev (x:=y) (by simp[Op.operands,Call.operands])).trans i) j) W k
theorem pZ{b c:Nat}{x y:Operand}{m n:Int}(f:Nat.blt d X.n=true)(g:bj sl x=some (.m (.d (.int .i64 m))))(h:bj sl y=some (.m (.d (.int .i64 n))))(i: -9223372036854775808<=m+n/\m+n<=9223372036854775807)(k:TF X ops rest ⟨(d,(.m (.d (.int .i64 (m+n)))))::sl,bx,H⟩ λj l=>post (⟨some d,(.m (.d (.int .i64 (m+n)))),[],[],none,false,none⟩::j) l):
  TF X ops (⟨some d,.binOp .add b x y c,ty,pos,af,none⟩::rest) ⟨sl,bx,H⟩ post:=
 TF.cons (e:=⟨some d,(.m (.d (.int .i64 (m+n)))),[],[],none,false,none⟩) (M2 W W (bL f) λo a=>ul ((a.ev (x:=x) (by simp[Op.operands,Call.operands])).trans g) ((a.ev (x:=y) (by simp[Op.operands,Call.operands])).trans h) (by simp[lB,show IntKind.i64.wrap (m+n)=m+n from IntWalk.i64_in _ i])) W k
theorem fO{b c:Nat}{x y:Operand}{m n:Int}(f:Nat.blt d X.n=true)(g:bj sl x=some (.m (.d (.int .i64 m))))(h:bj sl y=some (.m (.d (.int .i64 n))))(i: -9223372036854775808<=m-n/\m-n<=9223372036854775807)(k:TF X ops rest ⟨(d,(.m (.d (.int .i64 (m-n)))))::sl,bx,H⟩ λj l=>post (⟨some d,(.m (.d (.int .i64 (m-n)))),[],[],none,false,none⟩::j) l):
  TF X ops (⟨some d,.binOp .sub b x y c,ty,pos,af,none⟩::rest) ⟨sl,bx,H⟩ post:=
 TF.cons (e:=⟨some d,(.m (.d (.int .i64 (m-n)))),[],[],none,false,none⟩) (M2 W W (bL f) λo a=>ul ((a.ev (x:=x) (by simp[Op.operands,Call.operands])).trans g) ((a.ev (x:=y) (by simp[Op.operands,Call.operands])).trans h) (by simp[lB,show IntKind.i64.wrap (m-n)=m-n from IntWalk.i64_in _ i])) W k
theorem KC{c f:Nat}{x y:Operand}{a:IntKind}{m n:Int}(g:Nat.blt d X.n=true)(h:bj sl x=some (.m (.d (.int a m))))(i:bj sl y=some (.m (.d (.int a n))))(j:(n==0)=false)(k:TF X ops rest ⟨(d,(.m (.d (.int a (a.wrap (m.tdiv n))))))::sl,bx,H⟩ λl o=>post (⟨some d,(.m (.d (.int a (a.wrap (m.tdiv n))))),[],[],none,false,none⟩::l) o):
  TF X ops (⟨some d,.binOp .quo c x y f,ty,pos,af,none⟩::rest) ⟨sl,bx,H⟩ post:=
 TF.cons (e:=⟨some d,(.m (.d (.int a (a.wrap (m.tdiv n))))),[],[],none,false,none⟩) (M2 W W (bL g) λp b=>EO ((b.ev (x:=x) (by simp[Op.operands,Call.operands])).trans h) ((b.ev (x:=y) (by simp[Op.operands,Call.operands])).trans i) j) W k
theorem DG{c f:Nat}{x y:Operand}{a:IntKind}{m n:Int}(g:Nat.blt d X.n=true)(h:bj sl x=some (.m (.d (.int a m))))(i:bj sl y=some (.m (.d (.int a n))))(j:(n==0)=false)(k:TF X ops rest ⟨(d,(.m (.d (.int a (m.tmod n)))))::sl,bx,H⟩ λl o=>post (⟨some d,(.m (.d (.int a (m.tmod n)))),[],[],none,false,none⟩::l) o):
  TF X ops (⟨some d,.binOp .rem c x y f,ty,pos,af,none⟩::rest) ⟨sl,bx,H⟩ post:=
 TF.cons (e:=⟨some d,(.m (.d (.int a (m.tmod n)))),[],[],none,false,none⟩) (M2 W W (bL g) λp b=>EP ((b.ev (x:=x) (by simp[Op.operands,Call.operands])).trans h) ((b.ev (x:=y) (by simp[Op.operands,Call.operands])).trans i) j) W k
theorem sZ{x y:Operand}{b c:Nat}{s u:ByteArray}(f:Nat.blt d X.n=true)(g:bj sl x=some (.m (.d (.str s))))(h:bj sl y=some (.m (.d (.str u))))(i:s.size+u.size<=9223372036854775807)(k:TF X ops rest ⟨(d,(.m (.d (.str (s++u)))))::sl,bx,H⟩ λj l=>post (⟨some d,(.m (.d (.str (s++u)))),[],[],none,false,none⟩::j) l):
  TF X ops (⟨some d,.binOp .add b x y c,ty,pos,af,none⟩::rest) ⟨sl,bx,H⟩ post:=
 TF.cons (e:=⟨some d,(.m (.d (.str (s++u)))),[],[],none,false,none⟩) (M2 W W (bL f) λm a=>w8 ((a.ev (x:=x) (by simp[Op.operands,Call.operands])).trans g) ((a.ev (x:=y) (by simp[Op.operands,Call.operands])).trans h) i) W k
theorem p5{T:Nat}{x:Operand}{t off:Nat}{cs:List M}{m:M}[ht:cj X.P T](b:Nat.blt d X.n=true)(c:bj sl x=some (.loc t off))(f:get bx t=some cs)(g:cs[off]?=some m)(k:TF X ops rest ⟨(d,(.m m))::sl,bx,H⟩ λh i=>post (⟨some d,(.m m),[t],[],none,false,none⟩::h) i):
  TF X ops (⟨some d,.load T x,ty,pos,af,none⟩::rest) ⟨sl,bx,H⟩ post:=
 TF.cons (e:=⟨some d,(.m m),[t],[],none,false,none⟩) (M2 W W (bL b) λj a=>tD ((a.ev (x:=x) (by simp[Op.operands,Call.operands])).trans c) ((a.bx t (by simp)).trans f) g) W k
theorem zH{T n:Nat}{x:Operand}{t off:Nat}{cs a:List M}{ds:List D}[ht:jr X.P T n](f:Nat.blt d X.n=true)(g:bj sl x=some (.loc t off))(h:get bx t=some cs)(b:sub cs off n=some a)(i:j9 a=some ds)(k:TF X ops rest ⟨(d,(.m (.d (.agg ds))))::sl,bx,H⟩ λj l=>post (⟨some d,(.m (.d (.agg ds))),[t],[],none,false,none⟩::j) l):
  TF X ops (⟨some d,.load T x,ty,pos,af,none⟩::rest) ⟨sl,bx,H⟩ post:=
 TF.cons (e:=⟨some d,(.m (.d (.agg ds))),[t],[],none,false,none⟩) (M2 W W (bL f) λm c=>xa ((c.ev (x:=x) (by simp[Op.operands,Call.operands])).trans g) ((c.bx t (by simp)).trans h) (arc (sub_eq b).1) (by rw[(sub_eq b).2];exact i)) W k
theorem wI{t e:Nat}{x:Operand}{v:D}{n:Nat}[ht:aQ X.P t e](a:Nat.blt d X.n=true)(b:bj sl x=some (.m (.d v)))(c:oB v=some n)(k:TF X ops rest ⟨(d,(.m (.d (.int .i64 n))))::sl,bx,H⟩ λf g=>post (⟨some d,(.m (.d (.int .i64 n))),[],[],none,false,none⟩::f) g):
  TF X ops (⟨some d,.call ⟨.builtin .len,#[x],#[t]⟩,ty,pos,af,none⟩::rest) ⟨sl,bx,H⟩ post:=
 TF.cons (e:=⟨some d,(.m (.d (.int .i64 n))),[],[],none,false,none⟩) (M2 W W (bL a) λi h=>w6 ((h.ev (x:=x) (by simp[Op.operands,Call.operands])).trans b) c) W k
theorem bK{t e n:Nat}{x y:Operand}{rows:List (List D)}{r:List D}{b:IntKind}{i:Int}[ht:aQ X.P t e][p:bU X.P e n](c:Nat.blt d X.n=true)(f:bj sl x=some (.m (.d (.sl rows))))(g:bj sl y=some (.m (.d (.int b i))))(h:0<=i)(j:rows[i.toNat]?=some r)(l:r.length=n)(k:TF X ops rest ⟨(d,(.m (.d (.aZ r 0))))::sl,bx,H⟩ λm o=>post (⟨some d,(.m (.d (.aZ r 0))),[],[],none,false,none⟩::m) o):
  TF X ops (⟨some d,.indexAddr t x y,ty,pos,af,none⟩::rest) ⟨sl,bx,H⟩ post:=
 TF.cons (e:=⟨some d,(.m (.d (.aZ r 0))),[],[],none,false,none⟩) (M2 W W (bL c) λq a=>w7 ((a.ev (x:=x) (by simp[Op.operands,Call.operands])).trans f) ((a.ev (x:=y) (by simp[Op.operands,Call.operands])).trans g) h j l) W k
theorem Ag.gE{o:Oper}{e:Ef}{st a:St}(h:Ag ops o e st a): ∀{xs:List Operand},(∀x∈xs,x∈o.op.operands.toList)->a.gE xs=st.gE xs
 | [],_=>rfl
 |x::f,b=>by
  simp only[St.gE];rw[h.ev (b x (by simp)),h.gE (λc d=>b c (by simp[d]))]
theorem Ag.fG{o:Oper}{e:Ef}{st a:St}(h:Ag ops o e st a): ∀{xs:List Operand},(∀x∈xs,x∈o.op.operands.toList)->a.fG xs=st.fG xs
 | [],_=>rfl
 |x::f,b=>by
  simp only[St.fG];rw[h.ev (b x (by simp)),h.fG (λc d=>b c (by simp[d]))]
theorem Ag.dU{o:Oper}{e:Ef}{st a:St}(h:Ag ops o e st a): ∀{xs:List (Nat×Operand)},(∀p∈xs,p.2∈o.op.operands.toList)->Mt.dU a xs=Mt.dU st xs
 | [],_=>rfl
 |(c,d)::i,b=>by
  simp only[Mt.dU];rw[h.ev (b (c,d) (by simp)),h.dU (λf g=>b f (by simp[g]))]
theorem aS{f:Nat}{args:List Operand}{O_:Array Nat}{ds:List D}{r:D}[hf:br X.P f](h:PT X.P f ds (·= [r]))(a:Nat.blt d X.n=true)(b:gE sl args=some ds)(k:TF X ops rest ⟨(d,.m (.d r))::sl,bx,H⟩ λc g=>post (⟨some d,.m (.d r),[],[],none,false,none⟩::c) g):
  TF X ops (⟨some d,.call ⟨.value (.func f),args.toArray,O_⟩,ty,pos,af,none⟩::rest) ⟨sl,bx,H⟩ post:=
 TF.cons (e:=⟨some d,.m (.d r),[],[],none,false,none⟩) (M2 W W (bL a) λm i=>zA (by rw[i.gE (λl j=>by simp[Op.operands,Call.operands];exact .inr j),rQ];exact b) h) W k
theorem vl{sl:List (Nat×V)}{d:Nat}(h: ∀t a,get sl t≠some (.loc d a)): ∀t v,get sl t=some v->get (cO d sl) t=some v:=by
 have: ∀(g:List (Nat×V)) (t:Nat) (v:V),get g t=some v->(∀a,v≠ .loc d a)->get (cO d g) t=some v:=by
  intro g
  induction g with
  |nil=>intro t v h;simp[get]at h
  |cons l g j=>
   intro t v b i;obtain⟨p,k⟩:=l;cases k with
   |m m=>
    unfold cO;rcases bM b with⟨rfl,rfl⟩|⟨c,f⟩
    ·simp[bJ]
    ·rw[bJ,aqo (λe=>c e.symm)];exact j t v f i
   |tl q r s u=>
    unfold cO;rcases bM b with⟨rfl,rfl⟩|⟨c,f⟩
    ·simp[bJ]
    ·rw[bJ,aqo (λe=>c e.symm)];exact j t v f i
   |loc k a=>
    unfold cO;cases n:Nat.beq k d with
    |false=>
     rcases bM b with⟨rfl,rfl⟩|⟨c,f⟩
     ·simp[bJ]
     ·simp only[arS];rw[bJ,aqo (λe=>c e.symm)];exact j t v f i
    |true=>
     have:=aqr n;subst this;rcases bM b with⟨rfl,rfl⟩|⟨c,f⟩
     ·exact absurd W (i a)
     ·simp only[aqX];rw[bJ,aqo (λe=>c e.symm)];exact j t v f i
 intro t v b;exact this sl t v b (λa o=>h t a (by rw[b,o]))
theorem Hw{T:Nat}{cs:List M}[i:xh X.P T cs](j:Nat.blt d X.n=true)(k:TF X ops rest ⟨(d,.loc d 0)::sl,(d,cs)::bx,H⟩ λl m=>post (⟨some d,.loc d 0,[],[(d,cs)],some d,false,none⟩::l) m):
  TF X ops (⟨some d,.alloc T,ty,pos,af,none⟩::rest) ⟨sl,bx,H⟩ post:=by
 refine TF.cons (e:=⟨some d,.loc d 0,[],[(d,cs)],some d,false,none⟩) ?_ W k;intro n o;obtain⟨B,C,p⟩:=i.h;subst p;have q:=(zD (X:=X) (st:=n) (d:=d) (T:=T) (ty:=ty) (pos:=pos) (af:=af) (g:=none)).FU (ops:=ops) W W (bL j);intro a b r c f s;refine q a b r c f λt u w=>s t u ?_
 have x:=vl (o.nw d W);refine w.nK (λh v y=> ?_) (λ_=>rfl);rcases bM y with⟨rfl,rfl⟩|⟨z,A⟩
 ·simp[bJ]
 ·rw[bJ,aqo (λe=>z e.symm)];exact x h v A
theorem iH{T n:Nat}{x y:Operand}{t off:Nat}{cs c a:List M}{m:M}[r:bU X.P T n](d:bj sl x=some (.loc t off))(f:bj sl y=some (.m m))(g:get bx t=some cs)(h:gR m=some c)
  (i:Nat.beq c.length n=true) (j:wr cs off c=some a) (k:TF X ops rest ⟨sl,(t,a)::bx,H⟩ λl o=>post (⟨none,.m .undef,[],[(t,a)],none,false,none⟩::l) o):TF X ops (⟨none,.store T x y,ty,pos,af,none⟩::rest) ⟨sl,bx,H⟩ post:=by
 obtain⟨p,q⟩:=cP h;subst p;exact TF.cons (e:=⟨none,.m .undef,[],[(t,a)],none,false,none⟩) (kT.writes W W λs b=>xb ((b.ev (x:=x) (by simp[Op.operands])).trans d) ((b.ev (x:=y) (by simp[Op.operands])).trans f) ((b.bx t (by simp)).trans g) (aqr i) q (rO j)) W k
end rules
theorem cw.heap{X:bD}{σ τ:Sg}{MD:Nat->Nat}{st:St}{a:Act}(hi:cw X σ MD st a)(d:dy σ τ)(g:j_ τ (nP X.jF MD st.bx))
  (h: ∀b c,get st.bx b=some c->τ.w.heap[MD b]?=σ.w.heap[MD b]?) (i:aW σ τ):cw X τ MD ⟨st.sl,st.bx,τ.H⟩ a:=
 ⟨rfl,hi.defers,hi.size,λb v j=>let⟨f,k,l⟩:=hi.slot b v j;⟨f,k,l.mono d⟩,λb c e=>(hi.box b c e).cB d (λn m=>by rw[h b c e];exact m),hi.rm,hi.rI,hi.rJ,g,hi.mono.trans d,hi.cp.trans i⟩
theorem cw.KD{X:bD}{σ:Sg}{MD:Nat->Nat}{st:St}{a:Act}(hi:cw X σ MD st a){t:Nat}{cs:List M}(h:get st.bx t=some cs){i:Nat}{ob:Ob}(c:σ.H[i]?=some ob)(d:ob.live):MD t≠σ.l i:=
 λe=>qx hi.hinv (b:=MD t) (.inr ⟨t,cs,h,rfl⟩) i ob c d e.symm
theorem cw.newObj{X:bD}{σ:Sg}{MD:Nat->Nat}{st:St}{a:Act}(hi:cw X σ MD st a)(ob:Ob)(x:Obj)
  (H: ∀τ:Sg,dy σ τ->τ.w= {σ.w with heap:=σ.w.heap.push x} ->gf τ σ.w.heap.size ob):
  ∃τ:Sg,τ.w= {σ.w with heap:=σ.w.heap.push x} /\τ.l σ.H.length=σ.w.heap.size/\τ.H=st.H++ [ob]/\dy σ τ/\cw X τ MD ⟨st.sl,st.bx,st.H++ [ob]⟩ a:=by
 let b:=σ.w.heap.size
 let A:World:= {σ.w with heap:=σ.w.heap.push x}
 let k:Nat->Nat:= λd=>if d=σ.H.length then b else σ.l d
 let τ:Sg:=⟨A,λc f=>σ.O c f\/(c=b/\ob.jy f),k,σ.H++ [ob]⟩
 have p:fJ σ.w A:=fJ.alloc _ _;have i: ∀(d:Nat) f,σ.H[d]?=some f->(σ.H++ [ob])[d]?=some f/\k d=σ.l d:=by
  intro d f e;have u:d<σ.H.length:=by rcases aqh d σ.H.length with q|q;exact q;simp[aqj q]at e
  exact⟨by rw[aqf u];exact e,by simp[k,show d≠σ.H.length by omega]⟩
 have r: ∀(d:Nat) f,(σ.H++ [ob])[d]?=some f->(σ.H[d]?=some f/\k d=σ.l d)\/(d=σ.H.length/\f=ob):=by
  intro d f e;rcases aqh d σ.H.length with q|q
  ·rw[aqf q]at e;exact .inl ⟨e,(i d f e).2⟩
  ·rw[aqm q]at e;have:d-σ.H.length=0:=by
    rcases aqJ (d-σ.H.length)with B|B
    ·exact B
    ·rw[aqj (by simp;omega)]at e;cases e
   rw[this]at e;simp at e;exact .inr ⟨by omega,e.symm⟩
 have w:dy σ τ:=by
  refine⟨λc f v h g=>⟨p.cell h,?_⟩,λd l e=>⟨⟨l,(i d _ e).1⟩,(i d _ e).2⟩,λd l e=>⟨⟨l,(i d _ e).1⟩,(i d _ e).2⟩,λd l e=>⟨⟨l,(i d _ e).1⟩,(i d _ e).2⟩,λd e=>(i d _ e).1,
   λd P S I l e=> .inr ⟨P,I,l,(i d _ e).1,aqd _,λ_=>⟨(i d _ e).2,rfl,λJ R K=>⟨J,p.heap K,rfl⟩⟩⟩,λd e=>⟨_,(i d _ e).1⟩⟩
  rintro(j|⟨j,_⟩)
  ·exact g j
  ·have:=lC h;omega
 have u: ∀(d:Nat) f,σ.H[d]?=some f->f.live->σ.l d<b:= λd f h g=>(hi.hinv.obj d f h).lt g
 have L:gf τ b ob:=H τ w W;have m:k σ.H.length=b:=by simp[k]
 have Q:j_ τ (nP X.jF MD st.bx):=by
  refine⟨?_,?_,?_,?_,λc f e=>ard (hi.hinv.lU c f e) p.size⟩
  ·intro d f e;rcases r d f e with⟨h,g⟩|⟨rfl,rfl⟩
   ·show gf τ (k d) f;rw[g];exact(hi.hinv.obj d f h).cB w λx M=>p.heap M
   ·show gf τ (k _) f;rw[m];exact L
  ·intro d t x z h g j y s;change k d=k t at s;rcases r d x h with⟨n,o⟩|⟨rfl,rfl⟩<;>rcases r t z g with⟨C,D⟩|⟨rfl,rfl⟩
   ·rw[o,D]at s;exact hi.hinv.inj d t x z n C j y s
   ·rw[o,m]at s;have:=u d x n j;omega
   ·rw[D,m]at s;have:=u t z C y;omega
   ·rfl
  ·intro c f;show(σ.O c f\/(c=b/\ob.jy f))↔_;rw[hi.hinv.own];constructor
   ·rintro((e|⟨d,x,h,g,j⟩)|⟨rfl,g⟩)
    ·exact .inl e
    ·exact .inr ⟨d,x,(i d x h).1,(by show k d=c;rw[(i d x h).2];exact g),j⟩
    ·exact .inr ⟨σ.H.length,ob,by simp[τ],m,g⟩
   ·rintro(e|⟨d,x,h,g,j⟩)
    ·exact .inl (.inl e)
    ·rcases r d x h with⟨n,o⟩|⟨rfl,rfl⟩
     ·exact .inl (.inr ⟨d,x,n,by rw[<-o];exact g,j⟩)
     ·exact .inr ⟨by rw[<-g];exact m,j⟩
  ·intro d f h g E j;rcases r d f h with⟨n,o⟩|⟨rfl,rfl⟩
   ·exact hi.hinv.sep d f n g E (by rw[<-o];exact j)
   ·have y:nP X.jF MD st.bx b E:=by rw[<-m];exact j
    have:=hi.hinv.lU _ _ y;exact Nat.lt_irrefl _ this
 have N:aW σ τ:=by
  refine⟨rfl,rfl,rfl,p.size,λc O _=>p.cp c O,?_⟩;intro d f h g;rcases r d f h with⟨n,o⟩|⟨rfl,rfl⟩
  ·exact .inr ⟨f,n,g,o⟩
  ·exact .inl (by show _<=k _;rw[m];exact aqd _)
 have F:τ.H=st.H++ [ob]:=by show σ.H++ [ob]=_;rw[hi.hH]
 refine⟨τ,rfl,m,F,w,?_⟩;have:=hi.heap w Q (λG l e=>p.cp _ ((hi.box G l e).lt trivial)) N;rw[F]at this;exact this
def turns(same sz:Prop):Ob->Ob->Prop
 | .box _,.box _=>same
 | .map _,.map _=>same
 | .iter _,.iter _=>same
 | .row _ _ _ _,.dead=>True
 | .row _ ec aG cs,.row _ V3 Nn MY=>V3=ec/\(aG<Nn\/(Nn=aG/\MY.length=cs.length/\same/\sz))
 |_,_=>False
theorem cw.qA{X:bD}{σ:Sg}{MD:Nat->Nat}{st:St}{a:Act}(hi:cw X σ MD st a){j b':Nat}{ob NH:Ob}{w':World}(Y:st.H[j]?=some ob)(x:ob.live)
  (Z:w'.os=σ.w.os) (VJ:w'.output=σ.w.output) (ac:w'.tape=σ.w.tape) (P:σ.w.heap.size<=w'.heap.size)
  (D: ∀c,c<σ.w.heap.size->c≠σ.l j->w'.heap[c]?=σ.w.heap[c]?) (h:b'=σ.l j\/σ.w.heap.size<=b')
  (M5: ∀g v,¬ob.jy g->dY σ.w (σ.l j) g=some v->dY w' (σ.l j) g=some v/\(b'=σ.l j-> ¬NH.jy g))
  (w:turns (b'=σ.l j) (∀H K,σ.w.heap[σ.l j]?=some (.cells H K (0,0))-> ∃Q,w'.heap[σ.l j]?=some (.cells Q K (0,0))/\Q.size=H.size) ob NH)
  (MU: ∀τ:Sg,dy σ τ->τ.w=w'->τ.l j=b'->τ.H=st.H.set j NH->gf τ b' NH):
  ∃τ:Sg,τ.w=w'/\τ.l j=b'/\τ.H=st.H.set j NH/\dy σ τ/\cw X τ MD ⟨st.sl,st.bx,st.H.set j NH⟩ a:=by
 have T:=hi.hH;have o:σ.H[j]?=some ob:=by rw[T];exact Y
 have OO:j<σ.H.length:=by rcases aqh j σ.H.length with d|d;exact d;simp[aqj d]at o
 let l:Nat->Nat:= λb=>if b=j then b' else σ.l b
 let z:=σ.H.set j NH
 let E:=nP X.jF MD st.bx
 let τ:Sg:=⟨w',λc g=>E c g\/ ∃(b:Nat) (f:Ob),z[b]?=some f/\l b=c/\f.jy g,l,z⟩
 have s: ∀(b:Nat) f,b≠j->σ.H[b]?=some f->z[b]?=some f/\l b=σ.l b:=by
  intro b f R d;exact⟨by show(σ.H.set j NH)[b]?=_;rw[aqn (aq7 R)];exact d,by simp[l,R]⟩
 have k:z[j]?=some NH/\l j=b':=⟨by show(σ.H.set j NH)[j]?=_;simp[OO],by simp[l]⟩;have A: ∀(b:Nat) f,z[b]?=some f->(b≠j/\σ.H[b]?=some f/\l b=σ.l b)\/(b=j/\f=NH):=by
  intro b f d;by_cases e:b=j
  ·subst e;rw[k.1]at d;injection d with d;exact .inr ⟨rfl,d.symm⟩
  ·have:σ.H[b]?=some f:=by
    have i:(σ.H.set j NH)[b]?=some f:=d;rw[aqn (aq7 e)]at i;exact i
   exact .inl ⟨e,this,(s b f e this).2⟩
 have F: ∀(b:Nat) g,σ.H[b]?=some g->g.live->σ.l b<σ.w.heap.size:= λb g p i=>(hi.hinv.obj b g p).lt i
 have d8:=F j ob o x;have I: ∀(b:Nat) f,b≠j->σ.H[b]?=some f->f.live->σ.l b≠σ.l j:= λb f e p i m=>e (hi.hinv.inj b j f ob p o i x m)
 have J:dy σ τ:=by
  refine⟨?_,?_,?_,?_,?_,?_,?_⟩
  ·intro c g v p i;have L:=lC p;have U:(c≠σ.l j\/(b'=σ.l j-> ¬NH.jy g))-> ¬(E c g\/ ∃(b:Nat) (f:Ob),z[b]?=some f/\l b=c/\f.jy g):=by
    rintro G (m|⟨b,f,m,n,r⟩)
    ·exact i ((hi.hinv.own c g).2 (.inl m))
    ·rcases A b f m with⟨e,q,t⟩|⟨rfl,rfl⟩
     ·exact i ((hi.hinv.own c g).2 (.inr ⟨b,f,q,by rw[<-t];exact n,r⟩))
     ·rw[k.2]at n;rcases h with h|h
      ·rcases G with G|G
       ·exact G (by rw[<-n];exact h)
       ·exact G h r
      ·omega
   by_cases e:c=σ.l j
   ·subst e;have M9: ¬ob.jy g:= λd=>i ((hi.hinv.own _ g).2 (.inr ⟨j,ob,o,rfl,d⟩))
    obtain⟨m,n⟩:=M5 g v M9 p;exact⟨m,U (.inr n)⟩
   ·exact⟨by rw[mE (D c L e)];exact p,U (.inl e)⟩
  ·intro b u d;by_cases e:b=j
   ·subst e;rw[o]at d;injection d with d;subst d
    cases NH with
    |box y=>exact⟨⟨y,k.1⟩,by show l b=_;rw[k.2];exact w⟩
    |_=>exact w.elim
   ·exact⟨⟨u,(s b _ e d).1⟩,(s b _ e d).2⟩
  ·intro b u d;by_cases e:b=j
   ·subst e;rw[o]at d;injection d with d;subst d
    cases NH with
    |map y=>exact⟨⟨y,k.1⟩,by show l b=_;rw[k.2];exact w⟩
    |_=>exact w.elim
   ·exact⟨⟨u,(s b _ e d).1⟩,(s b _ e d).2⟩
  ·intro b u d;by_cases e:b=j
   ·subst e;rw[o]at d;injection d with d;subst d
    cases NH with
    |iter y=>exact⟨⟨y,k.1⟩,by show l b=_;rw[k.2];exact w⟩
    |_=>exact w.elim
   ·exact⟨⟨u,(s b _ e d).1⟩,(s b _ e d).2⟩
  ·intro b d;by_cases e:b=j
   ·subst e;rw[o]at d;injection d with d;subst d;exact x.elim
   ·exact(s b _ e d).1
  ·intro b co ec aG u d;by_cases e:b=j
   ·subst e;rw[o]at d;injection d with d;subst d
    cases NH with
    |dead=>exact .inl k.1
    |row O9 V3 Nn y=>
     obtain⟨e1,i⟩:=w;subst e1;refine .inr ⟨O9,Nn,y,k.1,?_,?_⟩
     ·rcases i with i|⟨i,_⟩<;>omega
     ·intro hv;rcases i with i|⟨_,m,n,r⟩
      ·omega
      ·exact⟨by show l b=_;rw[k.2];exact n,m,r⟩
    |_=>exact w.elim
   ·refine .inr ⟨co,aG,u,(s b _ e d).1,aqd _,λ_=>⟨(s b _ e d).2,rfl,λH K ha=>⟨H,?_,rfl⟩⟩⟩;show w'.heap[σ.l b]?=_;rw[D _ (F b _ d trivial) (I b _ e d trivial)];exact ha
  ·intro b d;by_cases e:b=j
   ·subst e;exact⟨_,k.1⟩
   ·exact⟨_,(s b _ e d).1⟩
 have M:τ.H=st.H.set j NH:=by show σ.H.set j NH=_;rw[T]
 have RU:gf τ b' NH:=MU τ J W k.2 M;have d6: ∀g,¬E (σ.l j) g:= λg=>hi.hinv.sep j ob o x g
 have d7:j_ τ E:=by
  refine⟨?_,?_,λc g=>ari,?_,λc g d=>ard (hi.hinv.lU c g d) P⟩
  ·intro b f d;rcases A b f d with⟨e,q,t⟩|⟨rfl,rfl⟩
   ·show gf τ (l b) f;rw[t];by_cases N:f.live
    ·refine(hi.hinv.obj b f q).cB J λB hy=> ?_
     show w'.heap[_]?=_;rw[D _ (F b f q N) (I b f e q N)];exact hy
    ·cases f<;>first|trivial|exact(N trivial).elim
   ·show gf τ (l b) f;rw[k.2];exact RU
  ·intro b C f B p i m n r;change l b=l C at r;rcases A b f p with⟨e,q,t⟩|⟨rfl,rfl⟩<;>rcases A C B i with⟨e',O,S⟩|⟨rfl,rfl⟩
   ·rw[t,S]at r;exact hi.hinv.inj b C f B q O m n r
   ·rw[t,k.2]at r;rcases h with h|h
    ·exact absurd (r.trans h) (I b f e q m)
    ·have:=F b f q m;omega
   ·rw[S,k.2]at r;rcases h with h|h
    ·exact absurd (r.symm.trans h) (I C B e' O n)
    ·have:=F C B O n;omega
   ·rfl
  ·intro b f p i g m;rcases A b f p with⟨e,q,t⟩|⟨rfl,rfl⟩
   ·exact hi.hinv.sep b f q i g (by rw[<-t];exact m)
   ·have n:E b' g:=by rw[<-k.2];exact m
    rcases h with h|h
    ·exact d6 g (by rw[<-h];exact n)
    ·have:=hi.hinv.lU _ _ n;omega
 have UH:aW σ τ:=by
  refine⟨Z,VJ,ac,P,λc L hn=>D c L (λe=>hn j ob o x e.symm),?_⟩;intro b f p i;rcases A b f p with⟨e,q,t⟩|⟨rfl,rfl⟩
  ·exact .inr ⟨f,q,i,t⟩
  ·rcases h with h|h
   ·exact .inr ⟨ob,o,x,by show l b=_;rw[k.2];exact h⟩
   ·exact .inl (by show _<=l b;rw[k.2];exact h)
 refine⟨τ,rfl,k.2,M,J,?_⟩;have:=hi.heap J d7 (λV u d=>D _ ((hi.box V u d).lt trivial) (hi.KD d o x)) UH;rw[M]at this;exact this
section ops
variable{X:bD}{st:St}{dst:Option Nat}{ty:Nat}{pos:String}{af:Array Edge}{g:Option (Nat×Bool)}
theorem B2{T:Nat}{x:Operand}{m:M}(f:st.ev x=some (.m m))(h:m.iG=true):
  cE X ⟨dst,.box T x,ty,pos,af,g⟩ st (c_ (.m (.ref st.H.length 0)) ⟨st.sl,st.bx,st.H++ [.box (cellsOf m)]⟩):=by
 intro d a i c;have b:=c.ev f;cases b with
 |m b=>
  have j:=b.cells h;obtain⟨e,k,l,n,r,o⟩:=c.newObj (.box (cellsOf m)) (.cells (d.eval x).cells T (0,0)) (by
   intro e p q;exact⟨_,T,by rw[q];simp,j.mono p⟩)
  refine dv.value (u:= .pointer (some ⟨a.w.heap.size,0,none⟩)) (w':= {a.w with heap:=a.w.heap.push (.cells (d.eval x).cells T (0,0))}) ?_ ⟨_,_,e,i,⟨rfl,rfl⟩,k,o,?_⟩
  ·simp[execOp,Instr.box,newVar,newRow,newObj,Sem.run]
  ·rw[<-l,c.hH];exact .m (.ref _ 0 (cellsOf m) (by rw[n];simp))
theorem DH{T:Nat}{z:D}[d:wH X.P T z]:
  cE X ⟨dst,.alloc T,ty,pos,af,g⟩ st (c_ (.m (.ref st.H.length 0)) ⟨st.sl,st.bx,st.H++ [.box ((bf z).map .d)]⟩):=by
 intro q a e c;obtain⟨v,f,h⟩:=d.run;have i:RM a (.d z) v:= .d (eJ h);have j:ki a ((bf z).map .d) v.cells:=i.cells W;obtain⟨b,k,l,m,r,n⟩:=c.newObj (.box ((bf z).map .d)) (.cells v.cells T (0,0)) (by
  intro b o p;exact⟨_,T,by rw[p];simp,j.mono o⟩)
 refine dv.value (u:= .pointer (some ⟨a.w.heap.size,0,none⟩)) (w':= {a.w with heap:=a.w.heap.push (.cells v.cells T (0,0))}) ?_ ⟨_,_,b,e,⟨rfl,rfl⟩,k,n,?_⟩
 ·simp[execOp,Instr.alloc,f,newVar,newRow,newObj,Sem.run]
 ·rw[<-l,c.hH];exact .m (.ref _ 0 ((bf z).map .d) (by rw[m];simp))
theorem B7{T:Nat} :
  cE X ⟨dst,.makeMap T none,ty,pos,af,g⟩ st (c_ (.m (.mp st.H.length)) ⟨st.sl,st.bx,st.H++ [.map []]⟩):=by
 intro k a d c;obtain⟨b,e,f,h,l,i⟩:=c.newObj (.map []) (.map #[] 0) (by
  intro b m j;exact⟨#[],0,by rw[j];simp,rfl,by simp⟩)
 refine dv.value (u:= .map (some a.w.heap.size)) (w':= {a.w with heap:=a.w.heap.push (.map #[] 0)}) ?_ ⟨_,_,b,d,⟨rfl,rfl⟩,e,i,?_⟩
 ·simp[execOp,Instr.makeMap,newObj,Sem.run]
 ·rw[<-f,c.hH];exact .m (.mp _ [] (by rw[h];simp))
theorem lk{T:Nat}{x:Operand}{i off:Nat}{cs:List M}{m:M}(e:st.ev x=some (.m (.ref i off)))(f:st.H[i]?=some (.box cs))(h:gu X.P T cs off=some m):
  cE X ⟨dst,.load T x,ty,pos,af,g⟩ st (c_ (.m m) st):=by
 refine MQ λd o q b=> ?_
 have a:=b.ev e;generalize j:d.eval x=p at a;cases a with
 |m a=>cases a with
  |ref i off r s=>
   obtain⟨t,u,k,c⟩:=b.hinv.obj i (.box cs) (by rw[b.hH];exact f);obtain⟨v,l,n⟩:=oC h k (by rw[c.1];exact aqd _) c.2;exact⟨v,by simp[execOp,j,Instr.loadAt,Instr.sureAddr,l],.m n⟩
theorem zI{T:Nat}{x:Operand}{i aG off:Nat}{acc:Bool}{ec:Nat}{cs:List M}{m:M}(h:st.ev x=some (.m (.dX i aG off)))(j:st.H[i]?=some (.row acc ec aG cs))(k:gu X.P T cs off=some m):
  cE X ⟨dst,.load T x,ty,pos,af,g⟩ st (c_ (.m m) st):=by
 refine MQ λe f A c=> ?_
 have a:=c.ev h;generalize l:e.eval x=y at a;cases a with
 |m a=>cases a with
  |dX i aG off b D n=>
   have d:f.H[i]?=some (.row acc ec aG cs):=by rw[c.hH];exact j
   have o:=n acc ec cs d;subst o;obtain⟨_,B,C,E,z,p,q,r,⟨s,_⟩,t⟩:=c.hinv.obj i _ d;obtain⟨v,u,w⟩:=oC k p (by rw[q,s];exact aqW _ r) t;exact⟨v,by simp[execOp,l,Instr.loadAt,Instr.sureAddr,u],.m w⟩
theorem tH{T n:Nat}{x y:Operand}{i off:Nat}{cs MY:List M}{m:M}[s:bU X.P T n](u:st.ev x=some (.m (.ref i off)))(w:st.ev y=some (.m m))(o:st.H[i]?=some (.box cs))
  (z:(cellsOf m).length=n) (A:m.iG=true) (h:dI cs off (cellsOf m)=some MY):
  cE X ⟨dst,.store T x y,ty,pos,af,g⟩ st (c_ (.m .undef) ⟨st.sl,st.bx,st.H.set i (.box MY)⟩):=by
 intro f d B b;have e:=b.ev u;have k:=b.ev w;generalize C:f.eval x=Q at e;cases e with
 |m e=>cases e with
  |ref i off S U=>
   cases k with
   |m k=>
    have D:d.H[i]?=some (.box cs):=by rw[b.hH];exact o
    obtain⟨E,p,q,r⟩:=b.hinv.obj i _ D;have a:=k.cells A;obtain⟨F,G,V⟩:=r.write a h;have H:(f.eval y).cells.size=n:=by rw[a.1,z]
    have I:=pF (P:=X.P) (t:=T) (off:=off) q (by rw[s.size,H]) (by rw[r.1,a.1];exact G) a.flat;have J:=fK q;obtain⟨l,K,Y,Z,g4,L⟩:=b.qA (j:=i) (b':=d.l i) (ob:= .box cs) (NH:= .box MY) (w':=cU d.w (d.l i) (.cells (dZ E off (f.eval y).cells.toList) p (0,0))) o trivial W W W (by rw[jR];exact aqd _)
     (λc _ a=>iW a) (.inl W) (λR v N=>(N trivial).elim) W (by
      intro l O h _ _;exact⟨_,p,by rw[h];exact fL J,F.mono O⟩)
    refine dv.skip (by simp only[execOp,C,Instr.storeAt,Instr.sureAddr];simp[I];rfl) ?_;exact⟨.m .undef,_,l,B,⟨rfl,rfl⟩,K,L,.m (.undef _)⟩
theorem DI{σ:Sg}{cs e MY:List M}{b:Array Value}{f:Array Value}{off:Nat}(r:cs.length<=b.size)(h: ∀(i:Nat) (m:M) (v:Value),cs[i]?=some m->b[i]?=some v->RM σ m v/\flat v=true)
  (g:ki σ e f) (k:dI cs off e=some MY):
  (∀(i:Nat) (m:M) (v:Value),MY[i]?=some m->(dZ b off f.toList)[i]?=some v->RM σ m v/\flat v=true)/\off+e.length<=cs.length/\MY.length=cs.length:=by
 have l:ki σ cs (b.extract 0 cs.length):=by
  refine⟨by simp;omega,λi m v c a=> ?_⟩;rw[arG]at a;split at a
  ·simp at a;exact h i m v c a
  ·cases a
 obtain⟨n,o,j⟩:=l.write g k;refine⟨λi m v c a=> ?_,o,j⟩;have p:i<cs.length:=by rw[<-j];rcases aqh i MY.length with h|h;exact h;simp[aqj h]at c
 refine n.2 i m v c ?_;have q:=g.1;rw[mF _ _ _ _ (by simp;omega)]at a⊢;split
 ·rename_i d;rw[aqy d]at a;exact a
 ·rename_i d;rw[aqo d]at a;rw[arG,aqy (by omega)];simpa using a
theorem xl{T n:Nat}{x y:Operand}{i aG off ec:Nat}{cs MY:List M}{m:M}[F:bU X.P T n](G:st.ev x=some (.m (.dX i aG off)))(H:st.ev y=some (.m m))(r:st.H[i]?=some (.row false ec aG cs))
  (I:(cellsOf m).length=n) (J:m.iG=true) (l:dI cs off (cellsOf m)=some MY):
  cE X ⟨dst,.store T x y,ty,pos,af,g⟩ st (c_ (.m .undef) ⟨st.sl,st.bx,st.H.set i (.row false ec aG MY)⟩):=by
 intro a f K e;have h:=e.ev G;have o:=e.ev H;generalize L:a.eval x=d6 at h;cases h with
 |m h=>cases h with
  |dX i aG off b d8 N=>
   cases o with
   |m o=>
    have s:f.H[i]?=some (.row false ec aG cs):=by rw[e.hH];exact r
    have O:=N false ec cs s;subst O;obtain⟨Q,u,w,ac,R,p,z,A,⟨B,S⟩,U⟩:=e.hinv.obj i _ s;have d:=o.cells J;have co:cs.length<=u.size:=by rw[z,B];exact aqW _ A
    obtain⟨C,k2,D⟩:=DI co U d l;have V:(a.eval y).cells.size=n:=by rw[d.1,I]
    have Y:=pF (P:=X.P) (t:=T) (off:=off) p (by rw[F.size,V]) (by rw[d.1];omega) d.flat;have E:=fK p;obtain⟨q,Z,g2,g3,g4,g5⟩:=e.qA (j:=i) (b':=f.l i) (ob:= .row false ec aG cs) (NH:= .row false ec aG MY) (w':=cU f.w (f.l i) (.cells (dZ u off (a.eval y).cells.toList) w (0,0))) r trivial W W W (by rw[jR];exact aqd _)
     (λc _ d=>iW d) (.inl W) (λd7 v ho=>(ho (.inl W)).elim) ⟨rfl,.inr ⟨rfl,D,rfl,λar T' k=>by
      rw[p]at k;injection k with k;injection k with e1 e2;subst e1;subst e2
      exact⟨_,fL E,fM _ _ _⟩⟩⟩ (by
      intro q hm l _ _;exact⟨Q,_,w,ac,R,by rw[l];exact fL E,by rw[fM];exact z,A,⟨by rw[D];exact B,S⟩,λi m v a b=>⟨(C i m v a b).1.mono hm,(C i m v a b).2⟩⟩)
    refine dv.skip (by simp only[execOp,L,Instr.storeAt,Instr.sureAddr];simp[Y];rfl) ?_;exact⟨.m .undef,_,q,K,⟨rfl,rfl⟩,Z,g5,.m (.undef _)⟩
theorem xo{t e ec:Nat}{x y:Operand}{j aG len:Nat}{acc:Bool}{cs:List M}{k:IntKind}{i:Int}[ht:aQ X.P t e][f:bU X.P e ec](h:st.ev x=some (.m (.bB j aG len)))(l:st.ev y=some (.m (.d (.int k i))))
  (n:st.H[j]?=some (.row acc ec aG cs)) (o:0<=i) (p:i<len):
  cE X ⟨dst,.indexAddr t x y,ty,pos,af,g⟩ st (c_ (.m (.dX j aG (i.toNat*ec))) st):=by
 refine MQ λd c A b=> ?_
 have a:=b.ev h;have q:=b.kj l;generalize r:d.eval x=z at a;cases a with
 |m a=>cases a with
  |bB j aG len B H w s=>
   have u:c.H[j]?=some (.row acc ec aG cs):=by rw[b.hH];exact n
   obtain⟨v,C,D,E,F,G⟩:=s acc ec cs u;subst v;refine⟨.pointer (some ⟨c.l j,i.toNat*ec,none⟩),?_,.m (.dX j aG _ _ w λ_ _ _ _=>rfl)⟩;simp[execOp,r,q,Instr.indexAt,asIntOf,underlying,program,Sem.run,ht.u,c9 f.size,o,p,li]
theorem Hx{t e:Nat}{x:Operand}{j aG len:Nat}[ht:aQ X.P t e](c:st.ev x=some (.m (.bB j aG len))):
  cE X ⟨dst,.call ⟨.builtin .len,#[x],#[t]⟩,ty,pos,af,g⟩ st (c_ (.m (.d (.int .i64 len))) st):=by
 refine MQ λb h k d=> ?_
 have a:=d.ev c;generalize f:b.eval x=i at a;refine⟨.int .i64 len,?_,.m (.d (.int _ _))⟩;cases a with
 |m a=>cases a with
  |bB j aG len l o p n=>
   simp[execOp,resolve,invoke,builtin,Builtin.len_,underlying,program,Sem.run,ht.u,f,goInt]
end ops
theorem xq(a:Nat)(h:256<=a): ∀r c,256<=c->c<=2*a->Builtin.growBy a r c<=2*a
 |0,c,_,b=>b
 |r+1,c,d,b=>by
  unfold Builtin.growBy;split
  ·exact b
  ·exact xq a h r _ (by omega) (by omega)
theorem rT{P6 cap:Nat}(h:cap<P6):Builtin.nextslicecap P6 cap<=2*P6:=by
 unfold Builtin.nextslicecap;split
 ·omega
 ·split
  ·omega
  ·exact xq P6 (by omega) 4 cap (by omega) (by omega)
theorem iy(h:Array Obj)(x:Obj):(h.push x)[h.size]?=some x:=by simp
theorem uy{b:Type}{l:List b}{j:Nat}{x y:b}(h:l[j]?=some x):(l.set j y)[j]?=some y:=by
 have:j<l.length:=by rcases aqh j l.length with a|a;exact a;simp[aqj a]at h
 simp[this]
theorem kM(z:Array Value)(n:Nat):(Builtin.zeroCells z n).size=n*z.size:=by simp[Builtin.zeroCells]
theorem gd.firstCells{P:Program}{O:Nat->Nat->Prop}{w:World}{rows:List (List D)}{v:Value}{n:Nat}(g:0<n)(h:gd O w (.sl rows) v)(t: ∀r∈rows,r.length=n):
  ∃e:Array Value,(∀w':World,(Builtin.lenOf v).run P w'= .ok rows.length w')/\(∀w':World,w'.heap=w.heap->(Builtin.firstCells n rows.length v).run P w'= .ok e w')/\e.size=rows.length*n/\
   ∀(i j:Nat) r d,rows[i]?=some r->r[j]?=some d-> ∃u,e[i*n+j]?=some u/\gd O w d u/\flat u=true:=by
 cases h with
 |slnil m=>
  cases m with
  |none=>exact⟨#[],λ_=>by simp[Builtin.lenOf],λ_ _=>by simp[Builtin.firstCells],by simp,by simp⟩
  |some m=>exact⟨#[],λ_=>by simp[Builtin.lenOf],λ_ _=>by simp[Builtin.firstCells,loadCells,loadCellsFrom],by simp,by simp⟩
 |sl rows b K Q a val x L M o y z A=>
  have B:a=n:=by
   cases rows with
   |nil=>exact absurd W x
   |cons r N=>rw[<-o r (by simp)];exact t r (by simp)
  subst B
  let e:Array Value:=((List.range (rows.length*a)).map λc=>val (c/a) (c%a)).toArray
  have p:e.size=rows.length*a:=by simp[e]
  have C: ∀c,c<rows.length*a->c/a<rows.length/\c%a<a/\c/a*a+c%a=c:=by
   intro c f;refine⟨(Nat.div_lt_iff_lt_mul g).2 f,ar5 _ g,?_⟩;have:=Nat.div_add_mod c a;rw[as6]at this;exact this
  refine⟨e,λ_=>by simp[Builtin.lenOf],?_,p,?_⟩
  ·intro w' E;simp only[Builtin.firstCells,loadCells];refine jG _ 0 _ (by omega) (by simp) ?_;intro c f;rw[p]at f;obtain⟨F,G,H⟩:=C c f;have:e.getD c undef=val (c/a) (c%a):=by simp[e,f]
   rw[this];have:=(y _ _ F G).1;rw[H]at this;rw[mE (w:=w) (by rw[E])];exact this
  ·intro i j r d k q;have s:i<rows.length:=by rcases aqh i rows.length with h|h;exact h;simp[aqj h]at k
   have l:j<a:=by
    rw[<-o r (aqk k)];rcases aqh j r.length with h|h;exact h;simp[aqj h]at q
   have f:i*a+j<rows.length*a:=by
    calc i*a+j<i*a+a:=by omega
     _=(i+1)*a:=by rw[arP]
     _<=rows.length*a:=aqW _ s
   refine⟨val i j,?_,A i j r d k q,z i j s l⟩;have I:(i*a+j)/a=i:=by rw[as6,Nat.mul_add_div g,Nat.div_eq_of_lt l];omega
   have J:(i*a+j)%a=j:=by rw[as6,Nat.mul_add_mod,Nat.mod_eq_of_lt l]
   simp[e,f,I,J]
def aX(rows:List (List D)):List M:=(rows.map λr=>r.map M.d).flatten
theorem tg{n:Nat} : ∀{rows:List (List D)},(∀r∈rows,r.length=n)->(aX rows).length=rows.length*n
 | [],_=>by simp[aX]
 |r::b,a=>by
  have:=tg (n:=n) (rows:=b) (λr c=>a r (by simp[c]));unfold aX at*;simp only[aqN,List.flatten_cons,aqg,aqE,this,a r (by simp),aqw,arP];omega
theorem xr{n:Nat}(g:0<n): ∀{rows:List (List D)} {k:Nat} {m:M},(∀r∈rows,r.length=n)->(aX rows)[k]?=some m-> ∃i j r d,k=i*n+j/\rows[i]?=some r/\r[j]?=some d/\m= .d d
 | [],k,m,_,c=>by simp[aX]at c
 |r::h,k,m,f,c=>by
  have b:r.length=n:=f r (by simp);have a:((r.map M.d)++aX h)[k]?=some m:=by simpa [aX] using c
  rcases aqh k n with e|e
  ·rw[aqf (by simp[b,e])]at a;simp only[aqL,arh]at a;obtain⟨d,l,rfl⟩:=a;exact⟨0,k,r,d,by simp,by simp,l,rfl⟩
  ·rw[aqm (by simp[b,e])]at a;simp only[aqE,b]at a;obtain⟨i,j,o,d,t,p,q,s⟩:=xr g (λr b=>f r (by simp[b])) a;exact⟨i+1,j,o,d,by rw[arP];omega,by simpa using p,q,s⟩
class js(P:Program)(t:Nat)(n:outParam Nat):Prop where
 bytes:uh P t=some n
theorem qC{P:Program}{t n b:Nat}(h:fu P t=some n)(a:uh P t=some b): ∃i:TypeInfo,P.info? t=some i/\i.size=n/\i.bytes=b:=by
 unfold fu at h;unfold uh at a;cases c:P.info? t with
 |none=>simp[c]at h
 |some i=>simp[c]at h a;exact⟨i,rfl,h,a⟩
section ops
variable{X:bD}{st:St}{dst:Option Nat}{ty:Nat}{pos:String}{af:Array Edge}{g:Option (Nat×Bool)}
theorem uz{P:Program}{w:World}{b k T:Nat}{a:Array Value}{d:Nat×Nat}(h:w.heap[b]?=some (.cells a T d))(j:k<=a.size):(loadCells ⟨b,0,none⟩ k).run P w= .ok (a.extract 0 k) w:=by
 unfold loadCells;have e:(a.extract 0 k).size=k:=by simp;omega
 refine jG k 0 _ (by omega) (by simp) ?_;intro c f;rw[e]at f;have g:c<a.size:=by omega
 have i:c<min k a.size:=by omega
 simp[dY,World.cell?,h,g,i]
end ops
section aeL
variable{X:bD}{sl:List (Nat×V)}{bx:List (Nat×List M)}{H:Hp}
end aeL
theorem Jd(a b:ByteArray):(a==b)=decide (a=b):=by
 cases a with
 |mk a=>
 cases b with
 |mk b=>
 have:((ByteArray.mk a)==(ByteArray.mk b))=(a==b):=rfl;rw[this];by_cases c:a=b
 ·subst c;simp
 ·simp[c]
section ops
variable{X:bD}{st:St}{dst:Option Nat}{ty:Nat}{pos:String}{af:Array Edge}{g:Option (Nat×Bool)}
class kU(P:Program)(t:Nat)(k:outParam IntKind):Prop where
 u:P.underlying t=some (.int k)
theorem vm{s t:Nat}{x:Operand}{k k' a:IntKind}{n:Int}[b:kU X.P s a][ht:kU X.P t k'](c:st.ev x=some (.m (.d (.int k n)))):
  cE X ⟨dst,.convert s t x,ty,pos,af,g⟩ st (c_ (.m (.d (.int k' (k'.wrap n)))) st):=by
 refine MQ λe f h d=> ?_
 exact⟨.int k' (k'.wrap n),by simp[execOp,convert,underlying,program,Sem.run,b.u,ht.u,d.kj c,Conv.intToInt],.m (.d (.int _ _))⟩
end ops
section mk
variable{X:bD}{st:St}{dst:Option Nat}{ty:Nat}{pos:String}{af:Array Edge}{g:Option (Nat×Bool)}
end mk
section rules
variable{X:bD}{ops:Array Oper}{rest:List Oper}{post:St->Prop}{M6:List Ef->St->Prop}{sl:List (Nat×V)}{bx:List (Nat×List M)}{H:Hp}{d ty:Nat}{pos:String}{af:Array Edge}
theorem Oi{o:Oper}{v:V}{H':Hp}{st:St}(b:o.guard=none)(c:o.dst=some d)(e:d<X.n)
  (h: ∀a,Ag ops o ⟨some d,v,[],[],none,true,some H'⟩ st a->cE X o a (c_ v ⟨a.sl,a.bx,H'⟩)):kT X ops o ⟨some d,v,[],[],none,true,some H'⟩ st:=
 λa f=>(h a f).FU b c e
theorem kT.ET{o:Oper}{v:V}{H':Hp}{st:St}(b:o.guard=none)(c:o.dst=none)
  (h: ∀a,Ag ops o ⟨none,v,[],[],none,true,some H'⟩ st a->cE X o a (c_ v ⟨a.sl,a.bx,H'⟩)):kT X ops o ⟨none,v,[],[],none,true,some H'⟩ st:=
 λa d=>(h a d).Hv b c
theorem aw{T:Nat}{x:Operand}{i off:Nat}{cs:List M}{m:M}[ht:cj X.P T](a:Nat.blt d X.n=true)(b:bj sl x=some (.m (.ref i off)))(c:H[i]?=some (.box cs))(e:cs[off]?=some m)(k:TL X ops rest ⟨(d,(.m m))::sl,bx,H⟩ post):TL X ops (⟨some d,.load T x,ty,pos,af,none⟩::rest) ⟨sl,bx,H⟩ post:=
 No W W a (lk b c (by simp[gu,ht.cell,e])) k
theorem av{T:Nat}{x:Operand}{i off:Nat}{cs:List M}{m:M}[ht:cj X.P T](b:Nat.blt d X.n=true)(c:bj sl x=some (.m (.ref i off)))(f:H[i]?=some (.box cs))(g:cs[off]?=some m)(k:TF X ops rest ⟨(d,(.m m))::sl,bx,H⟩ λh j=>M6 (⟨some d,(.m m),[],[],none,true,none⟩::h) j):TF X ops (⟨some d,.load T x,ty,pos,af,none⟩::rest) ⟨sl,bx,H⟩ M6:=
 TF.cons (e:=⟨some d,(.m m),[],[],none,true,none⟩) (M2 W W (bL b) λl a=>lk ((a.ev (x:=x) (by simp[Op.operands,Call.operands])).trans c) (by rw[a.H W];exact f) (by simp[gu,ht.cell,g])) W k
theorem jV{T n:Nat}{x:Operand}{i off:Nat}{cs a:List M}{ds:List D}[ht:jr X.P T n](c:Nat.blt d X.n=true)(e:bj sl x=some (.m (.ref i off)))(f:H[i]?=some (.box cs))(b:sub cs off n=some a)(g:j9 a=some ds)(k:TL X ops rest ⟨(d,(.m (.d (.agg ds))))::sl,bx,H⟩ post):TL X ops (⟨some d,.load T x,ty,pos,af,none⟩::rest) ⟨sl,bx,H⟩ post:=
 No W W c (lk e f (by simp[gu,ht.agg,ht.size,arc (sub_eq b).1,pack,(sub_eq b).2,g])) k
theorem fg{T n:Nat}{x:Operand}{i off:Nat}{cs a:List M}{ds:List D}[ht:jr X.P T n](f:Nat.blt d X.n=true)(g:bj sl x=some (.m (.ref i off)))(h:H[i]?=some (.box cs))(b:sub cs off n=some a)(j:j9 a=some ds)(k:TF X ops rest ⟨(d,(.m (.d (.agg ds))))::sl,bx,H⟩ λl m=>M6 (⟨some d,(.m (.d (.agg ds))),[],[],none,true,none⟩::l) m):TF X ops (⟨some d,.load T x,ty,pos,af,none⟩::rest) ⟨sl,bx,H⟩ M6:=
 TF.cons (e:=⟨some d,(.m (.d (.agg ds))),[],[],none,true,none⟩) (M2 W W (bL f) λo c=>lk ((c.ev (x:=x) (by simp[Op.operands,Call.operands])).trans g) (by rw[c.H W];exact h) (by simp[gu,ht.agg,ht.size,arc (sub_eq b).1,pack,(sub_eq b).2,j])) W k
theorem lY{T:Nat}{x:Operand}{i aG off ec:Nat}{acc:Bool}{cs:List M}{m:M}[ht:cj X.P T](a:Nat.blt d X.n=true)(b:bj sl x=some (.m (.dX i aG off)))(c:H[i]?=some (.row acc ec aG cs))(e:cs[off]?=some m)(k:TL X ops rest ⟨(d,(.m m))::sl,bx,H⟩ post):TL X ops (⟨some d,.load T x,ty,pos,af,none⟩::rest) ⟨sl,bx,H⟩ post:=
 No W W a (zI b c (by simp[gu,ht.cell,e])) k
theorem jl{T:Nat}{x:Operand}{i aG off ec:Nat}{acc:Bool}{cs:List M}{m:M}[ht:cj X.P T](b:Nat.blt d X.n=true)(c:bj sl x=some (.m (.dX i aG off)))(f:H[i]?=some (.row acc ec aG cs))(g:cs[off]?=some m)(k:TF X ops rest ⟨(d,(.m m))::sl,bx,H⟩ λh j=>M6 (⟨some d,(.m m),[],[],none,true,none⟩::h) j):TF X ops (⟨some d,.load T x,ty,pos,af,none⟩::rest) ⟨sl,bx,H⟩ M6:=
 TF.cons (e:=⟨some d,(.m m),[],[],none,true,none⟩) (M2 W W (bL b) λl a=>zI ((a.ev (x:=x) (by simp[Op.operands,Call.operands])).trans c) (by rw[a.H W];exact f) (by simp[gu,ht.cell,g])) W k
theorem zJ{t e ec:Nat}{x y:Operand}{j aG len:Nat}{acc:Bool}{cs:List M}{a:IntKind}{i:Int}[ht:aQ X.P t e][m:bU X.P e ec](b:Nat.blt d X.n=true)(c:bj sl x=some (.m (.bB j aG len)))(f:bj sl y=some (.m (.d (.int a i))))(g:H[j]?=some (.row acc ec aG cs))(h:0<=i)(l:i<len)(k:TL X ops rest ⟨(d,(.m (.dX j aG (i.toNat*ec))))::sl,bx,H⟩ post):TL X ops (⟨some d,.indexAddr t x y,ty,pos,af,none⟩::rest) ⟨sl,bx,H⟩ post:=
 No W W b (xo c f g h l) k
theorem cS{t e ec:Nat}{x y:Operand}{j aG len:Nat}{acc:Bool}{cs:List M}{b:IntKind}{i:Int}[ht:aQ X.P t e][p:bU X.P e ec](c:Nat.blt d X.n=true)(f:bj sl x=some (.m (.bB j aG len)))(g:bj sl y=some (.m (.d (.int b i))))(h:H[j]?=some (.row acc ec aG cs))(l:0<=i)(m:i<len)(k:TF X ops rest ⟨(d,(.m (.dX j aG (i.toNat*ec))))::sl,bx,H⟩ λn o=>M6 (⟨some d,(.m (.dX j aG (i.toNat*ec))),[],[],none,true,none⟩::n) o):TF X ops (⟨some d,.indexAddr t x y,ty,pos,af,none⟩::rest) ⟨sl,bx,H⟩ M6:=
 TF.cons (e:=⟨some d,(.m (.dX j aG (i.toNat*ec))),[],[],none,true,none⟩) (M2 W W (bL c) λq a=>xo ((a.ev (x:=x) (by simp[Op.operands,Call.operands])).trans f) ((a.ev (x:=y) (by simp[Op.operands,Call.operands])).trans g) (by rw[a.H W];exact h) l m) W k
theorem EU{t e:Nat}{x:Operand}{j aG len:Nat}[ht:aQ X.P t e](a:Nat.blt d X.n=true)(b:bj sl x=some (.m (.bB j aG len)))(k:TL X ops rest ⟨(d,(.m (.d (.int .i64 len))))::sl,bx,H⟩ post):TL X ops (⟨some d,.call ⟨.builtin .len,#[x],#[t]⟩,ty,pos,af,none⟩::rest) ⟨sl,bx,H⟩ post:=
 No W W a (Hx b) k
theorem xu{s t:Nat}{x:Operand}{b a c:IntKind}{n:Int}[g:kU X.P s c][ht:kU X.P t a](e:Nat.blt d X.n=true)(f:bj sl x=some (.m (.d (.int b n))))(k:TL X ops rest ⟨(d,(.m (.d (.int a (a.wrap n)))))::sl,bx,H⟩ post):TL X ops (⟨some d,.convert s t x,ty,pos,af,none⟩::rest) ⟨sl,bx,H⟩ post:=
 No W W e (vm f) k
theorem rU{s t:Nat}{x:Operand}{b a c:IntKind}{n:Int}[l:kU X.P s c][ht:kU X.P t a](f:Nat.blt d X.n=true)(g:bj sl x=some (.m (.d (.int b n))))(k:TF X ops rest ⟨(d,(.m (.d (.int a (a.wrap n)))))::sl,bx,H⟩ λh i=>M6 (⟨some d,(.m (.d (.int a (a.wrap n)))),[],[],none,true,none⟩::h) i):TF X ops (⟨some d,.convert s t x,ty,pos,af,none⟩::rest) ⟨sl,bx,H⟩ M6:=
 TF.cons (e:=⟨some d,(.m (.d (.int a (a.wrap n)))),[],[],none,true,none⟩) (M2 W W (bL f) λm j=>vm ((j.ev (x:=x) (by simp[Op.operands,Call.operands])).trans g)) W k
theorem cA{T:Nat}{x:Operand}{m:M}{cs:List M}(b:Nat.blt d X.n=true)(c:bj sl x=some (.m m))(a:gR m=some cs)(k:TL X ops rest ⟨(d,(.m (.ref H.length 0)))::sl,bx,H++ [Ob.box cs]⟩ post):TL X ops (⟨some d,.box T x,ty,pos,af,none⟩::rest) ⟨sl,bx,H⟩ post:=
 No W W b ((by rw[<-(cP a).1];exact B2 c (cP a).2)) k
theorem AZ{T:Nat}{x:Operand}{m:M}{cs:List M}(f:Nat.blt d X.n=true)(h:bj sl x=some (.m m))(a:gR m=some cs)(k:TF X ops rest ⟨(d,(.m (.ref H.length 0)))::sl,bx,H++ [Ob.box cs]⟩ λi j=>M6 (⟨some d,(.m (.ref H.length 0)),[],[],none,true,some (H++ [Ob.box cs])⟩::i) j):TF X ops (⟨some d,.box T x,ty,pos,af,none⟩::rest) ⟨sl,bx,H⟩ M6:=
 TF.cons (e:=⟨some d,(.m (.ref H.length 0)),[],[],none,true,some (H++ [Ob.box cs])⟩) (Oi W W (bL f) λl b=>(by have c:=b.H W;simp only at c;have:=(B2 (X:=X) (st:=l) (dst:=some d) (ty:=ty) (pos:=pos) (af:=af) (g:=none) (T:=T) ((b.ev (x:=x) (by simp[Op.operands,Call.operands])).trans h) (cP a).2);rw[c]at this;rw[(cP a).1]at this;exact this)) W k
theorem qD{T:Nat}(a:Nat.blt d X.n=true)(k:TL X ops rest ⟨(d,(.m (.mp H.length)))::sl,bx,H++ [Ob.map []]⟩ post):TL X ops (⟨some d,.makeMap T none,ty,pos,af,none⟩::rest) ⟨sl,bx,H⟩ post:=
 No W W a (B7) k
theorem bX{T n:Nat}{x y:Operand}{i off:Nat}{cs b c:List M}{m:M}[j:bU X.P T n](d:bj sl x=some (.m (.ref i off)))(e:bj sl y=some (.m m))(f:H[i]?=some (.box cs))(a:gR m=some b)(g:Nat.beq b.length n=true)(h:wr cs off b=some c)(k:TL X ops rest ⟨sl,bx,H.set i (Ob.box c)⟩ post):TL X ops (⟨none,.store T x y,ty,pos,af,none⟩::rest) ⟨sl,bx,H⟩ post:=
 TL.EN W W (tH d e f (by rw[(cP a).1];exact aqr g) (cP a).2 (by rw[(cP a).1];exact rO h)) k
theorem fh{T n:Nat}{x y:Operand}{i off:Nat}{cs d a:List M}{m:M}[t:bU X.P T n](h:bj sl x=some (.m (.ref i off)))(j:bj sl y=some (.m m))(l:H[i]?=some (.box cs))(c:gR m=some d)(o:Nat.beq d.length n=true)(p:wr cs off d=some a)(k:TF X ops rest ⟨sl,bx,H.set i (Ob.box a)⟩ λq r=>M6 (⟨none,.m .undef,[],[],none,true,some (H.set i (Ob.box a))⟩::q) r):TF X ops (⟨none,.store T x y,ty,pos,af,none⟩::rest) ⟨sl,bx,H⟩ M6:=
 TF.cons (e:=⟨none,.m .undef,[],[],none,true,some (H.set i (Ob.box a))⟩) (kT.ET W W λs b=>(by have f:=b.H W;simp only at f;have:=(tH (X:=X) (st:=s) (dst:=none) (ty:=ty) (pos:=pos) (af:=af) (g:=none) (T:=T) ((b.ev (x:=x) (by simp[Op.operands,Call.operands])).trans h) ((b.ev (x:=y) (by simp[Op.operands,Call.operands])).trans j) (by rw[b.H W];exact l) (by rw[(cP c).1];exact aqr o) (cP c).2 (by rw[(cP c).1];exact rO p));rw[f]at this;exact this)) W k
theorem FV{T n:Nat}{x y:Operand}{i aG off ec:Nat}{cs b c:List M}{m:M}[j:bU X.P T n](d:bj sl x=some (.m (.dX i aG off)))(e:bj sl y=some (.m m))(f:H[i]?=some (.row false ec aG cs))(a:gR m=some b)(g:Nat.beq b.length n=true)(h:dI cs off b=some c)(k:TL X ops rest ⟨sl,bx,H.set i (Ob.row false ec aG c)⟩ post):TL X ops (⟨none,.store T x y,ty,pos,af,none⟩::rest) ⟨sl,bx,H⟩ post:=
 TL.EN W W (xl d e f (by rw[(cP a).1];exact aqr g) (cP a).2 (by rw[(cP a).1];exact h)) k
theorem fj{T n:Nat}{x y:Operand}{i aG off ec:Nat}{cs d a:List M}{m:M}[t:bU X.P T n](h:bj sl x=some (.m (.dX i aG off)))(j:bj sl y=some (.m m))(l:H[i]?=some (.row false ec aG cs))(c:gR m=some d)(o:Nat.beq d.length n=true)(p:dI cs off d=some a)(k:TF X ops rest ⟨sl,bx,H.set i (Ob.row false ec aG a)⟩ λq r=>M6 (⟨none,.m .undef,[],[],none,true,some (H.set i (Ob.row false ec aG a))⟩::q) r):TF X ops (⟨none,.store T x y,ty,pos,af,none⟩::rest) ⟨sl,bx,H⟩ M6:=
 TF.cons (e:=⟨none,.m .undef,[],[],none,true,some (H.set i (Ob.row false ec aG a))⟩) (kT.ET W W λs b=>(by have f:=b.H W;simp only at f;have:=(xl (X:=X) (st:=s) (dst:=none) (ty:=ty) (pos:=pos) (af:=af) (g:=none) (T:=T) ((b.ev (x:=x) (by simp[Op.operands,Call.operands])).trans h) ((b.ev (x:=y) (by simp[Op.operands,Call.operands])).trans j) (by rw[b.H W];exact l) (by rw[(cP c).1];exact aqr o) (cP c).2 (by rw[(cP c).1];exact p));rw[f]at this;exact this)) W k
theorem bm{f:Nat}{args:List Operand}{O_:Array Nat}{ms:List M}{r:M}{H':Hp}[hf:br X.P f](h:CT X.P f ms H λj l=>j=r/\l=H')(A:Nat.blt d X.n=true)(B:fG sl args=some ms)
  (k:TF X ops rest ⟨(d,.m r)::sl,bx,H'⟩ λC D=>M6 (⟨some d,.m r,[],[],none,true,some H'⟩::C) D):TF X ops (⟨some d,.call ⟨.value (.func f),args.toArray,O_⟩,ty,pos,af,none⟩::rest) ⟨sl,bx,H⟩ M6:=by
 refine TF.cons (e:=⟨some d,.m r,[],[],none,true,some H'⟩) (Oi W W (bL A) λc u=> ?_) W k;have w:=u.H W;simp only at w;have i:=vj (X:=X) (st:=c) (dst:=some d) (ty:=ty) (pos:=pos) (af:=af) (g:=none) (O_:=O_) (args:=args) (f:=f) (ms:=ms) (post:= λj l=>j=r/\l=H') (by rw[u.fG (λK E=>by simp[Op.operands,Call.operands];exact .inr E),mP];exact B) (by rw[w];exact h);intro q s F G;have a:=i q s F G;have x: ∀v b,(∃m n,v=V.m m/\(m=r/\n=H')/\b=(⟨c.sl,c.bx,n⟩:St))->c_ (.m r) ⟨c.sl,c.bx,H'⟩ v b:=by rintro v b ⟨m,n,rfl,⟨rfl,rfl⟩,rfl⟩;exact⟨rfl,rfl⟩
 unfold dv at a⊢;generalize (execOp q.eval _).run X.P s.w=y at*;cases y with
 |ok t I=>
  cases t<;>simp only at a⊢ <;>first
   |(obtain⟨v,b,o,p,i,a⟩:=a;exact⟨v,b,o,p,x _ _ i,a⟩)
   |exact a.mono λe L ⟨z,J,v,b,o,p,i,a⟩=>⟨z,J,v,b,o,p,x _ _ i,a⟩
   |exact a
 |halt t I=>exact a
theorem jW{f:Nat}{args:List Operand}{O_:Array Nat}{ms:List M}{r:M}[hf:br X.P f](h:CT X.P f ms H λj l=>j=r/\l=H)(A:Nat.blt d X.n=true)(B:fG sl args=some ms)
  (k:TF X ops rest ⟨(d,.m r)::sl,bx,H⟩ λC D=>M6 (⟨some d,.m r,[],[],none,true,none⟩::C) D):TF X ops (⟨some d,.call ⟨.value (.func f),args.toArray,O_⟩,ty,pos,af,none⟩::rest) ⟨sl,bx,H⟩ M6:=by
 refine TF.cons (e:=⟨some d,.m r,[],[],none,true,none⟩) (M2 W W (bL A) λi w=> ?_) W k;have m:=w.H W;simp only at m;have c:=vj (X:=X) (st:=i) (dst:=some d) (ty:=ty) (pos:=pos) (af:=af) (g:=none) (O_:=O_) (args:=args) (f:=f) (ms:=ms) (post:= λj l=>j=r/\l=H) (by rw[w.fG (λK E=>by simp[Op.operands,Call.operands];exact .inr E),mP];exact B) (by rw[m];exact h);intro s t F G;have a:=c s t F G;have x: ∀v b,(∃n o,v=V.m n/\(n=r/\o=H)/\b=(⟨i.sl,i.bx,o⟩:St))->c_ (.m r) i v b:=by rintro v b ⟨n,o,rfl,⟨rfl,rfl⟩,rfl⟩;exact⟨rfl,by rw[<-m]⟩
 unfold dv at a⊢;generalize (execOp s.eval _).run X.P t.w=y at*;cases y with
 |ok u I=>
  cases u<;>simp only at a⊢ <;>first
   |(obtain⟨v,b,p,q,c,a⟩:=a;exact⟨v,b,p,q,x _ _ c,a⟩)
   |exact a.mono λe L ⟨z,J,v,b,p,q,c,a⟩=>⟨z,J,v,b,p,q,x _ _ c,a⟩
   |exact a
 |halt u I=>exact a
end rules
def qE:List (List D)->Option (List Int)
 | []=>some []
 | [.int .u8 n]::r=>match qE r with
  |some ns=>some (n::ns)
  |none=>none
 |_=>none
theorem xv: ∀{rows:List (List D)} {b:List Int},qE rows=some b->rows=b.map λn=>[.int .u8 n]
 | [],b,a=>by simp[qE]at a;subst a;rfl
 |g::h,b,a=>by
  unfold qE at a;split at a
  ·rename_i e;cases e
  ·rename_i n i e;injection e with c d;subst c;subst d
   split at a
   ·rename_i j f;injection a with a;subst a
    simp[xv f]
   ·cases a
  ·cases a
section ops
variable{X:bD}{st:St}{dst:Option Nat}{ty:Nat}{pos:String}{af:Array Edge}{g:Option (Nat×Bool)}
theorem EV{s t e:Nat}{x:Operand}{rows:List (List D)}{a:List Int}[l:aQ X.P s e][m:kU X.P e .u8][ht:AR X.P t](u:st.ev x=some (.m (.d (.sl rows))))(v:qE rows=some a):
  cE X ⟨dst,.convert s t x,ty,pos,af,g⟩ st (c_ (.m (.d (.str (strOfNums a)))) st):=by
 have:=xv v;subst this;refine MQ λq d H h=> ?_
 have k:=h.o9 u;generalize n:q.eval x=F at k;refine⟨.string (strOfNums a),?_,.m (.d (.str _))⟩;generalize o:(a.map λf=>[D.int .u8 f])=rows at k;cases k with
 |slnil i=>
  have:a= []:=by simpa using o
  subst this;cases i with
  |none=>
   have:=run_convert_bytes_nil (P:=X.P) d.w s e l.u m.u 0 0 t ht.u;simp[execOp,n,this,strOfNums];rfl
  |some i=>
   have j:(loadCells i 0).run X.P d.w= .ok #[] d.w:=by simp[loadCells,loadCellsFrom]
   simp only[execOp,n,Sem.run_bind];rw[run_convert_bytes_string d.w s t e (some i) 0 0 l.u m.u ht.u,run_bytesToString d.w i 0 0 [] (by simpa using j)];simp[strOfNums,ByteArray.empty,ByteArray.emptyWithCapacity];rfl
 |sl rows b r C w val y I J z A K B=>
  subst o;have L:(a.map λf=>[D.int .u8 f]).length=a.length:=by simp
  have E:w=1:=by
   cases a with
   |nil=>simp at y
   |cons f a=>rw[<-z [.int .u8 f] (by simp)];rfl
  subst E;have:=run_convert_bytes_arg (P:=X.P) d.w s e l.u m.u b r a.length C a W (by
   intro c h;have j:=(A c 0 (by simpa using h) (by omega)).1;have p:=B c 0 [.int .u8 a[c]] (.int .u8 a[c]) (by simp[h]) W;have:val c 0= .int .u8 a[c]:=by generalize val c 0=G at p;cases p;rfl
   rw[this]at j;simp at j;simpa [h] using j) t ht.u
  simp[execOp,n,this]
end ops
section rules
variable{X:bD}{ops:Array Oper}{rest:List Oper}{post:St->Prop}{M6:List Ef->St->Prop}{sl:List (Nat×V)}{bx:List (Nat×List M)}{H:Hp}{d ty:Nat}{pos:String}{af:Array Edge}
theorem KE{s t e:Nat}{x:Operand}{rows:List (List D)}{a:List Int}[g:aQ X.P s e][h:kU X.P e .u8][ht:AR X.P t](b:Nat.blt d X.n=true)(c:bj sl x=some (.m (.d (.sl rows))))(f:qE rows=some a)
  (k:TL X ops rest ⟨(d,.m (.d (.str (strOfNums a))))::sl,bx,H⟩ post):TL X ops (⟨some d,.convert s t x,ty,pos,af,none⟩::rest) ⟨sl,bx,H⟩ post:=
 No W W b (EV c f) k
theorem KF{s t e:Nat}{x:Operand}{rows:List (List D)}{a:List Int}[j:aQ X.P s e][l:kU X.P e .u8][ht:AR X.P t](b:Nat.blt d X.n=true)(c:bj sl x=some (.m (.d (.sl rows))))(f:qE rows=some a)
  (k:TF X ops rest ⟨(d,.m (.d (.str (strOfNums a))))::sl,bx,H⟩ λg h=>M6 (⟨some d,.m (.d (.str (strOfNums a))),[],[],none,false,none⟩::g) h):TF X ops (⟨some d,.convert s t x,ty,pos,af,none⟩::rest) ⟨sl,bx,H⟩ M6:=
 TF.cons (e:=⟨some d,.m (.d (.str (strOfNums a))),[],[],none,false,none⟩) (M2 W W (bL b) λm i=>EV ((i.ev (x:=x) (by simp[Op.operands])).trans c) f) W k
theorem KG{x:Operand}{b:Nat}{a:IntKind}{n:Int}(c:Nat.blt d X.n=true)(e:bj sl x=some (.m (.d (.int a n))))(k:TL X ops rest ⟨(d,.m (.d (.int a (a.wrap (-n)))))::sl,bx,H⟩ post):
  TL X ops (⟨some d,.unOp .neg b x,ty,pos,af,none⟩::rest) ⟨sl,bx,H⟩ post:=
 No W W c (I' e) k
def iI(H:Hp):M->Option D
 | .d x=>some x
 | .bB i aG len=>match H[i]? with
  |some (.row true ec v cs)=>bif (Nat.beq v aG&&Nat.blt 0 len)then(match chunk ec len cs with
   |some rows=>some (.sl rows)
   |none=>none)else none
  |_=>none
 |_=>none
theorem RM.view{σ:Sg}{P:Nat->Nat->Prop}(hi:j_ σ P){m:M}{d:D}{v:Value}(h:RM σ m v)(f:iI σ.H m=some d):RM σ (.d d) v:=by
 cases h with
 |d h=>simp[iI]at f;subst f;exact .d h
 |bB b Q L ad ac d6 R=>
  simp only[iI]at f;split at f
  ·rename_i c v j p;cases q:(Nat.beq v Q&&Nat.blt 0 L)with
   |false=>simp[q]at f
   |true=>
    simp only[q,aqX]at f;simp only[aqB]at q;have S:=aqr q.1;subst S;have h0:=bL q.2;split at f
    ·rename_i g T;injection f with f;subst f
     obtain⟨U,t,k,co,B,C⟩:=R true c j p;subst U;obtain⟨E,WH,T1,F,V,u,X,Y,⟨Z,Nr⟩,G⟩:=hi.obj b _ p;rw[B]at u;injection u with u;injection u with e5 e6;subst e5;subst e6
     have OV:F=ac:=art E (by rw[<-X,<-C]);subst OV;have QO:V=L:=art E (by rw[<-Z,<-t]);subst QO;obtain⟨z,H,I⟩:=pd T t;have MW:g≠ []:=by rintro rfl;simp at z;omega
     have ZS: ∀s,s<j.length-> ¬σ.O (σ.l b) s:=by
      intro s ho hO;rcases(hi.own _ _).1 hO with l|⟨N,ob,l,h9,n⟩
      ·exact hi.sep b _ p trivial s l
      ·have:=hi.inj N b ob _ l p (Ob.ji n) trivial h9;subst this;rw[p]at l;injection l with l;subst l
       simp only[Ob.jy]at n;rcases n with n|n
       ·cases n
       ·omega
     have A: ∀b a,b<g.length->a<c->b*c+a<j.length:=by
      intro b a hi i;rw[t,<-z]
      calc b*c+a<b*c+c:=by omega
       _=(b+1)*c:=by rw[arP]
       _<=g.length*c:=aqW _ hi
     have Ok:j.length<=k.size:=by rw[t,C];exact aqW _ Y
     have ZT: ∀b a,b<g.length->a<c-> ∃o d,g[b]?=some o/\o[a]?=some d/\j[b*c+a]?=some (.d d):=by
      intro b a hi i;have x:g[b].length=c:=H _ (aqz hi);have J:g[b]?=some g[b]:=by simp[hi]
      have K:g[b][a]?=some ((g[b])[a]'(by rw[x];exact i)):=by simp[x,i]
      exact⟨g[b],_,J,K,I b a _ _ J K⟩
     have:=gd.sl (O:=σ.O) (w:=σ.w) g (σ.l b) 0 F c (λb a=>k.getD (b*c+a) Go.undef) MW (by omega) (by omega) H ?_ ?_ ?_
     ·rw[z]at this;exact .d this
     ·intro e a r i;rw[arF];refine⟨?_,ZS _ (A e a r i)⟩;have:=A e a r i;simp[dY,World.cell?,B,show e*c+a<k.size by omega]
     ·intro e a r i;obtain⟨o,d,_,_,y⟩:=ZT e a r i;have MV:=A e a r i;exact(G _ _ (k.getD (e*c+a) Go.undef) y (by simp[show e*c+a<k.size by omega])).2
     ·intro e a o d x hd;have y:=I e a o d x hd;have MV:e*c+a<j.length:=by rcases aqh (e*c+a) j.length with h|h;exact h;simp[aqj h]at y
      have:=(G _ _ (k.getD (e*c+a) Go.undef) y (by simp[show e*c+a<k.size by omega])).1;cases this with
      |d h=>exact h
    ·cases f
  ·cases f
 |_=>simp[iI]at f
def h_(H:Hp):List M->Option (List M)
 | []=>some []
 |m::r=>match iI H m,h_ H r with
  |some d,some ms=>some (.d d::ms)
  |_,_=>none
theorem ki.view{σ:Sg}{r:Nat->Nat->Prop}(hi:j_ σ r){cs MY:List M}{n:Array Value}(h:ki σ cs n)(s:h_ σ.H cs=some MY):ki σ MY n:=by
 have w: ∀(cs MY:List M),h_ σ.H cs=some MY->MY.length=cs.length/\ ∀(a:Nat) f,MY[a]?=some f-> ∃m d,cs[a]?=some m/\iI σ.H m=some d/\f= .d d:=by
  intro cs
  induction cs with
  |nil=>intro MY h;simp[h_]at h;subst h;simp
  |cons m x t=>
   intro MY h;simp only[h_]at h;split at h
   ·rename_i d u j k;injection h with h;subst h
    obtain⟨i,l⟩:=t u k;refine⟨by simp[i],λa f g=> ?_⟩;cases a with
    |zero=>simp at g;subst g;exact⟨m,d,by simp,j,rfl⟩
    |succ a=>simp at g;obtain⟨p,b,c,e,q⟩:=l a f g;exact⟨p,b,by simpa using c,e,q⟩
   ·cases h
 obtain⟨j,k⟩:=w cs MY s;refine⟨by rw[h.1,j],λa f v g o=> ?_⟩;obtain⟨m,d,i,l,rfl⟩:=k a f g;exact⟨(h.2 a m v i o).1.view hi l,(h.2 a m v i o).2⟩
theorem Inv.jd{a:Act}{w:World}{t:Nat}{cs MY:List M}(h:Inv X ⟨sl,bx,H⟩ a w)(s:get bx t=some cs)(y:h_ H cs=some MY):Inv X ⟨sl,(t,MY)::bx,H⟩ a w:=by
 obtain⟨r,o,rfl,d⟩:=h;have z:r.H=H:=d.hH;obtain⟨A,u,i,k⟩:=d.box t cs s;have l: ∀c f,get ((t,MY)::bx) c=some f-> ∃p,get bx c=some p:=by
  intro c f i;rcases bM i with⟨rfl,rfl⟩|⟨g,m⟩
  ·exact⟨cs,s⟩
  ·exact⟨f,m⟩
 have q: ∀b j,nP X.jF o ((t,MY)::bx) b j↔nP X.jF o bx b j:=by
  intro b j;constructor
  ·rintro(i|⟨c,f,i,k⟩)
   ·exact .inl i
   ·obtain⟨p,g⟩:=l c f i;exact .inr ⟨c,p,g,k⟩
  ·rintro(i|⟨c,f,i,k⟩)
   ·exact .inl i
   ·by_cases e:t=c
    ·subst e;exact .inr ⟨t,MY,by simp[bJ],k⟩
    ·exact .inr ⟨c,f,by simp[bJ,e,i],k⟩
 refine⟨r,o,rfl,d.hH,d.defers,d.size,d.slot,?_,?_,?_,?_,?_,d.mono,d.cp⟩
 ·intro c f g;rcases bM g with⟨rfl,rfl⟩|⟨_,m⟩
  ·exact⟨A,u,i,k.view d.hinv (by rw[z];exact y)⟩
  ·exact d.box c f m
 ·intro c v f B g m C;obtain⟨_,n⟩:=l c f g;obtain⟨_,D⟩:=l v B m;exact d.rm c v _ _ n D C
 ·intro c f g;obtain⟨_,n⟩:=l c f g;exact d.rI c _ n
 ·intro c f g;obtain⟨_,n⟩:=l c f g;exact d.rJ c _ n
 ·exact⟨d.hinv.obj,d.hinv.inj,λb j=>by rw[q];exact d.hinv.own b j,λx E i k j g=>d.hinv.sep x E i k j ((q _ _).1 g),λb j g=>d.hinv.lU b j ((q _ _).1 g)⟩
theorem Inv.b9{a:Act}{w:World}{t:Nat}{m:M}{x:D}(h:Inv X ⟨sl,bx,H⟩ a w)(g:get sl t=some (.m m))(i:iI H m=some x):Inv X ⟨(t,.m (.d x))::sl,bx,H⟩ a w:=by
 obtain⟨d,j,rfl,b⟩:=h;have k:d.H=H:=b.hH;refine⟨d,j,rfl,b.hH,b.defers,b.size,?_,b.box,b.rm,b.rI,b.rJ,b.hinv,b.mono,b.cp⟩;intro e v l;rcases bM l with⟨rfl,rfl⟩|⟨_,n⟩
 ·obtain⟨f,o,c⟩:=b.slot e _ g;cases c with
  |m c=>exact⟨f,o,.m (c.view b.hinv (by rw[k];exact i))⟩
 ·exact b.slot e v n
theorem TL.b9(t:Nat){l:List Oper}{m:M}{x:D}(c:get sl t=some (.m m))(d:iI H m=some x)(k:TL X ops l ⟨(t,.m (.d x))::sl,bx,H⟩ post):TL X ops l ⟨sl,bx,H⟩ post:=
 λa b e=>k a b (e.b9 c d)
theorem TC.b9(t:Nat){c:Code}{q:Exit->St->Prop}{m:M}{x:D}(d:get sl t=some (.m m))(e:iI H m=some x)(k:TC X c ⟨(t,.m (.d x))::sl,bx,H⟩ q):TC X c ⟨sl,bx,H⟩ q:=
 λa b f=>k a b (f.b9 d e)
end rules
def Acc(n i:Nat)(rs:List (List D))(m:M)(H:Hp):Prop:=
 (rs= []/\m= .d (.sl []))\/(rs≠ []/\ ∃aG,m= .bB i aG rs.length/\H[i]?=some (.row true n aG (aX rs)))
theorem Acc.view{n i:Nat}{rs:List (List D)}{m:M}{H:Hp}(h:Acc n i rs m H)(b: ∀a∈rs,a.length=n):iI H m=some (.sl rs):=by
 rcases h with⟨rfl,rfl⟩|⟨c,g,rfl,d⟩
 ·rfl
 ·have e:Nat.blt 0 rs.length=true:=by rw[Nat.blt_eq];cases rs;exact absurd W c;simp
  have f:chunk n rs.length (aX rs)=some rs:=rP b;simp[iI,d,e,f]
section ops
variable{X:bD}{st:St}{dst:Option Nat}{ty:Nat}{pos:String}{af:Array Edge}{g:Option (Nat×Bool)}
end ops
section rules
variable{X:bD}{ops:Array Oper}{rest:List Oper}{post:St->Prop}{M6:List Ef->St->Prop}{sl:List (Nat×V)}{bx:List (Nat×List M)}{H:Hp}{d ty:Nat}{pos:String}{af:Array Edge}
end rules
section ops
variable{X:bD}{st:St}{dst:Option Nat}{ty:Nat}{pos:String}{af:Array Edge}{g:Option (Nat×Bool)}
theorem Hy{t e:Nat}{x:Operand}(d:st.ev x=some (.m (.d (.sl []))))[ht:aQ X.P t e]:
  cE X ⟨dst,.call ⟨.builtin .cap,#[x],#[t]⟩,ty,pos,af,g⟩ st (c_ (.m (.d (.int .i64 0))) st):=by
 refine MQ λa j m f=> ?_
 have c:=f.o9 d;generalize h:a.eval x=k at c;refine⟨.int .i64 0,?_,.m (.d (.int _ _))⟩;cases c with
 |slnil a=>simp[execOp,resolve,invoke,builtin,Builtin.cap_,underlying,program,Sem.run,ht.u,h,goInt]
 |sl v b l cap n val i o p q r s u=>exact absurd W i
theorem DJ{t e n:Nat}{x y:Operand}{k:IntKind}(h:st.ev x=some (.m (.d (.sl []))))(i:st.ev y=some (.m (.d (.int k 0))))[ht:aQ X.P t e][j:bU X.P e n]:
  cE X ⟨dst,.slice t x none (some y) none,ty,pos,af,g⟩ st (c_ (.m (.d (.sl []))) st):=by
 refine MQ λf r v d=> ?_
 have c:=d.o9 h;have l:=d.kj i;generalize m:f.eval x=s at c;cases c with
 |slnil o=>
  refine⟨.slice o 0 0,?_,.m (.d (.slnil _))⟩;have p: ∀a:World,(underlying t).run X.P a= .ok (.slice e) a:= λa=>by simp[underlying,program,Sem.run,ht.u]
  simp[execOp,Instr.sliceAt,Instr.slice,p,m,l,Instr.sliceBounds,Instr.sliceBound,asIntOf,c9 j.size]
 |sl G b u F w val q z A B C D E=>exact absurd W q
theorem A1{T e n:Nat}{x y:Operand}[ht:aQ X.P T e][m:bU X.P e n]
  (o:st.ev x=some (.m (.d (.sl [])))) (p:st.ev y=some (.m (.d (.sl [])))):
  cE X ⟨dst,.call ⟨.builtin .append,#[x,y],#[T,T]⟩,ty,pos,af,g⟩ st (c_ (.m (.d (.sl []))) st):=by
 refine MQ λf G I h=> ?_
 have i:=h.o9 o;have j:=h.o9 p;generalize q:f.eval x=H at i;generalize r:f.eval y=J at j;cases i with
 |sl D b l C s val c t u v w z A=>exact absurd W c
 |slnil k=>
  cases j with
  |sl D b l C s val c t u v w z A=>exact absurd W c
  |slnil d=>
   refine⟨.slice k 0 0,?_,.m (.d (.slnil _))⟩;have B: ∀a:World,(underlying T).run X.P a= .ok (.slice e) a:= λa=>by simp[underlying,program,Sem.run,ht.u]
   have E: ∀a:World,(Builtin.firstCells n 0 (.slice d 0 0)).run X.P a= .ok #[] a:=by
    intro a;cases d<;>simp[Builtin.firstCells,loadCells,loadCellsFrom]
   have F: ∀a:World,(Builtin.lenOf (.slice d 0 0)).run X.P a= .ok 0 a:=by intro a;simp[Builtin.lenOf]
   simp only[execOp,resolve,invoke,builtin,Builtin.append_];simp only[Sem.run_bind,Sem.run_pure,Result.andThen_ok,ar8,aqN,arf,q,r];cases k<;>simp[B,c9 m.size,F,E,storeCells]
theorem DK{t e n:Nat}{x y:Operand}{k:IntKind}{i:Int}{j aG len:Nat}{cs:List M}(acc:Bool)(O:st.ev x=some (.m (.bB j aG len)))(P:st.ev y=some (.m (.d (.int k i))))[ht:aQ X.P t e][Q:bU X.P e n]
  (f:st.H[j]?=some (.row false n aG cs)) (R:0<=i) (d6:i<=len):
  cE X ⟨dst,.slice t x none (some y) none,ty,pos,af,g⟩ st (c_ (.m (.bB j (aG+1) i.toNat)) ⟨st.sl,st.bx,st.H.set j (.row acc n (aG+1) (cs.take (i.toNat*n)))⟩):=by
 intro N d S a;have h:=a.ev O;have T:=a.kj P;have C:d.H[j]?=some (.row false n aG cs):=by rw[a.hH];exact f
 obtain⟨s,U,D,b,E,w,z,h5,⟨V,UI⟩,F⟩:=a.hinv.obj j _ C;generalize Y:N.eval x=u at h;cases h with
 |m h=>cases h with
  |bB j aG len ad ac ZJ Z=>
   obtain⟨e1,G,WH,T1,l,e4⟩:=Z false n cs C;subst e1;rw[w]at l;injection l with l;injection l with e5 e6
   subst e5;subst e6;have OV:b=ac:=art s (by rw[<-z,<-e4]);subst OV;have QO:E=len:=art s (by rw[<-V,<-G]);subst QO;have da:i.toNat<=E:=by omega
   have H:(cs.take (i.toNat*n)).length=i.toNat*n:=by
    rw[arX,G];exact asg (aqW _ da)
   obtain⟨p,I,J,K,g4,g5⟩:=a.qA (j:=j) (b':=d.l j) (ob:= .row false n aG cs) (NH:= .row acc n (aG+1) (cs.take (i.toNat*n))) (w':=d.w) f trivial W W W (aqd _)
    (λc _ _=>rfl) (.inl W) (by
     intro co v ho A;exact absurd (Or.inl W) ho) ⟨rfl,.inl (by omega)⟩ (by
     intro p hm QN _ _;refine⟨s,U,D,b,i.toNat,by rw[QN];exact w,z,by omega,⟨H,by omega⟩,?_⟩;intro k m v o L;have A:cs[k]?=some m:=by
      rw[aso]at o;split at o
      ·exact o
      ·cases o
     exact⟨(F k m v A L).1.mono hm,(F k m v A L).2⟩)
   refine dv.value (u:= .slice (some ⟨d.l j,0,none⟩) i.toNat b) (w':=p.w) ?_ ⟨_,_,p,S,⟨rfl,rfl⟩,rfl,g5,?_⟩
   ·have N5: ∀q:World,(underlying t).run X.P q= .ok (.slice e) q:= λq=>by simp[underlying,program,Sem.run,ht.u]
    have hb:0<=i/\i<=(b:Int):=⟨R,by omega⟩;simp[execOp,Instr.sliceAt,Instr.slice,N5,Y,T,Instr.sliceBounds,Instr.sliceBound,asIntOf,c9 Q.size,hb,li,I]
   ·refine .m (.bB j (aG+1) i.toNat _ b (.inr ⟨acc,n,aG+1,_,by rw[K];exact uy f,aqd _⟩) ?_);intro O9 V3 Nc B;rw[K]at B;have OO:j<st.H.length:=by rcases aqh j st.H.length with r|r;exact r;simp[aqj r]at f
    simp[OO]at B;obtain⟨f1,f2,f3⟩:=B;subst f1;subst f2;subst f3;exact⟨by rw[J],H,_,D,by rw[J,I];exact w,z⟩
theorem B9{z:Array Value}{n:Nat}(d:0<z.size)(h: ∀(i:Nat) (v:Value),z[i]?=some v->flat v=true)(i:Nat)(v:Value)(a:(Builtin.zeroCells z n)[i]?=some v):flat v=true:=by
 have e:i<n*z.size:=by
  rcases aqh i (n*z.size)with b|b
  ·exact b
  ·rw[aqT (by rw[kM];exact b)]at a;cases a
 have c:i%z.size<z.size:=ar5 _ d;simp[Builtin.zeroCells,e,c]at a;exact h (i%z.size) v (by simp[c,a])
theorem B_{T t e n o len:Nat}{x y:Operand}{k:IntKind}{z:D}[ht:aQ X.P T e][R:kU X.P t k][C:bU X.P e n][S:js X.P e o][U:gg X.P e z](V:Nat.blt 0 n=true)(Y:(bf z).length=n)
  (Z:st.ev x=some (.m (.d (.sl [])))) (hy:st.ev y=some (.m (.d (.int k len)))) (hl:0<len) (Nk:len*o<=140737488355328) (E:len<=140737488355328):
  cE X ⟨dst,.call ⟨.builtin .append,#[x,y],#[T,t]⟩,ty,pos,af,g⟩ st (c_ (.m (.bB st.H.length 0 len)) ⟨st.sl,st.bx,st.H++ [.row false n 0 (List.replicate (len*n) .undef)]⟩):=by
 intro B a F p;have OK:=bL V;have q:=p.o9 Z;have h2:=p.kj hy;obtain⟨s,i1,i2,G⟩:=qC C.size S.bytes;obtain⟨f,QK,QL⟩:=(fY U.zero).run;have H:ki a ((bf z).map .d) f.cells:=(RM.d (eJ QL):RM a (.d z) f).cells W;have ZU:f.cells.size=n:=by rw[H.1];simpa using Y
 have Q: ∀(h:Nat) (v:Value),f.cells[h]?=some v->flat v=true:=by
  intro h v i;have N2:h<f.cells.size:=by rcases aqh h f.cells.size with d|d;exact d;simp[aqT d]at i
  have w:h<(bf z).length:=by omega
  exact(H.2 h (.d (bf z)[h]) v (by simp[w]) i).2
 generalize Sd:B.eval x=u at q;cases q with
 |sl f4 b d8 cap ec val h0 I E P3 M5 NY NZ=>exact absurd W h0
 |slnil J=>
  let cap:=len+a.w.tape a.w.drawn (.appendCap len 0 e)%(2^63-len)
  let j:=Builtin.zeroCells f.cells len++Builtin.zeroCells f.cells (cap-len)
  have I:len<=cap:=arT _ _;have K:j.size=cap*n:=by
   simp only[j,asL,kM,ZU];rw[<-ar0];congr 1;omega
  have w:cw X {a with w:=a.w.drew} F st B:=p.ext (fJ.drew _);have Tu:dy a {a with w:=a.w.drew} :=dy.ext (fJ.drew _);have L:(List.replicate (len*n) M.undef).length=len*n:=by simp
  obtain⟨l,N,g2,O,g4,g5⟩:=w.newObj (.row false n 0 (List.replicate (len*n) .undef)) (.cells j e (0,0)) (by
   intro l hm hw;refine⟨OK,j,e,cap,len,by rw[hw];exact iy _ _,K,I,⟨L,E⟩,?_⟩;intro k m v r i;have NL:m= .undef:=by
    rw[asP]at r;split at r
    ·injection r with d;exact d.symm
    ·cases r
   subst NL;refine⟨.undef _,?_⟩;simp only[j,asX]at i;split at i
   ·exact B9 (by omega) Q _ _ i
   ·exact B9 (by omega) Q _ _ i)
  refine dv.value (u:= .slice (some ⟨a.w.heap.size,0,none⟩) len cap) (w':=l.w) ?_ ⟨_,_,l,F,⟨rfl,rfl⟩,rfl,g5,?_⟩
  ·have V5: ∀c:World,(typeInfo e).run X.P c= .ok s c:= λc=>by simp[typeInfo,program,Sem.run,i1]
   have N5: ∀c:World,(underlying T).run X.P c= .ok (.slice e) c:= λc=>by simp[underlying,program,Sem.run,ht.u]
   have ac: ∀c:World,(underlying t).run X.P c= .ok (.int k) c:= λc=>by simp[underlying,program,Sem.run,R.u]
   have XP:IntKind.i64.wrap (len:Int)=len:=IntWalk.i64_in _ ⟨by omega,by omega⟩;have d9: ¬((len:Int)*(s.bytes:Int)>2^48):=by
    rw[G];have:((len*o:Nat):Int)<=140737488355328:=by omega
    rw[Int.natCast_mul]at this;omega
   have co: ¬(281474976710656<(len:Int)*(s.bytes:Int)):=by omega
   have XQ: ¬((len:Int)<0):=by omega
   have c1: ¬len=0:=by omega
   have c2: ¬(9223372036854775807<((len:Nat):Int)):=by omega
   have c3: ¬(281474976710656<Builtin.nextslicecap len 0*s.bytes):=by
    rw[G];have q:=rT (P6:=len) (cap:=0) (by omega);have:=aqW o q;rw[as5]at this;omega
   have c4: ¬len*n=0:=by
    intro d;rcases asi.1 d with d|d<;>omega
   have d7:(Builtin.firstCells n 0 (.slice J 0 0)).run X.P a.w.drew= .ok #[] a.w.drew:=by
    cases J<;>simp[Builtin.firstCells,loadCells,loadCellsFrom]
   have WR:(Question.appendCap len 0 e).cut (a.w.tape a.w.drawn (Question.appendCap len 0 e))=cap:=rfl;have RX:(Question.appendCap len 0 e).forced=false:=rfl;simp only[execOp,resolve,invoke,builtin,Builtin.append_];simp only[Sem.run_bind,Sem.run_pure,Result.andThen_ok,ar8,aqN,arf,Sd,h2];simp[N5,ac,V5,c9 C.size,asInt,asIntOf,XP,co,XQ,c1,c2,c3,c4];simp only[RX,arK,are];rw[d7];simp only[Result.andThen_ok,QK,WR];simp[newRow,newObj,Sem.run,N,j]
  ·have d6:a.H.length=st.H.length:=by rw[p.hH]
   have P:l.l st.H.length=a.w.heap.size:=by rw[<-d6];exact g2
   refine .m (.bB _ 0 len _ cap (.inr ⟨false,n,0,List.replicate (len*n) .undef,by rw[O];simp,aqd _⟩) ?_);intro O9 V3 MY A;rw[O]at A;simp at A;obtain⟨e1,e2,e3⟩:=A;subst e1;subst e2;subst e3;exact⟨by rw[P],L,j,e,by rw[P,N];exact iy _ _,K⟩
end ops
section walk
variable{X:bD}{ops:Array Oper}{rest:List Oper}{post:St->Prop}{sl:List (Nat×V)}{bx:List (Nat×List M)}{H:Hp}{d:Nat}{ty:Nat}{pos:String}{af:Array Edge}
theorem EW{t e:Nat}{x:Operand}[ht:aQ X.P t e](a:Nat.blt d X.n=true)(b:bj sl x=some (.m (.d (.sl []))))(k:TL X ops rest ⟨(d,.m (.d (.int .i64 0)))::sl,bx,H⟩ post):
  TL X ops (⟨some d,.call ⟨.builtin .cap,#[x],#[t]⟩,ty,pos,af,none⟩::rest) ⟨sl,bx,H⟩ post:=No W W a (Hy b) k
theorem FW{t e n:Nat}{x y:Operand}{a:IntKind}[ht:aQ X.P t e][g:bU X.P e n](b:Nat.blt d X.n=true)(c:bj sl x=some (.m (.d (.sl []))))(f:bj sl y=some (.m (.d (.int a 0))))(k:TL X ops rest ⟨(d,.m (.d (.sl [])))::sl,bx,H⟩ post):
  TL X ops (⟨some d,.slice t x none (some y) none,ty,pos,af,none⟩::rest) ⟨sl,bx,H⟩ post:=No W W b (DJ c f) k
theorem pg{T e n:Nat}{x y:Operand}[ht:aQ X.P T e][f:bU X.P e n](a:Nat.blt d X.n=true)(b:bj sl x=some (.m (.d (.sl []))))(c:bj sl y=some (.m (.d (.sl []))))(k:TL X ops rest ⟨(d,.m (.d (.sl [])))::sl,bx,H⟩ post):
  TL X ops (⟨some d,.call ⟨.builtin .append,#[x,y],#[T,T]⟩,ty,pos,af,none⟩::rest) ⟨sl,bx,H⟩ post:=No W W a (A1 b c) k
theorem FX{t e n:Nat}{x y:Operand}{a:IntKind}{i:Int}{j aG len:Nat}{cs:List M}(acc:Bool)[ht:aQ X.P t e][m:bU X.P e n](b:Nat.blt d X.n=true)(c:bj sl x=some (.m (.bB j aG len)))(f:bj sl y=some (.m (.d (.int a i))))
  (g:H[j]?=some (.row false n aG cs)) (h:0<=i) (l:i<=len) (k:TL X ops rest ⟨(d,.m (.bB j (aG+1) i.toNat))::sl,bx,H.set j (.row acc n (aG+1) (cs.take (i.toNat*n)))⟩ post):
  TL X ops (⟨some d,.slice t x none (some y) none,ty,pos,af,none⟩::rest) ⟨sl,bx,H⟩ post:=No W W b (DK acc c f g h l) k
theorem DM{T a e n b len:Nat}{x y:Operand}{c:IntKind}{z:D}[ht:aQ X.P T e][p:kU X.P a c][q:bU X.P e n][r:js X.P e b][s:gg X.P e z](f:Nat.blt d X.n=true)(g:bj sl x=some (.m (.d (.sl []))))(h:bj sl y=some (.m (.d (.int c len))))
  (i:Nat.blt 0 n=true) (j:(bf z).length=n) (l:0<len) (m:len*b<=140737488355328) (o:len<=140737488355328) (k:TL X ops rest ⟨(d,.m (.bB H.length 0 len))::sl,bx,H++ [.row false n 0 (List.replicate (len*n) .undef)]⟩ post):
  TL X ops (⟨some d,.call ⟨.builtin .append,#[x,y],#[T,a]⟩,ty,pos,af,none⟩::rest) ⟨sl,bx,H⟩ post:=No W W f (B_ i j g h l m o) k
end walk
inductive MB(n:Nat):M->Prop where
 |d (x:D):MB n (.d x)
 |ref (i off:Nat) (h:i<n):MB n (.ref i off)
 |bB (i aG len:Nat) (h:i<n):MB n (.bB i aG len)
 |dX (i aG off:Nat) (h:i<n):MB n (.dX i aG off)
 |mp (i:Nat) (h:i<n):MB n (.mp i)
 |it (i:Nat) (h:i<n):MB n (.it i)
 |agg (cs:List M) (h: ∀m∈cs,MB n m):MB n (.agg cs)
 |fn (f:Nat) (cs:List M) (h: ∀m∈cs,MB n m):MB n (.fn f cs)
 |cZ (cs:List M) (h: ∀m∈cs,MB n m):MB n (.cZ cs)
 |undef:MB n .undef
def KH(n:Nat):Ob->Prop
 | .box cs=> ∀m∈cs,MB n m
 | .row _ _ _ cs=> ∀m∈cs,MB n m
 | .map es=> ∀e∈es,MB n e.2
 | .iter x=>MB n x
 | .dead=>True
 | .free=>True
def HB(n:Nat)(H:Hp):Prop:= ∀ob∈H,KH n ob
mutual
def dj(ρ:Nat->Nat):M->M
 | .d x=> .d x
 | .ref i off=> .ref (ρ i) off
 | .bB i aG len=> .bB (ρ i) aG len
 | .dX i aG off=> .dX (ρ i) aG off
 | .mp i=> .mp (ρ i)
 | .it i=> .it (ρ i)
 | .agg cs=> .agg (iz ρ cs)
 | .fn f cs=> .fn f (iz ρ cs)
 | .cZ cs=> .cZ (iz ρ cs)
 | .undef=> .undef
def iz(ρ:Nat->Nat):List M->List M
 | []=>[]
 |m::r=>dj ρ m::iz ρ r
end
theorem xw(ρ:Nat->Nat)(l:List M):iz ρ l=l.map (dj ρ):=by induction l with
 |nil=>rfl
 |cons b c a=>simp[iz,a]
theorem gK(ρ:Nat->Nat)(l:List M)(i:Nat):(iz ρ l)[i]?=(l[i]?).map (dj ρ):=by rw[xw];simp
theorem cT(ρ:Nat->Nat)(l:List M):(iz ρ l).length=l.length:=by rw[xw];simp
def cD(ρ:Nat->Nat):Ob->Ob
 | .box cs=> .box (iz ρ cs)
 | .row acc ec aG cs=> .row acc ec aG (iz ρ cs)
 | .map es=> .map (es.map λe=>(e.1,dj ρ e.2))
 | .iter x=> .iter (dj ρ x)
 | .dead=> .dead
 | .free=> .free
theorem eL(ρ:Nat->Nat)(ob:Ob):(cD ρ ob).live↔ob.live:=by cases ob<;>simp[cD,Ob.live]
theorem pj(ρ:Nat->Nat)(ob:Ob)(o:Nat):(cD ρ ob).jy o↔ob.jy o:=by cases ob<;>simp[cD,Ob.jy,cT]
structure Ke(ρ:Nat->Nat)(n:Nat)(σ τ:Sg):Prop where
 w:σ.w=τ.w
 O: ∀b o,¬σ.O b o-> ¬τ.O b o
 len: ∀(i:Nat) ob,σ.H[i]?=some ob->i<n
 ob: ∀(i:Nat) ob,σ.H[i]?=some ob->τ.H[ρ i]?=some (cD ρ ob)
 l: ∀(i:Nat) ob,σ.H[i]?=some ob->τ.l (ρ i)=σ.l i
theorem RM.up{ρ:Nat->Nat}{n:Nat}{σ τ:Sg}(c:Ke ρ n σ τ){m:M}{v:Value}(h:RM σ m v):RM τ (dj ρ m) v:=by
 induction h with
 |d h=>rw[dj];exact .d (h.mono λb C v i p=>⟨by rw[<-c.w];exact i,c.O b C p⟩)
 |ref a B f h=>
  rw[dj,<-c.l a _ h];exact .ref (ρ a) B _ (c.ob a _ h)
 |bB a y J D K x z=>
  rw[dj];have A: ∃j,σ.H[a]?=some j:=by
   rcases x with h|⟨o,k,q,f,h,_⟩
   ·exact⟨_,h⟩
   ·exact⟨_,h⟩
  obtain⟨j,l⟩:=A;refine .bB _ y J D K ?_ ?_
  ·rcases x with h|⟨o,k,q,f,h,p⟩
   ·exact .inl (c.ob a _ h)
   ·exact .inr ⟨o,k,q,_,c.ob a _ h,p⟩
  ·intro o k f e;rw[c.ob a _ l]at e;injection e with e
   cases j<;>simp only[cD]at e<;>cases e;obtain⟨F,G,H⟩:=z _ _ _ l;rw[c.l a _ l,cT,<-c.w];exact⟨F,G,H⟩
 |dX a y B b x z=>
  rw[dj];have A: ∃j,σ.H[a]?=some j:=by
   rcases x with h|⟨o,k,q,f,h,_⟩
   ·exact⟨_,h⟩
   ·exact⟨_,h⟩
  obtain⟨j,l⟩:=A;refine .dX _ y B b ?_ ?_
  ·rcases x with h|⟨o,k,q,f,h,p⟩
   ·exact .inl (c.ob a _ h)
   ·exact .inr ⟨o,k,q,_,c.ob a _ h,p⟩
  ·intro o k f e;rw[c.ob a _ l]at e;injection e with e
   cases j<;>simp only[cD]at e<;>cases e;rw[c.l a _ l];exact z _ _ _ l
 |mp a N h=>
  rw[dj,<-c.l a _ h];exact .mp (ρ a) _ (c.ob a _ h)
 |it a L h=>
  rw[dj,<-c.l a _ h];exact .it (ρ a) _ (c.ob a _ h)
 |agg f r s I h t=>
  rw[dj];refine .agg _ r (by rw[cT];exact s) I λa m v g u=> ?_
  rw[gK]at g;obtain⟨w,i,rfl⟩:=arh.1 g;exact t a w v i u
 |fn E f r s h t=>
  rw[dj];refine .fn E _ r (by rw[cT];exact s) λa m v g u=> ?_
  rw[gK]at g;obtain⟨w,i,rfl⟩:=arh.1 g;exact t a w v i u
 |cZ f r s h t=>
  rw[dj];refine .cZ _ r (by rw[cT];exact s) λa m v g u=> ?_
  rw[gK]at g;obtain⟨w,i,rfl⟩:=arh.1 g;exact t a w v i u
 |undef v=>rw[dj];exact .undef v
structure DN(ρ:Nat->Nat)(n:Nat)(σ τ:Sg):Prop where
 w:σ.w=τ.w
 O: ∀b o,¬τ.O b o-> ¬σ.O b o
 has: ∀i:Nat,i<n-> ∃ob,σ.H[i]?=some ob
 ob: ∀(i:Nat) ob,σ.H[i]?=some ob->τ.H[ρ i]?=some (cD ρ ob)
 l: ∀(i:Nat) ob,σ.H[i]?=some ob->τ.l (ρ i)=σ.l i
theorem RM.down{ρ:Nat->Nat}{n:Nat}{σ τ:Sg}(h:DN ρ n σ τ){m:M}(Q:MB n m): ∀{v:Value},RM τ (dj ρ m) v->RM σ m v:=by
 induction Q with
 |d L=>
  intro v a;rw[dj]at a;cases a with
  |d a=>exact .d (a.mono λb N v R i=>⟨by rw[h.w];exact R,h.O b N i⟩)
 |ref c C a=>
  intro v e;rw[dj]at e;obtain⟨k,f⟩:=h.has c a;cases e with
  |ref D C g a=>
   rw[h.ob c _ f]at a;injection a with a
   cases k<;>simp only[cD]at a<;>cases a;rw[h.l c _ f];exact .ref c C _ f
 |bB c x K a=>
  intro v e;rw[dj]at e;obtain⟨k,f⟩:=h.has c a;have y:=h.ob c _ f;cases e with
  |bB D x K O Y j E=>
   refine .bB c x K O Y ?_ ?_
   ·rw[y]at j;cases k with
    |dead=>exact .inl f
    |free=>rcases j with a|⟨l,o,p,q,a,i⟩<;>simp[cD]at a
    |row w u F g=>
     rcases j with a|⟨l,o,p,q,a,i⟩
     ·simp[cD]at a
     ·simp only[cD]at a;injection a with a;injection a with S T U V
      exact .inr ⟨w,u,F,g,f,by omega⟩
    |box g=>rcases j with a|⟨l,o,p,q,a,i⟩<;>simp[cD]at a
    |map g=>rcases j with a|⟨l,o,p,q,a,i⟩<;>simp[cD]at a
    |iter g=>rcases j with a|⟨l,o,p,q,a,i⟩<;>simp[cD]at a
   ·intro w u g r;rw[f]at r;injection r with r
    subst r;obtain⟨G,H,I⟩:=E w u (iz ρ g) y;rw[h.l c _ f]at G I;rw[cT]at H;rw[h.w];exact⟨G,H,I⟩
 |dX c x C a=>
  intro v e;rw[dj]at e;obtain⟨k,f⟩:=h.has c a;have y:=h.ob c _ f;cases e with
  |dX D x C b j E=>
   refine .dX c x C b ?_ ?_
   ·rw[y]at j;cases k with
    |dead=>exact .inl f
    |free=>rcases j with a|⟨l,o,p,q,a,i⟩<;>simp[cD]at a
    |row w u F g=>
     rcases j with a|⟨l,o,p,q,a,i⟩
     ·simp[cD]at a
     ·simp only[cD]at a;injection a with a;injection a with S T U V
      exact .inr ⟨w,u,F,g,f,by omega⟩
    |box g=>rcases j with a|⟨l,o,p,q,a,i⟩<;>simp[cD]at a
    |map g=>rcases j with a|⟨l,o,p,q,a,i⟩<;>simp[cD]at a
    |iter g=>rcases j with a|⟨l,o,p,q,a,i⟩<;>simp[cD]at a
   ·intro w u g r;rw[f]at r;injection r with r
    subst r;rw[<-h.l c _ f];exact E w u (iz ρ g) y
 |mp c a=>
  intro v e;rw[dj]at e;obtain⟨k,f⟩:=h.has c a;cases e with
  |mp D Z a=>
   rw[h.ob c _ f]at a;injection a with a
   cases k<;>simp only[cD]at a<;>cases a;rw[h.l c _ f];exact .mp c _ f
 |it c a=>
  intro v e;rw[dj]at e;obtain⟨k,f⟩:=h.has c a;cases e with
  |it D L a=>
   rw[h.ob c _ f]at a;injection a with a
   cases k<;>simp only[cD]at a<;>cases a;rw[h.l c _ f];exact .it c _ f
 |agg g a z=>
  intro v e;rw[dj]at e;cases e with
  |agg J A s X i=>
   refine .agg g A (by rw[cT]at s;exact s) X λc m v t B=> ?_
   exact z m (aqk t) (i c (dj ρ m) v (by rw[gK,t];rfl) B)
 |fn P g a z=>
  intro v e;rw[dj]at e;cases e with
  |fn f' J A s i=>
   refine .fn P g A (by rw[cT]at s;exact s) λc m v t B=> ?_
   exact z m (aqk t) (i c (dj ρ m) v (by rw[gK,t];rfl) B)
 |cZ g a z=>
  intro v e;rw[dj]at e;cases e with
  |cZ J A s i=>
   refine .cZ g A (by rw[cT]at s;exact s) λc m v t B=> ?_
   exact z m (aqk t) (i c (dj ρ m) v (by rw[gK,t];rfl) B)
 |undef=>intro v a;exact .undef v
theorem gf.up{ρ:Nat->Nat}{σ τ:Sg}(n:σ.w=τ.w)(o: ∀m v,RM σ m v->RM τ (dj ρ m) v){b:Nat}{ob:Ob}(h:gf σ b ob):gf τ b (cD ρ ob):=by
 cases ob with
 |box z=>
  obtain⟨q,p,d,f,i⟩:=h;refine⟨q,p,by rw[<-n];exact d,by rw[cT];exact f,λa m v k g=> ?_⟩;rw[gK]at k;obtain⟨l,j,rfl⟩:=arh.1 k;exact⟨o _ _ (i a l v j g).1,(i a l v j g).2⟩
 |row L I J z=>
  obtain⟨A,q,p,G,u,d,f,i,⟨j,B⟩,r⟩:=h;refine⟨A,q,p,G,u,by rw[<-n];exact d,f,i,⟨by rw[cT];exact j,B⟩,λa m v k g=> ?_⟩;rw[gK]at k;obtain⟨l,s,rfl⟩:=arh.1 k;exact⟨o _ _ (r a l v s g).1,(r a l v s g).2⟩
 |map K=>
  obtain⟨C,c,d,f,i⟩:=h;refine⟨C,c,by rw[<-n];exact d,by simpa using f,λa e w t D=> ?_⟩;rw[aqL]at t;obtain⟨E,j,rfl⟩:=arh.1 t;exact(i a E w j D).up λv g=>o _ _ g
 |iter H=>
  obtain⟨F,x,y,d,f⟩:=h;exact⟨F,x,y,by rw[<-n];exact d,o _ _ f⟩
 |dead=>trivial
 |free=>trivial
theorem gf.down{ρ:Nat->Nat}{n:Nat}{σ τ:Sg}(l:σ.w=τ.w)(o: ∀m v,MB n m->RM τ (dj ρ m) v->RM σ m v){b:Nat}{ob:Ob}(p:KH n ob)(h:gf τ b (cD ρ ob)):gf σ b ob:=by
 cases ob with
 |box z=>
  obtain⟨r,q,d,a,i⟩:=h;refine⟨r,q,by rw[l];exact d,by rw[cT]at a;exact a,λg m v j k=> ?_⟩;have f:=i g (dj ρ m) v (by rw[gK,j];rfl) k;exact⟨o _ _ (p m (aqk j)) f.1,f.2⟩
 |row L I J z=>
  obtain⟨A,r,q,G,u,d,a,i,⟨f,B⟩,C⟩:=h;refine⟨A,r,q,G,u,by rw[l];exact d,a,i,⟨by rw[cT]at f;exact f,B⟩,λg m v j k=> ?_⟩;have s:=C g (dj ρ m) v (by rw[gK,j];rfl) k;exact⟨o _ _ (p m (aqk j)) s.1,s.2⟩
 |map K=>
  obtain⟨D,c,d,a,i⟩:=h;refine⟨D,c,by rw[l];exact d,by simpa using a,λg e w t E=> ?_⟩;have f:=i g (e.1,dj ρ e.2) w (by rw[aqL,t];rfl) E;exact f.up λv k=>o _ _ (p e (aqk t)) k
 |iter H=>
  obtain⟨F,x,y,d,a⟩:=h;exact⟨F,x,y,by rw[l];exact d,o _ _ p a⟩
 |dead=>trivial
 |free=>trivial
theorem f_{H:Hp}{i:Nat}{ob:Ob}(h:H[i]?=some ob):i<H.length:=by
 rcases aqh i H.length with a|a
 ·exact a
 ·simp[aqj a]at h
theorem CT.frame{P:Program}{f:Nat}{ms:List M}{H K:Hp}{post:M->Hp->Prop}(ρ:Nat->Nat)(OT: ∀i j,i<H.length->j<H.length->ρ i=ρ j->i=j)
  (w: ∀(i:Nat) ob,H[i]?=some ob->K[ρ i]?=some (cD ρ ob)) (hB:HB H.length H) (Nl: ∀m∈ms,MB H.length m)
  (h:CT P f ms H λr k=>k.length=H.length/\post r k):
  CT P f (iz ρ ms) K λr k=> ∃r0 H',post r0 H'/\H'.length=H.length/\r=dj ρ r0/\k.length=K.length/\(∀(i:Nat) ob,H'[i]?=some ob->k[ρ i]?=some (cD ρ ob))/\ ∀j,(∀i,i<H.length->ρ i≠j)->k[j]?=K[j]?:=by
 intro σ Oo vs A p O5;have f9: ∀i,i<H.length->ρ i<K.length:=by
  intro i a;have:=w i H[i] (by simp[a]);exact f_ this
 let d9:Nat->Nat->Prop:= λb q=>Oo b q\/ ∃(j:Nat) (ob:Ob),(∀i,i<H.length->ρ i≠j)/\σ.H[j]?=some ob/\σ.l j=b/\ob.jy q
 let F:Sg:=⟨σ.w,σ.O,λi=>σ.l (ρ i),H⟩
 have ZV:DN ρ H.length F σ:=⟨rfl,λ_ _ h=>h,λi a=>⟨H[i],by simp[F,a]⟩,λi ob c=>by rw[p];exact w i ob c,λi ob c=>rfl⟩;have ZW: ∀m v,MB H.length m->RM σ (dj ρ m) v->RM F m v:= λm v hb hr=>RM.down ZV hb hr
 have gc:j_ F d9:=by
  refine⟨?_,?_,?_,?_,?_⟩
  ·intro i ob a;have c:σ.H[ρ i]?=some (cD ρ ob):=by rw[p];exact w i ob a
   exact gf.down (σ:=F) (τ:=σ) (ρ:=ρ) W ZW (hB ob (aqk a)) (A.obj (ρ i) _ c)
  ·intro i j u N a d o S B;have c:σ.H[ρ i]?=some (cD ρ u):=by rw[p];exact w i u a
   have g:σ.H[ρ j]?=some (cD ρ N):=by rw[p];exact w j N d
   exact OT i j (f_ a) (f_ d) (A.inj _ _ _ _ c g ((eL ρ u).2 o) ((eL ρ N).2 S) B)
  ·intro b q;show σ.O b q↔_;rw[A.own];constructor
   ·rintro(c|⟨j,ob,c,g,l⟩)
    ·exact .inl (.inl c)
    ·by_cases d: ∃i,i<H.length/\ρ i=j
     ·obtain⟨i,a,rfl⟩:=d;have n:=w i H[i] (by simp[a]);rw[p,n]at c;injection c with c
      subst c;exact .inr ⟨i,H[i],by simp[F,a],g,(pj ρ _ q).1 l⟩
     ·exact .inl (.inr ⟨j,ob,λi a B=>d ⟨i,a,B⟩,c,g,l⟩)
   ·rintro((c|⟨j,ob,h0,c,g,l⟩)|⟨i,ob,c,g,l⟩)
    ·exact .inl c
    ·exact .inr ⟨j,ob,c,g,l⟩
    ·exact .inr ⟨ρ i,cD ρ ob,by rw[p];exact w i ob c,g,(pj ρ _ q).2 l⟩
  ·intro i ob a t q;have c:σ.H[ρ i]?=some (cD ρ ob):=by rw[p];exact w i ob a
   rintro(g|⟨j,f4,h0,g,l,n⟩)
   ·exact A.sep _ _ c ((eL ρ ob).2 t) q g
   ·exact h0 i (f_ a) (A.inj _ _ _ _ c g ((eL ρ ob).2 t) (Ob.ji n) l.symm)
  ·rintro b q (c|⟨j,f4,h0,g,l,n⟩)
   ·exact A.lU b q c
   ·rw[<-l];exact(A.obj j f4 g).lt (Ob.ji n)
 have ge:uj F ms vs:=by
  refine⟨by rw[O5.1,cT],λi m v hm hv=> ?_⟩;exact ZW m v (Nl m (aqk hm)) (O5.2 i (dj ρ m) v (by rw[gK,hm];rfl) hv)
 refine(h F d9 vs gc W ge).mono ?_;rintro e w' ⟨v,r0,s,B,QN,⟨ac,NC⟩,Py,hr,T,I⟩
 classical
 let R:Nat->Option Nat:= λj=>if h: ∃i,i<H.length/\ρ i=j then some h.choose else none
 have d7: ∀i,i<H.length->R (ρ i)=some i:=by
  intro i a;have f7: ∃O,O<H.length/\ρ O=ρ i:=⟨i,a,rfl⟩;show(if h: ∃O,O<H.length/\ρ O=ρ i then some h.choose else none)=some i;rw[asV f7];have:=f7.choose_spec;rw[OT _ _ this.1 a this.2]
 have d8: ∀j,(∀i,i<H.length->ρ i≠j)->R j=none:=by
  intro j d;show(if h: ∃O,O<H.length/\ρ O=j then some h.choose else none)=none;rw[as3];rintro⟨i,a,B⟩;exact d i a B
 have U: ∀j,(∃i,i<H.length/\ρ i=j/\R j=some i)\/((∀i,i<H.length->ρ i≠j)/\R j=none):=by
  intro j;by_cases d: ∃i,i<H.length/\ρ i=j
  ·obtain⟨i,a,rfl⟩:=d;exact .inl ⟨i,a,rfl,d7 i a⟩
  ·have c: ∀i,i<H.length->ρ i≠j:= λi a B=>d ⟨i,a,B⟩
   exact .inr ⟨c,d8 j c⟩
 let y:Hp:=(List.range K.length).map λj=>match R j with
  |some i=>cD ρ (s.H.getD i .dead)
  |none=>K.getD j .dead
 let x:Nat->Nat:= λj=>match R j with
  |some i=>s.l i
  |none=>σ.l j
 have D: ∀(i:Nat) ob,s.H[i]?=some ob->y[ρ i]?=some (cD ρ ob):=by
  intro i ob a;have M7:i<H.length:=by rw[<-ac];exact f_ a
  simp[y,f9 i M7,d7 i M7,a]
 have J: ∀j,(∀i,i<H.length->ρ i≠j)->y[j]?=K[j]?:=by
  intro j d;by_cases OO:j<K.length
  ·simp[y,OO,d8 j d]
  ·simp[y,OO]
 have z: ∀(i:Nat),i<H.length->x (ρ i)=s.l i:=by
  intro i a;show(match R (ρ i)with|some i=>s.l i|none=>σ.l (ρ i))=_;rw[d7 i a]
 have C: ∀j,(∀i,i<H.length->ρ i≠j)->x j=σ.l j:=by
  intro j d;show(match R j with|some i=>s.l i|none=>σ.l j)=_;rw[d8 j d]
 let τ:Sg:=⟨s.w,s.O,x,y⟩
 have i6:Ke ρ H.length s τ:=⟨rfl,λ_ _ h=>h,λi ob a=>by rw[<-ac];exact f_ a,D,λi ob a=>z i (by rw[<-ac];exact f_ a)⟩;have Su: ∀m v,RM s m v->RM τ (dj ρ m) v:= λm v hr=>hr.up i6
 have V: ∀(j:Nat) ob,y[j]?=some ob->(∃i G,i<H.length/\ρ i=j/\s.H[i]?=some G/\ob=cD ρ G)\/((∀i,i<H.length->ρ i≠j)/\σ.H[j]?=some ob):=by
  intro j ob d;rcases U j with⟨i,a,rfl,_⟩|⟨c,_⟩
  ·have N2:i<s.H.length:=by rw[ac];exact a
   have:=D i s.H[i] (by simp[N2]);rw[this]at d;injection d with d
   exact .inl ⟨i,s.H[i],a,rfl,by simp[N2],d.symm⟩
  ·rw[J j c]at d;exact .inr ⟨c,by rw[p];exact d⟩
 have ZX: ∀(j:Nat) ob,(∀i,i<H.length->ρ i≠j)->σ.H[j]?=some ob->ob.live-> ∀(i:Nat) u,H[i]?=some u->u.live->σ.l (ρ i)≠σ.l j:=by
  intro j ob d c t i u a o B;have g:σ.H[ρ i]?=some (cD ρ u):=by rw[p];exact w i u a
  exact d i (f_ a) (A.inj _ _ _ _ g c ((eL ρ u).2 o) t B)
 have OI: ∀(j:Nat) ob,(∀i,i<H.length->ρ i≠j)->σ.H[j]?=some ob->ob.live->s.w.heap[σ.l j]?=σ.w.heap[σ.l j]?:=by
  intro j ob d c t;refine I.cp (σ.l j) ((A.obj j ob c).lt t) ?_;intro i u a o;exact ZX j ob d c t i u a o
 have WS:dy σ τ:=by
  refine⟨T.cell,?_,?_,?_,?_,?_,?_⟩
  ·intro j X d;rcases U j with⟨i,a,rfl,_⟩|⟨c,_⟩
   ·have g:=w i H[i] (by simp[a]);rw[p,g]at d;injection d with d
    cases o:H[i]with
    |box Y=>
     obtain⟨⟨c1,l⟩,n⟩:=T.box i Y (by show H[i]?=_;simp[a,o]);exact⟨⟨_,D i _ l⟩,by show x (ρ i)=_;rw[z i a];exact n⟩
    |_=>rw[o]at d;simp[cD]at d
   ·exact⟨⟨X,by show y[j]?=_;rw[J j c,<-p];exact d⟩,C j c⟩
  ·intro j X d;rcases U j with⟨i,a,rfl,_⟩|⟨c,_⟩
   ·have g:=w i H[i] (by simp[a]);rw[p,g]at d;injection d with d
    cases o:H[i]with
    |map Y=>
     obtain⟨⟨c1,l⟩,n⟩:=T.map i Y (by show H[i]?=_;simp[a,o]);exact⟨⟨_,D i _ l⟩,by show x (ρ i)=_;rw[z i a];exact n⟩
    |_=>rw[o]at d;simp[cD]at d
   ·exact⟨⟨X,by show y[j]?=_;rw[J j c,<-p];exact d⟩,C j c⟩
  ·intro j X d;rcases U j with⟨i,a,rfl,_⟩|⟨c,_⟩
   ·have g:=w i H[i] (by simp[a]);rw[p,g]at d;injection d with d
    cases o:H[i]with
    |iter Y=>
     obtain⟨⟨c1,l⟩,n⟩:=T.iter i Y (by show H[i]?=_;simp[a,o]);exact⟨⟨_,D i _ l⟩,by show x (ρ i)=_;rw[z i a];exact n⟩
    |_=>rw[o]at d;simp[cD]at d
   ·exact⟨⟨X,by show y[j]?=_;rw[J j c,<-p];exact d⟩,C j c⟩
  ·intro j d;rcases U j with⟨i,a,rfl,_⟩|⟨c,_⟩
   ·have g:=w i H[i] (by simp[a]);rw[p,g]at d;injection d with d
    cases o:H[i]with
    |dead=>
     have l:=T.dead i (by show H[i]?=_;simp[a,o]);exact D i _ l
    |_=>rw[o]at d;simp[cD]at d
   ·show y[j]?=_;rw[J j c,<-p];exact d
  ·intro j i7 ec aG X d;rcases U j with⟨i,a,rfl,_⟩|⟨c,_⟩
   ·have g:=w i H[i] (by simp[a]);rw[p,g]at d;injection d with d
    cases o:H[i]with
    |row a0 e0 v0 Y=>
     rw[o]at d;simp only[cD]at d;cases d;rcases T.row i _ _ _ Y (by show H[i]?=_;rw[aqi a,o])with l|⟨a1,v1,c1,l,n,E⟩
     ·exact .inl (D i _ l)
     ·refine .inr ⟨a1,v1,_,D i _ l,n,λhv=> ?_⟩;obtain⟨y1,y2,y3⟩:=E hv;exact⟨by show x (ρ i)=_;rw[z i a];exact y1,by rw[cT,cT];exact y2,y3⟩
    |_=>rw[o]at d;simp[cD]at d
   ·refine .inr ⟨i7,aG,X,by show y[j]?=_;rw[J j c,<-p];exact d,aqd _,λ_=>⟨C j c,rfl,λMI i9 ha=> ?_⟩⟩;exact⟨MI,by rw[<-OI j _ c d trivial]at ha;exact ha,rfl⟩
  ·intro j d;rcases U j with⟨i,a,rfl,_⟩|⟨c,_⟩
   ·obtain⟨ob,l⟩:=T.has i H[i] (by show H[i]?=_;simp[a]);exact⟨_,D i _ l⟩
   ·exact⟨_,by show y[j]?=_;rw[J j c,<-p];exact d⟩
 have i8: ∀(j:Nat) ob,(∀i,i<H.length->ρ i≠j)->σ.H[j]?=some ob->gf τ (σ.l j) ob:=by
  intro j ob d c;by_cases t:ob.live
  ·exact(A.obj j ob c).cB WS (λu o=>by show s.w.heap[σ.l j]?=_;rw[OI j ob d c t];exact o)
  ·cases ob<;>first|trivial|exact absurd trivial t
 refine⟨v,dj ρ r0,τ,B,QN,⟨r0,s.H,NC,ac,rfl,by simp[τ,y],D,J⟩,?_,Su _ _ hr,WS,?_⟩
 ·refine⟨?_,?_,?_,?_,?_⟩
  ·intro j ob d;rcases V j ob d with⟨i,G,a,rfl,g,rfl⟩|⟨c,g⟩
   ·show gf τ (x (ρ i)) _;rw[z i a];exact gf.up (σ:=s) (τ:=τ) (ρ:=ρ) W Su (Py.obj i G g)
   ·show gf τ (x j) _;rw[C j c];exact i8 j ob c g
  ·intro j1 Z u N c g o S B;have Q:x j1=x Z:=B;rcases V j1 u c with⟨i1,x0,PJ,rfl,f8,rfl⟩|⟨Se,UM⟩
   ·rcases V Z N g with⟨i2,y0,PV,rfl,ZY,rfl⟩|⟨co,d6⟩
    ·rw[z i1 PJ,z i2 PV]at Q;rw[Py.inj _ _ _ _ f8 ZY ((eL ρ _).1 o) ((eL ρ _).1 S) Q]
    ·exfalso;rw[z i1 PJ,C Z co]at Q;rcases I.loc i1 x0 f8 ((eL ρ _).1 o)with l|⟨NH,l,n,E⟩
     ·have:=(A.obj Z N d6).lt S;have L:F.w.heap.size=σ.w.heap.size:=rfl;omega
     ·exact ZX Z N co d6 S i1 NH l n (E.symm.trans Q)
   ·rcases V Z N g with⟨i2,y0,PV,rfl,ZY,rfl⟩|⟨co,d6⟩
    ·exfalso;rw[C j1 Se,z i2 PV]at Q;rcases I.loc i2 y0 ZY ((eL ρ _).1 S)with l|⟨NH,l,n,E⟩
     ·have:=(A.obj j1 u UM).lt o;have L:F.w.heap.size=σ.w.heap.size:=rfl;omega
     ·exact ZX j1 u Se UM o i2 NH l n (E.symm.trans Q.symm)
    ·rw[C j1 Se,C Z co]at Q;exact A.inj _ _ _ _ UM d6 o S Q
  ·intro b q;show s.O b q↔_;rw[Py.own];constructor
   ·rintro((c|⟨j,ob,h0,c,g,l⟩)|⟨i,ob,c,g,l⟩)
    ·exact .inl c
    ·exact .inr ⟨j,ob,by show y[j]?=_;rw[J j h0,<-p];exact c,by show x j=b;rw[C j h0];exact g,l⟩
    ·have a:i<H.length:=by rw[<-ac];exact f_ c
     exact .inr ⟨ρ i,cD ρ ob,D i ob c,by show x (ρ i)=b;rw[z i a];exact g,(pj ρ _ q).2 l⟩
   ·rintro(c|⟨j,ob,c,g,l⟩)
    ·exact .inl (.inl c)
    ·have Rv:x j=b:=g;rcases V j ob c with⟨i,G,a,rfl,n,rfl⟩|⟨n,E⟩
     ·rw[z i a]at Rv;exact .inr ⟨i,G,n,Rv,(pj ρ _ q).1 l⟩
     ·rw[C j n]at Rv;exact .inl (.inr ⟨j,ob,n,E,Rv,l⟩)
  ·intro j ob d t q ho;rcases V j ob d with⟨i,G,a,rfl,n,rfl⟩|⟨n,E⟩
   ·have L:Oo (s.l i) q:=by rw[<-z i a];exact ho
    exact Py.sep i G n ((eL ρ _).1 t) q (.inl L)
   ·have L:Oo (σ.l j) q:=by rw[<-C j n];exact ho
    exact A.sep j ob E t q L
  ·exactλb q c=>Py.lU b q (.inl c)
 ·refine⟨I.os,I.output,I.tape,I.size,?_,?_⟩
  ·intro b hb hn;refine I.cp b hb ?_;intro i ob a t;exact hn (ρ i) (cD ρ ob) (by rw[p];exact w i ob a) ((eL ρ _).2 t)
  ·intro j ob d t;rcases V j ob d with⟨i,G,a,rfl,n,rfl⟩|⟨n,E⟩
   ·rcases I.loc i G n ((eL ρ _).1 t)with L|⟨NH,L,h7,h8⟩
    ·exact .inl (by show _<=x (ρ i);rw[z i a];exact L)
    ·exact .inr ⟨cD ρ NH,by rw[p];exact w i NH L,(eL ρ _).2 h7,by show x (ρ i)=_;rw[z i a];exact h8⟩
   ·exact .inr ⟨ob,E,t,C j n⟩
mutual
def A2(n:Nat):M->Bool
 | .d _=>true
 | .ref i _=>Nat.blt i n
 | .bB i _ _=>Nat.blt i n
 | .dX i _ _=>Nat.blt i n
 | .mp i=>Nat.blt i n
 | .it i=>Nat.blt i n
 | .agg cs=>v7 n cs
 | .fn _ cs=>v7 n cs
 | .cZ cs=>v7 n cs
 | .undef=>true
def v7(n:Nat):List M->Bool
 | []=>true
 |m::r=>A2 n m&&v7 n r
end
mutual
theorem iX{n:Nat} : ∀{m:M},A2 n m=true->MB n m
 | .d e,_=> .d e
 | .ref b g,a=> .ref b g (bL a)
 | .bB b v d,a=> .bB b v d (bL a)
 | .dX b v d,a=> .dX b v d (bL a)
 | .mp b,a=> .mp b (bL a)
 | .it b,a=> .it b (bL a)
 | .agg c,a=> .agg c (p6 (by simpa [A2] using a))
 | .fn f c,a=> .fn f c (p6 (by simpa [A2] using a))
 | .cZ c,a=> .cZ c (p6 (by simpa [A2] using a))
 | .undef,_=> .undef
theorem p6{n:Nat} : ∀{l:List M},v7 n l=true-> ∀m∈l,MB n m
 | [],_=>by simp
 |c::d,a=>by
  rw[v7,aqB]at a;intro m b;rcases aqs.1 b with e|b
  ·rw[e];exact iX a.1
  ·exact p6 a.2 m b
end
def LB(n:Nat):Ob->Bool
 | .box cs=>v7 n cs
 | .row _ _ _ cs=>v7 n cs
 | .map es=>es.all λe=>A2 n e.2
 | .iter x=>A2 n x
 | .dead=>true
 | .free=>true
theorem Je{n:Nat}{ob:Ob}(h:LB n ob=true):KH n ob:=by
 cases ob with
 |box a=>exact p6 h
 |row c e v a=>exact p6 h
 |map f=>intro e b;exact iX (arz.1 h e b)
 |iter d=>exact iX h
 |dead=>trivial
 |free=>trivial
theorem Jf{n:Nat}{H:Hp}(h:H.all (LB n)=true):HB n H:= λa b=>Je (arz.1 h a b)
mutual
theorem rV: ∀m:M,dj (λi=>i) m=m
 | .d c=>by rw[dj]
 | .ref i e=>by rw[dj]
 | .bB i v b=>by rw[dj]
 | .dX i v b=>by rw[dj]
 | .mp i=>by rw[dj]
 | .it i=>by rw[dj]
 | .agg a=>by rw[dj,lZ a]
 | .fn d a=>by rw[dj,lZ a]
 | .cZ a=>by rw[dj,lZ a]
 | .undef=>by rw[dj]
theorem lZ: ∀l:List M,iz (λi=>i) l=l
 | []=>by rw[iz]
 |m::a=>by rw[iz,rV m,lZ a]
end
theorem vn(ob:Ob):cD (λi=>i) ob=ob:=by
 cases ob with
 |box a=>simp[cD,lZ]
 |row b e v a=>simp[cD,lZ]
 |map d=>simp[cD,rV]
 |iter c=>simp[cD,rV]
 |dead=>rfl
 |free=>rfl
theorem CT.suffix{P:Program}{f:Nat}{ms:List M}{H:Hp}{post:M->Hp->Prop}(F:Hp)(i:HB H.length H)(j: ∀m∈ms,MB H.length m)
  (h:CT P f ms H λr k=>k.length=H.length/\post r k):CT P f ms (H++F) λr k=> ∃H',k=H'++F/\H'.length=H.length/\post r H':=by
 have d:=CT.frame (K:=H++F) (λa=>a) (λa g _ _ h=>h) (λa p b=>by rw[vn,aqf (f_ b)];exact b) i j h;rw[lZ]at d;refine d.mono ?_;rintro r k ⟨q,H',l,c,rfl,s,n,o⟩;rw[rV];refine⟨H',?_,c,l⟩;apply ar4;intro a;rcases aqh a H.length with b|b
 ·have e:=n a H'[a] (by simp[c,b]);rw[vn]at e;rw[e,aqf (by omega)];simp[c,b]
 ·rw[o a (λg t u=>by omega),aqm b,aqm (by omega),c]
theorem CT.drop{P:Program}{f:Nat}{ms:List M}{H:Hp}{post:M->Hp->Prop}(n:Nat)(hn:H.length<=n)
  (h:CT P f ms H λC J=>n<=J.length/\MB n C/\HB n (J.take n)/\post C (J.take n)):CT P f ms H post:=by
 intro σ R t d7 S O5;refine(h σ R t d7 S O5).mono ?_;rintro e w' ⟨v,C,l,he,QN,⟨PY,hr,hB,hp⟩,E,ac,u,A⟩
 let τ:Sg:=⟨l.w,λb p=>R b p\/ ∃(a:Nat) (g:Ob),(l.H.take n)[a]?=some g/\l.l a=b/\g.jy p,l.l,l.H.take n⟩
 have s: ∀(a:Nat) g,(l.H.take n)[a]?=some g->a<n/\l.H[a]?=some g:=by
  intro a g c;rw[aso]at c;split at c
  ·exact⟨by assumption,c⟩
  ·cases c
 have o: ∀(a:Nat) g,a<n->l.H[a]?=some g->(l.H.take n)[a]?=some g:=by
  intro a g c h;rw[aso,aqy c];exact h
 have T: ∀b p,¬l.O b p-> ¬τ.O b p:=by
  intro b p j i;apply j;rw[E.own];rcases i with i|⟨a,g,i,B,h4⟩
  ·exact .inl i
  ·exact .inr ⟨a,g,(s a g i).2,B,h4⟩
 have ZV:DN (λa=>a) n τ l->True:= λ_=>trivial
 have X: ∀m v,MB n m->RM l m v->RM τ m v:=by
  intro m v K
  induction K generalizing v with
  |d D=>intro h;cases h with
   |d h=>exact .d (h.mono λb p v j i=>⟨j,T b p i⟩)
  |ref a I c=>intro h;cases h with
   |ref a I k h=>exact .ref a I k (o a _ c h)
  |bB a w Y c=>intro h;cases h with
   |bB a w Y Z co N L=>
    refine .bB a w Y Z co ?_ λr q k h=>L r q k (s a _ h).2
    rcases N with h|⟨r,q,F,k,h,i⟩
    ·exact .inl (o a _ c h)
    ·exact .inr ⟨r,q,F,k,o a _ c h,i⟩
  |dX a w I c=>intro h;cases h with
   |dX a w I b N L=>
    refine .dX a w I b ?_ λr q k h=>L r q k (s a _ h).2
    rcases N with h|⟨r,q,F,k,h,i⟩
    ·exact .inl (o a _ c h)
    ·exact .inr ⟨r,q,F,k,o a _ c h,i⟩
  |mp a c=>intro h;cases h with
   |mp a es h=>exact .mp a es (o a _ c h)
  |it a c=>intro h;cases h with
   |it a D h=>exact .it a D (o a _ c h)
  |agg k U G=>intro h;cases h with
   |agg k t x hf h=>exact .agg k t x hf λa m v j i=>G m (aqk j) v (h a m v j i)
  |fn f k U G=>intro h;cases h with
   |fn f k t x h=>exact .fn f k t x λa m v j i=>G m (aqk j) v (h a m v j i)
  |cZ k U G=>intro h;cases h with
   |cZ k t x h=>exact .cZ k t x λa m v j i=>G m (aqk j) v (h a m v j i)
  |undef=>intro h;exact .undef v
 have d6: ∀(a:Nat) g,(l.H.take n)[a]?=some g->gf τ (l.l a) g:=by
  intro a g c;have j:=E.obj a g (s a g c).2;have i:=hB g (aqk c);refine gf.down (σ:=τ) (τ:=l) (ρ:= λa=>a) (n:=n) W (λm v K V=>X m v K (by rw[rV]at V;exact V)) i (by rw[vn];exact j)
 refine⟨v,C,τ,he,QN,hp,?_,X C v hr ac,?_,?_⟩
 ·refine⟨d6,?_,λb p=>ari,?_,E.lU⟩
  ·intro a O D Q c hj;exact E.inj a O D Q (s a D c).2 (s O Q hj).2
  ·intro a g c;exact E.sep a g (s a g c).2
 ·have y: ∀(a:Nat) g,σ.H[a]?=some g->a<n:=by
   intro a g c;rw[S]at c;have:=f_ c;omega
  refine⟨?_,?_,?_,?_,?_,?_,λa c=>let⟨g,j⟩:=u.has a _ c;⟨g,o a _ (y a _ c) j⟩⟩
  ·intro b p v j i;have B:=u.cell b p v j i;exact⟨B.1,T b p B.2⟩
  ·intro a k c;obtain⟨⟨z,j⟩,i⟩:=u.box a k c;exact⟨⟨z,o a _ (y a _ c) j⟩,i⟩
  ·intro a k c;obtain⟨⟨z,j⟩,i⟩:=u.map a k c;exact⟨⟨z,o a _ (y a _ c) j⟩,i⟩
  ·intro a k c;obtain⟨⟨z,j⟩,i⟩:=u.iter a k c;exact⟨⟨z,o a _ (y a _ c) j⟩,i⟩
  ·intro a c;exact o a _ (y a _ c) (u.dead a c)
  ·intro a r q w k c;rcases u.row a r q w k c with j|⟨O9,F,z,j,i,B⟩
   ·exact .inl (o a _ (y a _ c) j)
   ·exact .inr ⟨O9,F,z,o a _ (y a _ c) j,i,B⟩
 ·refine⟨A.os,A.output,A.tape,A.size,A.cp,?_⟩;intro a g c x;exact A.loc a g (s a g c).2 x
theorem CT.xx{P:Program}{f:Nat}{ds:List D}{post:List D->Prop}{H:Hp}(h:PT P f ds post):CT P f (ds.map .d) H λr k=>(∃d,r=uo (d.map .d)/\post d)/\k=H:=by
 intro a x n l o j;refine(h a.O a.w n l.BU ⟨by simpa using j.1,λm d v c g=> ?_⟩).mono ?_
 ·have:=j.2 m (.d d) v (by simp[c]) g;cases this with
  |d h=>exact h
 ·rintro e p ⟨v,r,q,s,i,t⟩;refine⟨v,_,{a with w:=p},q,rfl,⟨⟨r,rfl,s⟩,o⟩,?_,t.DD (λb u v c g=>⟨c,g⟩),dy.ext i,?_⟩
  ·exact l.ext i
  ·exact aW.ext i
theorem fI{c:Type} : ∀{l:List (Nat×c)} {t u:Nat} {v:c},get (del l t) u=some v->u≠t/\get l u=some v
 | [],t,u,v,a=>by simp[del,get]at a
 |(d,i)::j,t,u,v,a=>by
  rw[del]at a;cases b:Nat.beq d t with
  |true=>
   rw[b,aqX]at a;obtain⟨f,g⟩:=fI a;refine⟨f,?_⟩;rw[bJ,aqo]
   ·exact g
   ·intro e;exact f (e.symm.trans (aqr b))
  |false=>
   rw[b,arS,bJ]at a;rw[bJ];by_cases e:d=u
   ·rw[aqy e]at a⊢;refine⟨λh=> ?_,a⟩;subst e;subst h;simp at b
   ·rw[aqo e]at a⊢;exact fI a
theorem cw.freeze{X:bD}{σ:Sg}{MD:Nat->Nat}{st:St}{a:Act}(hi:cw X σ MD st a){t:Nat}{ds:List D}(w:get st.bx t=some (ds.map .d))(H:get st.sl t=some (.loc t 0)):
  ∃τ:Sg,τ.w=σ.w/\cw X τ MD ⟨(t,.m (.d (.aZ ds 0)))::st.sl,del st.bx t,st.H⟩ a:=by
 let A:Nat->Nat->Prop:= λb g=>nP X.jF MD (del st.bx t) b g\/ ∃(c:Nat) (m:Ob),σ.H[c]?=some m/\σ.l c=b/\m.jy g
 let τ:Sg:=⟨σ.w,A,σ.l,σ.H⟩
 have x: ∀b g,nP X.jF MD (del st.bx t) b g->nP X.jF MD st.bx b g:=by
  rintro b g (f|⟨i,h,n,k⟩)
  ·exact .inl f
  ·exact .inr ⟨i,h,(fI n).2,k⟩
 have I: ∀b g,¬σ.O b g-> ¬τ.O b g:=by
  intro b g n k;apply n;rw[hi.hinv.own];rcases k with k|k
  ·exact .inl (x b g k)
  ·exact .inr k
 have s:dy σ τ:=⟨λb g v n k=>⟨n,I b g k⟩,λ_ h f=>⟨⟨h,f⟩,rfl⟩,λ_ J f=>⟨⟨J,f⟩,rfl⟩,λc h f=>⟨⟨h,f⟩,rfl⟩,λ_ f=>f,
  λ_ Q R K h f=> .inr ⟨Q,K,h,f,aqd _,λ_=>⟨rfl,rfl,λq G f=>⟨q,f,rfl⟩⟩⟩,λ_ f=>⟨_,f⟩⟩
 obtain⟨q,G,n,k,B⟩:=hi.box t _ w;have L: ∀g,¬A (MD t) g:=by
  rintro g ((f|⟨i,h,o,p⟩)|⟨c,m,o,p,u⟩)
  ·exact hi.rI t _ w g f
  ·obtain⟨u,M⟩:=fI o;exact u (hi.rm i t _ _ M w p)
  ·exact hi.hinv.sep c m o (Ob.ji u) g (.inr ⟨t,_,w,p.symm⟩)
 refine⟨τ,rfl,hi.hH,hi.defers,hi.size,?_,?_,?_,?_,?_,?_,hi.mono.trans s,⟨hi.cp.os,hi.cp.output,hi.cp.tape,hi.cp.size,hi.cp.cp,hi.cp.loc⟩⟩
 ·intro i v j;rw[bJ]at j;by_cases e:t=i
  ·subst e;rw[aqy W]at j;injection j with j
   subst j;obtain⟨r,o,p⟩:=hi.slot t _ H;refine⟨r,o,?_⟩;cases p with
   |loc i S=>
    have C: ∀c,c<ds.length->c<q.size:=by intro c l;rw[k];simpa using l
    have E: ∀c,(l:c<ds.length)->q[c]?=some (q.getD c undef):=by intro c l;simp[C c l]
    refine .m (.d (.aZ ds 0 (MD t) 0 (λc=>q.getD c undef) ?_ ?_ ?_))
    ·intro c l;refine⟨?_,L _⟩;simp[dY,World.cell?,τ,n,C c l]
    ·intro c l;exact(B c (.d ds[c]) _ (by simp[l]) (E c l)).2
    ·intro c d F;have l:c<ds.length:=by rcases aqh c ds.length with f|f;exact f;simp[aqj f]at F
     have u:=(B c (.d d) _ (by simp[F]) (E c l)).1.mono s;cases u with
     |d f=>exact f
  ·rw[aqo e]at j;obtain⟨r,o,p⟩:=hi.slot i v j;exact⟨r,o,p.mono s⟩
 ·intro i h j;exact(hi.box i h (fI j).2).cB s (λr y=>y)
 ·intro i v h N j O;exact hi.rm i v h N (fI j).2 (fI O).2
 ·intro i h j;exact hi.rI i h (fI j).2
 ·intro i h j;exact hi.rJ i h (fI j).2
 ·refine⟨λc m f=>(hi.hinv.obj c m f).cB s (λr y=>y),hi.hinv.inj,λb g=>ari,λc m f P g z=>hi.hinv.sep c m f P g (x _ _ z),λb g z=>hi.hinv.lU b g (x _ _ z)⟩
theorem Inv.base{X:bD}{st:St}{a:Act}{w:World}(h:Inv X st a w):X.s0.H.length<=st.H.length:=by
 obtain⟨f,o,rfl,l⟩:=h;have g:=l.mono;rw[<-l.hH];rcases aqh f.H.length X.s0.H.length with k|k
 ·exfalso;have d:X.s0.H[f.H.length]?=some X.s0.H[f.H.length]:=by simp[k]
  have i:f.H[f.H.length]?=none:=by simp
  cases j:X.s0.H[f.H.length]with
  |box m=>rw[j]at d;obtain⟨⟨n,b⟩,_⟩:=g.box _ _ d;rw[i]at b;cases b
  |map m=>rw[j]at d;obtain⟨⟨n,b⟩,_⟩:=g.map _ _ d;rw[i]at b;cases b
  |iter m=>rw[j]at d;obtain⟨⟨n,b⟩,_⟩:=g.iter _ _ d;rw[i]at b;cases b
  |dead=>rw[j]at d;have b:=g.dead _ d;rw[i]at b;cases b
  |free=>rw[j]at d;obtain⟨_,b⟩:=g.free _ d;rw[i]at b;cases b
  |row a e v c=>
   rw[j]at d;rcases g.row _ _ _ _ _ d with b|⟨_,_,_,b,_⟩<;>(rw[i]at b;cases b)
 ·exact k
theorem TC.base{X:bD}{c:Code}{q:Exit->St->Prop}{st:St}(k:X.s0.H.length<=st.H.length->TC X c st q):TC X c st q:=
 λb d a=>k a.base b d a
theorem Inv.kV{X:bD}{sl:List (Nat×V)}{bx:List (Nat×List M)}{H:Hp}{a:Act}{w:World}{j ec aG:Nat}{cs:List M}(l:H[j]?=some (.row false ec aG cs))(h:Inv X ⟨sl,bx,H⟩ a w):
  Inv X ⟨sl,bx,H.set j (.row true ec aG cs)⟩ a w:=by
 obtain⟨d,p,rfl,e⟩:=h;have q:d.H[j]?=some (.row false ec aG cs):=by rw[e.hH];exact l
 have r:=e.hinv.obj j _ q;obtain⟨g,s,G,I,J,t⟩:=e.qA (j:=j) (b':=d.l j) (ob:= .row false ec aG cs) (NH:= .row true ec aG cs) (w':=d.w) l trivial W W W (aqd _)
  (λc _ _=>rfl) (.inl W) (λF v u K=>absurd (Or.inl W) u) ⟨rfl,.inr ⟨rfl,rfl,rfl,λf i h=>⟨f,h,rfl⟩⟩⟩ (by
   intro g x y _ _;obtain⟨z,f,i,E,o,A,B,C,D,n⟩:=r;exact⟨z,f,i,E,o,by rw[y];exact A,B,C,D,λk m v a b=>⟨(n k m v a b).1.mono x,(n k m v a b).2⟩⟩)
 exact⟨g,p,s,t⟩
def vo(H:Hp)(rows:List (List D)):M:=match rows with
 | []=> .d (.sl [])
 |_::r=> .bB H.length 0 (r.length+1)
def kW(H:Hp)(ec:Nat)(rows:List (List D)):Hp:=match rows with
 | []=>H
 |q::r=>H++ [.row true ec 0 (aX (q::r))]
def A3(H:Hp)(ec:Nat)(r1 r2:List (List D)):Hp:=match r1,r2 with
 | [],[]=>H
 | [],q::r=>H++ [.row true ec 0 (aX (q::r))]
 |q::r,r2=>H++ [.row true ec 1 (aX (q::r)++aX r2)]
theorem get_mem{b:Type} : ∀{l:List (Nat×b)} {t:Nat} {v:b},get l t=some v->(t,v)∈l
 | [],t,v,a=>by simp[get]at a
 |(c,d)::f,t,v,a=>by
  rw[bJ]at a;by_cases e:c=t
  ·rw[aqy e]at a;injection a with a;subst a;subst e;simp
  ·rw[aqo e]at a;exact aqF _ (get_mem a)
variable{X:bD}{ops:Array Oper}{rest:List Oper}{post:St->Prop}{sl:List (Nat×V)}{bx:List (Nat×List M)}{H:Hp}{d ty:Nat}{pos:String}{af:Array Edge}
theorem vq{T:Nat}{cs:List M}[a:xh X.P T cs](b:Nat.blt d X.n=true)(k:TL X ops rest ⟨(d,.m (.ref H.length 0))::sl,bx,H++ [Ob.box cs]⟩ post):
  TL X ops (⟨some d,.alloc T,ty,pos,af,none⟩::rest) ⟨sl,bx,H⟩ post:=by
 obtain⟨e,f,c⟩:=a.h;subst c;exact No W W b DH k
end Go.Mt
namespace Go.Mt.dV
inductive Rh where
 |no
 |ix (l:List Nat)
 |all
structure Ef where
 d:Option Nat
 v:V
 rb:List Nat
 wb:List (Nat×List M)
 nw:Option Nat
 rh:Rh
 wh:List (Nat×Ob)
 tl:Option Hp
def front(N:Nat)(H:Hp)(wh:List (Nat×Ob)):Hp:=(List.range N).map λi=>match get wh i with|some ob=>ob|none=>H.getD i .dead
def Ef.app(N:Nat)(e:Ef)(st:St):St:=
 ⟨match e.d with|some d=>(d,e.v)::st.sl|none=>st.sl,e.wb++st.bx,front N st.H e.wh++(match e.tl with|some t=>t|none=>st.H.drop N)⟩
theorem jm(N:Nat)(H:Hp)(a:List (Nat×Ob)):(front N H a).length=N:=by simp[front]
theorem qF(N:Nat)(H:Hp)(a:List (Nat×Ob))(t:Hp)(i:Nat)(hi:i<N):(front N H a++t).getD i .dead=match get a i with|some ob=>ob|none=>H.getD i .dead:=by
 have b:i<(front N H a).length:=by rw[jm];exact hi
 rw[arJ,aqf b];simp[front,hi]
theorem pk(N:Nat)(H:Hp)(a:List (Nat×Ob))(t:Hp):(front N H a++t).drop N=t:=by
 have b:=jm N H a;rw[asx (by omega)];simp[b]
structure Ag(N:Nat)(ops:Array Oper)(o:Oper)(e:Ef)(st MR:St):Prop where
 sl: ∀t∈o.looksAt ops,get MR.sl t=get st.sl t
 bx: ∀t∈e.rb++e.wb.map (·.1),get MR.bx t=get st.bx t
 ix: ∀l,e.rh= .ix l-> ∀i∈l,MR.H.getD i .dead=st.H.getD i .dead
 all:e.rh= .all->(∀i,i<N->MR.H.getD i .dead=st.H.getD i .dead)/\MR.H.drop N=st.H.drop N
 len:N<=MR.H.length
 nw: ∀d,e.nw=some d-> ∀t o,get MR.sl t≠some (.loc d o)
def kT(N:Nat)(X:bD)(ops:Array Oper)(o:Oper)(e:Ef)(st:St):Prop:= ∀MR,Ag N ops o e st MR->Hu X ops o MR (e.app N MR)
inductive pf(N:Nat)(X:bD)(ops:Array Oper):List Oper->St->List Ef->St->Prop where
 |nil (st:St):pf N X ops [] st [] st
 |cons {o:Oper} {os:List Oper} {st MJ:St} {e:Ef} {es:List Ef} (h:kT N X ops o e st) (hd:e.d=o.dst) (k:pf N X ops os (e.app N st) es MJ):pf N X ops (o::os) st (e::es) MJ
def iA(e f:Ef):Bool:=match f.rh with
 | .no=>false
 | .ix l=>e.wh.any λp=>has l p.1
 | .all=>(e.wh.any λp=>Nat.ble 0 p.1)||e.tl.isSome
def zf(N:Nat)(e:Ef):Bool:=
 (match e.rh with
 | .no=>(match e.wh with| []=>true|_=>false)&&e.tl.isNone
 | .ix l=>(e.wh.all λp=>has l p.1)&&(l.all λi=>Nat.blt i N)&&e.tl.isNone
 | .all=>e.wh.all λp=>Nat.blt p.1 N)
def dw(ops:Array Oper)(x y:Oper)(e f:Ef):Bool:=
 (match x.dst with|some d=>has (slotsOf ops y) d|none=>false)||(match y.dst with|some d=>has (slotsOf ops x) d|none=>false)||
 (e.wb.any λp=>has (f.rb++f.wb.map (·.1)) p.1)||(f.wb.any λp=>has (e.rb++e.wb.map (·.1)) p.1)||
 iA e f||iA f e||
 (match e.nw,f.v with|some d,.loc u _=>Nat.beq u d|_,_=>false)
def qy(e f:Ef):Bool:=match f.nw,e.v with
 |some d,.loc u _=>Nat.beq u d
 |_,_=>false
def gY(ops:Array Oper)(x:Oper)(e:Ef)(i:Nat):List Oper->List Ef->List (List Nat)->Bool
 |y::ys,f::fs,b::bs=>(!dw ops x y e f||has b i)&& !qy e f&&gY ops x e i ys fs bs
 |_,_,_=>true
def jb(ops:Array Oper):Nat->List Oper->List Ef->List (List Nat)->Bool
 |i,x::xs,e::es,b::bs=>gY ops x e i xs es bs&&jb ops (i+1) xs es bs
 |_,_,_,_=>true
def jc(sl:List (Nat×V)):List Ef->Bool
 | []=>true
 |e::es=>(match e.nw with|some d=>gI d sl|none=>true)&&jc sl es
def gj(N:Nat)(ops:List Oper)(sl:List (Nat×V))(es:List Ef):Bool:=
 rR 0 ops&&jb ops.toArray 0 ops es (ja ops)&&jc sl es&&es.all (zf N)
def S(N:Nat)(st:St)(es:List Ef)(MH:Nat->Bool):Nat->St
 |0=>st
 |k+1=>match es[k]? with
  |some e=>bif MH k then e.app N (S N st es MH k)else S N st es MH k
  |none=>S N st es MH k
structure Part(N:Nat)(α:Type)(es:List Ef)where
 r:St->α
 W:Nat->Bool
 c:Nat->α
 cB: ∀k e s,es[k]?=some e->W k=false->r (e.app N s)=r s
 write: ∀k e s,es[k]?=some e->W k=true->r (e.app N s)=c k
section parts
variable{N:Nat}{α:Type}{es:List Ef}(p:Part N α es){st:St}
theorem lW(L a:Nat->Bool): ∀n,(∀k,k<n->p.W k=true->L k=a k)->p.r (S N st es L n)=p.r (S N st es a n)
 |0,_=>rfl
 |n+1,f=>by
  have d:=lW L a n (λk h=>f k (by omega));simp only[S];cases c:es[n]? with
  |none=>exact d
  |some e=>
   simp only;cases b:p.W n with
   |false=>
    cases i:L n<;>cases g:a n<;>simp only[aqX,arS]<;>(try rw[p.cB n e _ c b])<;>(try rw[p.cB n e _ c b])<;>exact d
   |true=>
    have:=f n (by omega) b;rw[this];cases g:a n<;>simp only[aqX,arS]
    ·exact d
    ·rw[p.write n e _ c b,p.write n e _ c b]
theorem qz(L:Nat->Bool)(i:Nat): ∀n,i<=n->(∀k,i<=k->k<n->p.W k=true->L k=false)->p.r (S N st es L n)=p.r (S N st es L i)
 |0,f,_=>by
  grind
 |n+1,f,b=>by
  by_cases e:i=n+1
  ·subst e;rfl
  ·have a:=qz L i n (by omega) (λk g j=>b k g (by omega));simp only[S];cases h:es[n]? with
   |none=>exact a
   |some e=>
    simp only;cases c:L n with
    |false=>exact a
    |true=>
     simp only[aqX];cases d:p.W n with
     |false=>rw[p.cB n e _ h d];exact a
     |true=>rw[b n (by omega) (by omega) d]at c;cases c
theorem lE(L:Nat->Bool)(i m:Nat)(hi:i<=m)(b: ∀a,a<i->p.W a=true->L a=true)(c: ∀a,i<=a->a<m->p.W a=true->L a=false):
  p.r (S N st es L m)=p.r (S N st es (λ_=>true) i):=
 (qz p L i m hi c).trans (lW p L _ i λa d e=>b a d e)
theorem rS(L:Nat->Bool)(i m:Nat)(hi:i<m)(e:Ef)(a:es[i]?=some e)(c:L i=false)(d:p.W i=true-> ∀k,i<k->k<m->p.W k=true->L k=false):
  p.r (S N st es (λk=>if k=i then true else L k) m)=p.r (e.app N (S N st es L m)):=by
 cases b:p.W i with
 |true=>
  rw[p.write i e _ a b];have:=qz p (st:=st) (λk=>if k=i then true else L k) (i+1) m (by omega) (λk f g h=>by
   grind)
  rw[this];simp only[S,a,arR,aqX];exact p.write i e _ a b
 |false=>
  rw[p.cB i e _ a b];exact lW p _ _ m λk j l=>by
   grind
end parts
section acx
variable{N:Nat}
def jU(es:List Ef)(t:Nat):Part N (Option V) es where
 r s:=get s.sl t
 W k:=match es[k]? with
  |some e=>match e.d with|some d=>Nat.beq d t|none=>false
  |none=>false
 c k:=match es[k]? with|some e=>some e.v|none=>none
 cB k e s he hw:=by
  simp only[he]at hw;unfold Ef.app;cases hd:e.d with
  |none=>rfl
  |some d=>
   simp only[hd]at hw;have:d≠t:=by rintro rfl;simp at hw
   simp[bJ,this]
 write k e s he hw:=by
  simp only[he]at hw⊢;unfold Ef.app;cases hd:e.d with
  |none=>simp[hd]at hw
  |some d=>
   simp only[hd]at hw;have:=aqr hw;subst this;simp[bJ]
def lF(es:List Ef)(t:Nat):Part N (Option (List M)) es where
 r s:=get s.bx t
 W k:=match es[k]? with
  |some e=>has (e.wb.map (·.1)) t
  |none=>false
 c k:=match es[k]? with|some e=>get e.wb t|none=>none
 cB k e s he hw:=by
  simp only[he]at hw;have h:=jk e.wb t;rw[hw]at h;show get (e.wb++s.bx) t=_;rw[get_append];cases hg:get e.wb t with
  |none=>rfl
  |some v=>rw[hg]at h;cases h
 write k e s he hw:=by
  simp only[he]at hw⊢;have h:=jk e.wb t;rw[hw]at h;show get (e.wb++s.bx) t=_;rw[get_append];cases hg:get e.wb t with
  |none=>rw[hg]at h;cases h
  |some v=>rfl
def uA(es:List Ef)(i:Nat)(hi:i<N):Part N Ob es where
 r s:=s.H.getD i .dead
 W k:=match es[k]? with
  |some e=>has (e.wh.map (·.1)) i
  |none=>false
 c k:=match es[k]? with|some e=>(get e.wh i).getD .dead|none=> .dead
 cB k e s he hw:=by
  simp only[he]at hw;have h:=jk e.wh i;rw[hw]at h;unfold Ef.app;rw[qF _ _ _ _ _ hi];cases hg:get e.wh i with
  |none=>rfl
  |some v=>rw[hg]at h;cases h
 write k e s he hw:=by
  simp only[he]at hw⊢;have h:=jk e.wh i;rw[hw]at h;unfold Ef.app;rw[qF _ _ _ _ _ hi];cases hg:get e.wh i with
  |none=>rw[hg]at h;cases h
  |some v=>rfl
def wJ(es:List Ef):Part N Hp es where
 r s:=s.H.drop N
 W k:=match es[k]? with
  |some e=>e.tl.isSome
  |none=>false
 c k:=match es[k]? with|some e=>e.tl.getD []|none=>[]
 cB k e s he hw:=by
  simp only[he]at hw;unfold Ef.app;rw[pk];cases hh:e.tl with
  |none=>rfl
  |some h=>rw[hh]at hw;cases hw
 write k e s he hw:=by
  simp only[he]at hw⊢;unfold Ef.app;rw[pk];cases hh:e.tl with
  |none=>rw[hh]at hw;cases hw
  |some h=>rfl
theorem A4(st:St)(es:List Ef)(L:Nat->Bool)(h:N<=st.H.length): ∀n,N<=(S N st es L n).H.length
 |0=>h
 |n+1=>by
  simp only[S];cases a:es[n]? with
  |none=>exact A4 st es L h n
  |some e=>
   cases b:L n with
   |false=>exact A4 st es L h n
   |true=>simp[Ef.app,jm]
theorem A5{A a:Hp}(d:N<=A.length)(e:N<=a.length)(f: ∀b,b<N->A.getD b .dead=a.getD b .dead)(c:A.drop N=a.drop N):A=a:=by
 rw[<-arw N A,<-arw N a,c]
 congr 1
 apply List.ext_getElem
 ·simp;omega
 ·grind
theorem jH{m:Array Oper}{x:Oper}{e:Ef}{i:Nat} : ∀{h:List Oper} {k:List Ef} {l:List (List Nat)},gY m x e i h k l=true->
  ∀(j:Nat) y f b,h[j]?=some y->k[j]?=some f->l[j]?=some b->(dw m x y e f=true->i∈b)/\qy e f=false
 | [],_,_,_,j,y,f,b,a,_,_=>by simp at a
 |_::_,[],_,_,j,y,f,b,_,c,_=>by simp at c
 |_::_,_::_,[],_,j,y,f,b,_,_,d=>by simp at d
 |o::h,p::k,q::l,g,j,y,f,b,a,c,d=>by
  simp only[gY,aqB,ar2,arn]at g;cases j with
  |zero=>
   simp at a c d;subst a;subst c;subst d;refine⟨λr=> ?_,g.1.2⟩;rcases g.1.1 with n|n
   ·grind
   ·exact fw.1 n
  |succ j=>simp at a c d;exact jH g.2 j y f b a c d
theorem kA{m:Array Oper} : ∀{xs:List Oper} {es:List Ef} {l:List (List Nat)} {n:Nat},jb m n xs es l=true->
  ∀(i j:Nat) x e y f b,i<j->xs[i]?=some x->es[i]?=some e->xs[j]?=some y->es[j]?=some f->l[j]?=some b->(dw m x y e f=true->n+i∈b)/\qy e f=false
 | [],_,_,n,_,i,j,x,e,y,f,b,_,a,_,_,_,_=>by simp at a
 |_::_,[],_,n,_,i,j,x,e,y,f,b,_,_,c,_,_,_=>by simp at c
 |_::_,_::_,[],n,_,i,j,x,e,y,f,b,_,_,_,_,_,d=>by simp at d
 |o::xs,p::es,q::l,n,k,i,j,x,e,y,f,b,r,a,c,g,h,d=>by
  simp only[jb,aqB]at k;cases j with
  |zero=>omega
  |succ j=>
   cases i with
   |zero=>
    simp at a c g h d;subst a;subst c;exact jH k.1 j y f b g h d
   |succ i=>
    simp at a c g h d;have:=kA k.2 i j x e y f b (by omega) a c g h d;rw[show n+(i+1)=n+1+i by omega];exact this
theorem fH(st:St)(es:List Ef): ∀k,S N st es (λ_=>true) k=(es.take k).foldl (λs e=>e.app N s) st
 |0=>rfl
 |k+1=>by
  simp only[S];cases c:es[k]? with
  |none=>
   have b:es.length<=k:=by grind
   rw[fH st es k,arj b,arj (by omega)]
  |some e=>
   simp only[aqX];rw[fH st es k];have a:k<es.length:=by grind
   rw[aqu a,asK];have:es[k]=e:=by grind
   rw[this];rfl
theorem pf.spec{X:bD}{c:Array Oper}{l:List Oper}{st d:St}{es:List Ef}(h:pf N X c l st es d):
  es.length=l.length/\d=es.foldl (λs e=>e.app N s) st/\ ∀(i:Nat) o e,l[i]?=some o->es[i]?=some e->kT N X c o e ((es.take i).foldl (λs e=>e.app N s) st)/\e.d=o.dst:=by
 induction h with
 |nil st=>exact⟨rfl,rfl,by simp⟩
 |cons h f n g=>
  obtain⟨j,k,m⟩:=g;refine⟨by simp[j],k,λi o e a b=> ?_⟩;cases i with
  |zero=>simp at a b;subst a;subst b;exact⟨h,f⟩
  |succ i=>simp at a b;exact m i o e a b
theorem draw{X:bD}{id:Nat}{ops:List Oper}{st A:St}{es:List Ef}{post:Exit->St->Prop}(hm:X.P.follows .mixedOrders=true)(hN:N<=st.H.length)
  (Qt:pf N X ops.toArray ops st es A) (MU:gj N ops st.sl es=true) (NC:post .normal A):TC X (.region id ops.toArray true) st post:=by
 obtain⟨pm,Yt,PU⟩:=Qt.spec;simp only[gj,aqB]at MU;obtain⟨⟨⟨XL,VY⟩,VZ⟩,f9⟩:=MU;have hE:=pG XL;have hP:=kA VY;have WM:A=S N st es (λ_=>true) ops.length:=by rw[fH,arj (by omega),Yt]
 have RF: ∀(a:Nat) e,es[a]?=some e-> ∃w b,ops[a]?=some w/\(ja ops)[a]?=some b/\e.d=w.dst/\a<ops.length:=by
  intro a e r;have p:a<es.length:=by rcases aqh a es.length with d7|d7;exact d7;simp[aqj d7]at r
  have O:ops[a]?=some ops[a]:=by simp[show a<ops.length by omega]
  have z:a<(ja ops).length:=by rw[nQ];omega
  exact⟨ops[a],(ja ops)[a],O,by simp[z],(PU a _ e O r).2,by omega⟩
 have V0: ∀(a:Nat) e d,es[a]?=some e->e.nw=some d->gI d st.sl=true:=by
  have: ∀(u:List Ef),jc st.sl u=true-> ∀(a:Nat) e d,u[a]?=some e->e.nw=some d->gI d st.sl=true:=by
   intro u
   induction u with
   |nil=>intro _ a e d d7;simp at d7
   |cons g u R=>
    intro y a e d r T;simp only[jc,aqB]at y;cases a with
    |zero=>simp at r;subst r;simpa [T] using y.1
    |succ a=>simp at r;exact R y.2 a e d r T
  exact this es VZ
 intro ac d6 hi;refine wp_region_any hm ?_;have i9: ∀(PR:Nat) (k:Array Bool) (ac:Act) (d6:World),k.size=ops.length->o_ ops.length (λa=>k.getD a false)=PR->
   (∀n b,k.getD n false=true->(ja ops)[n]?=some b-> ∀c∈b,k.getD c false=true)->
   Inv X (S N st es (λa=>k.getD a false) ops.length) ac d6->
   wpAny X.P .any ops.toArray (λe F G=> ∃A,post e A/\Inv X A F G) PR k ac d6:=by
  intro PR
  induction PR with
  |zero=>
   intro k ac d6 Ok hc N9 d9;have hz:=sY hc;refine⟨?_,A,NC,?_⟩
   ·unfold Region.ready;rw[asU];intro c hi;simp at hi;have s:=hz c hi;have t:c<k.size:=by omega
    simp[t]at s;simp[t,s]
   ·have e:S N st es (λa=>k.getD a false) ops.length=A:=by
     rw[WM];have: ∀o,o<=ops.length->S N st es (λa=>k.getD a false) o=S N st es (λ_=>true) o:=by
      intro o
      induction o with
      |zero=>intro _;rfl
      |succ o R=>
       intro hn;simp only[S,R (by omega),hz o (by omega)]
     exact this _ (aqd _)
    rw[<-e];exact d9
  |succ PR R=>
   intro k ac d6 Ok hc N9 d9;have f7: ∀c,c∈Region.ready .any ops.toArray k↔c<ops.length/\k.getD c true=false/\ ∃w,ops[c]?=some w/\ ∀e∈w.after.toList,Region.binds .any e=true->k.getD e.on false=true:=by
    intro c;unfold Region.ready;rw[asj];simp only[arU,List.size_toArray,aqB,arn,asY];constructor
    ·rintro⟨s,t,P⟩;refine⟨s,t,ops[c],by simp[s],?_⟩;simp[s]at P;intro e r z;have RH:e∈ops[c].after:=by simpa using r
     obtain⟨o,hn,rfl⟩:=asZ.1 RH;rcases P o hn with V|V
     ·rw[V]at z;cases z
     ·simpa using V
    ·rintro⟨s,t,w,P,V⟩;refine⟨s,t,?_⟩;have:ops[c]=w:=by simpa [s] using P
     simp[s,this];intro o hn;cases z:Region.binds .any w.after[o]with
     |false=>exact .inl rfl
     |true=>right;simpa using V w.after[o] (by simp) z
   refine⟨?_,?_⟩
   ·intro hr;obtain⟨c,s,t,P⟩:=xj (m:=ops.length) (f:= λa=>k.getD a false) (by omega);have:c∈Region.ready .any ops.toArray k:=by
     rw[f7];have Pr:c<k.size:=by omega
     refine⟨s,by simp[Pr]at t⊢;exact t,ops[c],by simp[s],?_⟩;intro e r z;have:=hE c ops[c] (by simp[s]) e r z;exact P e.on (by omega)
    rw[hr]at this;cases this
   ·intro c gc;obtain⟨PJ,PV,w,O,V1⟩:=(f7 c).1 gc;have Pr:c<k.size:=by omega
    have D:k.getD c false=false:=by simp[Pr]at PV⊢;exact PV
    have WN:c<es.length:=by omega
    obtain⟨e,r⟩: ∃e,es[c]?=some e:=⟨es[c],by simp[WN]⟩;have Tt:c<(ja ops).length:=by rw[nQ];exact PJ
    obtain⟨bi,QM⟩: ∃b,(ja ops)[c]?=some b:=⟨(ja ops)[c],by simp[Tt]⟩;have f4: ∀a,a∈bi->k.getD a false=true:=by
     intro a p;obtain⟨ed,s,t,P⟩:=zG O QM p;have V:=V1 ed s t;rcases P with P|⟨b',h5,_,h6⟩
     ·rw[<-P];exact V
     ·exact N9 _ b' V h5 a h6
    have d8: ∀(a:Nat) f,a<c->es[a]?=some f-> ∀g,ops[a]?=some g->dw ops.toArray g w f e=true->k.getD a false=true:=by
     intro a f p j g l hc;have:=(hP a c g f w e bi p l j O r QM).1 hc;simp at this;exact f4 a this
    have Q: ∀(a:Nat) f,c<a->es[a]?=some f-> ∀g,ops[a]?=some g->dw ops.toArray w g e f=true->k.getD a false=false:=by
     intro a f p j g l hc;obtain⟨_,b,_,z,_,_⟩:=RF a f j;have:=(hP c a w e g f b p O r l j z).1 hc;simp at this;cases y:k.getD a false with
     |false=>rfl
     |true=>rw[N9 a b y z c this]at D;cases D
    obtain⟨SU,mt⟩:=PU c w e O r;have YY:(es.take c).foldl (λf8 e=>e.app N f8) st=S N st es (λ_=>true) c:=(fH st es c).symm;rw[YY]at SU;have Ql: ∀h a,(jU (N:=N) es h).W a=true-> ∃f g,es[a]?=some f/\ops[a]?=some g/\f.d=some h/\g.dst=some h:=by
     intro h a i;simp only[jU]at i;split at i
     ·rename_i f j;split at i
      ·rename_i d T;have:=aqr i;subst this;obtain⟨g,b,l,_,Y,_⟩:=RF a f j;exact⟨f,g,j,l,T,by rw[<-Y];exact T⟩
      ·cases i
     ·cases i
    have Rt: ∀h a,(lF (N:=N) es h).W a=true-> ∃f g,es[a]?=some f/\ops[a]?=some g/\h∈f.wb.map (·.1):=by
     intro h a i;simp only[lF]at i;split at i
     ·rename_i f j;obtain⟨g,b,l,_,_,_⟩:=RF a f j;exact⟨f,g,j,l,fw.1 i⟩
     ·cases i
    have VL: ∀(n:Nat) (J:n<N) a,(uA es n J).W a=true-> ∃f g,es[a]?=some f/\ops[a]?=some g/\n∈f.wh.map (·.1):=by
     intro n J a i;simp only[uA]at i;split at i
     ·rename_i f j;obtain⟨g,b,l,_,_,_⟩:=RF a f j;exact⟨f,g,j,l,fw.1 i⟩
     ·cases i
    have Yv: ∀a,(wJ (N:=N) es).W a=true-> ∃f g,es[a]?=some f/\ops[a]?=some g/\f.tl.isSome=true:=by
     intro a i;simp only[wJ]at i;split at i
     ·rename_i f j;obtain⟨g,b,l,_,_,_⟩:=RF a f j;exact⟨f,g,j,l,i⟩
     ·cases i
    have Z1: ∀(a:Nat) f,es[a]?=some f->zf N f=true:= λa f j=>arz.1 f9 f (aqk j)
    have XR: ∀(u:List (Nat×Ob)) (co:List Nat) (h:Nat),h∈u.map (·.1)->h∈co->(u.any λE=>has co E.1)=true:=by
     intro u co h s t;rw[ar7];obtain⟨E,U,rfl⟩:=aqM.1 s;exact⟨E,U,fw.2 t⟩
    have V7: ∀(u:List (Nat×Ob)) (h:Nat),h∈u.map (·.1)->(u.any λE=>Nat.ble 0 E.1)=true:=by
     intro u h s;rw[ar7];obtain⟨E,U,rfl⟩:=aqM.1 s;exact⟨E,U,by simp⟩
    have ge: ∀(n:Nat) (f C:Ef),zf N C=true->n∈f.wh.map (·.1)->n∈C.wh.map (·.1)->iA f C=true:=by
     intro n f C q s t;unfold zf at q;unfold iA;obtain⟨E,U,rfl⟩:=aqM.1 t;cases hr:C.rh with
     |no=>rw[hr]at q;simp at q;cases i:C.wh with
      |nil=>rw[i]at U;cases U
      |cons=>rw[i]at q;simp at q
     |ix u=>
      rw[hr]at q;simp only[aqB,arz]at q;exact XR f.wh u _ s (fw.1 (q.1.1 E U))
     |all=>simp only;rw[V7 f.wh _ s];rfl
    have i6: ∀(f C:Ef),zf N C=true->f.tl.isSome=true->C.tl.isSome=true->iA f C=true:=by
     intro f C q s t;unfold zf at q;unfold iA;cases hr:C.rh with
     |no=>rw[hr]at q;cases K:C.tl with
      |none=>rw[K]at t;cases t
      |some h=>rw[K]at q;simp at q
     |ix u=>rw[hr]at q;cases K:C.tl with
      |none=>rw[K]at t;cases t
      |some h=>rw[K]at q;simp at q
     |all=>simp only;rw[s];simp
    have Ru: ∀(u:List (Nat×List M)) (co:List Nat) (h:Nat),h∈u.map (·.1)->h∈co->(u.any λE=>has co E.1)=true:=by
     intro u co h s t;rw[ar7];obtain⟨E,U,rfl⟩:=aqM.1 s;exact⟨E,U,fw.2 t⟩
    have i7:Ag N ops.toArray w e (S N st es (λ_=>true) c) (S N st es (λa=>k.getD a false) ops.length):=by
     refine⟨?_,?_,?_,?_,A4 _ _ _ hN _,?_⟩
     ·intro h K;refine lE (jU es h) _ c ops.length (by omega) ?_ ?_
      ·intro a p i;obtain⟨f,g,j,l,_,Y⟩:=Ql h a i;refine d8 a f p j g l ?_;have:has (slotsOf ops.toArray w) h=true:=fw.2 (by simp[slotsOf,K]);simp[dw,Y,this]
      ·intro a p Z i;by_cases I:a=c
       ·rw[I];exact D
       ·obtain⟨f,g,j,l,_,Y⟩:=Ql h a i;refine Q a f (by omega) j g l ?_;have:has (slotsOf ops.toArray w) h=true:=fw.2 (by simp[slotsOf,K]);simp[dw,Y,this]
     ·intro h K;refine lE (lF es h) _ c ops.length (by omega) ?_ ?_
      ·intro a p i;obtain⟨f,g,j,l,x⟩:=Rt h a i;refine d8 a f p j g l ?_;have:=Ru f.wb _ h x K;simp[dw,this]
      ·intro a p Z i;by_cases I:a=c
       ·rw[I];exact D
       ·obtain⟨f,g,j,l,x⟩:=Rt h a i;refine Q a f (by omega) j g l ?_;have:=Ru f.wb _ h x K;simp[dw,this]
     ·intro u y n J;have L:n<N:=by
       have:=Z1 c e r;unfold zf at this;rw[y]at this;simp only[aqB,arz]at this;exact bL (this.1.2 n J)
      refine lE (uA es n L) _ c ops.length (by omega) ?_ ?_
      ·intro a p i;obtain⟨f,g,j,l,x⟩:=VL n L a i;refine d8 a f p j g l ?_;have:iA f e=true:=by unfold iA;rw[y];exact XR f.wh u n x J
       simp[dw,this]
      ·intro a p Z i;by_cases I:a=c
       ·rw[I];exact D
       ·obtain⟨f,g,j,l,x⟩:=VL n L a i;refine Q a f (by omega) j g l ?_;have:iA f e=true:=by unfold iA;rw[y];exact XR f.wh u n x J
        simp[dw,this]
     ·intro y;refine⟨λn L=> ?_,?_⟩
      ·refine lE (uA es n L) _ c ops.length (by omega) ?_ ?_
       ·intro a p i;obtain⟨f,g,j,l,x⟩:=VL n L a i;refine d8 a f p j g l ?_;have:iA f e=true:=by unfold iA;rw[y];simp only;rw[V7 f.wh n x];rfl
        simp[dw,this]
       ·intro a p Z i;by_cases I:a=c
        ·rw[I];exact D
        ·obtain⟨f,g,j,l,x⟩:=VL n L a i;refine Q a f (by omega) j g l ?_;have:iA f e=true:=by unfold iA;rw[y];simp only;rw[V7 f.wh n x];rfl
         simp[dw,this]
      ·refine lE (wJ es) _ c ops.length (by omega) ?_ ?_
       ·intro a p i;obtain⟨f,g,j,l,x⟩:=Yv a i;refine d8 a f p j g l ?_;have:iA f e=true:=by unfold iA;rw[y];simp[x]
        simp[dw,this]
       ·intro a p Z i;by_cases I:a=c
        ·rw[I];exact D
        ·obtain⟨f,g,j,l,x⟩:=Yv a i;refine Q a f (by omega) j g l ?_;have:iA f e=true:=by unfold iA;rw[y];simp[x]
         simp[dw,this]
     ·intro d T h oo q;have i8: ∀o,o<=ops.length->get (S N st es (λa=>k.getD a false) o).sl h=some (.loc d oo)->False:=by
       intro o
       induction o with
       |zero=>
        intro _ q;exact xc (V0 c e d r T) q
       |succ o V2=>
        intro hn q;simp only[S]at q;cases Oe:es[o]? with
        |none=>simp only[Oe]at q;exact V2 (by omega) q
        |some f=>
         simp only[Oe]at q;cases y:k.getD o false with
         |false=>rw[y]at q;exact V2 (by omega) q
         |true=>
          rw[y]at q;simp only[aqX,Ef.app]at q;obtain⟨g,b,l,z,Y,_⟩:=RF o f Oe;cases Og:f.d with
          |none=>simp only[Og]at q;exact V2 (by omega) q
          |some d'=>
           simp only[Og]at q;rcases bM q with⟨_,t⟩|⟨_,t⟩
           ·have MW:o≠c:=by rintro rfl;rw[y]at D;cases D
            rcases Nat.lt_or_gt_of_ne MW with MV|ZL
            ·have:=(hP o c g f w e bi MV l Oe O r QM).2;simp[qy,T,<-t]at this
            ·have:=Q o f ZL Oe g l (by simp[dw,T,<-t]);rw[this]at y;cases y
           ·exact V2 (by omega) t
      exact i8 _ (aqd _) q
    have ZM:=SU _ i7;have XM: ∀F G,Inv X (e.app N (S N st es (λa=>k.getD a false) ops.length)) F G->wpAny X.P .any ops.toArray (λe F G=> ∃A,post e A/\Inv X A F G) PR (k.setIfInBounds c true) F G:=by
     intro F G Py;have SV:(λa=>(k.setIfInBounds c true).getD a false)= λa=>if a=c then true else k.getD a false:=by
      funext a
      by_cases p:a=c
      ·subst p;simp[Pr]
      ·simp[p,ara (aq7 p)]
     refine R _ F G (by simp[Ok]) ?_ ?_ ?_
     ·rw[SV];have:=xk (m:=ops.length) (f:= λa=>k.getD a false) PJ D;omega
     ·intro n b J z a p;have NB:(if n=c then true else k.getD n false)=true:=by rw[<-congrFun SV n];exact J
      have WO:(if a=c then true else k.getD a false)=true:=by
       by_cases I:a=c
       ·simp[I]
       ·rw[aqo I];by_cases WQ:n=c
        ·subst WQ;rw[QM]at z;injection z with z;subst z
         exact f4 a p
        ·rw[aqo WQ]at NB;exact N9 n b NB z a p
      rw[<-congrFun SV a]at WO;exact WO
     ·rw[SV];have g1: ∀h,get (S N st es (λa=>if a=c then true else k.getD a false) ops.length).sl h=get (e.app N (S N st es (λa=>k.getD a false) ops.length)).sl h:=by
       intro h;refine rS (jU es h) _ c ops.length PJ e r D ?_;intro TA a p Z Q4;obtain⟨f,g,j,l,_,Y⟩:=Ql h a Q4;obtain⟨f',x',B,NK,_,ZN⟩:=Ql h c TA;rw[O]at NK;injection NK with NK;subst NK
       refine Q a f p j g l ?_;have:has (slotsOf ops.toArray w) h=true:=fw.2 (by simp[slotsOf,ZN]);simp[dw,Y,this]
      have g2: ∀h,get (S N st es (λa=>if a=c then true else k.getD a false) ops.length).bx h=get (e.app N (S N st es (λa=>k.getD a false) ops.length)).bx h:=by
       intro h;refine rS (lF es h) _ c ops.length PJ e r D ?_;intro TA a p Z Q4;obtain⟨f,g,j,l,x⟩:=Rt h a Q4;obtain⟨f',x',B,NK,UG⟩:=Rt h c TA;rw[r]at B;injection B with B;subst B
       refine Q a f p j g l ?_;have:=Ru f.wb (e.rb++e.wb.map (·.1)) h x (aql.2 (.inr UG));simp[dw,this]
      have g3:(S N st es (λa=>if a=c then true else k.getD a false) ops.length).H=(e.app N (S N st es (λa=>k.getD a false) ops.length)).H:=by
       refine A5 (N:=N) (A4 _ _ _ hN _) (by simp[Ef.app,jm]) ?_ ?_
       ·intro n L;refine rS (uA es n L) _ c ops.length PJ e r D ?_;intro TA a p Z Q4;obtain⟨f,g,j,l,x⟩:=VL n L a Q4;obtain⟨f',x',B,NK,UG⟩:=VL n L c TA;rw[r]at B;injection B with B;subst B
        refine Q a f p j g l ?_;have:=ge n f e (Z1 c e r) x UG;simp[dw,this]
       ·refine rS (wJ es) _ c ops.length PJ e r D ?_;intro TA a p Z Q4;obtain⟨f,g,j,l,x⟩:=Yv a Q4;obtain⟨f',x',B,NK,UG⟩:=Yv c TA;rw[r]at B;injection B with B;subst B
        refine Q a f p j g l ?_;have:=i6 f e (Z1 c e r) x UG;simp[dw,this]
      have:=Inv.nK (X:=X) (sl:=(e.app N (S N st es (λa=>k.getD a false) ops.length)).sl) (bx:=(e.app N (S N st es (λa=>k.getD a false) ops.length)).bx) (H:=(e.app N (S N st es (λa=>k.getD a false) ops.length)).H)
       (Na:=(S N st es (λa=>if a=c then true else k.getD a false) ops.length).sl) (Ns:=(S N st es (λa=>if a=c then true else k.getD a false) ops.length).bx) Py
       (λh v hv=>by rw[<-g1];exact hv) g2
      rw[<-g3]at this;exact this
    have:=ZM ac d6 d9 (wpAny X.P .any ops.toArray (λe F G=> ∃A,post e A/\Inv X A F G) PR (k.setIfInBounds c true)) (λe F G=> ∃A,post e A/\Inv X A F G) XM;unfold wpOp;have ZO:ops.toArray[c]?=some w:=by simpa using O
    simp only[ZO];split
    ·rename_i i;rw[aqy i]at this;exact .inl this
    ·rename_i i;rw[aqo i]at this;exact this
 refine i9 _ _ ac _ (by simp) ?_ ?_ ?_
 ·have: ∀o,o_ o (λa=>(Array.replicate ops.toArray.size false).getD a false)=o:=by
   intro o
   induction o with
   |zero=>rfl
   |succ o R=>
    simp only[o_,R];have:(Array.replicate ops.toArray.size false).getD o false=false:=by simp[arC];split<;>rfl
    rw[this];rfl
  simpa using this ops.length
 ·intro n b J;have:(Array.replicate ops.toArray.size false).getD n false=false:=by simp[arC];split<;>rfl
  rw[this]at J;cases J
 ·have hz: ∀o,S N st es (λa=>(Array.replicate ops.toArray.size false).getD a false) o=st:=by
   intro o
   induction o with
   |zero=>rfl
   |succ o R=>
    have:(Array.replicate ops.toArray.size false).getD o false=false:=by simp[arC];split<;>rfl
    simp only[S,R,this];cases es[o]?<;>rfl
  rw[hz];obtain⟨σ,MD,rfl,hi⟩:=hi;exact⟨{σ with w:= {σ.w with drawn:=σ.w.drawn+1} },MD,rfl,hi.ext (fJ.drew _)⟩
end acx
end Go.Mt.dV
namespace Go.Mt
def Place(H:Hp)(ob:Ob)(n:Nat)(H':Hp):Prop:=(n=H.length/\H'=H++ [ob])\/(H[n]?=some .free/\H'=H.set n ob)
theorem cw.Hz{X:bD}{σ:Sg}{MD:Nat->Nat}{st:St}{a:Act}(hi:cw X σ MD st a)(ob:Ob)(x:Obj)(j:Nat)(L:st.H[j]?=some .free)
  (M: ∀τ:Sg,dy σ τ->τ.w= {σ.w with heap:=σ.w.heap.push x} ->gf τ σ.w.heap.size ob):
  ∃τ:Sg,τ.w= {σ.w with heap:=σ.w.heap.push x} /\τ.l j=σ.w.heap.size/\τ.H=st.H.set j ob/\dy σ τ/\cw X τ MD ⟨st.sl,st.bx,st.H.set j ob⟩ a:=by
 have C:σ.H[j]?=some .free:=by rw[hi.hH];exact L
 have N:j<σ.H.length:=by rcases aqh j σ.H.length with f|f;exact f;simp[aqj f]at C
 let b:=σ.w.heap.size
 let D:World:= {σ.w with heap:=σ.w.heap.push x}
 let l:Nat->Nat:= λd=>if d=j then b else σ.l d
 let τ:Sg:=⟨D,λc g=>σ.O c g\/(c=b/\ob.jy g),l,σ.H.set j ob⟩
 have r:fJ σ.w D:=fJ.alloc _ _;have m: ∀(d:Nat) g,σ.H[d]?=some g->g≠ .free->(σ.H.set j ob)[d]?=some g/\l d=σ.l d:=by
  intro d g f w;have E:d≠j:=by rintro rfl;rw[C]at f;injection f with f;exact w f.symm
  exact⟨by rw[aqn (aq7 E)];exact f,by simp[l,E]⟩
 have B:(σ.H.set j ob)[j]?=some ob:=by simp[N]
 have s: ∀(d:Nat) g,(σ.H.set j ob)[d]?=some g->(σ.H[d]?=some g/\l d=σ.l d/\d≠j)\/(d=j/\g=ob):=by
  intro d g f;by_cases e:d=j
  ·subst e;rw[B]at f;injection f with f;exact .inr ⟨rfl,f.symm⟩
  ·rw[aqn (aq7 e)]at f;exact .inl ⟨f,by simp[l,e],e⟩
 have y:dy σ τ:=by
  refine⟨λc g v i h=>⟨r.cell i,?_⟩,λd n f=>⟨⟨n,(m d _ f (by simp)).1⟩,(m d _ f (by simp)).2⟩,λd n f=>⟨⟨n,(m d _ f (by simp)).1⟩,(m d _ f (by simp)).2⟩,λd n f=>⟨⟨n,(m d _ f (by simp)).1⟩,(m d _ f (by simp)).2⟩,λd f=>(m d _ f (by simp)).1,
   λd V ec O n f=> .inr ⟨V,O,n,(m d _ f (by simp)).1,aqd _,λ_=>⟨(m d _ f (by simp)).2,rfl,λP Z Q=>⟨P,r.heap Q,rfl⟩⟩⟩,λd f=> ?_⟩
  ·rintro(k|⟨k,_⟩)
   ·exact h k
   ·have:=lC i;omega
  ·by_cases e:d=j
   ·subst e;exact⟨_,B⟩
   ·exact⟨.free,by show(σ.H.set j ob)[d]?=_;rw[aqn (aq7 e)];exact f⟩
 have F: ∀(d:Nat) g,σ.H[d]?=some g->g.live->σ.l d<b:= λd g i h=>(hi.hinv.obj d g i).lt h
 have R:gf τ b ob:=M τ y W;have o:l j=b:=by simp[l]
 have Y:j_ τ (nP X.jF MD st.bx):=by
  refine⟨?_,?_,?_,?_,λc g f=>ard (hi.hinv.lU c g f) r.size⟩
  ·intro d g f;rcases s d g f with⟨i,h,_⟩|⟨rfl,rfl⟩
   ·show gf τ (l d) g;rw[h];exact(hi.hinv.obj d g i).cB y λx S=>r.heap S
   ·show gf τ (l _) g;rw[o];exact R
  ·intro d u x A i h k z t;change l d=l u at t;rcases s d x i with⟨p,q,_⟩|⟨rfl,rfl⟩<;>rcases s u A h with⟨G,H,_⟩|⟨rfl,rfl⟩
   ·rw[q,H]at t;exact hi.hinv.inj d u x A p G k z t
   ·rw[q,o]at t;have:=F d x p k;omega
   ·rw[H,o]at t;have:=F u A G z;omega
   ·rfl
  ·intro c g;show(σ.O c g\/(c=b/\ob.jy g))↔_;rw[hi.hinv.own];constructor
   ·rintro((f|⟨d,x,i,h,k⟩)|⟨rfl,h⟩)
    ·exact .inl f
    ·have w:x≠ .free:=by rintro rfl;exact k
     exact .inr ⟨d,x,(m d x i w).1,(by show l d=c;rw[(m d x i w).2];exact h),k⟩
    ·exact .inr ⟨j,ob,B,o,h⟩
   ·rintro(f|⟨d,x,i,h,k⟩)
    ·exact .inl (.inl f)
    ·rcases s d x i with⟨p,q,_⟩|⟨rfl,rfl⟩
     ·exact .inl (.inr ⟨d,x,p,by rw[<-q];exact h,k⟩)
     ·exact .inr ⟨by rw[<-h];exact o,k⟩
  ·intro d g i h I k;rcases s d g i with⟨p,q,_⟩|⟨rfl,rfl⟩
   ·exact hi.hinv.sep d g p h I (by rw[<-q];exact k)
   ·have z:nP X.jF MD st.bx b I:=by rw[<-o];exact k
    have:=hi.hinv.lU _ _ z;exact Nat.lt_irrefl _ this
 have T:aW σ τ:=by
  refine⟨rfl,rfl,rfl,r.size,λc U _=>r.cp c U,?_⟩;intro d g i h;rcases s d g i with⟨p,q,_⟩|⟨rfl,rfl⟩
  ·exact .inr ⟨g,p,h,q⟩
  ·exact .inl (by show _<=l _;rw[o];exact aqd _)
 have J:τ.H=st.H.set j ob:=by show σ.H.set j ob=_;rw[hi.hH]
 refine⟨τ,rfl,o,J,y,?_⟩;have:=hi.heap y Y (λK n f=>r.cp _ ((hi.box K n f).lt trivial)) T;rw[J]at this;exact this
theorem cw.place{X:bD}{σ:Sg}{MD:Nat->Nat}{st:St}{a:Act}(hi:cw X σ MD st a){ob:Ob}{n:Nat}{H':Hp}(j:Place st.H ob n H')(x:Obj)
  (h: ∀τ:Sg,dy σ τ->τ.w= {σ.w with heap:=σ.w.heap.push x} ->gf τ σ.w.heap.size ob):
  ∃τ:Sg,τ.w= {σ.w with heap:=σ.w.heap.push x} /\τ.l n=σ.w.heap.size/\τ.H[n]?=some ob/\dy σ τ/\cw X τ MD ⟨st.sl,st.bx,H'⟩ a:=by
 rcases j with⟨rfl,rfl⟩|⟨i,rfl⟩
 ·obtain⟨τ,c,d,e,f,g⟩:=hi.newObj ob x h;exact⟨τ,c,by rw[<-hi.hH];exact d,by rw[e];simp,f,g⟩
 ·obtain⟨τ,c,d,e,f,g⟩:=hi.Hz ob x n i h;have k:n<st.H.length:=by rcases aqh n st.H.length with b|b;exact b;simp[aqj b]at i
  exact⟨τ,c,d,by rw[e];simp[k],f,g⟩
section ops
variable{X:bD}{st:St}{dst:Option Nat}{ty:Nat}{pos:String}{af:Array Edge}{g:Option (Nat×Bool)}{pn:Nat}{H':Hp}
end ops
end Go.Mt
