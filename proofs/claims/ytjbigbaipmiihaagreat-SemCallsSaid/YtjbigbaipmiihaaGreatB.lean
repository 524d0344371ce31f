/- A part of the proof of the last text of this claim, without conditions. -/
import Derived.Test.YtjbigbaipmiihaaGreatA
set_option maxRecDepth 4000
set_option linter.all false
namespace Go.Mt
section rules
variable{X:bJ}{ops:Array Oper}{rest:List Oper}{post:List Ef->St->Prop}{sl:List (Nat×V)}{bx:List (Nat×List M)}{H:Hp}{d ty:Nat}{pos:String}{af:Array Edge}
theorem Ag.ev{o:Oper}{e:Ef}{st b:St}(h:Ag ops o e st b){x:Operand}(c:x∈o.op.operands.toList):b.ev x=st.ev x:=by
 cases x with
 |tmp a=>
  refine h.sl a ?_;unfold Oper.looksAt;refine auS.2 (.inl ?_);rw[List.mem_filterMap];exact⟨.tmp a,c,W⟩
 |_=>rfl
theorem cQ.Im{o:Oper}{st a:St}{v:V}(e:o.guard=none)(f:o.dst=some d)(g:d<X.n)(h:cQ X o st (dy v a)):JO X ops o st ⟨(d,v)::a.sl,a.bx,a.H⟩:=by
 rintro b q ⟨c,i,rfl,j⟩ r s k;rw[au2 (by simp[Region.wanted,e])];refine(h b c i j).wp ?_;rintro t u ⟨w,x,l,m,⟨rfl,rfl⟩,rfl,n,p⟩;rw[f];exact k _ _ ⟨l,m,W,n.set g p⟩
theorem cQ.JP{o:Oper}{st a:St}{v:V}(d:o.guard=none)(e:o.dst=none)(h:cQ X o st (dy v a)):JO X ops o st a:=by
 rintro b m ⟨c,f,rfl,g⟩ n p i;rw[au2 (by simp[Region.wanted,d])];refine(h b c f g).wp ?_;rintro q r ⟨s,t,j,k,⟨rfl,rfl⟩,rfl,l,u⟩;rw[e];exact i _ _ ⟨j,k,W,l⟩
theorem P1{o:Oper}{v:V}{b:List Nat}{rh:Bool}{st:St}(c:o.guard=none)(e:o.dst=some d)(f:d<X.n)
  (h: ∀a,Ag ops o ⟨some d,v,b,[],none,rh,none⟩ st a->cQ X o a (dy v a)):mg X ops o ⟨some d,v,b,[],none,rh,none⟩ st:=
 λa g=>(h a g).Im c e f
theorem mg.writes{o:Oper}{v:V}{c:List Nat}{b:List (Nat×List M)}{st:St}(d:o.guard=none)(e:o.dst=none)
  (h: ∀a,Ag ops o ⟨none,v,c,b,none,false,none⟩ st a->cQ X o a (dy v ⟨a.sl,b++a.bx,a.H⟩)):mg X ops o ⟨none,v,c,b,none,false,none⟩ st:=
 λa f=>(h a f).JP d e
theorem aR{dst:Option Nat}{op:Op}{j g:Nat}{w:Bool}{post:List Ef->St->Prop}(h:(ops[j]?).bind (·.dst)=some g)(r:get sl g=some (.m (.d (.bool w))))
  (k:TF X ops (⟨dst,op,ty,pos,af,none⟩::rest) ⟨sl,bx,H⟩ post):TF X ops (⟨dst,op,ty,pos,af,some (j,w)⟩::rest) ⟨sl,bx,H⟩ post:=by
 obtain⟨i,s,t,u⟩:=k;cases t with
 |cons m v x=>
  rename_i e i;refine⟨e::i,s,.cons ?_ v x,u⟩;intro b a;have y:get b.sl g=some (.m (.d (.bool w))):=by
   rw[<-r];refine a.sl g ?_;unfold Oper.looksAt;refine auS.2 (.inr ?_);simp[h]
  have z:Ag ops ⟨dst,op,ty,pos,af,none⟩ e ⟨sl,bx,H⟩ b:=
   ⟨λn d=>a.sl n (by
    unfold Oper.looksAt at d⊢;simp only[avg]at d;exact auS.2 (.inl d)),a.bx,a.H,a.nw⟩
  have A:=m b z;rintro c B ⟨o,C,D,l⟩ p q E;have f:=A c B ⟨o,C,D,l⟩ p q E;have F:kp ops ⟨dst,op,ty,pos,af,some (j,w)⟩ b=some true:=by simp[kp,h,y]
  rw[au2 (l.wanted F)];rw[au2 (by simp[Region.wanted])]at f;have G:execOp c.eval ⟨dst,op,ty,pos,af,some (j,w)⟩=execOp c.eval ⟨dst,op,ty,pos,af,none⟩:=by cases op<;>rfl
  unfold Oper.wp at f⊢;rw[G];exact f
theorem aX{op:Op}{j g:Nat}{w b:Bool}{post:List Ef->St->Prop}(l:Nat.blt d X.n=true)(a:(ops[j]?).bind (·.dst)=some g)(n:get sl g=some (.m (.d (.bool b))))(o:(b==w)=false)
  (k:TF X ops rest ⟨(d,.m (.dq []))::sl,bx,H⟩ λp q=>post (⟨some d,.m (.dq []),[],[],none,false,none⟩::p) q):TF X ops (⟨some d,op,ty,pos,af,some (j,w)⟩::rest) ⟨sl,bx,H⟩ post:=by
 refine TF.cons (e:=⟨some d,.m (.dq []),[],[],none,false,none⟩) ?_ W k;intro c r;have s:get c.sl g=some (.m (.d (.bool b))):=by
  rw[<-n];refine r.sl g ?_;unfold Oper.looksAt;refine auS.2 (.inr ?_);simp[a]
 rintro z D ⟨h,t,u,f⟩ A B x;have y:kp ops ⟨some d,op,ty,pos,af,some (j,w)⟩ c=some false:=by simp[kp,a,s,o]
 rw[auU (by rw[f.wanted y];simp)];exact x _ _ ⟨h,t,u,f.set (bO l) (.m (.dq [] #[] W (by intro C m v i;simp at i)))⟩
theorem aY{op:Op}{j g:Nat}{w:Bool}{post:List Ef->St->Prop}(i:Nat.blt d X.n=true)(a:(ops[j]?).bind (·.dst)=some g)(l:get sl g=some (.m (.dq [])))
  (k:TF X ops rest ⟨(d,.m (.dq []))::sl,bx,H⟩ λn o=>post (⟨some d,.m (.dq []),[],[],none,false,none⟩::n) o):TF X ops (⟨some d,op,ty,pos,af,some (j,w)⟩::rest) ⟨sl,bx,H⟩ post:=by
 refine TF.cons (e:=⟨some d,.m (.dq []),[],[],none,false,none⟩) ?_ W k;intro b p;have q:get b.sl g=some (.m (.dq [])):=by
  rw[<-l];refine p.sl g ?_;unfold Oper.looksAt;refine auS.2 (.inr ?_);simp[a]
 rintro x B ⟨f,r,s,c⟩ y z t;have u:kp ops ⟨some d,op,ty,pos,af,some (j,w)⟩ b=some false:=by simp[kp,a,q]
 rw[auU (by rw[c.wanted u];simp)];exact t _ _ ⟨f,r,s,c.set (bO i) (.m (.dq [] #[] W (by intro A m v h;simp at h)))⟩
theorem kq{op:BinOp}{c f:Nat}{x y:Operand}{a:IntKind}{m n:Int}{r:D}(g:Nat.blt d X.n=true)(h:bw sl x=some (.m (.d (.int a m))))(i:bw sl y=some (.m (.d (.int a n))))(j:mM op a m n=some r)(k:TF X ops rest ⟨(d,(.m (.d r)))::sl,bx,H⟩ λl o=>post (⟨some d,(.m (.d r)),[],[],none,false,none⟩::l) o):
  TF X ops (⟨some d,.binOp op c x y f,ty,pos,af,none⟩::rest) ⟨sl,bx,H⟩ post:=
 TF.cons (e:=⟨some d,(.m (.d r)),[],[],none,false,none⟩) (P1 W W (bO g) λp b=>vZ ((b.ev (x:=x) (by simp[Op.operands,Call.operands])).trans h) ((b.ev (x:=y) (by simp[Op.operands,Call.operands])).trans i) j) W k
theorem pL{b c:Nat}{x y:Operand}{m n:Int}(f:Nat.blt d X.n=true)(g:bw sl x=some (.m (.d (.int .i64 m))))(h:bw sl y=some (.m (.d (.int .i64 n))))(i: -9223372036854775808<=m+n/\m+n<=9223372036854775807)(k:TF X ops rest ⟨(d,(.m (.d (.int .i64 (m+n)))))::sl,bx,H⟩ λj l=>post (⟨some d,(.m (.d (.int .i64 (m+n)))),[],[],none,false,none⟩::j) l):
  TF X ops (⟨some d,.binOp .add b x y c,ty,pos,af,none⟩::rest) ⟨sl,bx,H⟩ post:=
 TF.cons (e:=⟨some d,(.m (.d (.int .i64 (m+n)))),[],[],none,false,none⟩) (P1 W W (bO f) λo a=>vZ ((a.ev (x:=x) (by simp[Op.operands,Call.operands])).trans g) ((a.ev (x:=y) (by simp[Op.operands,Call.operands])).trans h) (by simp[mM,show IntKind.i64.wrap (m+n)=m+n from IntWalk.i64_in _ i])) W k
theorem fT{b c:Nat}{x y:Operand}{m n:Int}(f:Nat.blt d X.n=true)(g:bw sl x=some (.m (.d (.int .i64 m))))(h:bw sl y=some (.m (.d (.int .i64 n))))(i: -9223372036854775808<=m-n/\m-n<=9223372036854775807)(k:TF X ops rest ⟨(d,(.m (.d (.int .i64 (m-n)))))::sl,bx,H⟩ λj l=>post (⟨some d,(.m (.d (.int .i64 (m-n)))),[],[],none,false,none⟩::j) l):
  TF X ops (⟨some d,.binOp .sub b x y c,ty,pos,af,none⟩::rest) ⟨sl,bx,H⟩ post:=
 TF.cons (e:=⟨some d,(.m (.d (.int .i64 (m-n)))),[],[],none,false,none⟩) (P1 W W (bO f) λo a=>vZ ((a.ev (x:=x) (by simp[Op.operands,Call.operands])).trans g) ((a.ev (x:=y) (by simp[Op.operands,Call.operands])).trans h) (by simp[mM,show IntKind.i64.wrap (m-n)=m-n from IntWalk.i64_in _ i])) W k
theorem Nv{c f:Nat}{x y:Operand}{a:IntKind}{m n:Int}(g:Nat.blt d X.n=true)(h:bw sl x=some (.m (.d (.int a m))))(i:bw sl y=some (.m (.d (.int a n))))(j:(n==0)=false)(k:TF X ops rest ⟨(d,(.m (.d (.int a (a.wrap (m.tdiv n))))))::sl,bx,H⟩ λl o=>post (⟨some d,(.m (.d (.int a (a.wrap (m.tdiv n))))),[],[],none,false,none⟩::l) o):
  TF X ops (⟨some d,.binOp .quo c x y f,ty,pos,af,none⟩::rest) ⟨sl,bx,H⟩ post:=
 TF.cons (e:=⟨some d,(.m (.d (.int a (a.wrap (m.tdiv n))))),[],[],none,false,none⟩) (P1 W W (bO g) λp b=>Hg ((b.ev (x:=x) (by simp[Op.operands,Call.operands])).trans h) ((b.ev (x:=y) (by simp[Op.operands,Call.operands])).trans i) j) W k
theorem CJ{c f:Nat}{x y:Operand}{a:IntKind}{m n:Int}(g:Nat.blt d X.n=true)(h:bw sl x=some (.m (.d (.int a m))))(i:bw sl y=some (.m (.d (.int a n))))(j:(n==0)=false)(k:TF X ops rest ⟨(d,(.m (.d (.int a (m.tmod n)))))::sl,bx,H⟩ λl o=>post (⟨some d,(.m (.d (.int a (m.tmod n)))),[],[],none,false,none⟩::l) o):
  TF X ops (⟨some d,.binOp .rem c x y f,ty,pos,af,none⟩::rest) ⟨sl,bx,H⟩ post:=
 TF.cons (e:=⟨some d,(.m (.d (.int a (m.tmod n)))),[],[],none,false,none⟩) (P1 W W (bO g) λp b=>Hh ((b.ev (x:=x) (by simp[Op.operands,Call.operands])).trans h) ((b.ev (x:=y) (by simp[Op.operands,Call.operands])).trans i) j) W k
theorem uG{x y:Operand}{b c:Nat}{s u:ByteArray}(f:Nat.blt d X.n=true)(g:bw sl x=some (.m (.d (.str s))))(h:bw sl y=some (.m (.d (.str u))))(i:s.size+u.size<=9223372036854775807)(k:TF X ops rest ⟨(d,(.m (.d (.str (s++u)))))::sl,bx,H⟩ λj l=>post (⟨some d,(.m (.d (.str (s++u)))),[],[],none,false,none⟩::j) l):
  TF X ops (⟨some d,.binOp .add b x y c,ty,pos,af,none⟩::rest) ⟨sl,bx,H⟩ post:=
 TF.cons (e:=⟨some d,(.m (.d (.str (s++u)))),[],[],none,false,none⟩) (P1 W W (bO f) λm a=>yY ((a.ev (x:=x) (by simp[Op.operands,Call.operands])).trans g) ((a.ev (x:=y) (by simp[Op.operands,Call.operands])).trans h) i) W k
theorem px{T:Nat}{x:Operand}{t off:Nat}{cs:List M}{m:M}[ht:cB X.P T](b:Nat.blt d X.n=true)(c:bw sl x=some (.loc t off))(f:get bx t=some cs)(g:cs[off]?=some m)(k:TF X ops rest ⟨(d,(.m m))::sl,bx,H⟩ λh i=>post (⟨some d,(.m m),[t],[],none,false,none⟩::h) i):
  TF X ops (⟨some d,.load T x,ty,pos,af,none⟩::rest) ⟨sl,bx,H⟩ post:=
 TF.cons (e:=⟨some d,(.m m),[t],[],none,false,none⟩) (P1 W W (bO b) λj a=>vi ((a.ev (x:=x) (by simp[Op.operands,Call.operands])).trans c) ((a.bx t (by simp)).trans f) g) W k
theorem ra{T n:Nat}{x:Operand}{t off:Nat}{cs a:List M}{ds:List D}[ht:jM X.P T n](f:Nat.blt d X.n=true)(g:bw sl x=some (.loc t off))(h:get bx t=some cs)(b:sub cs off n=some a)(i:kK a=some ds)(k:TF X ops rest ⟨(d,(.m (.d (.agg ds))))::sl,bx,H⟩ λj l=>post (⟨some d,(.m (.d (.agg ds))),[t],[],none,false,none⟩::j) l):
  TF X ops (⟨some d,.load T x,ty,pos,af,none⟩::rest) ⟨sl,bx,H⟩ post:=
 TF.cons (e:=⟨some d,(.m (.d (.agg ds))),[t],[],none,false,none⟩) (P1 W W (bO f) λm c=>vj ((c.ev (x:=x) (by simp[Op.operands,Call.operands])).trans g) ((c.bx t (by simp)).trans h) (avJ (sub_eq b).1) (by rw[(sub_eq b).2];exact i)) W k
theorem yx{t e:Nat}{x:Operand}{v:D}{n:Nat}[ht:aZ X.P t e](a:Nat.blt d X.n=true)(b:bw sl x=some (.m (.d v)))(c:lB v=some n)(k:TF X ops rest ⟨(d,(.m (.d (.int .i64 n))))::sl,bx,H⟩ λf g=>post (⟨some d,(.m (.d (.int .i64 n))),[],[],none,false,none⟩::f) g):
  TF X ops (⟨some d,.call ⟨.builtin .len,#[x],#[t]⟩,ty,pos,af,none⟩::rest) ⟨sl,bx,H⟩ post:=
 TF.cons (e:=⟨some d,(.m (.d (.int .i64 n))),[],[],none,false,none⟩) (P1 W W (bO a) λi h=>yW ((h.ev (x:=x) (by simp[Op.operands,Call.operands])).trans b) c) W k
theorem a_{t e n:Nat}{x y:Operand}{rows:List (List D)}{r:List D}{b:IntKind}{i:Int}[ht:aZ X.P t e][p:bY X.P e n](c:Nat.blt d X.n=true)(f:bw sl x=some (.m (.d (.sl rows))))(g:bw sl y=some (.m (.d (.int b i))))(h:0<=i)(j:rows[i.toNat]?=some r)(l:r.length=n)(k:TF X ops rest ⟨(d,(.m (.d (.bm r 0))))::sl,bx,H⟩ λm o=>post (⟨some d,(.m (.d (.bm r 0))),[],[],none,false,none⟩::m) o):
  TF X ops (⟨some d,.indexAddr t x y,ty,pos,af,none⟩::rest) ⟨sl,bx,H⟩ post:=
 TF.cons (e:=⟨some d,(.m (.d (.bm r 0))),[],[],none,false,none⟩) (P1 W W (bO c) λq a=>yX ((a.ev (x:=x) (by simp[Op.operands,Call.operands])).trans f) ((a.ev (x:=y) (by simp[Op.operands,Call.operands])).trans g) h j l) W k
theorem Ag.iz{o:Oper}{e:Ef}{st a:St}(h:Ag ops o e st a): ∀{xs:List Operand},(∀x∈xs,x∈o.op.operands.toList)->a.iz xs=st.iz xs
 | [],_=>rfl
 |x::f,b=>by
  simp only[St.iz];rw[h.ev (b x (by simp)),h.iz (λc d=>b c (by simp[d]))]
theorem Ag.gD{o:Oper}{e:Ef}{st a:St}(h:Ag ops o e st a): ∀{xs:List Operand},(∀x∈xs,x∈o.op.operands.toList)->a.gD xs=st.gD xs
 | [],_=>rfl
 |x::f,b=>by
  simp only[St.gD];rw[h.ev (b x (by simp)),h.gD (λc d=>b c (by simp[d]))]
theorem Ag.eG{o:Oper}{e:Ef}{st a:St}(h:Ag ops o e st a): ∀{xs:List (Nat×Operand)},(∀p∈xs,p.2∈o.op.operands.toList)->Mt.eG a xs=Mt.eG st xs
 | [],_=>rfl
 |(c,d)::i,b=>by
  simp only[Mt.eG];rw[h.ev (b (c,d) (by simp)),h.eG (λf g=>b f (by simp[g]))]
theorem aW{f:Nat}{args:List Operand}{Sr:Array Nat}{ds:List D}{r:D}[hf:bz X.P f](h:PT X.P f ds (·= [r]))(a:Nat.blt d X.n=true)(b:iz sl args=some ds)(k:TF X ops rest ⟨(d,.m (.d r))::sl,bx,H⟩ λc g=>post (⟨some d,.m (.d r),[],[],none,false,none⟩::c) g):
  TF X ops (⟨some d,.call ⟨.value (.func f),args.toArray,Sr⟩,ty,pos,af,none⟩::rest) ⟨sl,bx,H⟩ post:=
 TF.cons (e:=⟨some d,.m (.d r),[],[],none,false,none⟩) (P1 W W (bO a) λm i=>Bq (by rw[i.iz (λl j=>by simp[Op.operands,Call.operands];exact .inr j),tv];exact b) h) W k
theorem xb{sl:List (Nat×V)}{d:Nat}(h: ∀t a,get sl t≠some (.loc d a)): ∀t v,get sl t=some v->get (cY d sl) t=some v:=by
 have: ∀(g:List (Nat×V)) (t:Nat) (v:V),get g t=some v->(∀a,v≠ .loc d a)->get (cY d g) t=some v:=by
  intro g
  induction g with
  |nil=>intro t v h;simp[get]at h
  |cons l g j=>
   intro t v b i;obtain⟨p,k⟩:=l;cases k with
   |m m=>
    unfold cY;rcases bT b with⟨rfl,rfl⟩|⟨c,f⟩
    ·simp[bQ]
    ·rw[bQ,auU (λe=>c e.symm)];exact j t v f i
   |tl q r s u=>
    unfold cY;rcases bT b with⟨rfl,rfl⟩|⟨c,f⟩
    ·simp[bQ]
    ·rw[bQ,auU (λe=>c e.symm)];exact j t v f i
   |loc k a=>
    unfold cY;cases n:Nat.beq k d with
    |false=>
     rcases bT b with⟨rfl,rfl⟩|⟨c,f⟩
     ·simp[bQ]
     ·simp only[aws];rw[bQ,auU (λe=>c e.symm)];exact j t v f i
    |true=>
     have:=auZ n;subst this;rcases bT b with⟨rfl,rfl⟩|⟨c,f⟩
     ·exact absurd W (i a)
     ·simp only[avx];rw[bQ,auU (λe=>c e.symm)];exact j t v f i
 intro t v b;exact this sl t v b (λa o=>h t a (by rw[b,o]))
theorem JQ{T:Nat}{cs:List M}[i:zd X.P T cs](j:Nat.blt d X.n=true)(k:TF X ops rest ⟨(d,.loc d 0)::sl,(d,cs)::bx,H⟩ λl m=>post (⟨some d,.loc d 0,[],[(d,cs)],some d,false,none⟩::l) m):
  TF X ops (⟨some d,.alloc T,ty,pos,af,none⟩::rest) ⟨sl,bx,H⟩ post:=by
 refine TF.cons (e:=⟨some d,.loc d 0,[],[(d,cs)],some d,false,none⟩) ?_ W k;intro n o;obtain⟨B,C,p⟩:=i.h;subst p;have q:=(Bs (X:=X) (st:=n) (d:=d) (T:=T) (ty:=ty) (pos:=pos) (af:=af) (g:=none)).Im (ops:=ops) W W (bO j);intro a b r c f s;refine q a b r c f λt u w=>s t u ?_
 have x:=xb (o.nw d W);refine w.o5 (λh v y=> ?_) (λ_=>rfl);rcases bT y with⟨rfl,rfl⟩|⟨z,A⟩
 ·simp[bQ]
 ·rw[bQ,auU (λe=>z e.symm)];exact x h v A
theorem jc{T n:Nat}{x y:Operand}{t off:Nat}{cs c a:List M}{m:M}[r:bY X.P T n](d:bw sl x=some (.loc t off))(f:bw sl y=some (.m m))(g:get bx t=some cs)(h:iW m=some c)
  (i:Nat.beq c.length n=true) (j:wr cs off c=some a) (k:TF X ops rest ⟨sl,(t,a)::bx,H⟩ λl o=>post (⟨none,.m .undef,[],[(t,a)],none,false,none⟩::l) o):TF X ops (⟨none,.store T x y,ty,pos,af,none⟩::rest) ⟨sl,bx,H⟩ post:=by
 obtain⟨p,q⟩:=c7 h;subst p;exact TF.cons (e:=⟨none,.m .undef,[],[(t,a)],none,false,none⟩) (mg.writes W W λs b=>y8 ((b.ev (x:=x) (by simp[Op.operands])).trans d) ((b.ev (x:=y) (by simp[Op.operands])).trans f) ((b.bx t (by simp)).trans g) (auZ i) q (tt j)) W k
end rules
theorem cE.heap{X:bJ}{σ τ:Sg}{Pw:Nat->Nat}{st:St}{a:Act}(hi:cE X σ Pw st a)(d:dW σ τ)(g:ln τ (o8 X.kL Pw st.bx))
  (h: ∀b c,get st.bx b=some c->τ.w.heap[Pw b]?=σ.w.heap[Pw b]?) (i:bj σ τ):cE X τ Pw ⟨st.sl,st.bx,τ.H⟩ a:=
 ⟨rfl,hi.defers,hi.size,λb v j=>let⟨f,k,l⟩:=hi.slot b v j;⟨f,k,l.mono d⟩,λb c e=>(hi.box b c e).cK d (λn m=>by rw[h b c e];exact m),hi.sP,hi.th,hi.tj,g,hi.mono.trans d,hi.cy.trans i⟩
theorem cE.Nw{X:bJ}{σ:Sg}{Pw:Nat->Nat}{st:St}{a:Act}(hi:cE X σ Pw st a){t:Nat}{cs:List M}(h:get st.bx t=some cs){i:Nat}{ob:Ob}(c:σ.H[i]?=some ob)(d:ob.live):Pw t≠σ.l i:=
 λe=>rO hi.hinv (b:=Pw t) (.inr ⟨t,cs,h,rfl⟩) i ob c d e.symm
theorem cE.newObj{X:bJ}{σ:Sg}{Pw:Nat->Nat}{st:St}{a:Act}(hi:cE X σ Pw st a)(ob:Ob)(x:Obj)
  (H: ∀τ:Sg,dW σ τ->τ.w= {σ.w with heap:=σ.w.heap.push x} ->gZ τ σ.w.heap.size ob):
  ∃τ:Sg,τ.w= {σ.w with heap:=σ.w.heap.push x} /\τ.l σ.H.length=σ.w.heap.size/\τ.H=st.H++ [ob]/\dW σ τ/\cE X τ Pw ⟨st.sl,st.bx,st.H++ [ob]⟩ a:=by
 let b:=σ.w.heap.size
 let A:World:= {σ.w with heap:=σ.w.heap.push x}
 let k:Nat->Nat:= λd=>if d=σ.H.length then b else σ.l d
 let τ:Sg:=⟨A,λc f=>σ.O c f\/(c=b/\ob.kE f),k,σ.H++ [ob]⟩
 have p:gG σ.w A:=gG.alloc _ _;have i: ∀(d:Nat) f,σ.H[d]?=some f->(σ.H++ [ob])[d]?=some f/\k d=σ.l d:=by
  intro d f e;have u:d<σ.H.length:=by rcases auM d σ.H.length with q|q;exact q;simp[auP q]at e
  exact⟨by rw[auL u];exact e,by simp[k,show d≠σ.H.length by omega]⟩
 have r: ∀(d:Nat) f,(σ.H++ [ob])[d]?=some f->(σ.H[d]?=some f/\k d=σ.l d)\/(d=σ.H.length/\f=ob):=by
  intro d f e;rcases auM d σ.H.length with q|q
  ·rw[auL q]at e;exact .inl ⟨e,(i d f e).2⟩
  ·rw[auR q]at e;have:d-σ.H.length=0:=by
    rcases avl (d-σ.H.length)with B|B
    ·exact B
    ·rw[auP (by simp;omega)]at e;cases e
   rw[this]at e;simp at e;exact .inr ⟨by omega,e.symm⟩
 have w:dW σ τ:=by
  refine⟨λc f v h g=>⟨p.cell h,?_⟩,λd l e=>⟨⟨l,(i d _ e).1⟩,(i d _ e).2⟩,λd l e=>⟨⟨l,(i d _ e).1⟩,(i d _ e).2⟩,λd l e=>⟨⟨l,(i d _ e).1⟩,(i d _ e).2⟩,λd e=>(i d _ e).1,
   λd P S I l e=> .inr ⟨P,I,l,(i d _ e).1,auK _,λ_=>⟨(i d _ e).2,rfl,λJ R K=>⟨J,p.heap K,rfl⟩⟩⟩,λd e=>⟨_,(i d _ e).1⟩⟩
  rintro(j|⟨j,_⟩)
  ·exact g j
  ·have:=mN h;omega
 have u: ∀(d:Nat) f,σ.H[d]?=some f->f.live->σ.l d<b:= λd f h g=>(hi.hinv.obj d f h).lt g
 have L:gZ τ b ob:=H τ w W;have m:k σ.H.length=b:=by simp[k]
 have Q:ln τ (o8 X.kL Pw st.bx):=by
  refine⟨?_,?_,?_,?_,λc f e=>avR (hi.hinv.nt c f e) p.size⟩
  ·intro d f e;rcases r d f e with⟨h,g⟩|⟨rfl,rfl⟩
   ·show gZ τ (k d) f;rw[g];exact(hi.hinv.obj d f h).cK w λx M=>p.heap M
   ·show gZ τ (k _) f;rw[m];exact L
  ·intro d t x z h g j y s;change k d=k t at s;rcases r d x h with⟨n,o⟩|⟨rfl,rfl⟩<;>rcases r t z g with⟨C,D⟩|⟨rfl,rfl⟩
   ·rw[o,D]at s;exact hi.hinv.inj d t x z n C j y s
   ·rw[o,m]at s;have:=u d x n j;omega
   ·rw[D,m]at s;have:=u t z C y;omega
   ·rfl
  ·intro c f;show(σ.O c f\/(c=b/\ob.kE f))↔_;rw[hi.hinv.own];constructor
   ·rintro((e|⟨d,x,h,g,j⟩)|⟨rfl,g⟩)
    ·exact .inl e
    ·exact .inr ⟨d,x,(i d x h).1,(by show k d=c;rw[(i d x h).2];exact g),j⟩
    ·exact .inr ⟨σ.H.length,ob,by simp[τ],m,g⟩
   ·rintro(e|⟨d,x,h,g,j⟩)
    ·exact .inl (.inl e)
    ·rcases r d x h with⟨n,o⟩|⟨rfl,rfl⟩
     ·exact .inl (.inr ⟨d,x,n,by rw[<-o];exact g,j⟩)
     ·exact .inr ⟨by rw[<-g];exact m,j⟩
  ·intro d f h g E j;rcases r d f h with⟨n,o⟩|⟨rfl,rfl⟩
   ·exact hi.hinv.sep d f n g E (by rw[<-o];exact j)
   ·have y:o8 X.kL Pw st.bx b E:=by rw[<-m];exact j
    have:=hi.hinv.nt _ _ y;exact Nat.lt_irrefl _ this
 have N:bj σ τ:=by
  refine⟨W,W,W,p.size,λc O _=>p.cy c O,?_⟩;intro d f h g;rcases r d f h with⟨n,o⟩|⟨rfl,rfl⟩
  ·exact .inr ⟨f,n,g,o⟩
  ·exact .inl (by show _<=k _;rw[m];exact auK _)
 have F:τ.H=st.H++ [ob]:=by show σ.H++ [ob]=_;rw[hi.hH]
 refine⟨τ,W,m,F,w,?_⟩;have:=hi.heap w Q (λG l e=>p.cy _ ((hi.box G l e).lt trivial)) N;rw[F]at this;exact this
def turns(same sz:Prop):Ob->Ob->Prop
 | .box _,.box _=>same
 | .map _,.map _=>same
 | .iter _,.iter _=>same
 | .row _ _ _ _,.dead=>True
 | .row _ ec aL cs,.row _ ec' Ql PV=>ec'=ec/\(aL<Ql\/(Ql=aL/\PV.length=cs.length/\same/\sz))
 |_,_=>False
theorem cE.rR{X:bJ}{σ:Sg}{Pw:Nat->Nat}{st:St}{a:Act}(hi:cE X σ Pw st a){j b':Nat}{ob QK:Ob}{w':World}(Y:st.H[j]?=some ob)(x:ob.live)
  (ac:w'.os=σ.w.os) (Z:w'.output=σ.w.output) (ah:w'.tape=σ.w.tape) (S:σ.w.heap.size<=w'.heap.size)
  (D: ∀c,c<σ.w.heap.size->c≠σ.l j->w'.heap[c]?=σ.w.heap[c]?) (h:b'=σ.l j\/σ.w.heap.size<=b')
  (PL: ∀g v,¬ob.kE g->dI σ.w (σ.l j) g=some v->dI w' (σ.l j) g=some v/\(b'=σ.l j-> ¬QK.kE g))
  (w:turns (b'=σ.l j) (∀H K,σ.w.heap[σ.l j]?=some (.cells H K (0,0))-> ∃P,w'.heap[σ.l j]?=some (.cells P K (0,0))/\P.size=H.size) ob QK)
  (PG: ∀τ:Sg,dW σ τ->τ.w=w'->τ.l j=b'->τ.H=st.H.set j QK->gZ τ b' QK):
  ∃τ:Sg,τ.w=w'/\τ.l j=b'/\τ.H=st.H.set j QK/\dW σ τ/\cE X τ Pw ⟨st.sl,st.bx,st.H.set j QK⟩ a:=by
 have T:=hi.hH;have o:σ.H[j]?=some ob:=by rw[T];exact Y
 have RN:j<σ.H.length:=by rcases auM j σ.H.length with d|d;exact d;simp[auP d]at o
 let l:Nat->Nat:= λb=>if b=j then b' else σ.l b
 let z:=σ.H.set j QK
 let E:=o8 X.kL Pw st.bx
 let τ:Sg:=⟨w',λc g=>E c g\/ ∃(b:Nat) (f:Ob),z[b]?=some f/\l b=c/\f.kE g,l,z⟩
 have s: ∀(b:Nat) f,b≠j->σ.H[b]?=some f->z[b]?=some f/\l b=σ.l b:=by
  intro b f Q d;exact⟨by show(σ.H.set j QK)[b]?=_;rw[auT (avH Q)];exact d,by simp[l,Q]⟩
 have k:z[j]?=some QK/\l j=b':=⟨by show(σ.H.set j QK)[j]?=_;simp[RN],by simp[l]⟩;have A: ∀(b:Nat) f,z[b]?=some f->(b≠j/\σ.H[b]?=some f/\l b=σ.l b)\/(b=j/\f=QK):=by
  intro b f d;by_cases e:b=j
  ·subst e;rw[k.1]at d;injection d with d;exact .inr ⟨W,d.symm⟩
  ·have:σ.H[b]?=some f:=by
    have i:(σ.H.set j QK)[b]?=some f:=d;rw[auT (avH e)]at i;exact i
   exact .inl ⟨e,this,(s b f e this).2⟩
 have F: ∀(b:Nat) g,σ.H[b]?=some g->g.live->σ.l b<σ.w.heap.size:= λb g p i=>(hi.hinv.obj b g p).lt i
 have d8:=F j ob o x;have J: ∀(b:Nat) f,b≠j->σ.H[b]?=some f->f.live->σ.l b≠σ.l j:= λb f e p i m=>e (hi.hinv.inj b j f ob p o i x m)
 have I:dW σ τ:=by
  refine⟨?_,?_,?_,?_,?_,?_,?_⟩
  ·intro c g v p i;have L:=mN p;have U:(c≠σ.l j\/(b'=σ.l j-> ¬QK.kE g))-> ¬(E c g\/ ∃(b:Nat) (f:Ob),z[b]?=some f/\l b=c/\f.kE g):=by
    rintro G (m|⟨b,f,m,n,r⟩)
    ·exact i ((hi.hinv.own c g).2 (.inl m))
    ·rcases A b f m with⟨e,q,t⟩|⟨rfl,rfl⟩
     ·exact i ((hi.hinv.own c g).2 (.inr ⟨b,f,q,by rw[<-t];exact n,r⟩))
     ·rw[k.2]at n;rcases h with h|h
      ·rcases G with G|G
       ·exact G (by rw[<-n];exact h)
       ·exact G h r
      ·omega
   by_cases e:c=σ.l j
   ·subst e;have PU: ¬ob.kE g:= λd=>i ((hi.hinv.own _ g).2 (.inr ⟨j,ob,o,rfl,d⟩))
    obtain⟨m,n⟩:=PL g v PU p;exact⟨m,U (.inr n)⟩
   ·exact⟨by rw[nZ (D c L e)];exact p,U (.inl e)⟩
  ·intro b u d;by_cases e:b=j
   ·subst e;rw[o]at d;injection d with d;subst d
    cases QK with
    |box y=>exact⟨⟨y,k.1⟩,by show l b=_;rw[k.2];exact w⟩
    |_=>exact w.elim
   ·exact⟨⟨u,(s b _ e d).1⟩,(s b _ e d).2⟩
  ·intro b u d;by_cases e:b=j
   ·subst e;rw[o]at d;injection d with d;subst d
    cases QK with
    |map y=>exact⟨⟨y,k.1⟩,by show l b=_;rw[k.2];exact w⟩
    |_=>exact w.elim
   ·exact⟨⟨u,(s b _ e d).1⟩,(s b _ e d).2⟩
  ·intro b u d;by_cases e:b=j
   ·subst e;rw[o]at d;injection d with d;subst d
    cases QK with
    |iter y=>exact⟨⟨y,k.1⟩,by show l b=_;rw[k.2];exact w⟩
    |_=>exact w.elim
   ·exact⟨⟨u,(s b _ e d).1⟩,(s b _ e d).2⟩
  ·intro b d;by_cases e:b=j
   ·subst e;rw[o]at d;injection d with d;subst d;exact x.elim
   ·exact(s b _ e d).1
  ·intro b co ec aL u d;by_cases e:b=j
   ·subst e;rw[o]at d;injection d with d;subst d
    cases QK with
    |dead=>exact .inl k.1
    |row Sq d9 Ql y=>
     obtain⟨e1,i⟩:=w;subst e1;refine .inr ⟨Sq,Ql,y,k.1,?_,?_⟩
     ·rcases i with i|⟨i,_⟩<;>omega
     ·intro hv;rcases i with i|⟨_,m,n,r⟩
      ·omega
      ·exact⟨by show l b=_;rw[k.2];exact n,m,r⟩
    |_=>exact w.elim
   ·refine .inr ⟨co,aL,u,(s b _ e d).1,auK _,λ_=>⟨(s b _ e d).2,rfl,λH K ha=>⟨H,?_,rfl⟩⟩⟩;show w'.heap[σ.l b]?=_;rw[D _ (F b _ d trivial) (J b _ e d trivial)];exact ha
  ·intro b d;by_cases e:b=j
   ·subst e;exact⟨_,k.1⟩
   ·exact⟨_,(s b _ e d).1⟩
 have O:τ.H=st.H.set j QK:=by show σ.H.set j QK=_;rw[T]
 have VL:gZ τ b' QK:=PG τ I W k.2 O;have d6: ∀g,¬E (σ.l j) g:= λg=>hi.hinv.sep j ob o x g
 have d7:ln τ E:=by
  refine⟨?_,?_,λc g=>avU,?_,λc g d=>avR (hi.hinv.nt c g d) S⟩
  ·intro b f d;rcases A b f d with⟨e,q,t⟩|⟨rfl,rfl⟩
   ·show gZ τ (l b) f;rw[t];by_cases M:f.live
    ·refine(hi.hinv.obj b f q).cK I λB hy=> ?_
     show w'.heap[_]?=_;rw[D _ (F b f q M) (J b f e q M)];exact hy
    ·cases f<;>first|trivial|exact(M trivial).elim
   ·show gZ τ (l b) f;rw[k.2];exact VL
  ·intro b C f B p i m n r;change l b=l C at r;rcases A b f p with⟨e,q,t⟩|⟨rfl,rfl⟩<;>rcases A C B i with⟨e',N,R⟩|⟨rfl,rfl⟩
   ·rw[t,R]at r;exact hi.hinv.inj b C f B q N m n r
   ·rw[t,k.2]at r;rcases h with h|h
    ·exact absurd (r.trans h) (J b f e q m)
    ·have:=F b f q m;omega
   ·rw[R,k.2]at r;rcases h with h|h
    ·exact absurd (r.symm.trans h) (J C B e' N n)
    ·have:=F C B N n;omega
   ·rfl
  ·intro b f p i g m;rcases A b f p with⟨e,q,t⟩|⟨rfl,rfl⟩
   ·exact hi.hinv.sep b f q i g (by rw[<-t];exact m)
   ·have n:E b' g:=by rw[<-k.2];exact m
    rcases h with h|h
    ·exact d6 g (by rw[<-h];exact n)
    ·have:=hi.hinv.nt _ _ n;omega
 have YG:bj σ τ:=by
  refine⟨ac,Z,ah,S,λc L hn=>D c L (λe=>hn j ob o x e.symm),?_⟩;intro b f p i;rcases A b f p with⟨e,q,t⟩|⟨rfl,rfl⟩
  ·exact .inr ⟨f,q,i,t⟩
  ·rcases h with h|h
   ·exact .inr ⟨ob,o,x,by show l b=_;rw[k.2];exact h⟩
   ·exact .inl (by show _<=l b;rw[k.2];exact h)
 refine⟨τ,W,k.2,O,I,?_⟩;have:=hi.heap I d7 (λV u d=>D _ ((hi.box V u d).lt trivial) (hi.Nw d o x)) YG;rw[O]at this;exact this
section ops
variable{X:bJ}{st:St}{dst:Option Nat}{ty:Nat}{pos:String}{af:Array Edge}{g:Option (Nat×Bool)}
theorem DU{T:Nat}{x:Operand}{m:M}(f:st.ev x=some (.m m))(h:m.i_=true):
  cQ X ⟨dst,.box T x,ty,pos,af,g⟩ st (dy (.m (.ref st.H.length 0)) ⟨st.sl,st.bx,st.H++ [.box (cellsOf m)]⟩):=by
 intro d a i c;have b:=c.ev f;cases b with
 |m b=>
  have j:=b.cells h;obtain⟨e,k,l,n,r,o⟩:=c.newObj (.box (cellsOf m)) (.cells (d.eval x).cells T (0,0)) (by
   intro e p q;exact⟨_,T,by rw[q];simp,j.mono p⟩)
  refine dT.value (u:= .pointer (some ⟨a.w.heap.size,0,none⟩)) (w':= {a.w with heap:=a.w.heap.push (.cells (d.eval x).cells T (0,0))}) ?_ ⟨_,_,e,i,⟨rfl,rfl⟩,k,o,?_⟩
  ·simp[execOp,Instr.box,newVar,newRow,newObj,Sem.run]
  ·rw[<-l,c.hH];exact .m (.ref _ 0 (cellsOf m) (by rw[n];simp))
theorem FK{T:Nat}{z:D}[d:yw X.P T z]:
  cQ X ⟨dst,.alloc T,ty,pos,af,g⟩ st (dy (.m (.ref st.H.length 0)) ⟨st.sl,st.bx,st.H++ [.box ((bu z).map .d)]⟩):=by
 intro q a e c;obtain⟨v,f,h⟩:=d.run;have i:RM a (.d z) v:= .d (fC h);have j:lz a ((bu z).map .d) v.cells:=i.cells W;obtain⟨b,k,l,m,r,n⟩:=c.newObj (.box ((bu z).map .d)) (.cells v.cells T (0,0)) (by
  intro b o p;exact⟨_,T,by rw[p];simp,j.mono o⟩)
 refine dT.value (u:= .pointer (some ⟨a.w.heap.size,0,none⟩)) (w':= {a.w with heap:=a.w.heap.push (.cells v.cells T (0,0))}) ?_ ⟨_,_,b,e,⟨rfl,rfl⟩,k,n,?_⟩
 ·simp[execOp,Instr.alloc,f,newVar,newRow,newObj,Sem.run]
 ·rw[<-l,c.hH];exact .m (.ref _ 0 ((bu z).map .d) (by rw[m];simp))
theorem DV{T:Nat} :
  cQ X ⟨dst,.makeMap T none,ty,pos,af,g⟩ st (dy (.m (.mp st.H.length)) ⟨st.sl,st.bx,st.H++ [.map []]⟩):=by
 intro k a d c;obtain⟨b,e,f,h,l,i⟩:=c.newObj (.map []) (.map #[] 0) (by
  intro b m j;exact⟨#[],0,by rw[j];simp,rfl,by simp⟩)
 refine dT.value (u:= .map (some a.w.heap.size)) (w':= {a.w with heap:=a.w.heap.push (.map #[] 0)}) ?_ ⟨_,_,b,d,⟨rfl,rfl⟩,e,i,?_⟩
 ·simp[execOp,Instr.makeMap,newObj,Sem.run]
 ·rw[<-f,c.hH];exact .m (.mp _ [] (by rw[h];simp))
theorem mE{T:Nat}{x:Operand}{i off:Nat}{cs:List M}{m:M}(e:st.ev x=some (.m (.ref i off)))(f:st.H[i]?=some (.box cs))(h:ie X.P T cs off=some m):
  cQ X ⟨dst,.load T x,ty,pos,af,g⟩ st (dy (.m m) st):=by
 refine PN λd o q b=> ?_
 have a:=b.ev e;generalize j:d.eval x=p at a;cases a with
 |m a=>cases a with
  |ref i off r s=>
   obtain⟨t,u,k,c⟩:=b.hinv.obj i (.box cs) (by rw[b.hH];exact f);obtain⟨v,l,n⟩:=pH h k (by rw[c.1];exact auK _) c.2;exact⟨v,by simp[execOp,j,Instr.loadAt,Instr.sureAddr,l],.m n⟩
theorem Bv{T:Nat}{x:Operand}{i aL off:Nat}{acc:Bool}{ec:Nat}{cs:List M}{m:M}(h:st.ev x=some (.m (.eI i aL off)))(j:st.H[i]?=some (.row acc ec aL cs))(k:ie X.P T cs off=some m):
  cQ X ⟨dst,.load T x,ty,pos,af,g⟩ st (dy (.m m) st):=by
 refine PN λe f A c=> ?_
 have a:=c.ev h;generalize l:e.eval x=y at a;cases a with
 |m a=>cases a with
  |eI i aL off b D n=>
   have d:f.H[i]?=some (.row acc ec aL cs):=by rw[c.hH];exact j
   have o:=n acc ec cs d;subst o;obtain⟨_,B,C,E,z,p,q,r,⟨s,_⟩,t⟩:=c.hinv.obj i _ d;obtain⟨v,u,w⟩:=pH k p (by rw[q,s];exact avk _ r) t;exact⟨v,by simp[execOp,l,Instr.loadAt,Instr.sureAddr,u],.m w⟩
theorem vn{T n:Nat}{x y:Operand}{i off:Nat}{cs PV:List M}{m:M}[s:bY X.P T n](u:st.ev x=some (.m (.ref i off)))(w:st.ev y=some (.m m))(o:st.H[i]?=some (.box cs))
  (z:(cellsOf m).length=n) (A:m.i_=true) (h:ep cs off (cellsOf m)=some PV):
  cQ X ⟨dst,.store T x y,ty,pos,af,g⟩ st (dy (.m .undef) ⟨st.sl,st.bx,st.H.set i (.box PV)⟩):=by
 intro f d B b;have e:=b.ev u;have k:=b.ev w;generalize C:f.eval x=Q at e;cases e with
 |m e=>cases e with
  |ref i off ac S=>
   cases k with
   |m k=>
    have D:d.H[i]?=some (.box cs):=by rw[b.hH];exact o
    obtain⟨E,p,q,r⟩:=b.hinv.obj i _ D;have a:=k.cells A;obtain⟨F,G,U⟩:=r.write a h;have H:(f.eval y).cells.size=n:=by rw[a.1,z]
    have I:=qG (P:=X.P) (t:=T) (off:=off) q (by rw[s.size,H]) (by rw[r.1,a.1];exact G) a.flat;have J:=gH q;obtain⟨l,K,V,Y,Z,L⟩:=b.rR (j:=i) (b':=d.l i) (ob:= .box cs) (QK:= .box PV) (w':=db d.w (d.l i) (.cells (eM E off (f.eval y).cells.toList) p (0,0))) o trivial W W W (by rw[kZ];exact auK _)
     (λc _ a=>jN a) (.inl W) (λR v N=>(N trivial).elim) W (by
      intro l O h _ _;exact⟨_,p,by rw[h];exact gI J,F.mono O⟩)
    refine dT.skip (by simp only[execOp,C,Instr.storeAt,Instr.sureAddr];simp[I];rfl) ?_;exact⟨.m .undef,_,l,B,⟨W,W⟩,K,L,.m (.undef _)⟩
theorem FL{σ:Sg}{cs e PV:List M}{b:Array Value}{f:Array Value}{off:Nat}(r:cs.length<=b.size)(h: ∀(i:Nat) (m:M) (v:Value),cs[i]?=some m->b[i]?=some v->RM σ m v/\flat v=true)
  (g:lz σ e f) (k:ep cs off e=some PV):
  (∀(i:Nat) (m:M) (v:Value),PV[i]?=some m->(eM b off f.toList)[i]?=some v->RM σ m v/\flat v=true)/\off+e.length<=cs.length/\PV.length=cs.length:=by
 have o:lz σ cs (b.extract 0 cs.length):=by
  refine⟨by simp;omega,λi m v c a=> ?_⟩;rw[awe]at a;split at a
  ·simp at a;exact h i m v c a
  ·cases a
 obtain⟨l,n,j⟩:=o.write g k;refine⟨λi m v c a=> ?_,n,j⟩;have p:i<cs.length:=by rw[<-j];rcases auM i PV.length with h|h;exact h;simp[auP h]at c
 refine l.2 i m v c ?_;have q:=g.1;rw[n_ _ _ _ _ (by simp;omega)]at a⊢;split
 ·rename_i d;rw[au2 d]at a;exact a
 ·rename_i d;rw[auU d]at a;rw[awe,au2 (by omega)];simpa using a
theorem zh{T n:Nat}{x y:Operand}{i aL off ec:Nat}{cs PV:List M}{m:M}[F:bY X.P T n](G:st.ev x=some (.m (.eI i aL off)))(H:st.ev y=some (.m m))(r:st.H[i]?=some (.row false ec aL cs))
  (I:(cellsOf m).length=n) (J:m.i_=true) (l:ep cs off (cellsOf m)=some PV):
  cQ X ⟨dst,.store T x y,ty,pos,af,g⟩ st (dy (.m .undef) ⟨st.sl,st.bx,st.H.set i (.row false ec aL PV)⟩):=by
 intro a f K e;have h:=e.ev G;have o:=e.ev H;generalize L:a.eval x=co at h;cases h with
 |m h=>cases h with
  |eI i aL off b d7 N=>
   cases o with
   |m o=>
    have s:f.H[i]?=some (.row false ec aL cs):=by rw[e.hH];exact r
    have O:=N false ec cs s;subst O;obtain⟨Q,u,w,ac,R,p,z,A,⟨B,S⟩,U⟩:=e.hinv.obj i _ s;have d:=o.cells J;have ah:cs.length<=u.size:=by rw[z,B];exact avk _ A
    obtain⟨C,k2,D⟩:=FL ah U d l;have V:(a.eval y).cells.size=n:=by rw[d.1,I]
    have Y:=qG (P:=X.P) (t:=T) (off:=off) p (by rw[F.size,V]) (by rw[d.1];omega) d.flat;have E:=gH p;obtain⟨q,Z,g2,g3,g4,g5⟩:=e.rR (j:=i) (b':=f.l i) (ob:= .row false ec aL cs) (QK:= .row false ec aL PV) (w':=db f.w (f.l i) (.cells (eM u off (a.eval y).cells.toList) w (0,0))) r trivial W W W (by rw[kZ];exact auK _)
     (λc _ d=>jN d) (.inl W) (λd6 v ho=>(ho (.inl W)).elim) ⟨rfl,.inr ⟨rfl,D,rfl,λar T' k=>by
      rw[p]at k;injection k with k;injection k with e1 e2;subst e1;subst e2
      exact⟨_,gI E,gJ _ _ _⟩⟩⟩ (by
      intro q hm l _ _;exact⟨Q,_,w,ac,R,by rw[l];exact gI E,by rw[gJ];exact z,A,⟨by rw[D];exact B,S⟩,λi m v a b=>⟨(C i m v a b).1.mono hm,(C i m v a b).2⟩⟩)
    refine dT.skip (by simp only[execOp,L,Instr.storeAt,Instr.sureAddr];simp[Y];rfl) ?_;exact⟨.m .undef,_,q,K,⟨W,W⟩,Z,g5,.m (.undef _)⟩
theorem zi{t e ec:Nat}{x y:Operand}{j aL len:Nat}{acc:Bool}{cs:List M}{k:IntKind}{i:Int}[ht:aZ X.P t e][f:bY X.P e ec](h:st.ev x=some (.m (.bH j aL len)))(l:st.ev y=some (.m (.d (.int k i))))
  (n:st.H[j]?=some (.row acc ec aL cs)) (o:0<=i) (p:i<len):
  cQ X ⟨dst,.indexAddr t x y,ty,pos,af,g⟩ st (dy (.m (.eI j aL (i.toNat*ec))) st):=by
 refine PN λd c A b=> ?_
 have a:=b.ev h;have q:=b.lA l;generalize r:d.eval x=z at a;cases a with
 |m a=>cases a with
  |bH j aL len B H w s=>
   have u:c.H[j]?=some (.row acc ec aL cs):=by rw[b.hH];exact n
   obtain⟨v,C,D,E,F,G⟩:=s acc ec cs u;subst v;refine⟨.pointer (some ⟨c.l j,i.toNat*ec,none⟩),?_,.m (.eI j aL _ _ w λ_ _ _ _=>rfl)⟩;simp[execOp,r,q,Instr.indexAt,asIntOf,underlying,program,Sem.run,ht.u,dx f.size,o,p,mC]
theorem JR{t e:Nat}{x:Operand}{j aL len:Nat}[ht:aZ X.P t e](c:st.ev x=some (.m (.bH j aL len))):
  cQ X ⟨dst,.call ⟨.builtin .len,#[x],#[t]⟩,ty,pos,af,g⟩ st (dy (.m (.d (.int .i64 len))) st):=by
 refine PN λb h k d=> ?_
 have a:=d.ev c;generalize f:b.eval x=i at a;refine⟨.int .i64 len,?_,.m (.d (.int _ _))⟩;cases a with
 |m a=>cases a with
  |bH j aL len l o p n=>
   simp[execOp,resolve,invoke,builtin,Builtin.len_,underlying,program,Sem.run,ht.u,f,goInt]
end ops
theorem zj(a:Nat)(h:256<=a): ∀r c,256<=c->c<=2*a->Builtin.growBy a r c<=2*a
 |0,c,_,b=>b
 |r+1,c,d,b=>by
  unfold Builtin.growBy;split
  ·exact b
  ·exact zj a h r _ (by omega) (by omega)
theorem tA{Tu cap:Nat}(h:cap<Tu):Builtin.nextslicecap Tu cap<=2*Tu:=by
 unfold Builtin.nextslicecap;split
 ·omega
 ·split
  ·omega
  ·exact zj Tu (by omega) 4 cap (by omega) (by omega)
theorem jo(h:Array Obj)(x:Obj):(h.push x)[h.size]?=some x:=by simp
theorem wg{b:Type}{l:List b}{j:Nat}{x y:b}(h:l[j]?=some x):(l.set j y)[j]?=some y:=by
 have:j<l.length:=by rcases auM j l.length with a|a;exact a;simp[auP a]at h
 simp[this]
theorem lW(z:Array Value)(n:Nat):(Builtin.zeroCells z n).size=n*z.size:=by simp[Builtin.zeroCells]
theorem gv.firstCells{P:Program}{O:Nat->Nat->Prop}{w:World}{rows:List (List D)}{v:Value}{n:Nat}(g:0<n)(h:gv O w (.sl rows) v)(t: ∀r∈rows,r.length=n):
  ∃e:Array Value,(∀w':World,(Builtin.lenOf v).run P w'= .ok rows.length w')/\(∀w':World,w'.heap=w.heap->(Builtin.firstCells n rows.length v).run P w'= .ok e w')/\e.size=rows.length*n/\
   ∀(i j:Nat) r d,rows[i]?=some r->r[j]?=some d-> ∃u,e[i*n+j]?=some u/\gv O w d u/\flat u=true:=by
 cases h with
 |slnil m=>
  cases m with
  |none=>exact⟨#[],λ_=>by simp[Builtin.lenOf],λ_ _=>by simp[Builtin.firstCells],by simp,by simp⟩
  |some m=>exact⟨#[],λ_=>by simp[Builtin.lenOf],λ_ _=>by simp[Builtin.firstCells,loadCells,loadCellsFrom],by simp,by simp⟩
 |sl rows b K Q a val x L M o y z A=>
  have J:a=n:=by
   cases rows with
   |nil=>exact absurd W x
   |cons r N=>rw[<-o r (by simp)];exact t r (by simp)
  subst J
  let e:Array Value:=((List.range (rows.length*a)).map λc=>val (c/a) (c%a)).toArray
  have p:e.size=rows.length*a:=by simp[e]
  have B: ∀c,c<rows.length*a->c/a<rows.length/\c%a<a/\c/a*a+c%a=c:=by
   intro c f;refine⟨(Nat.div_lt_iff_lt_mul g).2 f,awu _ g,?_⟩;have:=Nat.div_add_mod c a;rw[axC]at this;exact this
  refine⟨e,λ_=>by simp[Builtin.lenOf],?_,p,?_⟩
  ·intro w' C;simp only[Builtin.firstCells,loadCells];refine kM _ 0 _ (by omega) (by simp) ?_;intro c f;rw[p]at f;obtain⟨E,F,G⟩:=B c f;have:e.getD c undef=val (c/a) (c%a):=by simp[e,f]
   rw[this];have:=(y _ _ E F).1;rw[G]at this;rw[nZ (w:=w) (by rw[C])];exact this
  ·intro i j r d k q;have s:i<rows.length:=by rcases auM i rows.length with h|h;exact h;simp[auP h]at k
   have l:j<a:=by
    rw[<-o r (auQ k)];rcases auM j r.length with h|h;exact h;simp[auP h]at q
   have f:i*a+j<rows.length*a:=by
    calc i*a+j<i*a+a:=by omega
     _=(i+1)*a:=by rw[awo]
     _<=rows.length*a:=avk _ s
   refine⟨val i j,?_,A i j r d k q,z i j s l⟩;have H:(i*a+j)/a=i:=by rw[axC,Nat.mul_add_div g,Nat.div_eq_of_lt l];omega
   have I:(i*a+j)%a=j:=by rw[axC,Nat.mul_add_mod,axj l]
   simp[e,f,H,I]
def bf(rows:List (List D)):List M:=(rows.map λr=>r.map M.d).flatten
theorem uV{n:Nat} : ∀{rows:List (List D)},(∀r∈rows,r.length=n)->(bf rows).length=rows.length*n
 | [],_=>by simp[bf]
 |r::b,a=>by
  have:=uV (n:=n) (rows:=b) (λr c=>a r (by simp[c]));unfold bf at*;simp only[avm,List.flatten_cons,auN,au8,this,a r (by simp),au4,awo];omega
theorem zl{n:Nat}(g:0<n): ∀{rows:List (List D)} {k:Nat} {m:M},(∀r∈rows,r.length=n)->(bf rows)[k]?=some m-> ∃i j r d,k=i*n+j/\rows[i]?=some r/\r[j]?=some d/\m= .d d
 | [],k,m,_,c=>by simp[bf]at c
 |r::h,k,m,f,c=>by
  have b:r.length=n:=f r (by simp);have a:((r.map M.d)++bf h)[k]?=some m:=by simpa [bf] using c
  rcases auM k n with e|e
  ·rw[auL (by simp[b,e])]at a;simp only[au6,avv]at a;obtain⟨d,l,rfl⟩:=a;exact⟨0,k,r,d,by simp,by simp,l,rfl⟩
  ·rw[auR (by simp[b,e])]at a;simp only[au8,b]at a;obtain⟨i,j,o,d,t,p,q,s⟩:=zl g (λr b=>f r (by simp[b])) a;exact⟨i+1,j,o,d,by rw[awo];omega,by simpa using p,q,s⟩
class ku(P:Program)(t:Nat)(n:outParam Nat):Prop where
 bytes:vW P t=some n
theorem rS{P:Program}{t n b:Nat}(h:gm P t=some n)(a:vW P t=some b): ∃i:TypeInfo,P.info? t=some i/\i.size=n/\i.bytes=b:=by
 unfold gm at h;unfold vW at a;cases c:P.info? t with
 |none=>simp[c]at h
 |some i=>simp[c]at h a;exact⟨i,W,h,a⟩
section ops
variable{X:bJ}{st:St}{dst:Option Nat}{ty:Nat}{pos:String}{af:Array Edge}{g:Option (Nat×Bool)}
theorem wj{P:Program}{w:World}{b k T:Nat}{a:Array Value}{d:Nat×Nat}(h:w.heap[b]?=some (.cells a T d))(j:k<=a.size):(loadCells ⟨b,0,none⟩ k).run P w= .ok (a.extract 0 k) w:=by
 unfold loadCells;have e:(a.extract 0 k).size=k:=by simp;omega
 refine kM k 0 _ (by omega) (by simp) ?_;intro c f;rw[e]at f;have g:c<a.size:=by omega
 have i:c<min k a.size:=by omega
 simp[dI,World.cell?,h,g,i]
end ops
section aiS
variable{X:bJ}{sl:List (Nat×V)}{bx:List (Nat×List M)}{H:Hp}
end aiS
theorem LR(a b:ByteArray):(a==b)=decide (a=b):=by
 cases a with
 |mk a=>
 cases b with
 |mk b=>
 have:((ByteArray.mk a)==(ByteArray.mk b))=(a==b):=rfl;rw[this];by_cases c:a=b
 ·subst c;simp
 ·simp[c]
section ops
variable{X:bJ}{st:St}{dst:Option Nat}{ty:Nat}{pos:String}{af:Array Edge}{g:Option (Nat×Bool)}
class mh(P:Program)(t:Nat)(k:outParam IntKind):Prop where
 u:P.underlying t=some (.int k)
theorem xc{s t:Nat}{x:Operand}{k k' a:IntKind}{n:Int}[b:mh X.P s a][ht:mh X.P t k'](c:st.ev x=some (.m (.d (.int k n)))):
  cQ X ⟨dst,.convert s t x,ty,pos,af,g⟩ st (dy (.m (.d (.int k' (k'.wrap n)))) st):=by
 refine PN λe f h d=> ?_
 exact⟨.int k' (k'.wrap n),by simp[execOp,convert,underlying,program,Sem.run,b.u,ht.u,d.lA c,Conv.intToInt],.m (.d (.int _ _))⟩
end ops
section mk
variable{X:bJ}{st:St}{dst:Option Nat}{ty:Nat}{pos:String}{af:Array Edge}{g:Option (Nat×Bool)}
end mk
section rules
variable{X:bJ}{ops:Array Oper}{rest:List Oper}{post:St->Prop}{P3:List Ef->St->Prop}{sl:List (Nat×V)}{bx:List (Nat×List M)}{H:Hp}{d ty:Nat}{pos:String}{af:Array Edge}
theorem Rw{o:Oper}{v:V}{H':Hp}{st:St}(b:o.guard=none)(c:o.dst=some d)(e:d<X.n)
  (h: ∀a,Ag ops o ⟨some d,v,[],[],none,true,some H'⟩ st a->cQ X o a (dy v ⟨a.sl,a.bx,H'⟩)):mg X ops o ⟨some d,v,[],[],none,true,some H'⟩ st:=
 λa f=>(h a f).Im b c e
theorem mg.Hk{o:Oper}{v:V}{H':Hp}{st:St}(b:o.guard=none)(c:o.dst=none)
  (h: ∀a,Ag ops o ⟨none,v,[],[],none,true,some H'⟩ st a->cQ X o a (dy v ⟨a.sl,a.bx,H'⟩)):mg X ops o ⟨none,v,[],[],none,true,some H'⟩ st:=
 λa d=>(h a d).JP b c
theorem aA{T:Nat}{x:Operand}{i off:Nat}{cs:List M}{m:M}[ht:cB X.P T](a:Nat.blt d X.n=true)(b:bw sl x=some (.m (.ref i off)))(c:H[i]?=some (.box cs))(e:cs[off]?=some m)(k:TL X ops rest ⟨(d,(.m m))::sl,bx,H⟩ post):TL X ops (⟨some d,.load T x,ty,pos,af,none⟩::rest) ⟨sl,bx,H⟩ post:=
 Qi W W a (mE b c (by simp[ie,ht.cell,e])) k
theorem ay{T:Nat}{x:Operand}{i off:Nat}{cs:List M}{m:M}[ht:cB X.P T](b:Nat.blt d X.n=true)(c:bw sl x=some (.m (.ref i off)))(f:H[i]?=some (.box cs))(g:cs[off]?=some m)(k:TF X ops rest ⟨(d,(.m m))::sl,bx,H⟩ λh j=>P3 (⟨some d,(.m m),[],[],none,true,none⟩::h) j):TF X ops (⟨some d,.load T x,ty,pos,af,none⟩::rest) ⟨sl,bx,H⟩ P3:=
 TF.cons (e:=⟨some d,(.m m),[],[],none,true,none⟩) (P1 W W (bO b) λl a=>mE ((a.ev (x:=x) (by simp[Op.operands,Call.operands])).trans c) (by rw[a.H W];exact f) (by simp[ie,ht.cell,g])) W k
theorem k_{T n:Nat}{x:Operand}{i off:Nat}{cs a:List M}{ds:List D}[ht:jM X.P T n](c:Nat.blt d X.n=true)(e:bw sl x=some (.m (.ref i off)))(f:H[i]?=some (.box cs))(b:sub cs off n=some a)(g:kK a=some ds)(k:TL X ops rest ⟨(d,(.m (.d (.agg ds))))::sl,bx,H⟩ post):TL X ops (⟨some d,.load T x,ty,pos,af,none⟩::rest) ⟨sl,bx,H⟩ post:=
 Qi W W c (mE e f (by simp[ie,ht.agg,ht.size,avJ (sub_eq b).1,pack,(sub_eq b).2,g])) k
theorem eQ{T n:Nat}{x:Operand}{i off:Nat}{cs a:List M}{ds:List D}[ht:jM X.P T n](f:Nat.blt d X.n=true)(g:bw sl x=some (.m (.ref i off)))(h:H[i]?=some (.box cs))(b:sub cs off n=some a)(j:kK a=some ds)(k:TF X ops rest ⟨(d,(.m (.d (.agg ds))))::sl,bx,H⟩ λl m=>P3 (⟨some d,(.m (.d (.agg ds))),[],[],none,true,none⟩::l) m):TF X ops (⟨some d,.load T x,ty,pos,af,none⟩::rest) ⟨sl,bx,H⟩ P3:=
 TF.cons (e:=⟨some d,(.m (.d (.agg ds))),[],[],none,true,none⟩) (P1 W W (bO f) λo c=>mE ((c.ev (x:=x) (by simp[Op.operands,Call.operands])).trans g) (by rw[c.H W];exact h) (by simp[ie,ht.agg,ht.size,avJ (sub_eq b).1,pack,(sub_eq b).2,j])) W k
theorem ny{T:Nat}{x:Operand}{i aL off ec:Nat}{acc:Bool}{cs:List M}{m:M}[ht:cB X.P T](a:Nat.blt d X.n=true)(b:bw sl x=some (.m (.eI i aL off)))(c:H[i]?=some (.row acc ec aL cs))(e:cs[off]?=some m)(k:TL X ops rest ⟨(d,(.m m))::sl,bx,H⟩ post):TL X ops (⟨some d,.load T x,ty,pos,af,none⟩::rest) ⟨sl,bx,H⟩ post:=
 Qi W W a (Bv b c (by simp[ie,ht.cell,e])) k
theorem j_{T:Nat}{x:Operand}{i aL off ec:Nat}{acc:Bool}{cs:List M}{m:M}[ht:cB X.P T](b:Nat.blt d X.n=true)(c:bw sl x=some (.m (.eI i aL off)))(f:H[i]?=some (.row acc ec aL cs))(g:cs[off]?=some m)(k:TF X ops rest ⟨(d,(.m m))::sl,bx,H⟩ λh j=>P3 (⟨some d,(.m m),[],[],none,true,none⟩::h) j):TF X ops (⟨some d,.load T x,ty,pos,af,none⟩::rest) ⟨sl,bx,H⟩ P3:=
 TF.cons (e:=⟨some d,(.m m),[],[],none,true,none⟩) (P1 W W (bO b) λl a=>Bv ((a.ev (x:=x) (by simp[Op.operands,Call.operands])).trans c) (by rw[a.H W];exact f) (by simp[ie,ht.cell,g])) W k
theorem Bw{t e ec:Nat}{x y:Operand}{j aL len:Nat}{acc:Bool}{cs:List M}{a:IntKind}{i:Int}[ht:aZ X.P t e][m:bY X.P e ec](b:Nat.blt d X.n=true)(c:bw sl x=some (.m (.bH j aL len)))(f:bw sl y=some (.m (.d (.int a i))))(g:H[j]?=some (.row acc ec aL cs))(h:0<=i)(l:i<len)(k:TL X ops rest ⟨(d,(.m (.eI j aL (i.toNat*ec))))::sl,bx,H⟩ post):TL X ops (⟨some d,.indexAddr t x y,ty,pos,af,none⟩::rest) ⟨sl,bx,H⟩ post:=
 Qi W W b (zi c f g h l) k
theorem c_{t e ec:Nat}{x y:Operand}{j aL len:Nat}{acc:Bool}{cs:List M}{b:IntKind}{i:Int}[ht:aZ X.P t e][p:bY X.P e ec](c:Nat.blt d X.n=true)(f:bw sl x=some (.m (.bH j aL len)))(g:bw sl y=some (.m (.d (.int b i))))(h:H[j]?=some (.row acc ec aL cs))(l:0<=i)(m:i<len)(k:TF X ops rest ⟨(d,(.m (.eI j aL (i.toNat*ec))))::sl,bx,H⟩ λn o=>P3 (⟨some d,(.m (.eI j aL (i.toNat*ec))),[],[],none,true,none⟩::n) o):TF X ops (⟨some d,.indexAddr t x y,ty,pos,af,none⟩::rest) ⟨sl,bx,H⟩ P3:=
 TF.cons (e:=⟨some d,(.m (.eI j aL (i.toNat*ec))),[],[],none,true,none⟩) (P1 W W (bO c) λq a=>zi ((a.ev (x:=x) (by simp[Op.operands,Call.operands])).trans f) ((a.ev (x:=y) (by simp[Op.operands,Call.operands])).trans g) (by rw[a.H W];exact h) l m) W k
theorem Hl{t e:Nat}{x:Operand}{j aL len:Nat}[ht:aZ X.P t e](a:Nat.blt d X.n=true)(b:bw sl x=some (.m (.bH j aL len)))(k:TL X ops rest ⟨(d,(.m (.d (.int .i64 len))))::sl,bx,H⟩ post):TL X ops (⟨some d,.call ⟨.builtin .len,#[x],#[t]⟩,ty,pos,af,none⟩::rest) ⟨sl,bx,H⟩ post:=
 Qi W W a (JR b) k
theorem zm{s t:Nat}{x:Operand}{b a c:IntKind}{n:Int}[g:mh X.P s c][ht:mh X.P t a](e:Nat.blt d X.n=true)(f:bw sl x=some (.m (.d (.int b n))))(k:TL X ops rest ⟨(d,(.m (.d (.int a (a.wrap n)))))::sl,bx,H⟩ post):TL X ops (⟨some d,.convert s t x,ty,pos,af,none⟩::rest) ⟨sl,bx,H⟩ post:=
 Qi W W e (xc f) k
theorem rc{s t:Nat}{x:Operand}{b a c:IntKind}{n:Int}[l:mh X.P s c][ht:mh X.P t a](f:Nat.blt d X.n=true)(g:bw sl x=some (.m (.d (.int b n))))(k:TF X ops rest ⟨(d,(.m (.d (.int a (a.wrap n)))))::sl,bx,H⟩ λh i=>P3 (⟨some d,(.m (.d (.int a (a.wrap n)))),[],[],none,true,none⟩::h) i):TF X ops (⟨some d,.convert s t x,ty,pos,af,none⟩::rest) ⟨sl,bx,H⟩ P3:=
 TF.cons (e:=⟨some d,(.m (.d (.int a (a.wrap n)))),[],[],none,true,none⟩) (P1 W W (bO f) λm j=>xc ((j.ev (x:=x) (by simp[Op.operands,Call.operands])).trans g)) W k
theorem cH{T:Nat}{x:Operand}{m:M}{cs:List M}(b:Nat.blt d X.n=true)(c:bw sl x=some (.m m))(a:iW m=some cs)(k:TL X ops rest ⟨(d,(.m (.ref H.length 0)))::sl,bx,H++ [Ob.box cs]⟩ post):TL X ops (⟨some d,.box T x,ty,pos,af,none⟩::rest) ⟨sl,bx,H⟩ post:=
 Qi W W b ((by rw[<-(c7 a).1];exact DU c (c7 a).2)) k
theorem CK{T:Nat}{x:Operand}{m:M}{cs:List M}(f:Nat.blt d X.n=true)(h:bw sl x=some (.m m))(a:iW m=some cs)(k:TF X ops rest ⟨(d,(.m (.ref H.length 0)))::sl,bx,H++ [Ob.box cs]⟩ λi j=>P3 (⟨some d,(.m (.ref H.length 0)),[],[],none,true,some (H++ [Ob.box cs])⟩::i) j):TF X ops (⟨some d,.box T x,ty,pos,af,none⟩::rest) ⟨sl,bx,H⟩ P3:=
 TF.cons (e:=⟨some d,(.m (.ref H.length 0)),[],[],none,true,some (H++ [Ob.box cs])⟩) (Rw W W (bO f) λl b=>(by have c:=b.H W;simp only at c;have:=(DU (X:=X) (st:=l) (dst:=some d) (ty:=ty) (pos:=pos) (af:=af) (g:=none) (T:=T) ((b.ev (x:=x) (by simp[Op.operands,Call.operands])).trans h) (c7 a).2);rw[c]at this;rw[(c7 a).1]at this;exact this)) W k
theorem rT{T:Nat}(a:Nat.blt d X.n=true)(k:TL X ops rest ⟨(d,(.m (.mp H.length)))::sl,bx,H++ [Ob.map []]⟩ post):TL X ops (⟨some d,.makeMap T none,ty,pos,af,none⟩::rest) ⟨sl,bx,H⟩ post:=
 Qi W W a (DV) k
theorem cc{T n:Nat}{x y:Operand}{i off:Nat}{cs b c:List M}{m:M}[j:bY X.P T n](d:bw sl x=some (.m (.ref i off)))(e:bw sl y=some (.m m))(f:H[i]?=some (.box cs))(a:iW m=some b)(g:Nat.beq b.length n=true)(h:wr cs off b=some c)(k:TL X ops rest ⟨sl,bx,H.set i (Ob.box c)⟩ post):TL X ops (⟨none,.store T x y,ty,pos,af,none⟩::rest) ⟨sl,bx,H⟩ post:=
 TL.Hf W W (vn d e f (by rw[(c7 a).1];exact auZ g) (c7 a).2 (by rw[(c7 a).1];exact tt h)) k
theorem fE{T n:Nat}{x y:Operand}{i off:Nat}{cs d a:List M}{m:M}[t:bY X.P T n](h:bw sl x=some (.m (.ref i off)))(j:bw sl y=some (.m m))(l:H[i]?=some (.box cs))(c:iW m=some d)(o:Nat.beq d.length n=true)(p:wr cs off d=some a)(k:TF X ops rest ⟨sl,bx,H.set i (Ob.box a)⟩ λq r=>P3 (⟨none,.m .undef,[],[],none,true,some (H.set i (Ob.box a))⟩::q) r):TF X ops (⟨none,.store T x y,ty,pos,af,none⟩::rest) ⟨sl,bx,H⟩ P3:=
 TF.cons (e:=⟨none,.m .undef,[],[],none,true,some (H.set i (Ob.box a))⟩) (mg.Hk W W λs b=>(by have f:=b.H W;simp only at f;have:=(vn (X:=X) (st:=s) (dst:=none) (ty:=ty) (pos:=pos) (af:=af) (g:=none) (T:=T) ((b.ev (x:=x) (by simp[Op.operands,Call.operands])).trans h) ((b.ev (x:=y) (by simp[Op.operands,Call.operands])).trans j) (by rw[b.H W];exact l) (by rw[(c7 c).1];exact auZ o) (c7 c).2 (by rw[(c7 c).1];exact tt p));rw[f]at this;exact this)) W k
theorem Io{T n:Nat}{x y:Operand}{i aL off ec:Nat}{cs b c:List M}{m:M}[j:bY X.P T n](d:bw sl x=some (.m (.eI i aL off)))(e:bw sl y=some (.m m))(f:H[i]?=some (.row false ec aL cs))(a:iW m=some b)(g:Nat.beq b.length n=true)(h:ep cs off b=some c)(k:TL X ops rest ⟨sl,bx,H.set i (Ob.row false ec aL c)⟩ post):TL X ops (⟨none,.store T x y,ty,pos,af,none⟩::rest) ⟨sl,bx,H⟩ post:=
 TL.Hf W W (zh d e f (by rw[(c7 a).1];exact auZ g) (c7 a).2 (by rw[(c7 a).1];exact h)) k
theorem fY{T n:Nat}{x y:Operand}{i aL off ec:Nat}{cs d a:List M}{m:M}[t:bY X.P T n](h:bw sl x=some (.m (.eI i aL off)))(j:bw sl y=some (.m m))(l:H[i]?=some (.row false ec aL cs))(c:iW m=some d)(o:Nat.beq d.length n=true)(p:ep cs off d=some a)(k:TF X ops rest ⟨sl,bx,H.set i (Ob.row false ec aL a)⟩ λq r=>P3 (⟨none,.m .undef,[],[],none,true,some (H.set i (Ob.row false ec aL a))⟩::q) r):TF X ops (⟨none,.store T x y,ty,pos,af,none⟩::rest) ⟨sl,bx,H⟩ P3:=
 TF.cons (e:=⟨none,.m .undef,[],[],none,true,some (H.set i (Ob.row false ec aL a))⟩) (mg.Hk W W λs b=>(by have f:=b.H W;simp only at f;have:=(zh (X:=X) (st:=s) (dst:=none) (ty:=ty) (pos:=pos) (af:=af) (g:=none) (T:=T) ((b.ev (x:=x) (by simp[Op.operands,Call.operands])).trans h) ((b.ev (x:=y) (by simp[Op.operands,Call.operands])).trans j) (by rw[b.H W];exact l) (by rw[(c7 c).1];exact auZ o) (c7 c).2 (by rw[(c7 c).1];exact p));rw[f]at this;exact this)) W k
theorem bg{f:Nat}{args:List Operand}{Sr:Array Nat}{ms:List M}{r:M}{H':Hp}[hf:bz X.P f](h:CT X.P f ms H λj l=>j=r/\l=H')(A:Nat.blt d X.n=true)(B:gD sl args=some ms)
  (k:TF X ops rest ⟨(d,.m r)::sl,bx,H'⟩ λC D=>P3 (⟨some d,.m r,[],[],none,true,some H'⟩::C) D):TF X ops (⟨some d,.call ⟨.value (.func f),args.toArray,Sr⟩,ty,pos,af,none⟩::rest) ⟨sl,bx,H⟩ P3:=by
 refine TF.cons (e:=⟨some d,.m r,[],[],none,true,some H'⟩) (Rw W W (bO A) λc u=> ?_) W k;have w:=u.H W;simp only at w;have i:=w_ (X:=X) (st:=c) (dst:=some d) (ty:=ty) (pos:=pos) (af:=af) (g:=none) (Sr:=Sr) (args:=args) (f:=f) (ms:=ms) (post:= λj l=>j=r/\l=H') (by rw[u.gD (λK E=>by simp[Op.operands,Call.operands];exact .inr E),oA];exact B) (by rw[w];exact h);intro q s F G;have a:=i q s F G;have x: ∀v b,(∃m n,v=V.m m/\(m=r/\n=H')/\b=(⟨c.sl,c.bx,n⟩:St))->dy (.m r) ⟨c.sl,c.bx,H'⟩ v b:=by rintro v b ⟨m,n,rfl,⟨rfl,rfl⟩,rfl⟩;exact⟨W,W⟩
 unfold dT at a⊢;generalize (execOp q.eval _).run X.P s.w=y at*;cases y with
 |ok t I=>
  cases t<;>simp only at a⊢ <;>first
   |(obtain⟨v,b,o,p,i,a⟩:=a;exact⟨v,b,o,p,x _ _ i,a⟩)
   |exact a.mono λe L ⟨z,J,v,b,o,p,i,a⟩=>⟨z,J,v,b,o,p,x _ _ i,a⟩
   |exact a
 |halt t I=>exact a
theorem la{f:Nat}{args:List Operand}{Sr:Array Nat}{ms:List M}{r:M}[hf:bz X.P f](h:CT X.P f ms H λj l=>j=r/\l=H)(A:Nat.blt d X.n=true)(B:gD sl args=some ms)
  (k:TF X ops rest ⟨(d,.m r)::sl,bx,H⟩ λC D=>P3 (⟨some d,.m r,[],[],none,true,none⟩::C) D):TF X ops (⟨some d,.call ⟨.value (.func f),args.toArray,Sr⟩,ty,pos,af,none⟩::rest) ⟨sl,bx,H⟩ P3:=by
 refine TF.cons (e:=⟨some d,.m r,[],[],none,true,none⟩) (P1 W W (bO A) λi w=> ?_) W k;have m:=w.H W;simp only at m;have c:=w_ (X:=X) (st:=i) (dst:=some d) (ty:=ty) (pos:=pos) (af:=af) (g:=none) (Sr:=Sr) (args:=args) (f:=f) (ms:=ms) (post:= λj l=>j=r/\l=H) (by rw[w.gD (λK E=>by simp[Op.operands,Call.operands];exact .inr E),oA];exact B) (by rw[m];exact h);intro s t F G;have a:=c s t F G;have x: ∀v b,(∃n o,v=V.m n/\(n=r/\o=H)/\b=(⟨i.sl,i.bx,o⟩:St))->dy (.m r) i v b:=by rintro v b ⟨n,o,rfl,⟨rfl,rfl⟩,rfl⟩;exact⟨W,by rw[<-m]⟩
 unfold dT at a⊢;generalize (execOp s.eval _).run X.P t.w=y at*;cases y with
 |ok u I=>
  cases u<;>simp only at a⊢ <;>first
   |(obtain⟨v,b,p,q,c,a⟩:=a;exact⟨v,b,p,q,x _ _ c,a⟩)
   |exact a.mono λe L ⟨z,J,v,b,p,q,c,a⟩=>⟨z,J,v,b,p,q,x _ _ c,a⟩
   |exact a
 |halt u I=>exact a
end rules
def rU:List (List D)->Option (List Int)
 | []=>some []
 | [.int .u8 n]::r=>match rU r with
  |some ns=>some (n::ns)
  |none=>none
 |_=>none
theorem zn: ∀{rows:List (List D)} {b:List Int},rU rows=some b->rows=b.map λn=>[.int .u8 n]
 | [],b,a=>by simp[rU]at a;subst a;rfl
 |g::h,b,a=>by
  unfold rU at a;split at a
  ·rename_i e;cases e
  ·rename_i n i e;injection e with c d;subst c;subst d
   split at a
   ·rename_i j f;injection a with a;subst a
    simp[zn f]
   ·cases a
  ·cases a
section ops
variable{X:bJ}{st:St}{dst:Option Nat}{ty:Nat}{pos:String}{af:Array Edge}{g:Option (Nat×Bool)}
theorem Hm{s t e:Nat}{x:Operand}{rows:List (List D)}{a:List Int}[l:aZ X.P s e][m:mh X.P e .u8][ht:CB X.P t](u:st.ev x=some (.m (.d (.sl rows))))(v:rU rows=some a):
  cQ X ⟨dst,.convert s t x,ty,pos,af,g⟩ st (dy (.m (.d (.str (strOfNums a)))) st):=by
 have:=zn v;subst this;refine PN λq d H h=> ?_
 have k:=h.qc u;generalize n:q.eval x=F at k;refine⟨.string (strOfNums a),?_,.m (.d (.str _))⟩;generalize o:(a.map λf=>[D.int .u8 f])=rows at k;cases k with
 |slnil i=>
  have:a= []:=by simpa using o
  subst this;cases i with
  |none=>
   have:=run_convert_bytes_nil (P:=X.P) d.w s e l.u m.u 0 0 t ht.u;simp[execOp,n,this,strOfNums];rfl
  |some i=>
   have j:(loadCells i 0).run X.P d.w= .ok #[] d.w:=by simp[loadCells,loadCellsFrom]
   simp only[execOp,n,Sem.run_bind];rw[run_convert_bytes_string d.w s t e (some i) 0 0 l.u m.u ht.u,run_bytesToString d.w i 0 0 [] (by simpa using j)];simp[strOfNums,ByteArray.empty,ByteArray.emptyWithCapacity];rfl
 |sl rows b r C w val y I J z A K B=>
  subst o;have L:(a.map λf=>[D.int .u8 f]).length=a.length:=by simp
  have E:w=1:=by
   cases a with
   |nil=>simp at y
   |cons f a=>rw[<-z [.int .u8 f] (by simp)];rfl
  subst E;have:=run_convert_bytes_arg (P:=X.P) d.w s e l.u m.u b r a.length C a W (by
   intro c h;have j:=(A c 0 (by simpa using h) (by omega)).1;have p:=B c 0 [.int .u8 a[c]] (.int .u8 a[c]) (by simp[h]) W;have:val c 0= .int .u8 a[c]:=by generalize val c 0=G at p;cases p;rfl
   rw[this]at j;simp at j;simpa [h] using j) t ht.u
  simp[execOp,n,this]
end ops
section rules
variable{X:bJ}{ops:Array Oper}{rest:List Oper}{post:St->Prop}{P3:List Ef->St->Prop}{sl:List (Nat×V)}{bx:List (Nat×List M)}{H:Hp}{d ty:Nat}{pos:String}{af:Array Edge}
theorem Nx{s t e:Nat}{x:Operand}{rows:List (List D)}{a:List Int}[g:aZ X.P s e][h:mh X.P e .u8][ht:CB X.P t](b:Nat.blt d X.n=true)(c:bw sl x=some (.m (.d (.sl rows))))(f:rU rows=some a)
  (k:TL X ops rest ⟨(d,.m (.d (.str (strOfNums a))))::sl,bx,H⟩ post):TL X ops (⟨some d,.convert s t x,ty,pos,af,none⟩::rest) ⟨sl,bx,H⟩ post:=
 Qi W W b (Hm c f) k
theorem Ny{s t e:Nat}{x:Operand}{rows:List (List D)}{a:List Int}[j:aZ X.P s e][l:mh X.P e .u8][ht:CB X.P t](b:Nat.blt d X.n=true)(c:bw sl x=some (.m (.d (.sl rows))))(f:rU rows=some a)
  (k:TF X ops rest ⟨(d,.m (.d (.str (strOfNums a))))::sl,bx,H⟩ λg h=>P3 (⟨some d,.m (.d (.str (strOfNums a))),[],[],none,false,none⟩::g) h):TF X ops (⟨some d,.convert s t x,ty,pos,af,none⟩::rest) ⟨sl,bx,H⟩ P3:=
 TF.cons (e:=⟨some d,.m (.d (.str (strOfNums a))),[],[],none,false,none⟩) (P1 W W (bO b) λm i=>Hm ((i.ev (x:=x) (by simp[Op.operands])).trans c) f) W k
theorem Nz{x:Operand}{b:Nat}{a:IntKind}{n:Int}(c:Nat.blt d X.n=true)(e:bw sl x=some (.m (.d (.int a n))))(k:TL X ops rest ⟨(d,.m (.d (.int a (a.wrap (-n)))))::sl,bx,H⟩ post):
  TL X ops (⟨some d,.unOp .neg b x,ty,pos,af,none⟩::rest) ⟨sl,bx,H⟩ post:=
 Qi W W c (LN e) k
def jy(H:Hp):M->Option D
 | .d x=>some x
 | .bH i aL len=>match H[i]? with
  |some (.row true ec v cs)=>bif (Nat.beq v aL&&Nat.blt 0 len)then(match chunk ec len cs with
   |some rows=>some (.sl rows)
   |none=>none)else none
  |_=>none
 |_=>none
theorem RM.view{σ:Sg}{P:Nat->Nat->Prop}(hi:ln σ P){m:M}{d:D}{v:Value}(h:RM σ m v)(f:jy σ.H m=some d):RM σ (.d d) v:=by
 cases h with
 |d h=>simp[jy]at f;subst f;exact .d h
 |bH b Q L ad ac d7 R=>
  simp only[jy]at f;split at f
  ·rename_i c v j p;cases q:(Nat.beq v Q&&Nat.blt 0 L)with
   |false=>simp[q]at f
   |true=>
    simp only[q,avx]at f;simp only[avf]at q;have S:=auZ q.1;subst S;have h0:=bO q.2;split at f
    ·rename_i g T;injection f with f;subst f
     obtain⟨U,t,k,d6,B,C⟩:=R true c j p;subst U;obtain⟨E,d8,T1,F,V,u,X,Y,⟨Z,Qq⟩,G⟩:=hi.obj b _ p;rw[B]at u;injection u with u;injection u with e5 e6;subst e5;subst e6
     have R9:F=ac:=av0 E (by rw[<-X,<-C]);subst R9;have Sk:V=L:=av0 E (by rw[<-Z,<-t]);subst Sk;obtain⟨z,H,I⟩:=qg T t;have PS:g≠ []:=by rintro rfl;simp at z;omega
     have ah: ∀s,s<j.length-> ¬σ.O (σ.l b) s:=by
      intro s ho hO;rcases(hi.own _ _).1 hO with l|⟨N,ob,l,h9,n⟩
      ·exact hi.sep b _ p trivial s l
      ·have:=hi.inj N b ob _ l p (Ob.j7 n) trivial h9;subst this;rw[p]at l;injection l with l;subst l
       simp only[Ob.kE]at n;rcases n with n|n
       ·cases n
       ·omega
     have A: ∀b a,b<g.length->a<c->b*c+a<j.length:=by
      intro b a hi i;rw[t,<-z]
      calc b*c+a<b*c+c:=by omega
       _=(b+1)*c:=by rw[awo]
       _<=g.length*c:=avk _ hi
     have Qt:j.length<=k.size:=by rw[t,C];exact avk _ Y
     have co: ∀b a,b<g.length->a<c-> ∃o d,g[b]?=some o/\o[a]?=some d/\j[b*c+a]?=some (.d d):=by
      intro b a hi i;have x:g[b].length=c:=H _ (avb hi);have J:g[b]?=some g[b]:=by simp[hi]
      have K:g[b][a]?=some ((g[b])[a]'(by rw[x];exact i)):=by simp[x,i]
      exact⟨g[b],_,J,K,I b a _ _ J K⟩
     have:=gv.sl (O:=σ.O) (w:=σ.w) g (σ.l b) 0 F c (λb a=>k.getD (b*c+a) Go.undef) PS (by omega) (by omega) H ?_ ?_ ?_
     ·rw[z]at this;exact .d this
     ·intro e a r i;rw[awc];refine⟨?_,ah _ (A e a r i)⟩;have:=A e a r i;simp[dI,World.cell?,B,show e*c+a<k.size by omega]
     ·intro e a r i;obtain⟨o,d,_,_,y⟩:=co e a r i;have PP:=A e a r i;exact(G _ _ (k.getD (e*c+a) Go.undef) y (by simp[show e*c+a<k.size by omega])).2
     ·intro e a o d x hd;have y:=I e a o d x hd;have PP:e*c+a<j.length:=by rcases auM (e*c+a) j.length with h|h;exact h;simp[auP h]at y
      have:=(G _ _ (k.getD (e*c+a) Go.undef) y (by simp[show e*c+a<k.size by omega])).1;cases this with
      |d h=>exact h
    ·cases f
  ·cases f
 |_=>simp[jy]at f
def iJ(H:Hp):List M->Option (List M)
 | []=>some []
 |m::r=>match jy H m,iJ H r with
  |some d,some ms=>some (.d d::ms)
  |_,_=>none
theorem lz.view{σ:Sg}{r:Nat->Nat->Prop}(hi:ln σ r){cs PV:List M}{n:Array Value}(h:lz σ cs n)(s:iJ σ.H cs=some PV):lz σ PV n:=by
 have w: ∀(cs PV:List M),iJ σ.H cs=some PV->PV.length=cs.length/\ ∀(a:Nat) f,PV[a]?=some f-> ∃m d,cs[a]?=some m/\jy σ.H m=some d/\f= .d d:=by
  intro cs
  induction cs with
  |nil=>intro PV h;simp[iJ]at h;subst h;simp
  |cons m x t=>
   intro PV h;simp only[iJ]at h;split at h
   ·rename_i d u j k;injection h with h;subst h
    obtain⟨i,l⟩:=t u k;refine⟨by simp[i],λa f g=> ?_⟩;cases a with
    |zero=>simp at g;subst g;exact⟨m,d,by simp,j,rfl⟩
    |succ a=>simp at g;obtain⟨p,b,c,e,q⟩:=l a f g;exact⟨p,b,by simpa using c,e,q⟩
   ·cases h
 obtain⟨j,k⟩:=w cs PV s;refine⟨by rw[h.1,j],λa f v g o=> ?_⟩;obtain⟨m,d,i,l,rfl⟩:=k a f g;exact⟨(h.2 a m v i o).1.view hi l,(h.2 a m v i o).2⟩
theorem Inv.gM{a:Act}{w:World}{t:Nat}{cs PV:List M}(h:Inv X ⟨sl,bx,H⟩ a w)(s:get bx t=some cs)(y:iJ H cs=some PV):Inv X ⟨sl,(t,PV)::bx,H⟩ a w:=by
 obtain⟨r,o,rfl,d⟩:=h;have z:r.H=H:=d.hH;obtain⟨A,u,i,k⟩:=d.box t cs s;have l: ∀c f,get ((t,PV)::bx) c=some f-> ∃p,get bx c=some p:=by
  intro c f i;rcases bT i with⟨rfl,rfl⟩|⟨g,m⟩
  ·exact⟨cs,s⟩
  ·exact⟨f,m⟩
 have q: ∀b j,o8 X.kL o ((t,PV)::bx) b j↔o8 X.kL o bx b j:=by
  intro b j;constructor
  ·rintro(i|⟨c,f,i,k⟩)
   ·exact .inl i
   ·obtain⟨p,g⟩:=l c f i;exact .inr ⟨c,p,g,k⟩
  ·rintro(i|⟨c,f,i,k⟩)
   ·exact .inl i
   ·by_cases e:t=c
    ·subst e;exact .inr ⟨t,PV,by simp[bQ],k⟩
    ·exact .inr ⟨c,f,by simp[bQ,e,i],k⟩
 refine⟨r,o,W,d.hH,d.defers,d.size,d.slot,?_,?_,?_,?_,?_,d.mono,d.cy⟩
 ·intro c f g;rcases bT g with⟨rfl,rfl⟩|⟨_,m⟩
  ·exact⟨A,u,i,k.view d.hinv (by rw[z];exact y)⟩
  ·exact d.box c f m
 ·intro c v f B g m C;obtain⟨_,n⟩:=l c f g;obtain⟨_,D⟩:=l v B m;exact d.sP c v _ _ n D C
 ·intro c f g;obtain⟨_,n⟩:=l c f g;exact d.th c _ n
 ·intro c f g;obtain⟨_,n⟩:=l c f g;exact d.tj c _ n
 ·exact⟨d.hinv.obj,d.hinv.inj,λb j=>by rw[q];exact d.hinv.own b j,λx E i k j g=>d.hinv.sep x E i k j ((q _ _).1 g),λb j g=>d.hinv.nt b j ((q _ _).1 g)⟩
theorem TC.gM(t:Nat){c:Code}{q:Exit->St->Prop}{cs PV:List M}(d:get bx t=some cs)(e:iJ H cs=some PV)(k:TC X c ⟨sl,(t,PV)::bx,H⟩ q):TC X c ⟨sl,bx,H⟩ q:=
 λa b f=>k a b (f.gM d e)
theorem Inv.cw{a:Act}{w:World}{t:Nat}{m:M}{x:D}(h:Inv X ⟨sl,bx,H⟩ a w)(g:get sl t=some (.m m))(i:jy H m=some x):Inv X ⟨(t,.m (.d x))::sl,bx,H⟩ a w:=by
 obtain⟨d,j,rfl,b⟩:=h;have k:d.H=H:=b.hH;refine⟨d,j,W,b.hH,b.defers,b.size,?_,b.box,b.sP,b.th,b.tj,b.hinv,b.mono,b.cy⟩;intro e v l;rcases bT l with⟨rfl,rfl⟩|⟨_,n⟩
 ·obtain⟨f,o,c⟩:=b.slot e _ g;cases c with
  |m c=>exact⟨f,o,.m (c.view b.hinv (by rw[k];exact i))⟩
 ·exact b.slot e v n
theorem TL.cw(t:Nat){l:List Oper}{m:M}{x:D}(c:get sl t=some (.m m))(d:jy H m=some x)(k:TL X ops l ⟨(t,.m (.d x))::sl,bx,H⟩ post):TL X ops l ⟨sl,bx,H⟩ post:=
 λa b e=>k a b (e.cw c d)
theorem TC.cw(t:Nat){c:Code}{q:Exit->St->Prop}{m:M}{x:D}(d:get sl t=some (.m m))(e:jy H m=some x)(k:TC X c ⟨(t,.m (.d x))::sl,bx,H⟩ q):TC X c ⟨sl,bx,H⟩ q:=
 λa b f=>k a b (f.cw d e)
end rules
def Acc(n i:Nat)(rs:List (List D))(m:M)(H:Hp):Prop:=
 (rs= []/\m= .d (.sl []))\/(rs≠ []/\ ∃aL,m= .bH i aL rs.length/\H[i]?=some (.row true n aL (bf rs)))
theorem Acc.view{n i:Nat}{rs:List (List D)}{m:M}{H:Hp}(h:Acc n i rs m H)(b: ∀a∈rs,a.length=n):jy H m=some (.sl rs):=by
 rcases h with⟨rfl,rfl⟩|⟨c,g,rfl,d⟩
 ·rfl
 ·have e:Nat.blt 0 rs.length=true:=by rw[Nat.blt_eq];cases rs;exact absurd W c;simp
  have f:chunk n rs.length (bf rs)=some rs:=tu b;simp[jy,d,e,f]
class FM(P:Program)(t:Nat):Prop where
 u:P.underlying t=some .bool
theorem DW{P:Program}{w:World}{t:Nat}(h:P.underlying t=some .bool)(a b:Bool):(Op.equal t (.bool a) (.bool b)).run P w= .ok (a==b) w:=by
 have c:(underlying t).run P w= .ok .bool w:=by simp[underlying,program,Sem.run,h]
 simp only[Op.equal,Op.maxDepth];rw[Op.equalIn];simp[c]
section ops
variable{X:bJ}{st:St}{dst:Option Nat}{ty:Nat}{pos:String}{af:Array Edge}{g:Option (Nat×Bool)}
theorem LU{x y:Operand}{a e:Nat}{b c:Bool}[ht:FM X.P a](f:st.ev x=some (.m (.d (.bool b))))(h:st.ev y=some (.m (.d (.bool c)))):
  cQ X ⟨dst,.binOp .neq a x y e,ty,pos,af,g⟩ st (dy (.m (.d (.bool (!(b==c))))) st):=by
 refine PN λi j k d=> ?_
 exact⟨_,by simp[execOp,d.uA f,d.uA h,eqGuard,binOp,DW ht.u],.m (.d (.bool _))⟩
end ops
section rules
variable{X:bJ}{ops:Array Oper}{rest:List Oper}{post:St->Prop}{P3:List Ef->St->Prop}{sl:List (Nat×V)}{bx:List (Nat×List M)}{H:Hp}{d ty:Nat}{pos:String}{af:Array Edge}
theorem JS{x y:Operand}{a g:Nat}{b c:Bool}[ht:FM X.P a](h:Nat.blt d X.n=true)(i:bw sl x=some (.m (.d (.bool b))))(j:bw sl y=some (.m (.d (.bool c))))
  (k:TF X ops rest ⟨(d,.m (.d (.bool (!(b==c)))))::sl,bx,H⟩ λl m=>P3 (⟨some d,.m (.d (.bool (!(b==c)))),[],[],none,false,none⟩::l) m):TF X ops (⟨some d,.binOp .neq a x y g,ty,pos,af,none⟩::rest) ⟨sl,bx,H⟩ P3:=
 TF.cons (e:=⟨some d,.m (.d (.bool (!(b==c)))),[],[],none,false,none⟩) (P1 W W (bO h) λn f=>LU ((f.ev (x:=x) (by simp[Op.operands])).trans i) ((f.ev (x:=y) (by simp[Op.operands])).trans j)) W k
end rules
section ops
variable{X:bJ}{st:St}{dst:Option Nat}{ty:Nat}{pos:String}{af:Array Edge}{g:Option (Nat×Bool)}
theorem JT{t e:Nat}{x:Operand}(d:st.ev x=some (.m (.d (.sl []))))[ht:aZ X.P t e]:
  cQ X ⟨dst,.call ⟨.builtin .cap,#[x],#[t]⟩,ty,pos,af,g⟩ st (dy (.m (.d (.int .i64 0))) st):=by
 refine PN λa j m f=> ?_
 have c:=f.qc d;generalize h:a.eval x=k at c;refine⟨.int .i64 0,?_,.m (.d (.int _ _))⟩;cases c with
 |slnil a=>simp[execOp,resolve,invoke,builtin,Builtin.cap_,underlying,program,Sem.run,ht.u,h,goInt]
 |sl v b l cap n val i o p q r s u=>exact absurd W i
theorem FN{t e n:Nat}{x y:Operand}{k:IntKind}(h:st.ev x=some (.m (.d (.sl []))))(i:st.ev y=some (.m (.d (.int k 0))))[ht:aZ X.P t e][j:bY X.P e n]:
  cQ X ⟨dst,.slice t x none (some y) none,ty,pos,af,g⟩ st (dy (.m (.d (.sl []))) st):=by
 refine PN λf r v d=> ?_
 have c:=d.qc h;have l:=d.lA i;generalize m:f.eval x=s at c;cases c with
 |slnil o=>
  refine⟨.slice o 0 0,?_,.m (.d (.slnil _))⟩;have p: ∀a:World,(underlying t).run X.P a= .ok (.slice e) a:= λa=>by simp[underlying,program,Sem.run,ht.u]
  simp[execOp,Instr.sliceAt,Instr.slice,p,m,l,Instr.sliceBounds,Instr.sliceBound,asIntOf,dx j.size]
 |sl G b u F w val q z A B C D E=>exact absurd W q
theorem CL{T e n:Nat}{x y:Operand}[ht:aZ X.P T e][m:bY X.P e n]
  (o:st.ev x=some (.m (.d (.sl [])))) (p:st.ev y=some (.m (.d (.sl [])))):
  cQ X ⟨dst,.call ⟨.builtin .append,#[x,y],#[T,T]⟩,ty,pos,af,g⟩ st (dy (.m (.d (.sl []))) st):=by
 refine PN λf G I h=> ?_
 have i:=h.qc o;have j:=h.qc p;generalize q:f.eval x=H at i;generalize r:f.eval y=J at j;cases i with
 |sl D b l C s val c t u v w z A=>exact absurd W c
 |slnil k=>
  cases j with
  |sl D b l C s val c t u v w z A=>exact absurd W c
  |slnil d=>
   refine⟨.slice k 0 0,?_,.m (.d (.slnil _))⟩;have B: ∀a:World,(underlying T).run X.P a= .ok (.slice e) a:= λa=>by simp[underlying,program,Sem.run,ht.u]
   have E: ∀a:World,(Builtin.firstCells n 0 (.slice d 0 0)).run X.P a= .ok #[] a:=by
    intro a;cases d<;>simp[Builtin.firstCells,loadCells,loadCellsFrom]
   have F: ∀a:World,(Builtin.lenOf (.slice d 0 0)).run X.P a= .ok 0 a:=by intro a;simp[Builtin.lenOf]
   simp only[execOp,resolve,invoke,builtin,Builtin.append_];simp only[Sem.run_bind,Sem.run_pure,Result.andThen_ok,awH,avm,avT,q,r];cases k<;>simp[B,dx m.size,F,E,storeCells]
theorem FO{t e n:Nat}{x y:Operand}{k:IntKind}{i:Int}{j aL len:Nat}{cs:List M}(acc:Bool)(O:st.ev x=some (.m (.bH j aL len)))(P:st.ev y=some (.m (.d (.int k i))))[ht:aZ X.P t e][Q:bY X.P e n]
  (f:st.H[j]?=some (.row false n aL cs)) (R:0<=i) (co:i<=len):
  cQ X ⟨dst,.slice t x none (some y) none,ty,pos,af,g⟩ st (dy (.m (.bH j (aL+1) i.toNat)) ⟨st.sl,st.bx,st.H.set j (.row acc n (aL+1) (cs.take (i.toNat*n)))⟩):=by
 intro N d S a;have h:=a.ev O;have T:=a.lA P;have C:d.H[j]?=some (.row false n aL cs):=by rw[a.hH];exact f
 obtain⟨s,U,D,b,E,w,z,h5,⟨V,Tk⟩,F⟩:=a.hinv.obj j _ C;generalize Y:N.eval x=u at h;cases h with
 |m h=>cases h with
  |bH j aL len ad ac d6 Z=>
   obtain⟨e1,G,d7,T1,l,e4⟩:=Z false n cs C;subst e1;rw[w]at l;injection l with l;injection l with e5 e6
   subst e5;subst e6;have R9:b=ac:=av0 s (by rw[<-z,<-e4]);subst R9;have Sk:E=len:=av0 s (by rw[<-V,<-G]);subst Sk;have du:i.toNat<=E:=by omega
   have H:(cs.take (i.toNat*n)).length=i.toNat*n:=by
    rw[awm,G];exact awN (avk _ du)
   obtain⟨p,I,J,K,g4,g5⟩:=a.rR (j:=j) (b':=d.l j) (ob:= .row false n aL cs) (QK:= .row acc n (aL+1) (cs.take (i.toNat*n))) (w':=d.w) f trivial W W W (auK _)
    (λc _ _=>rfl) (.inl W) (by
     intro ah v ho A;exact absurd (Or.inl W) ho) ⟨W,.inl (by omega)⟩ (by
     intro p hm Uy _ _;refine⟨s,U,D,b,i.toNat,by rw[Uy];exact w,z,by omega,⟨H,by omega⟩,?_⟩;intro k m v o L;have A:cs[k]?=some m:=by
      rw[awB]at o;split at o
      ·exact o
      ·cases o
     exact⟨(F k m v A L).1.mono hm,(F k m v A L).2⟩)
   refine dT.value (u:= .slice (some ⟨d.l j,0,none⟩) i.toNat b) (w':=p.w) ?_ ⟨_,_,p,S,⟨W,W⟩,W,g5,?_⟩
   ·have Q7: ∀q:World,(underlying t).run X.P q= .ok (.slice e) q:= λq=>by simp[underlying,program,Sem.run,ht.u]
    have hb:0<=i/\i<=(b:Int):=⟨R,by omega⟩;simp[execOp,Instr.sliceAt,Instr.slice,Q7,Y,T,Instr.sliceBounds,Instr.sliceBound,asIntOf,dx Q.size,hb,mC,I]
   ·refine .m (.bH j (aL+1) i.toNat _ b (.inr ⟨acc,n,aL+1,_,by rw[K];exact wg f,auK _⟩) ?_);intro Sq d8 Qb B;rw[K]at B;have RN:j<st.H.length:=by rcases auM j st.H.length with r|r;exact r;simp[auP r]at f
    simp[RN]at B;obtain⟨f1,f2,f3⟩:=B;subst f1;subst f2;subst f3;exact⟨by rw[J],H,_,D,by rw[J,I];exact w,z⟩
theorem DX{z:Array Value}{n:Nat}(d:0<z.size)(h: ∀(i:Nat) (v:Value),z[i]?=some v->flat v=true)(i:Nat)(v:Value)(a:(Builtin.zeroCells z n)[i]?=some v):flat v=true:=by
 have e:i<n*z.size:=by
  rcases auM i (n*z.size)with b|b
  ·exact b
  ·rw[avu (by rw[lW];exact b)]at a;cases a
 have c:i%z.size<z.size:=awu _ d;simp[Builtin.zeroCells,e,c]at a;exact h (i%z.size) v (by simp[c,a])
theorem DY{T s e n nb len:Nat}{x y:Operand}{k:IntKind}{z:D}[ht:aZ X.P T e][Q:mh X.P s k][B:bY X.P e n][R:ku X.P e nb][S:g_ X.P e z](U:Nat.blt 0 n=true)(V:(bu z).length=n)
  (Y:st.ev x=some (.m (.d (.sl [])))) (Z:st.ev y=some (.m (.d (.int k len)))) (hl:0<len) (Qj:len*nb<=140737488355328) (C:len<=140737488355328):
  cQ X ⟨dst,.call ⟨.builtin .append,#[x,y],#[T,s]⟩,ty,pos,af,g⟩ st (dy (.m (.bH st.H.length 0 len)) ⟨st.sl,st.bx,st.H++ [.row false n 0 (List.replicate (len*n) .undef)]⟩):=by
 intro A a E o;have RL:=bO U;have p:=o.qc Y;have h2:=o.lA Z;obtain⟨r,i1,i2,F⟩:=rS B.size R.bytes;obtain⟨f,Uv,Uw⟩:=(gW S.zero).run;have G:lz a ((bu z).map .d) f.cells:=(RM.d (fC Uw):RM a (.d z) f).cells W;have ac:f.cells.size=n:=by rw[G.1];simpa using V
 have P: ∀(h:Nat) (v:Value),f.cells[h]?=some v->flat v=true:=by
  intro h v i;have Q9:h<f.cells.size:=by rcases auM h f.cells.size with d|d;exact d;simp[avu d]at i
  have t:h<(bu z).length:=by omega
  exact(G.2 h (.d (bu z)[h]) v (by simp[t]) i).2
 generalize U6:A.eval x=u at p;cases p with
 |sl i7 b gc cap ec val h0 H C Tp PL Q5 QV=>exact absurd W h0
 |slnil I=>
  let cap:=len+a.w.tape a.w.drawn (.appendCap len 0 e)%(2^63-len)
  let j:=Builtin.zeroCells f.cells len++Builtin.zeroCells f.cells (cap-len)
  have H:len<=cap:=avN _ _;have J:j.size=cap*n:=by
   simp only[j,axh,lW,ac];rw[<-awy];congr 1;omega
  have t:cE X {a with w:=a.w.drew} E st A:=o.ext (gG.drew _);have Xw:dW a {a with w:=a.w.drew} :=dW.ext (gG.drew _);have K:(List.replicate (len*n) M.undef).length=len*n:=by simp
  obtain⟨l,L,g2,N,g4,g5⟩:=t.newObj (.row false n 0 (List.replicate (len*n) .undef)) (.cells j e (0,0)) (by
   intro l hm hw;refine⟨RL,j,e,cap,len,by rw[hw];exact jo _ _,J,H,⟨K,C⟩,?_⟩;intro k m v q i;have Qz:m= .undef:=by
    rw[axk]at q;split at q
    ·injection q with d;exact d.symm
    ·cases q
   subst Qz;refine⟨.undef _,?_⟩;simp only[j,axt]at i;split at i
   ·exact DX (by omega) P _ _ i
   ·exact DX (by omega) P _ _ i)
  refine dT.value (u:= .slice (some ⟨a.w.heap.size,0,none⟩) len cap) (w':=l.w) ?_ ⟨_,_,l,E,⟨W,W⟩,W,g5,?_⟩
  ·have VN: ∀c:World,(typeInfo e).run X.P c= .ok r c:= λc=>by simp[typeInfo,program,Sem.run,i1]
   have Q7: ∀c:World,(underlying T).run X.P c= .ok (.slice e) c:= λc=>by simp[underlying,program,Sem.run,ht.u]
   have ah: ∀c:World,(underlying s).run X.P c= .ok (.int k) c:= λc=>by simp[underlying,program,Sem.run,Q.u]
   have co:IntKind.i64.wrap (len:Int)=len:=IntWalk.i64_in _ ⟨by omega,by omega⟩;have ge: ¬((len:Int)*(r.bytes:Int)>2^48):=by
    rw[F];have:((len*nb:Nat):Int)<=140737488355328:=by omega
    rw[Int.natCast_mul]at this;omega
   have d6: ¬(281474976710656<(len:Int)*(r.bytes:Int)):=by omega
   have d7: ¬((len:Int)<0):=by omega
   have c1: ¬len=0:=by omega
   have c2: ¬(9223372036854775807<((len:Nat):Int)):=by omega
   have c3: ¬(281474976710656<Builtin.nextslicecap len 0*r.bytes):=by
    rw[F];have p:=tA (Tu:=len) (cap:=0) (by omega);have:=avk nb p;rw[axB]at this;omega
   have c4: ¬len*n=0:=by
    intro d;rcases awO.1 d with d|d<;>omega
   have f9:(Builtin.firstCells n 0 (.slice I 0 0)).run X.P a.w.drew= .ok #[] a.w.drew:=by
    cases I<;>simp[Builtin.firstCells,loadCells,loadCellsFrom]
   have d8:(Question.appendCap len 0 e).cut (a.w.tape a.w.drawn (Question.appendCap len 0 e))=cap:=rfl;have VO:(Question.appendCap len 0 e).forced=false:=rfl;simp only[execOp,resolve,invoke,builtin,Builtin.append_];simp only[Sem.run_bind,Sem.run_pure,Result.andThen_ok,awH,avm,avT,U6,h2];simp[Q7,ah,VN,dx B.size,asInt,asIntOf,co,d6,d7,c1,c2,c3,c4];simp only[VO,awi,avS];rw[f9];simp only[Result.andThen_ok,Uv,d8];simp[newRow,newObj,Sem.run,L,j]
  ·have d9:a.H.length=st.H.length:=by rw[o.hH]
   have O:l.l st.H.length=a.w.heap.size:=by rw[<-d9];exact g2
   refine .m (.bH _ 0 len _ cap (.inr ⟨false,n,0,List.replicate (len*n) .undef,by rw[N];simp,auK _⟩) ?_);intro Sq i6 PV w;rw[N]at w;simp at w;obtain⟨e1,e2,e3⟩:=w;subst e1;subst e2;subst e3;exact⟨by rw[O],K,j,e,by rw[O,L];exact jo _ _,J⟩
end ops
section walk
variable{X:bJ}{ops:Array Oper}{rest:List Oper}{post:St->Prop}{sl:List (Nat×V)}{bx:List (Nat×List M)}{H:Hp}{d:Nat}{ty:Nat}{pos:String}{af:Array Edge}
theorem Hn{t e:Nat}{x:Operand}[ht:aZ X.P t e](a:Nat.blt d X.n=true)(b:bw sl x=some (.m (.d (.sl []))))(k:TL X ops rest ⟨(d,.m (.d (.int .i64 0)))::sl,bx,H⟩ post):
  TL X ops (⟨some d,.call ⟨.builtin .cap,#[x],#[t]⟩,ty,pos,af,none⟩::rest) ⟨sl,bx,H⟩ post:=Qi W W a (JT b) k
theorem Ip{t e n:Nat}{x y:Operand}{a:IntKind}[ht:aZ X.P t e][g:bY X.P e n](b:Nat.blt d X.n=true)(c:bw sl x=some (.m (.d (.sl []))))(f:bw sl y=some (.m (.d (.int a 0))))(k:TL X ops rest ⟨(d,.m (.d (.sl [])))::sl,bx,H⟩ post):
  TL X ops (⟨some d,.slice t x none (some y) none,ty,pos,af,none⟩::rest) ⟨sl,bx,H⟩ post:=Qi W W b (FN c f) k
theorem qj{T e n:Nat}{x y:Operand}[ht:aZ X.P T e][f:bY X.P e n](a:Nat.blt d X.n=true)(b:bw sl x=some (.m (.d (.sl []))))(c:bw sl y=some (.m (.d (.sl []))))(k:TL X ops rest ⟨(d,.m (.d (.sl [])))::sl,bx,H⟩ post):
  TL X ops (⟨some d,.call ⟨.builtin .append,#[x,y],#[T,T]⟩,ty,pos,af,none⟩::rest) ⟨sl,bx,H⟩ post:=Qi W W a (CL b c) k
theorem Iq{t e n:Nat}{x y:Operand}{a:IntKind}{i:Int}{j aL len:Nat}{cs:List M}(acc:Bool)[ht:aZ X.P t e][m:bY X.P e n](b:Nat.blt d X.n=true)(c:bw sl x=some (.m (.bH j aL len)))(f:bw sl y=some (.m (.d (.int a i))))
  (g:H[j]?=some (.row false n aL cs)) (h:0<=i) (l:i<=len) (k:TL X ops rest ⟨(d,.m (.bH j (aL+1) i.toNat))::sl,bx,H.set j (.row acc n (aL+1) (cs.take (i.toNat*n)))⟩ post):
  TL X ops (⟨some d,.slice t x none (some y) none,ty,pos,af,none⟩::rest) ⟨sl,bx,H⟩ post:=Qi W W b (FO acc c f g h l) k
theorem FP{T a e n nb len:Nat}{x y:Operand}{b:IntKind}{z:D}[ht:aZ X.P T e][o:mh X.P a b][p:bY X.P e n][q:ku X.P e nb][r:g_ X.P e z](c:Nat.blt d X.n=true)(f:bw sl x=some (.m (.d (.sl []))))(g:bw sl y=some (.m (.d (.int b len))))
  (h:Nat.blt 0 n=true) (i:(bu z).length=n) (j:0<len) (l:len*nb<=140737488355328) (m:len<=140737488355328) (k:TL X ops rest ⟨(d,.m (.bH H.length 0 len))::sl,bx,H++ [.row false n 0 (List.replicate (len*n) .undef)]⟩ post):
  TL X ops (⟨some d,.call ⟨.builtin .append,#[x,y],#[T,a]⟩,ty,pos,af,none⟩::rest) ⟨sl,bx,H⟩ post:=Qi W W c (DY h i f g j l m) k
end walk
inductive MB(n:Nat):M->Prop where
 |d (x:D):MB n (.d x)
 |ref (i off:Nat) (h:i<n):MB n (.ref i off)
 |bH (i aL len:Nat) (h:i<n):MB n (.bH i aL len)
 |eI (i aL off:Nat) (h:i<n):MB n (.eI i aL off)
 |mp (i:Nat) (h:i<n):MB n (.mp i)
 |it (i:Nat) (h:i<n):MB n (.it i)
 |agg (cs:List M) (h: ∀m∈cs,MB n m):MB n (.agg cs)
 |fn (f:Nat) (cs:List M) (h: ∀m∈cs,MB n m):MB n (.fn f cs)
 |dq (cs:List M) (h: ∀m∈cs,MB n m):MB n (.dq cs)
 |undef:MB n .undef
def NA(n:Nat):Ob->Prop
 | .box cs=> ∀m∈cs,MB n m
 | .row _ _ _ cs=> ∀m∈cs,MB n m
 | .map es=> ∀e∈es,MB n e.2
 | .iter x=>MB n x
 | .dead=>True
 | .free=>True
def HB(n:Nat)(H:Hp):Prop:= ∀ob∈H,NA n ob
mutual
def dH(ρ:Nat->Nat):M->M
 | .d x=> .d x
 | .ref i off=> .ref (ρ i) off
 | .bH i aL len=> .bH (ρ i) aL len
 | .eI i aL off=> .eI (ρ i) aL off
 | .mp i=> .mp (ρ i)
 | .it i=> .it (ρ i)
 | .agg cs=> .agg (jp ρ cs)
 | .fn f cs=> .fn f (jp ρ cs)
 | .dq cs=> .dq (jp ρ cs)
 | .undef=> .undef
def jp(ρ:Nat->Nat):List M->List M
 | []=>[]
 |m::r=>dH ρ m::jp ρ r
end
theorem zo(ρ:Nat->Nat)(l:List M):jp ρ l=l.map (dH ρ):=by induction l with
 |nil=>rfl
 |cons b c a=>simp[jp,a]
theorem iK(ρ:Nat->Nat)(l:List M)(i:Nat):(jp ρ l)[i]?=(l[i]?).map (dH ρ):=by rw[zo];simp
theorem da(ρ:Nat->Nat)(l:List M):(jp ρ l).length=l.length:=by rw[zo];simp
def cM(ρ:Nat->Nat):Ob->Ob
 | .box cs=> .box (jp ρ cs)
 | .row acc ec aL cs=> .row acc ec aL (jp ρ cs)
 | .map es=> .map (es.map λe=>(e.1,dH ρ e.2))
 | .iter x=> .iter (dH ρ x)
 | .dead=> .dead
 | .free=> .free
theorem fF(ρ:Nat->Nat)(ob:Ob):(cM ρ ob).live↔ob.live:=by cases ob<;>simp[cM,Ob.live]
theorem qk(ρ:Nat->Nat)(ob:Ob)(o:Nat):(cM ρ ob).kE o↔ob.kE o:=by cases ob<;>simp[cM,Ob.kE,da]
structure M_(ρ:Nat->Nat)(n:Nat)(σ τ:Sg):Prop where
 w:σ.w=τ.w
 O: ∀b o,¬σ.O b o-> ¬τ.O b o
 len: ∀(i:Nat) ob,σ.H[i]?=some ob->i<n
 ob: ∀(i:Nat) ob,σ.H[i]?=some ob->τ.H[ρ i]?=some (cM ρ ob)
 l: ∀(i:Nat) ob,σ.H[i]?=some ob->τ.l (ρ i)=σ.l i
theorem RM.up{ρ:Nat->Nat}{n:Nat}{σ τ:Sg}(c:M_ ρ n σ τ){m:M}{v:Value}(h:RM σ m v):RM τ (dH ρ m) v:=by
 induction h with
 |d h=>rw[dH];exact .d (h.mono λb C v i p=>⟨by rw[<-c.w];exact i,c.O b C p⟩)
 |ref a B f h=>
  rw[dH,<-c.l a _ h];exact .ref (ρ a) B _ (c.ob a _ h)
 |bH a y J D K x z=>
  rw[dH];have A: ∃j,σ.H[a]?=some j:=by
   rcases x with h|⟨o,k,q,f,h,_⟩
   ·exact⟨_,h⟩
   ·exact⟨_,h⟩
  obtain⟨j,l⟩:=A;refine .bH _ y J D K ?_ ?_
  ·rcases x with h|⟨o,k,q,f,h,p⟩
   ·exact .inl (c.ob a _ h)
   ·exact .inr ⟨o,k,q,_,c.ob a _ h,p⟩
  ·intro o k f e;rw[c.ob a _ l]at e;injection e with e
   cases j<;>simp only[cM]at e<;>cases e;obtain⟨F,G,H⟩:=z _ _ _ l;rw[c.l a _ l,da,<-c.w];exact⟨F,G,H⟩
 |eI a y B b x z=>
  rw[dH];have A: ∃j,σ.H[a]?=some j:=by
   rcases x with h|⟨o,k,q,f,h,_⟩
   ·exact⟨_,h⟩
   ·exact⟨_,h⟩
  obtain⟨j,l⟩:=A;refine .eI _ y B b ?_ ?_
  ·rcases x with h|⟨o,k,q,f,h,p⟩
   ·exact .inl (c.ob a _ h)
   ·exact .inr ⟨o,k,q,_,c.ob a _ h,p⟩
  ·intro o k f e;rw[c.ob a _ l]at e;injection e with e
   cases j<;>simp only[cM]at e<;>cases e;rw[c.l a _ l];exact z _ _ _ l
 |mp a N h=>
  rw[dH,<-c.l a _ h];exact .mp (ρ a) _ (c.ob a _ h)
 |it a L h=>
  rw[dH,<-c.l a _ h];exact .it (ρ a) _ (c.ob a _ h)
 |agg f r s I h t=>
  rw[dH];refine .agg _ r (by rw[da];exact s) I λa m v g u=> ?_
  rw[iK]at g;obtain⟨w,i,rfl⟩:=avv.1 g;exact t a w v i u
 |fn E f r s h t=>
  rw[dH];refine .fn E _ r (by rw[da];exact s) λa m v g u=> ?_
  rw[iK]at g;obtain⟨w,i,rfl⟩:=avv.1 g;exact t a w v i u
 |dq f r s h t=>
  rw[dH];refine .dq _ r (by rw[da];exact s) λa m v g u=> ?_
  rw[iK]at g;obtain⟨w,i,rfl⟩:=avv.1 g;exact t a w v i u
 |undef v=>rw[dH];exact .undef v
structure FQ(ρ:Nat->Nat)(n:Nat)(σ τ:Sg):Prop where
 w:σ.w=τ.w
 O: ∀b o,¬τ.O b o-> ¬σ.O b o
 has: ∀i:Nat,i<n-> ∃ob,σ.H[i]?=some ob
 ob: ∀(i:Nat) ob,σ.H[i]?=some ob->τ.H[ρ i]?=some (cM ρ ob)
 l: ∀(i:Nat) ob,σ.H[i]?=some ob->τ.l (ρ i)=σ.l i
theorem RM.down{ρ:Nat->Nat}{n:Nat}{σ τ:Sg}(h:FQ ρ n σ τ){m:M}(Q:MB n m): ∀{v:Value},RM τ (dH ρ m) v->RM σ m v:=by
 induction Q with
 |d L=>
  intro v a;rw[dH]at a;cases a with
  |d a=>exact .d (a.mono λb N v R i=>⟨by rw[h.w];exact R,h.O b N i⟩)
 |ref c C a=>
  intro v e;rw[dH]at e;obtain⟨k,f⟩:=h.has c a;cases e with
  |ref D C g a=>
   rw[h.ob c _ f]at a;injection a with a
   cases k<;>simp only[cM]at a<;>cases a;rw[h.l c _ f];exact .ref c C _ f
 |bH c x K a=>
  intro v e;rw[dH]at e;obtain⟨k,f⟩:=h.has c a;have y:=h.ob c _ f;cases e with
  |bH D x K O Y j E=>
   refine .bH c x K O Y ?_ ?_
   ·rw[y]at j;cases k with
    |dead=>exact .inl f
    |free=>rcases j with a|⟨l,r,o,p,a,i⟩<;>simp[cM]at a
    |row w u F g=>
     rcases j with a|⟨l,r,o,p,a,i⟩
     ·simp[cM]at a
     ·simp only[cM]at a;injection a with a;injection a with S T U V
      exact .inr ⟨w,u,F,g,f,by omega⟩
    |box g=>rcases j with a|⟨l,r,o,p,a,i⟩<;>simp[cM]at a
    |map g=>rcases j with a|⟨l,r,o,p,a,i⟩<;>simp[cM]at a
    |iter g=>rcases j with a|⟨l,r,o,p,a,i⟩<;>simp[cM]at a
   ·intro w u g q;rw[f]at q;injection q with q
    subst q;obtain⟨G,H,I⟩:=E w u (jp ρ g) y;rw[h.l c _ f]at G I;rw[da]at H;rw[h.w];exact⟨G,H,I⟩
 |eI c x C a=>
  intro v e;rw[dH]at e;obtain⟨k,f⟩:=h.has c a;have y:=h.ob c _ f;cases e with
  |eI D x C b j E=>
   refine .eI c x C b ?_ ?_
   ·rw[y]at j;cases k with
    |dead=>exact .inl f
    |free=>rcases j with a|⟨l,r,o,p,a,i⟩<;>simp[cM]at a
    |row w u F g=>
     rcases j with a|⟨l,r,o,p,a,i⟩
     ·simp[cM]at a
     ·simp only[cM]at a;injection a with a;injection a with S T U V
      exact .inr ⟨w,u,F,g,f,by omega⟩
    |box g=>rcases j with a|⟨l,r,o,p,a,i⟩<;>simp[cM]at a
    |map g=>rcases j with a|⟨l,r,o,p,a,i⟩<;>simp[cM]at a
    |iter g=>rcases j with a|⟨l,r,o,p,a,i⟩<;>simp[cM]at a
   ·intro w u g q;rw[f]at q;injection q with q
    subst q;rw[<-h.l c _ f];exact E w u (jp ρ g) y
 |mp c a=>
  intro v e;rw[dH]at e;obtain⟨k,f⟩:=h.has c a;cases e with
  |mp D Z a=>
   rw[h.ob c _ f]at a;injection a with a
   cases k<;>simp only[cM]at a<;>cases a;rw[h.l c _ f];exact .mp c _ f
 |it c a=>
  intro v e;rw[dH]at e;obtain⟨k,f⟩:=h.has c a;cases e with
  |it D L a=>
   rw[h.ob c _ f]at a;injection a with a
   cases k<;>simp only[cM]at a<;>cases a;rw[h.l c _ f];exact .it c _ f
 |agg g a z=>
  intro v e;rw[dH]at e;cases e with
  |agg J A s X i=>
   refine .agg g A (by rw[da]at s;exact s) X λc m v t B=> ?_
   exact z m (auQ t) (i c (dH ρ m) v (by rw[iK,t];rfl) B)
 |fn P g a z=>
  intro v e;rw[dH]at e;cases e with
  |fn f' J A s i=>
   refine .fn P g A (by rw[da]at s;exact s) λc m v t B=> ?_
   exact z m (auQ t) (i c (dH ρ m) v (by rw[iK,t];rfl) B)
 |dq g a z=>
  intro v e;rw[dH]at e;cases e with
  |dq J A s i=>
   refine .dq g A (by rw[da]at s;exact s) λc m v t B=> ?_
   exact z m (auQ t) (i c (dH ρ m) v (by rw[iK,t];rfl) B)
 |undef=>intro v a;exact .undef v
theorem gZ.up{ρ:Nat->Nat}{σ τ:Sg}(n:σ.w=τ.w)(o: ∀m v,RM σ m v->RM τ (dH ρ m) v){b:Nat}{ob:Ob}(h:gZ σ b ob):gZ τ b (cM ρ ob):=by
 cases ob with
 |box z=>
  obtain⟨q,p,d,f,i⟩:=h;refine⟨q,p,by rw[<-n];exact d,by rw[da];exact f,λa m v k g=> ?_⟩;rw[iK]at k;obtain⟨l,j,rfl⟩:=avv.1 k;exact⟨o _ _ (i a l v j g).1,(i a l v j g).2⟩
 |row L I J z=>
  obtain⟨A,q,p,G,u,d,f,i,⟨j,B⟩,r⟩:=h;refine⟨A,q,p,G,u,by rw[<-n];exact d,f,i,⟨by rw[da];exact j,B⟩,λa m v k g=> ?_⟩;rw[iK]at k;obtain⟨l,s,rfl⟩:=avv.1 k;exact⟨o _ _ (r a l v s g).1,(r a l v s g).2⟩
 |map K=>
  obtain⟨C,c,d,f,i⟩:=h;refine⟨C,c,by rw[<-n];exact d,by simpa using f,λa e w t D=> ?_⟩;rw[au6]at t;obtain⟨E,j,rfl⟩:=avv.1 t;exact(i a E w j D).up λv g=>o _ _ g
 |iter H=>
  obtain⟨F,x,y,d,f⟩:=h;exact⟨F,x,y,by rw[<-n];exact d,o _ _ f⟩
 |dead=>trivial
 |free=>trivial
theorem gZ.down{ρ:Nat->Nat}{n:Nat}{σ τ:Sg}(l:σ.w=τ.w)(o: ∀m v,MB n m->RM τ (dH ρ m) v->RM σ m v){b:Nat}{ob:Ob}(p:NA n ob)(h:gZ τ b (cM ρ ob)):gZ σ b ob:=by
 cases ob with
 |box z=>
  obtain⟨r,q,d,a,i⟩:=h;refine⟨r,q,by rw[l];exact d,by rw[da]at a;exact a,λg m v j k=> ?_⟩;have f:=i g (dH ρ m) v (by rw[iK,j];rfl) k;exact⟨o _ _ (p m (auQ j)) f.1,f.2⟩
 |row L I J z=>
  obtain⟨A,r,q,G,u,d,a,i,⟨f,B⟩,C⟩:=h;refine⟨A,r,q,G,u,by rw[l];exact d,a,i,⟨by rw[da]at f;exact f,B⟩,λg m v j k=> ?_⟩;have s:=C g (dH ρ m) v (by rw[iK,j];rfl) k;exact⟨o _ _ (p m (auQ j)) s.1,s.2⟩
 |map K=>
  obtain⟨D,c,d,a,i⟩:=h;refine⟨D,c,by rw[l];exact d,by simpa using a,λg e w t E=> ?_⟩;have f:=i g (e.1,dH ρ e.2) w (by rw[au6,t];rfl) E;exact f.up λv k=>o _ _ (p e (auQ t)) k
 |iter H=>
  obtain⟨F,x,y,d,a⟩:=h;exact⟨F,x,y,by rw[l];exact d,o _ _ p a⟩
 |dead=>trivial
 |free=>trivial
theorem fy{H:Hp}{i:Nat}{ob:Ob}(h:H[i]?=some ob):i<H.length:=by
 rcases auM i H.length with a|a
 ·exact a
 ·simp[auP a]at h
theorem CT.frame{P:Program}{f:Nat}{ms:List M}{H K:Hp}{post:M->Hp->Prop}(ρ:Nat->Nat)(RR: ∀i j,i<H.length->j<H.length->ρ i=ρ j->i=j)
  (w: ∀(i:Nat) ob,H[i]?=some ob->K[ρ i]?=some (cM ρ ob)) (hB:HB H.length H) (Qk: ∀m∈ms,MB H.length m)
  (h:CT P f ms H λr k=>k.length=H.length/\post r k):
  CT P f (jp ρ ms) K λr k=> ∃r0 H',post r0 H'/\H'.length=H.length/\r=dH ρ r0/\k.length=K.length/\(∀(i:Nat) ob,H'[i]?=some ob->k[ρ i]?=some (cM ρ ob))/\ ∀j,(∀i,i<H.length->ρ i≠j)->k[j]?=K[j]?:=by
 intro σ Oo vs A p Sj;have i8: ∀i,i<H.length->ρ i<K.length:=by
  intro i a;have:=w i H[i] (by simp[a]);exact fy this
 let f9:Nat->Nat->Prop:= λb q=>Oo b q\/ ∃(j:Nat) (ob:Ob),(∀i,i<H.length->ρ i≠j)/\σ.H[j]?=some ob/\σ.l j=b/\ob.kE q
 let F:Sg:=⟨σ.w,σ.O,λi=>σ.l (ρ i),H⟩
 have i9:FQ ρ H.length F σ:=⟨rfl,λ_ _ h=>h,λi a=>⟨H[i],by simp[F,a]⟩,λi ob c=>by rw[p];exact w i ob c,λi ob c=>rfl⟩;have gc: ∀m v,MB H.length m->RM σ (dH ρ m) v->RM F m v:= λm v hb hr=>RM.down i9 hb hr
 have mt:ln F f9:=by
  refine⟨?_,?_,?_,?_,?_⟩
  ·intro i ob a;have c:σ.H[ρ i]?=some (cM ρ ob):=by rw[p];exact w i ob a
   exact gZ.down (σ:=F) (τ:=σ) (ρ:=ρ) W gc (hB ob (auQ a)) (A.obj (ρ i) _ c)
  ·intro i j u N a d o S B;have c:σ.H[ρ i]?=some (cM ρ u):=by rw[p];exact w i u a
   have g:σ.H[ρ j]?=some (cM ρ N):=by rw[p];exact w j N d
   exact RR i j (fy a) (fy d) (A.inj _ _ _ _ c g ((fF ρ u).2 o) ((fF ρ N).2 S) B)
  ·intro b q;show σ.O b q↔_;rw[A.own];constructor
   ·rintro(c|⟨j,ob,c,g,l⟩)
    ·exact .inl (.inl c)
    ·by_cases d: ∃i,i<H.length/\ρ i=j
     ·obtain⟨i,a,rfl⟩:=d;have n:=w i H[i] (by simp[a]);rw[p,n]at c;injection c with c
      subst c;exact .inr ⟨i,H[i],by simp[F,a],g,(qk ρ _ q).1 l⟩
     ·exact .inl (.inr ⟨j,ob,λi a B=>d ⟨i,a,B⟩,c,g,l⟩)
   ·rintro((c|⟨j,ob,h0,c,g,l⟩)|⟨i,ob,c,g,l⟩)
    ·exact .inl c
    ·exact .inr ⟨j,ob,c,g,l⟩
    ·exact .inr ⟨ρ i,cM ρ ob,by rw[p];exact w i ob c,g,(qk ρ _ q).2 l⟩
  ·intro i ob a t q;have c:σ.H[ρ i]?=some (cM ρ ob):=by rw[p];exact w i ob a
   rintro(g|⟨j,ge,h0,g,l,n⟩)
   ·exact A.sep _ _ c ((fF ρ ob).2 t) q g
   ·exact h0 i (fy a) (A.inj _ _ _ _ c g ((fF ρ ob).2 t) (Ob.j7 n) l.symm)
  ·rintro b q (c|⟨j,ge,h0,g,l,n⟩)
   ·exact A.nt b q c
   ·rw[<-l];exact(A.obj j ge g).lt (Ob.j7 n)
 have pm:vX F ms vs:=by
  refine⟨by rw[Sj.1,da],λi m v hm hv=> ?_⟩;exact gc m v (Qk m (auQ hm)) (Sj.2 i (dH ρ m) v (by rw[iK,hm];rfl) hv)
 refine(h F f9 vs mt W pm).mono ?_;rintro e w' ⟨v,r0,s,B,Uy,⟨ac,QF⟩,SO,hr,T,I⟩
 classical
 let R:Nat->Option Nat:= λj=>if h: ∃i,i<H.length/\ρ i=j then some h.choose else none
 have d8: ∀i,i<H.length->R (ρ i)=some i:=by
  intro i a;have i6: ∃O,O<H.length/\ρ O=ρ i:=⟨i,a,rfl⟩;show(if h: ∃O,O<H.length/\ρ O=ρ i then some h.choose else none)=some i;rw[axq i6];have:=i6.choose_spec;rw[RR _ _ this.1 a this.2]
 have d9: ∀j,(∀i,i<H.length->ρ i≠j)->R j=none:=by
  intro j d;show(if h: ∃O,O<H.length/\ρ O=j then some h.choose else none)=none;rw[axz];rintro⟨i,a,B⟩;exact d i a B
 have U: ∀j,(∃i,i<H.length/\ρ i=j/\R j=some i)\/((∀i,i<H.length->ρ i≠j)/\R j=none):=by
  intro j;by_cases d: ∃i,i<H.length/\ρ i=j
  ·obtain⟨i,a,rfl⟩:=d;exact .inl ⟨i,a,W,d8 i a⟩
  ·have c: ∀i,i<H.length->ρ i≠j:= λi a B=>d ⟨i,a,B⟩
   exact .inr ⟨c,d9 j c⟩
 let y:Hp:=(List.range K.length).map λj=>match R j with
  |some i=>cM ρ (s.H.getD i .dead)
  |none=>K.getD j .dead
 let x:Nat->Nat:= λj=>match R j with
  |some i=>s.l i
  |none=>σ.l j
 have D: ∀(i:Nat) ob,s.H[i]?=some ob->y[ρ i]?=some (cM ρ ob):=by
  intro i ob a;have P0:i<H.length:=by rw[<-ac];exact fy a
  simp[y,i8 i P0,d8 i P0,a]
 have J: ∀j,(∀i,i<H.length->ρ i≠j)->y[j]?=K[j]?:=by
  intro j d;by_cases RN:j<K.length
  ·simp[y,RN,d9 j d]
  ·simp[y,RN]
 have z: ∀(i:Nat),i<H.length->x (ρ i)=s.l i:=by
  intro i a;show(match R (ρ i)with|some i=>s.l i|none=>σ.l (ρ i))=_;rw[d8 i a]
 have C: ∀j,(∀i,i<H.length->ρ i≠j)->x j=σ.l j:=by
  intro j d;show(match R j with|some i=>s.l i|none=>σ.l j)=_;rw[d9 j d]
 let τ:Sg:=⟨s.w,s.O,x,y⟩
 have qr:M_ ρ H.length s τ:=⟨rfl,λ_ _ h=>h,λi ob a=>by rw[<-ac];exact fy a,D,λi ob a=>z i (by rw[<-ac];exact fy a)⟩;have Wp: ∀m v,RM s m v->RM τ (dH ρ m) v:= λm v hr=>hr.up qr
 have V: ∀(j:Nat) ob,y[j]?=some ob->(∃i G,i<H.length/\ρ i=j/\s.H[i]?=some G/\ob=cM ρ G)\/((∀i,i<H.length->ρ i≠j)/\σ.H[j]?=some ob):=by
  intro j ob d;rcases U j with⟨i,a,rfl,_⟩|⟨c,_⟩
  ·have Q9:i<s.H.length:=by rw[ac];exact a
   have:=D i s.H[i] (by simp[Q9]);rw[this]at d;injection d with d
   exact .inl ⟨i,s.H[i],a,W,by simp[Q9],d.symm⟩
  ·rw[J j c]at d;exact .inr ⟨c,by rw[p];exact d⟩
 have d6: ∀(j:Nat) ob,(∀i,i<H.length->ρ i≠j)->σ.H[j]?=some ob->ob.live-> ∀(i:Nat) u,H[i]?=some u->u.live->σ.l (ρ i)≠σ.l j:=by
  intro j ob d c t i u a o B;have g:σ.H[ρ i]?=some (cM ρ u):=by rw[p];exact w i u a
  exact d i (fy a) (A.inj _ _ _ _ g c ((fF ρ u).2 o) t B)
 have RS: ∀(j:Nat) ob,(∀i,i<H.length->ρ i≠j)->σ.H[j]?=some ob->ob.live->s.w.heap[σ.l j]?=σ.w.heap[σ.l j]?:=by
  intro j ob d c t;refine I.cy (σ.l j) ((A.obj j ob c).lt t) ?_;intro i u a o;exact d6 j ob d c t i u a o
 have i7:dW σ τ:=by
  refine⟨T.cell,?_,?_,?_,?_,?_,?_⟩
  ·intro j X d;rcases U j with⟨i,a,rfl,_⟩|⟨c,_⟩
   ·have g:=w i H[i] (by simp[a]);rw[p,g]at d;injection d with d
    cases o:H[i]with
    |box Y=>
     obtain⟨⟨c1,l⟩,n⟩:=T.box i Y (by show H[i]?=_;simp[a,o]);exact⟨⟨_,D i _ l⟩,by show x (ρ i)=_;rw[z i a];exact n⟩
    |_=>rw[o]at d;simp[cM]at d
   ·exact⟨⟨X,by show y[j]?=_;rw[J j c,<-p];exact d⟩,C j c⟩
  ·intro j X d;rcases U j with⟨i,a,rfl,_⟩|⟨c,_⟩
   ·have g:=w i H[i] (by simp[a]);rw[p,g]at d;injection d with d
    cases o:H[i]with
    |map Y=>
     obtain⟨⟨c1,l⟩,n⟩:=T.map i Y (by show H[i]?=_;simp[a,o]);exact⟨⟨_,D i _ l⟩,by show x (ρ i)=_;rw[z i a];exact n⟩
    |_=>rw[o]at d;simp[cM]at d
   ·exact⟨⟨X,by show y[j]?=_;rw[J j c,<-p];exact d⟩,C j c⟩
  ·intro j X d;rcases U j with⟨i,a,rfl,_⟩|⟨c,_⟩
   ·have g:=w i H[i] (by simp[a]);rw[p,g]at d;injection d with d
    cases o:H[i]with
    |iter Y=>
     obtain⟨⟨c1,l⟩,n⟩:=T.iter i Y (by show H[i]?=_;simp[a,o]);exact⟨⟨_,D i _ l⟩,by show x (ρ i)=_;rw[z i a];exact n⟩
    |_=>rw[o]at d;simp[cM]at d
   ·exact⟨⟨X,by show y[j]?=_;rw[J j c,<-p];exact d⟩,C j c⟩
  ·intro j d;rcases U j with⟨i,a,rfl,_⟩|⟨c,_⟩
   ·have g:=w i H[i] (by simp[a]);rw[p,g]at d;injection d with d
    cases o:H[i]with
    |dead=>
     have l:=T.dead i (by show H[i]?=_;simp[a,o]);exact D i _ l
    |_=>rw[o]at d;simp[cM]at d
   ·show y[j]?=_;rw[J j c,<-p];exact d
  ·intro j rg ec aL X d;rcases U j with⟨i,a,rfl,_⟩|⟨c,_⟩
   ·have g:=w i H[i] (by simp[a]);rw[p,g]at d;injection d with d
    cases o:H[i]with
    |row a0 e0 v0 Y=>
     rw[o]at d;simp only[cM]at d;cases d;rcases T.row i _ _ _ Y (by show H[i]?=_;rw[auO a,o])with l|⟨a1,v1,c1,l,n,E⟩
     ·exact .inl (D i _ l)
     ·refine .inr ⟨a1,v1,_,D i _ l,n,λhv=> ?_⟩;obtain⟨y1,y2,y3⟩:=E hv;exact⟨by show x (ρ i)=_;rw[z i a];exact y1,by rw[da,da];exact y2,y3⟩
    |_=>rw[o]at d;simp[cM]at d
   ·refine .inr ⟨rg,aL,X,by show y[j]?=_;rw[J j c,<-p];exact d,auK _,λ_=>⟨C j c,rfl,λPB rx ha=> ?_⟩⟩;exact⟨PB,by rw[<-RS j _ c d trivial]at ha;exact ha,W⟩
  ·intro j d;rcases U j with⟨i,a,rfl,_⟩|⟨c,_⟩
   ·obtain⟨ob,l⟩:=T.has i H[i] (by show H[i]?=_;simp[a]);exact⟨_,D i _ l⟩
   ·exact⟨_,by show y[j]?=_;rw[J j c,<-p];exact d⟩
 have rt: ∀(j:Nat) ob,(∀i,i<H.length->ρ i≠j)->σ.H[j]?=some ob->gZ τ (σ.l j) ob:=by
  intro j ob d c;by_cases t:ob.live
  ·exact(A.obj j ob c).cK i7 (λu o=>by show s.w.heap[σ.l j]?=_;rw[RS j ob d c t];exact o)
  ·cases ob<;>first|trivial|exact absurd trivial t
 refine⟨v,dH ρ r0,τ,B,Uy,⟨r0,s.H,QF,ac,W,by simp[τ,y],D,J⟩,?_,Wp _ _ hr,i7,?_⟩
 ·refine⟨?_,?_,?_,?_,?_⟩
  ·intro j ob d;rcases V j ob d with⟨i,G,a,rfl,g,rfl⟩|⟨c,g⟩
   ·show gZ τ (x (ρ i)) _;rw[z i a];exact gZ.up (σ:=s) (τ:=τ) (ρ:=ρ) W Wp (SO.obj i G g)
   ·show gZ τ (x j) _;rw[C j c];exact rt j ob c g
  ·intro j1 Z u N c g o S B;have Q:x j1=x Z:=B;rcases V j1 u c with⟨i1,x0,S8,rfl,Vz,rfl⟩|⟨S3,YK⟩
   ·rcases V Z N g with⟨i2,y0,Th,rfl,d7,rfl⟩|⟨ah,co⟩
    ·rw[z i1 S8,z i2 Th]at Q;rw[SO.inj _ _ _ _ Vz d7 ((fF ρ _).1 o) ((fF ρ _).1 S) Q]
    ·exfalso;rw[z i1 S8,C Z ah]at Q;rcases I.loc i1 x0 Vz ((fF ρ _).1 o)with l|⟨QK,l,n,E⟩
     ·have:=(A.obj Z N co).lt S;have L:F.w.heap.size=σ.w.heap.size:=rfl;omega
     ·exact d6 Z N ah co S i1 QK l n (E.symm.trans Q)
   ·rcases V Z N g with⟨i2,y0,Th,rfl,d7,rfl⟩|⟨ah,co⟩
    ·exfalso;rw[C j1 S3,z i2 Th]at Q;rcases I.loc i2 y0 d7 ((fF ρ _).1 S)with l|⟨QK,l,n,E⟩
     ·have:=(A.obj j1 u YK).lt o;have L:F.w.heap.size=σ.w.heap.size:=rfl;omega
     ·exact d6 j1 u S3 YK o i2 QK l n (E.symm.trans Q.symm)
    ·rw[C j1 S3,C Z ah]at Q;exact A.inj _ _ _ _ YK co o S Q
  ·intro b q;show s.O b q↔_;rw[SO.own];constructor
   ·rintro((c|⟨j,ob,h0,c,g,l⟩)|⟨i,ob,c,g,l⟩)
    ·exact .inl c
    ·exact .inr ⟨j,ob,by show y[j]?=_;rw[J j h0,<-p];exact c,by show x j=b;rw[C j h0];exact g,l⟩
    ·have a:i<H.length:=by rw[<-ac];exact fy c
     exact .inr ⟨ρ i,cM ρ ob,D i ob c,by show x (ρ i)=b;rw[z i a];exact g,(qk ρ _ q).2 l⟩
   ·rintro(c|⟨j,ob,c,g,l⟩)
    ·exact .inl (.inl c)
    ·have Vg:x j=b:=g;rcases V j ob c with⟨i,G,a,rfl,n,rfl⟩|⟨n,E⟩
     ·rw[z i a]at Vg;exact .inr ⟨i,G,n,Vg,(qk ρ _ q).1 l⟩
     ·rw[C j n]at Vg;exact .inl (.inr ⟨j,ob,n,E,Vg,l⟩)
  ·intro j ob d t q ho;rcases V j ob d with⟨i,G,a,rfl,n,rfl⟩|⟨n,E⟩
   ·have L:Oo (s.l i) q:=by rw[<-z i a];exact ho
    exact SO.sep i G n ((fF ρ _).1 t) q (.inl L)
   ·have L:Oo (σ.l j) q:=by rw[<-C j n];exact ho
    exact A.sep j ob E t q L
  ·exactλb q c=>SO.nt b q (.inl c)
 ·refine⟨I.os,I.output,I.tape,I.size,?_,?_⟩
  ·intro b hb hn;refine I.cy b hb ?_;intro i ob a t;exact hn (ρ i) (cM ρ ob) (by rw[p];exact w i ob a) ((fF ρ _).2 t)
  ·intro j ob d t;rcases V j ob d with⟨i,G,a,rfl,n,rfl⟩|⟨n,E⟩
   ·rcases I.loc i G n ((fF ρ _).1 t)with L|⟨QK,L,h7,h8⟩
    ·exact .inl (by show _<=x (ρ i);rw[z i a];exact L)
    ·exact .inr ⟨cM ρ QK,by rw[p];exact w i QK L,(fF ρ _).2 h7,by show x (ρ i)=_;rw[z i a];exact h8⟩
   ·exact .inr ⟨ob,E,t,C j n⟩
mutual
def CM(n:Nat):M->Bool
 | .d _=>true
 | .ref i _=>Nat.blt i n
 | .bH i _ _=>Nat.blt i n
 | .eI i _ _=>Nat.blt i n
 | .mp i=>Nat.blt i n
 | .it i=>Nat.blt i n
 | .agg cs=>xT n cs
 | .fn _ cs=>xT n cs
 | .dq cs=>xT n cs
 | .undef=>true
def xT(n:Nat):List M->Bool
 | []=>true
 |m::r=>CM n m&&xT n r
end
mutual
theorem jO{n:Nat} : ∀{m:M},CM n m=true->MB n m
 | .d e,_=> .d e
 | .ref b g,a=> .ref b g (bO a)
 | .bH b v d,a=> .bH b v d (bO a)
 | .eI b v d,a=> .eI b v d (bO a)
 | .mp b,a=> .mp b (bO a)
 | .it b,a=> .it b (bO a)
 | .agg c,a=> .agg c (re (by simpa [CM] using a))
 | .fn f c,a=> .fn f c (re (by simpa [CM] using a))
 | .dq c,a=> .dq c (re (by simpa [CM] using a))
 | .undef,_=> .undef
theorem re{n:Nat} : ∀{l:List M},xT n l=true-> ∀m∈l,MB n m
 | [],_=>by simp
 |c::d,a=>by
  rw[xT,avf]at a;intro m b;rcases auX.1 b with e|b
  ·rw[e];exact jO a.1
  ·exact re a.2 m b
end
def Ov(n:Nat):Ob->Bool
 | .box cs=>xT n cs
 | .row _ _ _ cs=>xT n cs
 | .map es=>es.all λe=>CM n e.2
 | .iter x=>CM n x
 | .dead=>true
 | .free=>true
theorem LV{n:Nat}{ob:Ob}(h:Ov n ob=true):NA n ob:=by
 cases ob with
 |box a=>exact re h
 |row c e v a=>exact re h
 |map f=>intro e b;exact jO (av5.1 h e b)
 |iter d=>exact jO h
 |dead=>trivial
 |free=>trivial
theorem LW{n:Nat}{H:Hp}(h:H.all (Ov n)=true):HB n H:= λa b=>LV (av5.1 h a b)
mutual
theorem tB: ∀m:M,dH (λi=>i) m=m
 | .d c=>by rw[dH]
 | .ref i e=>by rw[dH]
 | .bH i v b=>by rw[dH]
 | .eI i v b=>by rw[dH]
 | .mp i=>by rw[dH]
 | .it i=>by rw[dH]
 | .agg a=>by rw[dH,nz a]
 | .fn d a=>by rw[dH,nz a]
 | .dq a=>by rw[dH,nz a]
 | .undef=>by rw[dH]
theorem nz: ∀l:List M,jp (λi=>i) l=l
 | []=>by rw[jp]
 |m::a=>by rw[jp,tB m,nz a]
end
theorem xe(ob:Ob):cM (λi=>i) ob=ob:=by
 cases ob with
 |box a=>simp[cM,nz]
 |row b e v a=>simp[cM,nz]
 |map d=>simp[cM,tB]
 |iter c=>simp[cM,tB]
 |dead=>rfl
 |free=>rfl
theorem CT.suffix{P:Program}{f:Nat}{ms:List M}{H:Hp}{post:M->Hp->Prop}(F:Hp)(i:HB H.length H)(j: ∀m∈ms,MB H.length m)
  (h:CT P f ms H λr k=>k.length=H.length/\post r k):CT P f ms (H++F) λr k=> ∃H',k=H'++F/\H'.length=H.length/\post r H':=by
 have d:=CT.frame (K:=H++F) (λa=>a) (λa g _ _ h=>h) (λa p b=>by rw[xe,auL (fy b)];exact b) i j h;rw[nz]at d;refine d.mono ?_;rintro r k ⟨q,H',l,c,rfl,s,n,o⟩;rw[tB];refine⟨H',?_,c,l⟩;apply awt;intro a;rcases auM a H.length with b|b
 ·have e:=n a H'[a] (by simp[c,b]);rw[xe]at e;rw[e,auL (by omega)];simp[c,b]
 ·rw[o a (λg t u=>by omega),auR b,auR (by omega),c]
theorem CT.drop{P:Program}{f:Nat}{ms:List M}{H:Hp}{post:M->Hp->Prop}(n:Nat)(hn:H.length<=n)
  (h:CT P f ms H λC J=>n<=J.length/\MB n C/\HB n (J.take n)/\post C (J.take n)):CT P f ms H post:=by
 intro σ R t d6 S Sj;refine(h σ R t d6 S Sj).mono ?_;rintro e w' ⟨v,C,l,he,Uy,⟨S1,hr,hB,hp⟩,E,ac,u,A⟩
 let τ:Sg:=⟨l.w,λb p=>R b p\/ ∃(a:Nat) (g:Ob),(l.H.take n)[a]?=some g/\l.l a=b/\g.kE p,l.l,l.H.take n⟩
 have s: ∀(a:Nat) g,(l.H.take n)[a]?=some g->a<n/\l.H[a]?=some g:=by
  intro a g c;rw[awB]at c;split at c
  ·exact⟨by assumption,c⟩
  ·cases c
 have o: ∀(a:Nat) g,a<n->l.H[a]?=some g->(l.H.take n)[a]?=some g:=by
  intro a g c h;rw[awB,au2 c];exact h
 have T: ∀b p,¬l.O b p-> ¬τ.O b p:=by
  intro b p j i;apply j;rw[E.own];rcases i with i|⟨a,g,i,B,h4⟩
  ·exact .inl i
  ·exact .inr ⟨a,g,(s a g i).2,B,h4⟩
 have d7:FQ (λa=>a) n τ l->True:= λ_=>trivial
 have X: ∀m v,MB n m->RM l m v->RM τ m v:=by
  intro m v K
  induction K generalizing v with
  |d D=>intro h;cases h with
   |d h=>exact .d (h.mono λb p v j i=>⟨j,T b p i⟩)
  |ref a I c=>intro h;cases h with
   |ref a I k h=>exact .ref a I k (o a _ c h)
  |bH a w Y c=>intro h;cases h with
   |bH a w Y Z ah N L=>
    refine .bH a w Y Z ah ?_ λr q k h=>L r q k (s a _ h).2
    rcases N with h|⟨r,q,F,k,h,i⟩
    ·exact .inl (o a _ c h)
    ·exact .inr ⟨r,q,F,k,o a _ c h,i⟩
  |eI a w I c=>intro h;cases h with
   |eI a w I b N L=>
    refine .eI a w I b ?_ λr q k h=>L r q k (s a _ h).2
    rcases N with h|⟨r,q,F,k,h,i⟩
    ·exact .inl (o a _ c h)
    ·exact .inr ⟨r,q,F,k,o a _ c h,i⟩
  |mp a c=>intro h;cases h with
   |mp a es h=>exact .mp a es (o a _ c h)
  |it a c=>intro h;cases h with
   |it a D h=>exact .it a D (o a _ c h)
  |agg k U G=>intro h;cases h with
   |agg k t x hf h=>exact .agg k t x hf λa m v j i=>G m (auQ j) v (h a m v j i)
  |fn f k U G=>intro h;cases h with
   |fn f k t x h=>exact .fn f k t x λa m v j i=>G m (auQ j) v (h a m v j i)
  |dq k U G=>intro h;cases h with
   |dq k t x h=>exact .dq k t x λa m v j i=>G m (auQ j) v (h a m v j i)
  |undef=>intro h;exact .undef v
 have co: ∀(a:Nat) g,(l.H.take n)[a]?=some g->gZ τ (l.l a) g:=by
  intro a g c;have j:=E.obj a g (s a g c).2;have i:=hB g (auQ c);refine gZ.down (σ:=τ) (τ:=l) (ρ:= λa=>a) (n:=n) W (λm v K V=>X m v K (by rw[tB]at V;exact V)) i (by rw[xe];exact j)
 refine⟨v,C,τ,he,Uy,hp,?_,X C v hr ac,?_,?_⟩
 ·refine⟨co,?_,λb p=>avU,?_,E.nt⟩
  ·intro a O D Q c hj;exact E.inj a O D Q (s a D c).2 (s O Q hj).2
  ·intro a g c;exact E.sep a g (s a g c).2
 ·have y: ∀(a:Nat) g,σ.H[a]?=some g->a<n:=by
   intro a g c;rw[S]at c;have:=fy c;omega
  refine⟨?_,?_,?_,?_,?_,?_,λa c=>let⟨g,j⟩:=u.has a _ c;⟨g,o a _ (y a _ c) j⟩⟩
  ·intro b p v j i;have B:=u.cell b p v j i;exact⟨B.1,T b p B.2⟩
  ·intro a k c;obtain⟨⟨z,j⟩,i⟩:=u.box a k c;exact⟨⟨z,o a _ (y a _ c) j⟩,i⟩
  ·intro a k c;obtain⟨⟨z,j⟩,i⟩:=u.map a k c;exact⟨⟨z,o a _ (y a _ c) j⟩,i⟩
  ·intro a k c;obtain⟨⟨z,j⟩,i⟩:=u.iter a k c;exact⟨⟨z,o a _ (y a _ c) j⟩,i⟩
  ·intro a c;exact o a _ (y a _ c) (u.dead a c)
  ·intro a r q w k c;rcases u.row a r q w k c with j|⟨Sq,F,z,j,i,B⟩
   ·exact .inl (o a _ (y a _ c) j)
   ·exact .inr ⟨Sq,F,z,o a _ (y a _ c) j,i,B⟩
 ·refine⟨A.os,A.output,A.tape,A.size,A.cy,?_⟩;intro a g c x;exact A.loc a g (s a g c).2 x
theorem Sy{P:Program}{f:Nat}{ds:List D}{post:List D->Prop}{H:Hp}(h:PT P f ds post):CT P f (ds.map .d) H λr k=>(∃d,r=v7 (d.map .d)/\post d)/\k=H:=by
 intro a x n l o j;refine(h a.O a.w n l.DK ⟨by simpa using j.1,λm d v c g=> ?_⟩).mono ?_
 ·have:=j.2 m (.d d) v (by simp[c]) g;cases this with
  |d h=>exact h
 ·rintro e p ⟨v,r,q,s,i,t⟩;refine⟨v,_,{a with w:=p},q,rfl,⟨⟨r,rfl,s⟩,o⟩,?_,t.FH (λb u v c g=>⟨c,g⟩),dW.ext i,?_⟩
  ·exact l.ext i
  ·exact bj.ext i
theorem gF{c:Type} : ∀{l:List (Nat×c)} {t u:Nat} {v:c},get (del l t) u=some v->u≠t/\get l u=some v
 | [],t,u,v,a=>by simp[del,get]at a
 |(d,i)::j,t,u,v,a=>by
  rw[del]at a;cases b:Nat.beq d t with
  |true=>
   rw[b,avx]at a;obtain⟨f,g⟩:=gF a;refine⟨f,?_⟩;rw[bQ,auU]
   ·exact g
   ·intro e;exact f (e.symm.trans (auZ b))
  |false=>
   rw[b,aws,bQ]at a;rw[bQ];by_cases e:d=u
   ·rw[au2 e]at a⊢;refine⟨λh=> ?_,a⟩;subst e;subst h;simp at b
   ·rw[auU e]at a⊢;exact gF a
theorem cE.freeze{X:bJ}{σ:Sg}{Pw:Nat->Nat}{st:St}{a:Act}(hi:cE X σ Pw st a){t:Nat}{ds:List D}(w:get st.bx t=some (ds.map .d))(H:get st.sl t=some (.loc t 0)):
  ∃τ:Sg,τ.w=σ.w/\cE X τ Pw ⟨(t,.m (.d (.bm ds 0)))::st.sl,del st.bx t,st.H⟩ a:=by
 let A:Nat->Nat->Prop:= λb g=>o8 X.kL Pw (del st.bx t) b g\/ ∃(c:Nat) (m:Ob),σ.H[c]?=some m/\σ.l c=b/\m.kE g
 let τ:Sg:=⟨σ.w,A,σ.l,σ.H⟩
 have z: ∀b g,o8 X.kL Pw (del st.bx t) b g->o8 X.kL Pw st.bx b g:=by
  rintro b g (f|⟨i,h,n,k⟩)
  ·exact .inl f
  ·exact .inr ⟨i,h,(gF n).2,k⟩
 have I: ∀b g,¬σ.O b g-> ¬τ.O b g:=by
  intro b g n k;apply n;rw[hi.hinv.own];rcases k with k|k
  ·exact .inl (z b g k)
  ·exact .inr k
 have s:dW σ τ:=⟨λb g v n k=>⟨n,I b g k⟩,λ_ h f=>⟨⟨h,f⟩,rfl⟩,λ_ J f=>⟨⟨J,f⟩,rfl⟩,λc h f=>⟨⟨h,f⟩,rfl⟩,λ_ f=>f,
  λ_ Q R K h f=> .inr ⟨Q,K,h,f,auK _,λ_=>⟨rfl,rfl,λq G f=>⟨q,f,rfl⟩⟩⟩,λ_ f=>⟨_,f⟩⟩
 obtain⟨q,G,n,k,B⟩:=hi.box t _ w;have L: ∀g,¬A (Pw t) g:=by
  rintro g ((f|⟨i,h,o,p⟩)|⟨c,m,o,p,u⟩)
  ·exact hi.th t _ w g f
  ·obtain⟨u,M⟩:=gF o;exact u (hi.sP i t _ _ M w p)
  ·exact hi.hinv.sep c m o (Ob.j7 u) g (.inr ⟨t,_,w,p.symm⟩)
 refine⟨τ,W,hi.hH,hi.defers,hi.size,?_,?_,?_,?_,?_,?_,hi.mono.trans s,⟨hi.cy.os,hi.cy.output,hi.cy.tape,hi.cy.size,hi.cy.cy,hi.cy.loc⟩⟩
 ·intro i v j;rw[bQ]at j;by_cases e:t=i
  ·subst e;rw[au2 W]at j;injection j with j
   subst j;obtain⟨r,o,p⟩:=hi.slot t _ H;refine⟨r,o,?_⟩;cases p with
   |loc i S=>
    have C: ∀c,c<ds.length->c<q.size:=by intro c l;rw[k];simpa using l
    have F: ∀c,(l:c<ds.length)->q[c]?=some (q.getD c undef):=by intro c l;simp[C c l]
    refine .m (.d (.bm ds 0 (Pw t) 0 (λc=>q.getD c undef) ?_ ?_ ?_))
    ·intro c l;refine⟨?_,L _⟩;simp[dI,World.cell?,τ,n,C c l]
    ·intro c l;exact(B c (.d ds[c]) _ (by simp[l]) (F c l)).2
    ·intro c d E;have l:c<ds.length:=by rcases auM c ds.length with f|f;exact f;simp[auP f]at E
     have u:=(B c (.d d) _ (by simp[E]) (F c l)).1.mono s;cases u with
     |d f=>exact f
  ·rw[auU e]at j;obtain⟨r,o,p⟩:=hi.slot i v j;exact⟨r,o,p.mono s⟩
 ·intro i h j;exact(hi.box i h (gF j).2).cK s (λr x=>x)
 ·intro i v h N j O;exact hi.sP i v h N (gF j).2 (gF O).2
 ·intro i h j;exact hi.th i h (gF j).2
 ·intro i h j;exact hi.tj i h (gF j).2
 ·refine⟨λc m f=>(hi.hinv.obj c m f).cK s (λr x=>x),hi.hinv.inj,λb g=>avU,λc m f P g y=>hi.hinv.sep c m f P g (z _ _ y),λb g y=>hi.hinv.nt b g (z _ _ y)⟩
theorem Inv.base{X:bJ}{st:St}{a:Act}{w:World}(h:Inv X st a w):X.s0.H.length<=st.H.length:=by
 obtain⟨f,o,rfl,l⟩:=h;have g:=l.mono;rw[<-l.hH];rcases auM f.H.length X.s0.H.length with k|k
 ·exfalso;have d:X.s0.H[f.H.length]?=some X.s0.H[f.H.length]:=by simp[k]
  have i:f.H[f.H.length]?=none:=by simp
  cases j:X.s0.H[f.H.length]with
  |box m=>rw[j]at d;obtain⟨⟨n,b⟩,_⟩:=g.box _ _ d;rw[i]at b;cases b
  |map m=>rw[j]at d;obtain⟨⟨n,b⟩,_⟩:=g.map _ _ d;rw[i]at b;cases b
  |iter m=>rw[j]at d;obtain⟨⟨n,b⟩,_⟩:=g.iter _ _ d;rw[i]at b;cases b
  |dead=>rw[j]at d;have b:=g.dead _ d;rw[i]at b;cases b
  |free=>rw[j]at d;obtain⟨_,b⟩:=g.free _ d;rw[i]at b;cases b
  |row a e v c=>
   rw[j]at d;rcases g.row _ _ _ _ _ d with b|⟨_,_,_,b,_⟩<;>(rw[i]at b;cases b)
 ·exact k
theorem TC.base{X:bJ}{c:Code}{q:Exit->St->Prop}{st:St}(k:X.s0.H.length<=st.H.length->TC X c st q):TC X c st q:=
 λb d a=>k a.base b d a
theorem Inv.mi{X:bJ}{sl:List (Nat×V)}{bx:List (Nat×List M)}{H:Hp}{a:Act}{w:World}{j ec aL:Nat}{cs:List M}(l:H[j]?=some (.row false ec aL cs))(h:Inv X ⟨sl,bx,H⟩ a w):
  Inv X ⟨sl,bx,H.set j (.row true ec aL cs)⟩ a w:=by
 obtain⟨d,p,rfl,e⟩:=h;have q:d.H[j]?=some (.row false ec aL cs):=by rw[e.hH];exact l
 have r:=e.hinv.obj j _ q;obtain⟨g,s,G,I,J,t⟩:=e.rR (j:=j) (b':=d.l j) (ob:= .row false ec aL cs) (QK:= .row true ec aL cs) (w':=d.w) l trivial W W W (auK _)
  (λc _ _=>rfl) (.inl W) (λF v u K=>absurd (Or.inl W) u) ⟨rfl,.inr ⟨rfl,rfl,rfl,λf i h=>⟨f,h,rfl⟩⟩⟩ (by
   intro g x y _ _;obtain⟨z,f,i,E,o,A,B,C,D,n⟩:=r;exact⟨z,f,i,E,o,by rw[y];exact A,B,C,D,λk m v a b=>⟨(n k m v a b).1.mono x,(n k m v a b).2⟩⟩)
 exact⟨g,p,s,t⟩
def vo(H:Hp)(rows:List (List D)):M:=match rows with
 | []=> .d (.sl [])
 |_::r=> .bH H.length 0 (r.length+1)
def kz(H:Hp)(ec:Nat)(rows:List (List D)):Hp:=match rows with
 | []=>H
 |q::r=>H++ [.row true ec 0 (bf (q::r))]
def CN(H:Hp)(ec:Nat)(r1 r2:List (List D)):Hp:=match r1,r2 with
 | [],[]=>H
 | [],q::r=>H++ [.row true ec 0 (bf (q::r))]
 |q::r,r2=>H++ [.row true ec 1 (bf (q::r)++bf r2)]
theorem get_mem{b:Type} : ∀{l:List (Nat×b)} {t:Nat} {v:b},get l t=some v->(t,v)∈l
 | [],t,v,a=>by simp[get]at a
 |(c,d)::f,t,v,a=>by
  rw[bQ]at a;by_cases e:c=t
  ·rw[au2 e]at a;injection a with a;subst a;subst e;simp
  ·rw[auU e]at a;exact au7 _ (get_mem a)
variable{X:bJ}{ops:Array Oper}{rest:List Oper}{post:St->Prop}{sl:List (Nat×V)}{bx:List (Nat×List M)}{H:Hp}{d ty:Nat}{pos:String}{af:Array Edge}
theorem xf{T:Nat}{cs:List M}[a:zd X.P T cs](b:Nat.blt d X.n=true)(k:TL X ops rest ⟨(d,.m (.ref H.length 0))::sl,bx,H++ [Ob.box cs]⟩ post):
  TL X ops (⟨some d,.alloc T,ty,pos,af,none⟩::rest) ⟨sl,bx,H⟩ post:=by
 obtain⟨e,f,c⟩:=a.h;subst c;exact Qi W W b FK k
end Go.Mt
namespace Go.Mt.eH
inductive Rh where
 |no
 |ix (l:List Nat)
 |all
structure Ef where
 d:Option Nat
 v:V
 rb:List Nat
 wb:List (Nat×List M)
 nw:Option Nat
 rh:Rh
 wh:List (Nat×Ob)
 tl:Option Hp
def front(N:Nat)(H:Hp)(wh:List (Nat×Ob)):Hp:=(List.range N).map λi=>match get wh i with|some ob=>ob|none=>H.getD i .dead
def Ef.app(N:Nat)(e:Ef)(st:St):St:=
 ⟨match e.d with|some d=>(d,e.v)::st.sl|none=>st.sl,e.wb++st.bx,front N st.H e.wh++(match e.tl with|some t=>t|none=>st.H.drop N)⟩
theorem kg(N:Nat)(H:Hp)(a:List (Nat×Ob)):(front N H a).length=N:=by simp[front]
theorem rV(N:Nat)(H:Hp)(a:List (Nat×Ob))(t:Hp)(i:Nat)(hi:i<N):(front N H a++t).getD i .dead=match get a i with|some ob=>ob|none=>H.getD i .dead:=by
 have b:i<(front N H a).length:=by rw[kg];exact hi
 rw[awg,auL b];simp[front,hi]
theorem qm(N:Nat)(H:Hp)(a:List (Nat×Ob))(t:Hp):(front N H a++t).drop N=t:=by
 have b:=kg N H a;rw[aw3 (by omega)];simp[b]
structure Ag(N:Nat)(ops:Array Oper)(o:Oper)(e:Ef)(st PO:St):Prop where
 sl: ∀t∈o.looksAt ops,get PO.sl t=get st.sl t
 bx: ∀t∈e.rb++e.wb.map (·.1),get PO.bx t=get st.bx t
 ix: ∀l,e.rh= .ix l-> ∀i∈l,PO.H.getD i .dead=st.H.getD i .dead
 all:e.rh= .all->(∀i,i<N->PO.H.getD i .dead=st.H.getD i .dead)/\PO.H.drop N=st.H.drop N
 len:N<=PO.H.length
 nw: ∀d,e.nw=some d-> ∀t o,get PO.sl t≠some (.loc d o)
def mg(N:Nat)(X:bJ)(ops:Array Oper)(o:Oper)(e:Ef)(st:St):Prop:= ∀PO,Ag N ops o e st PO->JO X ops o PO (e.app N PO)
inductive qh(N:Nat)(X:bJ)(ops:Array Oper):List Oper->St->List Ef->St->Prop where
 |nil (st:St):qh N X ops [] st [] st
 |cons {o:Oper} {os:List Oper} {st PD:St} {e:Ef} {es:List Ef} (h:mg N X ops o e st) (hd:e.d=o.dst) (k:qh N X ops os (e.app N st) es PD):qh N X ops (o::os) st (e::es) PD
def jq(e f:Ef):Bool:=match f.rh with
 | .no=>false
 | .ix l=>e.wh.any λp=>has l p.1
 | .all=>(e.wh.any λp=>Nat.ble 0 p.1)||e.tl.isSome
def A_(N:Nat)(e:Ef):Bool:=
 (match e.rh with
 | .no=>(match e.wh with| []=>true|_=>false)&&e.tl.isNone
 | .ix l=>(e.wh.all λp=>has l p.1)&&(l.all λi=>Nat.blt i N)&&e.tl.isNone
 | .all=>e.wh.all λp=>Nat.blt p.1 N)
def dU(ops:Array Oper)(x y:Oper)(e f:Ef):Bool:=
 (match x.dst with|some d=>has (slotsOf ops y) d|none=>false)||(match y.dst with|some d=>has (slotsOf ops x) d|none=>false)||
 (e.wb.any λp=>has (f.rb++f.wb.map (·.1)) p.1)||(f.wb.any λp=>has (e.rb++e.wb.map (·.1)) p.1)||
 jq e f||jq f e||
 (match e.nw,f.v with|some d,.loc u _=>Nat.beq u d|_,_=>false)
def rP(e f:Ef):Bool:=match f.nw,e.v with
 |some d,.loc u _=>Nat.beq u d
 |_,_=>false
def jb(ops:Array Oper)(x:Oper)(e:Ef)(i:Nat):List Oper->List Ef->List (List Nat)->Bool
 |y::ys,f::fs,b::bs=>(!dU ops x y e f||has b i)&& !rP e f&&jb ops x e i ys fs bs
 |_,_,_=>true
def jV(ops:Array Oper):Nat->List Oper->List Ef->List (List Nat)->Bool
 |i,x::xs,e::es,b::bs=>jb ops x e i xs es bs&&jV ops (i+1) xs es bs
 |_,_,_,_=>true
def jW(sl:List (Nat×V)):List Ef->Bool
 | []=>true
 |e::es=>(match e.nw with|some d=>iH d sl|none=>true)&&jW sl es
def gL(N:Nat)(ops:List Oper)(sl:List (Nat×V))(es:List Ef):Bool:=
 tw 0 ops&&jV ops.toArray 0 ops es (jU ops)&&jW sl es&&es.all (A_ N)
def S(N:Nat)(st:St)(es:List Ef)(PA:Nat->Bool):Nat->St
 |0=>st
 |k+1=>match es[k]? with
  |some e=>bif PA k then e.app N (S N st es PA k)else S N st es PA k
  |none=>S N st es PA k
structure Part(N:Nat)(α:Type)(es:List Ef)where
 r:St->α
 W:Nat->Bool
 c:Nat->α
 cK: ∀k e s,es[k]?=some e->W k=false->r (e.app N s)=r s
 write: ∀k e s,es[k]?=some e->W k=true->r (e.app N s)=c k
section parts
variable{N:Nat}{α:Type}{es:List Ef}(p:Part N α es){st:St}
theorem nu(L a:Nat->Bool): ∀n,(∀k,k<n->p.W k=true->L k=a k)->p.r (S N st es L n)=p.r (S N st es a n)
 |0,_=>rfl
 |n+1,f=>by
  have d:=nu L a n (λk h=>f k (by omega));simp only[S];cases c:es[n]? with
  |none=>exact d
  |some e=>
   simp only;cases b:p.W n with
   |false=>
    cases i:L n<;>cases g:a n<;>simp only[avx,aws]<;>(try rw[p.cK n e _ c b])<;>(try rw[p.cK n e _ c b])<;>exact d
   |true=>
    have:=f n (by omega) b;rw[this];cases g:a n<;>simp only[avx,aws]
    ·exact d
    ·rw[p.write n e _ c b,p.write n e _ c b]
theorem rQ(L:Nat->Bool)(i:Nat): ∀n,i<=n->(∀k,i<=k->k<n->p.W k=true->L k=false)->p.r (S N st es L n)=p.r (S N st es L i)
 |0,f,_=>by
  grind
 |n+1,f,b=>by
  by_cases e:i=n+1
  ·subst e;rfl
  ·have a:=rQ L i n (by omega) (λk g j=>b k g (by omega));simp only[S];cases h:es[n]? with
   |none=>exact a
   |some e=>
    simp only;cases c:L n with
    |false=>exact a
    |true=>
     simp only[avx];cases d:p.W n with
     |false=>rw[p.cK n e _ h d];exact a
     |true=>rw[b n (by omega) (by omega) d]at c;cases c
theorem mP(L:Nat->Bool)(i m:Nat)(hi:i<=m)(b: ∀a,a<i->p.W a=true->L a=true)(c: ∀a,i<=a->a<m->p.W a=true->L a=false):
  p.r (S N st es L m)=p.r (S N st es (λ_=>true) i):=
 (rQ p L i m hi c).trans (nu p L _ i λa d e=>b a d e)
theorem tz(L:Nat->Bool)(i m:Nat)(hi:i<m)(e:Ef)(a:es[i]?=some e)(c:L i=false)(d:p.W i=true-> ∀k,i<k->k<m->p.W k=true->L k=false):
  p.r (S N st es (λk=>if k=i then true else L k) m)=p.r (e.app N (S N st es L m)):=by
 cases b:p.W i with
 |true=>
  rw[p.write i e _ a b];have:=rQ p (st:=st) (λk=>if k=i then true else L k) (i+1) m (by omega) (λk f g h=>by
   grind)
  rw[this];simp only[S,a,awr,avx];exact p.write i e _ a b
 |false=>
  rw[p.cK i e _ a b];exact nu p _ _ m λk j l=>by
   grind
end parts
section agx
variable{N:Nat}
def k9(es:List Ef)(t:Nat):Part N (Option V) es where
 r s:=get s.sl t
 W k:=match es[k]? with
  |some e=>match e.d with|some d=>Nat.beq d t|none=>false
  |none=>false
 c k:=match es[k]? with|some e=>some e.v|none=>none
 cK k e s he hw:=by
  simp only[he]at hw;unfold Ef.app;cases hd:e.d with
  |none=>rfl
  |some d=>
   simp only[hd]at hw;have:d≠t:=by rintro rfl;simp at hw
   simp[bQ,this]
 write k e s he hw:=by
  simp only[he]at hw⊢;unfold Ef.app;cases hd:e.d with
  |none=>simp[hd]at hw
  |some d=>
   simp only[hd]at hw;have:=auZ hw;subst this;simp[bQ]
def mQ(es:List Ef)(t:Nat):Part N (Option (List M)) es where
 r s:=get s.bx t
 W k:=match es[k]? with
  |some e=>has (e.wb.map (·.1)) t
  |none=>false
 c k:=match es[k]? with|some e=>get e.wb t|none=>none
 cK k e s he hw:=by
  simp only[he]at hw;have h:=j9 e.wb t;rw[hw]at h;show get (e.wb++s.bx) t=_;rw[get_append];cases hg:get e.wb t with
  |none=>rfl
  |some v=>rw[hg]at h;cases h
 write k e s he hw:=by
  simp only[he]at hw⊢;have h:=j9 e.wb t;rw[hw]at h;show get (e.wb++s.bx) t=_;rw[get_append];cases hg:get e.wb t with
  |none=>rw[hg]at h;cases h
  |some v=>rfl
def wk(es:List Ef)(i:Nat)(hi:i<N):Part N Ob es where
 r s:=s.H.getD i .dead
 W k:=match es[k]? with
  |some e=>has (e.wh.map (·.1)) i
  |none=>false
 c k:=match es[k]? with|some e=>(get e.wh i).getD .dead|none=> .dead
 cK k e s he hw:=by
  simp only[he]at hw;have h:=j9 e.wh i;rw[hw]at h;unfold Ef.app;rw[rV _ _ _ _ _ hi];cases hg:get e.wh i with
  |none=>rfl
  |some v=>rw[hg]at h;cases h
 write k e s he hw:=by
  simp only[he]at hw⊢;have h:=j9 e.wh i;rw[hw]at h;unfold Ef.app;rw[rV _ _ _ _ _ hi];cases hg:get e.wh i with
  |none=>rw[hg]at h;cases h
  |some v=>rfl
def yy(es:List Ef):Part N Hp es where
 r s:=s.H.drop N
 W k:=match es[k]? with
  |some e=>e.tl.isSome
  |none=>false
 c k:=match es[k]? with|some e=>e.tl.getD []|none=>[]
 cK k e s he hw:=by
  simp only[he]at hw;unfold Ef.app;rw[qm];cases hh:e.tl with
  |none=>rfl
  |some h=>rw[hh]at hw;cases hw
 write k e s he hw:=by
  simp only[he]at hw⊢;unfold Ef.app;rw[qm];cases hh:e.tl with
  |none=>rw[hh]at hw;cases hw
  |some h=>rfl
theorem CO(st:St)(es:List Ef)(L:Nat->Bool)(h:N<=st.H.length): ∀n,N<=(S N st es L n).H.length
 |0=>h
 |n+1=>by
  simp only[S];cases a:es[n]? with
  |none=>exact CO st es L h n
  |some e=>
   cases b:L n with
   |false=>exact CO st es L h n
   |true=>simp[Ef.app,kg]
theorem CP{A a:Hp}(d:N<=A.length)(e:N<=a.length)(f: ∀b,b<N->A.getD b .dead=a.getD b .dead)(c:A.drop N=a.drop N):A=a:=by
 rw[<-avC N A,<-avC N a,c]
 congr 1
 apply List.ext_getElem
 ·simp;omega
 ·grind
theorem kO{m:Array Oper}{x:Oper}{e:Ef}{i:Nat} : ∀{h:List Oper} {k:List Ef} {l:List (List Nat)},jb m x e i h k l=true->
  ∀(j:Nat) y f b,h[j]?=some y->k[j]?=some f->l[j]?=some b->(dU m x y e f=true->i∈b)/\rP e f=false
 | [],_,_,_,j,y,f,b,a,_,_=>by simp at a
 |_::_,[],_,_,j,y,f,b,_,c,_=>by simp at c
 |_::_,_::_,[],_,j,y,f,b,_,_,d=>by simp at d
 |o::h,p::k,q::l,g,j,y,f,b,a,c,d=>by
  simp only[jb,avf,awD,avW]at g;cases j with
  |zero=>
   simp at a c d;subst a;subst c;subst d;refine⟨λr=> ?_,g.1.2⟩;rcases g.1.1 with n|n
   ·grind
   ·exact gr.1 n
  |succ j=>simp at a c d;exact kO g.2 j y f b a c d
theorem lI{m:Array Oper} : ∀{xs:List Oper} {es:List Ef} {l:List (List Nat)} {n:Nat},jV m n xs es l=true->
  ∀(i j:Nat) x e y f b,i<j->xs[i]?=some x->es[i]?=some e->xs[j]?=some y->es[j]?=some f->l[j]?=some b->(dU m x y e f=true->n+i∈b)/\rP e f=false
 | [],_,_,n,_,i,j,x,e,y,f,b,_,a,_,_,_,_=>by simp at a
 |_::_,[],_,n,_,i,j,x,e,y,f,b,_,_,c,_,_,_=>by simp at c
 |_::_,_::_,[],n,_,i,j,x,e,y,f,b,_,_,_,_,_,d=>by simp at d
 |o::xs,p::es,q::l,n,k,i,j,x,e,y,f,b,r,a,c,g,h,d=>by
  simp only[jV,avf]at k;cases j with
  |zero=>omega
  |succ j=>
   cases i with
   |zero=>
    simp at a c g h d;subst a;subst c;exact kO k.1 j y f b g h d
   |succ i=>
    simp at a c g h d;have:=lI k.2 i j x e y f b (by omega) a c g h d;rw[show n+(i+1)=n+1+i by omega];exact this
theorem gE(st:St)(es:List Ef): ∀k,S N st es (λ_=>true) k=(es.take k).foldl (λs e=>e.app N s) st
 |0=>rfl
 |k+1=>by
  simp only[S];cases c:es[k]? with
  |none=>
   have b:es.length<=k:=by grind
   rw[gE st es k,avK b,avK (by omega)]
  |some e=>
   simp only[avx];rw[gE st es k];have a:k<es.length:=by grind
   rw[au1 a,axg];have:es[k]=e:=by grind
   rw[this];rfl
theorem qh.spec{X:bJ}{c:Array Oper}{l:List Oper}{st d:St}{es:List Ef}(h:qh N X c l st es d):
  es.length=l.length/\d=es.foldl (λs e=>e.app N s) st/\ ∀(i:Nat) o e,l[i]?=some o->es[i]?=some e->mg N X c o e ((es.take i).foldl (λs e=>e.app N s) st)/\e.d=o.dst:=by
 induction h with
 |nil st=>exact⟨W,W,by simp⟩
 |cons h f n g=>
  obtain⟨j,k,m⟩:=g;refine⟨by simp[j],k,λi o e a b=> ?_⟩;cases i with
  |zero=>simp at a b;subst a;subst b;exact⟨h,f⟩
  |succ i=>simp at a b;exact m i o e a b
theorem draw{X:bJ}{id:Nat}{ops:List Oper}{st A:St}{es:List Ef}{post:Exit->St->Prop}(hm:X.P.follows .mixedOrders=true)(hN:N<=st.H.length)
  (Ue:qh N X ops.toArray ops st es A) (PG:gL N ops st.sl es=true) (QF:post .normal A):TC X (.region id ops.toArray true) st post:=by
 obtain⟨FS,pm,Ra⟩:=Ue.spec;simp only[gL,avf]at PG;obtain⟨⟨⟨qr,Z6⟩,Z7⟩,rg⟩:=PG;have hE:=qH qr;have hP:=lI Z6;have rt:A=S N st es (λ_=>true) ops.length:=by rw[gE,avK (by omega),pm]
 have Vw: ∀(a:Nat) e,es[a]?=some e-> ∃w b,ops[a]?=some w/\(jU ops)[a]?=some b/\e.d=w.dst/\a<ops.length:=by
  intro a e r;have p:a<es.length:=by rcases auM a es.length with d6|d6;exact d6;simp[auP d6]at r
  have O:ops[a]?=some ops[a]:=by simp[show a<ops.length by omega]
  have z:a<(jU ops).length:=by rw[o9];omega
  exact⟨ops[a],(jU ops)[a],O,by simp[z],(Ra a _ e O r).2,by omega⟩
 have Z8: ∀(a:Nat) e d,es[a]?=some e->e.nw=some d->iH d st.sl=true:=by
  have: ∀(u:List Ef),jW st.sl u=true-> ∀(a:Nat) e d,u[a]?=some e->e.nw=some d->iH d st.sl=true:=by
   intro u
   induction u with
   |nil=>intro _ a e d d6;simp at d6
   |cons g u R=>
    intro y a e d r T;simp only[jW,avf]at y;cases a with
    |zero=>simp at r;subst r;simpa [T] using y.1
    |succ a=>simp at r;exact R y.2 a e d r T
  exact this es Z7
 intro ac co hi;refine wp_region_any hm ?_;have Eq: ∀(Rx:Nat) (k:Array Bool) (ac:Act) (co:World),k.size=ops.length->qd ops.length (λa=>k.getD a false)=Rx->
   (∀n b,k.getD n false=true->(jU ops)[n]?=some b-> ∀c∈b,k.getD c false=true)->
   Inv X (S N st es (λa=>k.getD a false) ops.length) ac co->
   wpAny X.P .any ops.toArray (λe F G=> ∃A,post e A/\Inv X A F G) Rx k ac co:=by
  intro Rx
  induction Rx with
  |zero=>
   intro k ac co Qt hc QT ge;have hz:=uE hc;refine⟨?_,A,QF,?_⟩
   ·unfold Region.ready;rw[axp];intro c hi;simp at hi;have s:=hz c hi;have t:c<k.size:=by omega
    simp[t]at s;simp[t,s]
   ·have e:S N st es (λa=>k.getD a false) ops.length=A:=by
     rw[rt];have: ∀o,o<=ops.length->S N st es (λa=>k.getD a false) o=S N st es (λ_=>true) o:=by
      intro o
      induction o with
      |zero=>intro _;rfl
      |succ o R=>
       intro hn;simp only[S,R (by omega),hz o (by omega)]
     exact this _ (auK _)
    rw[<-e];exact ge
  |succ Rx R=>
   intro k ac co Qt hc QT ge;have i9: ∀c,c∈Region.ready .any ops.toArray k↔c<ops.length/\k.getD c true=false/\ ∃w,ops[c]?=some w/\ ∀e∈w.after.toList,Region.binds .any e=true->k.getD e.on false=true:=by
    intro c;unfold Region.ready;rw[awP];simp only[awp,List.size_toArray,avf,avW,axu];constructor
    ·rintro⟨s,t,P⟩;refine⟨s,t,ops[c],by simp[s],?_⟩;simp[s]at P;intro e r z;have Vy:e∈ops[c].after:=by simpa using r
     obtain⟨o,hn,rfl⟩:=axv.1 Vy;rcases P o hn with V|V
     ·rw[V]at z;cases z
     ·simpa using V
    ·rintro⟨s,t,w,P,V⟩;refine⟨s,t,?_⟩;have:ops[c]=w:=by simpa [s] using P
     simp[s,this];intro o hn;cases z:Region.binds .any w.after[o]with
     |false=>exact .inl rfl
     |true=>right;simpa using V w.after[o] (by simp) z
   refine⟨?_,?_⟩
   ·intro hr;obtain⟨c,s,t,P⟩:=zf (m:=ops.length) (f:= λa=>k.getD a false) (by omega);have:c∈Region.ready .any ops.toArray k:=by
     rw[i9];have SJ:c<k.size:=by omega
     refine⟨s,by simp[SJ]at t⊢;exact t,ops[c],by simp[s],?_⟩;intro e r z;have:=hE c ops[c] (by simp[s]) e r z;exact P e.on (by omega)
    rw[hr]at this;cases this
   ·intro c rx;obtain⟨S8,Th,w,O,Z9⟩:=(i9 c).1 rx;have SJ:c<k.size:=by omega
    have D:k.getD c false=false:=by simp[SJ]at Th⊢;exact Th
    have t3:c<es.length:=by omega
    obtain⟨e,r⟩: ∃e,es[c]?=some e:=⟨es[c],by simp[t3]⟩;have Xv:c<(jU ops).length:=by rw[o9];exact S8
    obtain⟨bi,Ux⟩: ∃b,(jU ops)[c]?=some b:=⟨(jU ops)[c],by simp[Xv]⟩;have i8: ∀a,a∈bi->k.getD a false=true:=by
     intro a p;obtain⟨ed,s,t,P⟩:=Bu O Ux p;have V:=Z9 ed s t;rcases P with P|⟨b',h5,_,h6⟩
     ·rw[<-P];exact V
     ·exact QT _ b' V h5 a h6
    have d7: ∀(a:Nat) f,a<c->es[a]?=some f-> ∀g,ops[a]?=some g->dU ops.toArray g w f e=true->k.getD a false=true:=by
     intro a f p j g l hc;have:=(hP a c g f w e bi p l j O r Ux).1 hc;simp at this;exact i8 a this
    have Q: ∀(a:Nat) f,c<a->es[a]?=some f-> ∀g,ops[a]?=some g->dU ops.toArray w g e f=true->k.getD a false=false:=by
     intro a f p j g l hc;obtain⟨_,b,_,z,_,_⟩:=Vw a f j;have:=(hP c a w e g f b p O r l j z).1 hc;simp at this;cases y:k.getD a false with
     |false=>rfl
     |true=>rw[QT a b y z c this]at D;cases D
    obtain⟨WR,Fd⟩:=Ra c w e O r;have t4:(es.take c).foldl (λmt e=>e.app N mt) st=S N st es (λ_=>true) c:=(gE st es c).symm;rw[t4]at WR;have T6: ∀h a,(k9 (N:=N) es h).W a=true-> ∃f g,es[a]?=some f/\ops[a]?=some g/\f.d=some h/\g.dst=some h:=by
     intro h a i;simp only[k9]at i;split at i
     ·rename_i f j;split at i
      ·rename_i d T;have:=auZ i;subst this;obtain⟨g,b,l,_,Y,_⟩:=Vw a f j;exact⟨f,g,j,l,T,by rw[<-Y];exact T⟩
      ·cases i
     ·cases i
    have Ve: ∀h a,(mQ (N:=N) es h).W a=true-> ∃f g,es[a]?=some f/\ops[a]?=some g/\h∈f.wb.map (·.1):=by
     intro h a i;simp only[mQ]at i;split at i
     ·rename_i f j;obtain⟨g,b,l,_,_,_⟩:=Vw a f j;exact⟨f,g,j,l,gr.1 i⟩
     ·cases i
    have ZU: ∀(n:Nat) (J:n<N) a,(wk es n J).W a=true-> ∃f g,es[a]?=some f/\ops[a]?=some g/\n∈f.wh.map (·.1):=by
     intro n J a i;simp only[wk]at i;split at i
     ·rename_i f j;obtain⟨g,b,l,_,_,_⟩:=Vw a f j;exact⟨f,g,j,l,gr.1 i⟩
     ·cases i
    have d8: ∀a,(yy (N:=N) es).W a=true-> ∃f g,es[a]?=some f/\ops[a]?=some g/\f.tl.isSome=true:=by
     intro a i;simp only[yy]at i;split at i
     ·rename_i f j;obtain⟨g,b,l,_,_,_⟩:=Vw a f j;exact⟨f,g,j,l,i⟩
     ·cases i
    have d9: ∀(a:Nat) f,es[a]?=some f->A_ N f=true:= λa f j=>av5.1 rg f (auQ j)
    have f9: ∀(u:List (Nat×Ob)) (ah:List Nat) (h:Nat),h∈u.map (·.1)->h∈ah->(u.any λE=>has ah E.1)=true:=by
     intro u ah h s t;rw[awG];obtain⟨E,U,rfl⟩:=ava.1 s;exact⟨E,U,gr.2 t⟩
    have gc: ∀(u:List (Nat×Ob)) (h:Nat),h∈u.map (·.1)->(u.any λE=>Nat.ble 0 E.1)=true:=by
     intro u h s;rw[awG];obtain⟨E,U,rfl⟩:=ava.1 s;exact⟨E,U,by simp⟩
    have t5: ∀(n:Nat) (f C:Ef),A_ N C=true->n∈f.wh.map (·.1)->n∈C.wh.map (·.1)->jq f C=true:=by
     intro n f C q s t;unfold A_ at q;unfold jq;obtain⟨E,U,rfl⟩:=ava.1 t;cases hr:C.rh with
     |no=>rw[hr]at q;simp at q;cases i:C.wh with
      |nil=>rw[i]at U;cases U
      |cons=>rw[i]at q;simp at q
     |ix u=>
      rw[hr]at q;simp only[avf,av5]at q;exact f9 f.wh u _ s (gr.1 (q.1.1 E U))
     |all=>simp only;rw[gc f.wh _ s];rfl
    have t6: ∀(f C:Ef),A_ N C=true->f.tl.isSome=true->C.tl.isSome=true->jq f C=true:=by
     intro f C q s t;unfold A_ at q;unfold jq;cases hr:C.rh with
     |no=>rw[hr]at q;cases K:C.tl with
      |none=>rw[K]at t;cases t
      |some h=>rw[K]at q;simp at q
     |ix u=>rw[hr]at q;cases K:C.tl with
      |none=>rw[K]at t;cases t
      |some h=>rw[K]at q;simp at q
     |all=>simp only;rw[s];simp
    have Vf: ∀(u:List (Nat×List M)) (ah:List Nat) (h:Nat),h∈u.map (·.1)->h∈ah->(u.any λE=>has ah E.1)=true:=by
     intro u ah h s t;rw[awG];obtain⟨E,U,rfl⟩:=ava.1 s;exact⟨E,U,gr.2 t⟩
    have t7:Ag N ops.toArray w e (S N st es (λ_=>true) c) (S N st es (λa=>k.getD a false) ops.length):=by
     refine⟨?_,?_,?_,?_,CO _ _ _ hN _,?_⟩
     ·intro h K;refine mP (k9 es h) _ c ops.length (by omega) ?_ ?_
      ·intro a p i;obtain⟨f,g,j,l,_,Y⟩:=T6 h a i;refine d7 a f p j g l ?_;have:has (slotsOf ops.toArray w) h=true:=gr.2 (by simp[slotsOf,K]);simp[dU,Y,this]
      ·intro a p Z i;by_cases I:a=c
       ·rw[I];exact D
       ·obtain⟨f,g,j,l,_,Y⟩:=T6 h a i;refine Q a f (by omega) j g l ?_;have:has (slotsOf ops.toArray w) h=true:=gr.2 (by simp[slotsOf,K]);simp[dU,Y,this]
     ·intro h K;refine mP (mQ es h) _ c ops.length (by omega) ?_ ?_
      ·intro a p i;obtain⟨f,g,j,l,x⟩:=Ve h a i;refine d7 a f p j g l ?_;have:=Vf f.wb _ h x K;simp[dU,this]
      ·intro a p Z i;by_cases I:a=c
       ·rw[I];exact D
       ·obtain⟨f,g,j,l,x⟩:=Ve h a i;refine Q a f (by omega) j g l ?_;have:=Vf f.wb _ h x K;simp[dU,this]
     ·intro u y n J;have L:n<N:=by
       have:=d9 c e r;unfold A_ at this;rw[y]at this;simp only[avf,av5]at this;exact bO (this.1.2 n J)
      refine mP (wk es n L) _ c ops.length (by omega) ?_ ?_
      ·intro a p i;obtain⟨f,g,j,l,x⟩:=ZU n L a i;refine d7 a f p j g l ?_;have:jq f e=true:=by unfold jq;rw[y];exact f9 f.wh u n x J
       simp[dU,this]
      ·intro a p Z i;by_cases I:a=c
       ·rw[I];exact D
       ·obtain⟨f,g,j,l,x⟩:=ZU n L a i;refine Q a f (by omega) j g l ?_;have:jq f e=true:=by unfold jq;rw[y];exact f9 f.wh u n x J
        simp[dU,this]
     ·intro y;refine⟨λn L=> ?_,?_⟩
      ·refine mP (wk es n L) _ c ops.length (by omega) ?_ ?_
       ·intro a p i;obtain⟨f,g,j,l,x⟩:=ZU n L a i;refine d7 a f p j g l ?_;have:jq f e=true:=by unfold jq;rw[y];simp only;rw[gc f.wh n x];rfl
        simp[dU,this]
       ·intro a p Z i;by_cases I:a=c
        ·rw[I];exact D
        ·obtain⟨f,g,j,l,x⟩:=ZU n L a i;refine Q a f (by omega) j g l ?_;have:jq f e=true:=by unfold jq;rw[y];simp only;rw[gc f.wh n x];rfl
         simp[dU,this]
      ·refine mP (yy es) _ c ops.length (by omega) ?_ ?_
       ·intro a p i;obtain⟨f,g,j,l,x⟩:=d8 a i;refine d7 a f p j g l ?_;have:jq f e=true:=by unfold jq;rw[y];simp[x]
        simp[dU,this]
       ·intro a p Z i;by_cases I:a=c
        ·rw[I];exact D
        ·obtain⟨f,g,j,l,x⟩:=d8 a i;refine Q a f (by omega) j g l ?_;have:jq f e=true:=by unfold jq;rw[y];simp[x]
         simp[dU,this]
     ·intro d T h oo q;have t8: ∀o,o<=ops.length->get (S N st es (λa=>k.getD a false) o).sl h=some (.loc d oo)->False:=by
       intro o
       induction o with
       |zero=>
        intro _ q;exact y9 (Z8 c e d r T) q
       |succ o Z_=>
        intro hn q;simp only[S]at q;cases Re:es[o]? with
        |none=>simp only[Re]at q;exact Z_ (by omega) q
        |some f=>
         simp only[Re]at q;cases y:k.getD o false with
         |false=>rw[y]at q;exact Z_ (by omega) q
         |true=>
          rw[y]at q;simp only[avx,Ef.app]at q;obtain⟨g,b,l,z,Y,_⟩:=Vw o f Re;cases Ru:f.d with
          |none=>simp only[Ru]at q;exact Z_ (by omega) q
          |some d'=>
           simp only[Ru]at q;rcases bT q with⟨_,t⟩|⟨_,t⟩
           ·have PS:o≠c:=by rintro rfl;rw[y]at D;cases D
            rcases Nat.lt_or_gt_of_ne PS with PP|t9
            ·have:=(hP o c g f w e bi PP l Re O r Ux).2;simp[rP,T,<-t]at this
            ·have:=Q o f t9 Re g l (by simp[dU,T,<-t]);rw[this]at y;cases y
           ·exact Z_ (by omega) t
      exact t8 _ (auK _) q
    have v6:=WR _ t7;have wd: ∀F G,Inv X (e.app N (S N st es (λa=>k.getD a false) ops.length)) F G->wpAny X.P .any ops.toArray (λe F G=> ∃A,post e A/\Inv X A F G) Rx (k.setIfInBounds c true) F G:=by
     intro F G SO;have WS:(λa=>(k.setIfInBounds c true).getD a false)= λa=>if a=c then true else k.getD a false:=by
      funext a
      by_cases p:a=c
      ·subst p;simp[SJ]
      ·simp[p,avO (avH p)]
     refine R _ F G (by simp[Qt]) ?_ ?_ ?_
     ·rw[WS];have:=zg (m:=ops.length) (f:= λa=>k.getD a false) S8 D;omega
     ·intro n b J z a p;have QE:(if n=c then true else k.getD n false)=true:=by rw[<-congrFun WS n];exact J
      have i6:(if a=c then true else k.getD a false)=true:=by
       by_cases I:a=c
       ·simp[I]
       ·rw[auU I];by_cases i7:n=c
        ·subst i7;rw[Ux]at z;injection z with z;subst z
         exact i8 a p
        ·rw[auU i7]at QE;exact QT n b QE z a p
      rw[<-congrFun WS a]at i6;exact i6
     ·rw[WS];have g1: ∀h,get (S N st es (λa=>if a=c then true else k.getD a false) ops.length).sl h=get (e.app N (S N st es (λa=>k.getD a false) ops.length)).sl h:=by
       intro h;refine tz (k9 es h) _ c ops.length S8 e r D ?_;intro XB a p Z UU;obtain⟨f,g,j,l,_,Y⟩:=T6 h a UU;obtain⟨f',x',B,QM,_,wn⟩:=T6 h c XB;rw[O]at QM;injection QM with QM;subst QM
       refine Q a f p j g l ?_;have:has (slotsOf ops.toArray w) h=true:=gr.2 (by simp[slotsOf,wn]);simp[dU,Y,this]
      have g2: ∀h,get (S N st es (λa=>if a=c then true else k.getD a false) ops.length).bx h=get (e.app N (S N st es (λa=>k.getD a false) ops.length)).bx h:=by
       intro h;refine tz (mQ es h) _ c ops.length S8 e r D ?_;intro XB a p Z UU;obtain⟨f,g,j,l,x⟩:=Ve h a UU;obtain⟨f',x',B,QM,YF⟩:=Ve h c XB;rw[r]at B;injection B with B;subst B
       refine Q a f p j g l ?_;have:=Vf f.wb (e.rb++e.wb.map (·.1)) h x (auS.2 (.inr YF));simp[dU,this]
      have g3:(S N st es (λa=>if a=c then true else k.getD a false) ops.length).H=(e.app N (S N st es (λa=>k.getD a false) ops.length)).H:=by
       refine CP (N:=N) (CO _ _ _ hN _) (by simp[Ef.app,kg]) ?_ ?_
       ·intro n L;refine tz (wk es n L) _ c ops.length S8 e r D ?_;intro XB a p Z UU;obtain⟨f,g,j,l,x⟩:=ZU n L a UU;obtain⟨f',x',B,QM,YF⟩:=ZU n L c XB;rw[r]at B;injection B with B;subst B
        refine Q a f p j g l ?_;have:=t5 n f e (d9 c e r) x YF;simp[dU,this]
       ·refine tz (yy es) _ c ops.length S8 e r D ?_;intro XB a p Z UU;obtain⟨f,g,j,l,x⟩:=d8 a UU;obtain⟨f',x',B,QM,YF⟩:=d8 c XB;rw[r]at B;injection B with B;subst B
        refine Q a f p j g l ?_;have:=t6 f e (d9 c e r) x YF;simp[dU,this]
      have:=Inv.o5 (X:=X) (sl:=(e.app N (S N st es (λa=>k.getD a false) ops.length)).sl) (bx:=(e.app N (S N st es (λa=>k.getD a false) ops.length)).bx) (H:=(e.app N (S N st es (λa=>k.getD a false) ops.length)).H)
       (P9:=(S N st es (λa=>if a=c then true else k.getD a false) ops.length).sl) (Qr:=(S N st es (λa=>if a=c then true else k.getD a false) ops.length).bx) SO
       (λh v hv=>by rw[<-g1];exact hv) g2
      rw[<-g3]at this;exact this
    have:=v6 ac co ge (wpAny X.P .any ops.toArray (λe F G=> ∃A,post e A/\Inv X A F G) Rx (k.setIfInBounds c true)) (λe F G=> ∃A,post e A/\Inv X A F G) wd;unfold wpOp;have Do:ops.toArray[c]?=some w:=by simpa using O
    simp only[Do];split
    ·rename_i i;rw[au2 i]at this;exact .inl this
    ·rename_i i;rw[auU i]at this;exact this
 refine Eq _ _ ac _ (by simp) ?_ ?_ ?_
 ·have: ∀o,qd o (λa=>(Array.replicate ops.toArray.size false).getD a false)=o:=by
   intro o
   induction o with
   |zero=>rfl
   |succ o R=>
    simp only[qd,R];have:(Array.replicate ops.toArray.size false).getD o false=false:=by simp[awb];split<;>rfl
    rw[this];rfl
  simpa using this ops.length
 ·intro n b J;have:(Array.replicate ops.toArray.size false).getD n false=false:=by simp[awb];split<;>rfl
  rw[this]at J;cases J
 ·have hz: ∀o,S N st es (λa=>(Array.replicate ops.toArray.size false).getD a false) o=st:=by
   intro o
   induction o with
   |zero=>rfl
   |succ o R=>
    have:(Array.replicate ops.toArray.size false).getD o false=false:=by simp[awb];split<;>rfl
    simp only[S,R,this];cases es[o]?<;>rfl
  rw[hz];obtain⟨σ,Pw,rfl,hi⟩:=hi;exact⟨{σ with w:= {σ.w with drawn:=σ.w.drawn+1} },Pw,rfl,hi.ext (gG.drew _)⟩
end agx
end Go.Mt.eH
namespace Go.Mt
def Place(H:Hp)(ob:Ob)(n:Nat)(H':Hp):Prop:=(n=H.length/\H'=H++ [ob])\/(H[n]?=some .free/\H'=H.set n ob)
theorem cE.JU{X:bJ}{σ:Sg}{Pw:Nat->Nat}{st:St}{a:Act}(hi:cE X σ Pw st a)(ob:Ob)(x:Obj)(j:Nat)(L:st.H[j]?=some .free)
  (M: ∀τ:Sg,dW σ τ->τ.w= {σ.w with heap:=σ.w.heap.push x} ->gZ τ σ.w.heap.size ob):
  ∃τ:Sg,τ.w= {σ.w with heap:=σ.w.heap.push x} /\τ.l j=σ.w.heap.size/\τ.H=st.H.set j ob/\dW σ τ/\cE X τ Pw ⟨st.sl,st.bx,st.H.set j ob⟩ a:=by
 have C:σ.H[j]?=some .free:=by rw[hi.hH];exact L
 have N:j<σ.H.length:=by rcases auM j σ.H.length with f|f;exact f;simp[auP f]at C
 let b:=σ.w.heap.size
 let D:World:= {σ.w with heap:=σ.w.heap.push x}
 let l:Nat->Nat:= λd=>if d=j then b else σ.l d
 let τ:Sg:=⟨D,λc g=>σ.O c g\/(c=b/\ob.kE g),l,σ.H.set j ob⟩
 have r:gG σ.w D:=gG.alloc _ _;have m: ∀(d:Nat) g,σ.H[d]?=some g->g≠ .free->(σ.H.set j ob)[d]?=some g/\l d=σ.l d:=by
  intro d g f w;have E:d≠j:=by rintro rfl;rw[C]at f;injection f with f;exact w f.symm
  exact⟨by rw[auT (avH E)];exact f,by simp[l,E]⟩
 have B:(σ.H.set j ob)[j]?=some ob:=by simp[N]
 have s: ∀(d:Nat) g,(σ.H.set j ob)[d]?=some g->(σ.H[d]?=some g/\l d=σ.l d/\d≠j)\/(d=j/\g=ob):=by
  intro d g f;by_cases e:d=j
  ·subst e;rw[B]at f;injection f with f;exact .inr ⟨W,f.symm⟩
  ·rw[auT (avH e)]at f;exact .inl ⟨f,by simp[l,e],e⟩
 have y:dW σ τ:=by
  refine⟨λc g v i h=>⟨r.cell i,?_⟩,λd n f=>⟨⟨n,(m d _ f (by simp)).1⟩,(m d _ f (by simp)).2⟩,λd n f=>⟨⟨n,(m d _ f (by simp)).1⟩,(m d _ f (by simp)).2⟩,λd n f=>⟨⟨n,(m d _ f (by simp)).1⟩,(m d _ f (by simp)).2⟩,λd f=>(m d _ f (by simp)).1,
   λd V ec O n f=> .inr ⟨V,O,n,(m d _ f (by simp)).1,auK _,λ_=>⟨(m d _ f (by simp)).2,rfl,λP Z Q=>⟨P,r.heap Q,rfl⟩⟩⟩,λd f=> ?_⟩
  ·rintro(k|⟨k,_⟩)
   ·exact h k
   ·have:=mN i;omega
  ·by_cases e:d=j
   ·subst e;exact⟨_,B⟩
   ·exact⟨.free,by show(σ.H.set j ob)[d]?=_;rw[auT (avH e)];exact f⟩
 have F: ∀(d:Nat) g,σ.H[d]?=some g->g.live->σ.l d<b:= λd g i h=>(hi.hinv.obj d g i).lt h
 have R:gZ τ b ob:=M τ y W;have o:l j=b:=by simp[l]
 have Y:ln τ (o8 X.kL Pw st.bx):=by
  refine⟨?_,?_,?_,?_,λc g f=>avR (hi.hinv.nt c g f) r.size⟩
  ·intro d g f;rcases s d g f with⟨i,h,_⟩|⟨rfl,rfl⟩
   ·show gZ τ (l d) g;rw[h];exact(hi.hinv.obj d g i).cK y λx S=>r.heap S
   ·show gZ τ (l _) g;rw[o];exact R
  ·intro d u x A i h k z t;change l d=l u at t;rcases s d x i with⟨p,q,_⟩|⟨rfl,rfl⟩<;>rcases s u A h with⟨G,H,_⟩|⟨rfl,rfl⟩
   ·rw[q,H]at t;exact hi.hinv.inj d u x A p G k z t
   ·rw[q,o]at t;have:=F d x p k;omega
   ·rw[H,o]at t;have:=F u A G z;omega
   ·rfl
  ·intro c g;show(σ.O c g\/(c=b/\ob.kE g))↔_;rw[hi.hinv.own];constructor
   ·rintro((f|⟨d,x,i,h,k⟩)|⟨rfl,h⟩)
    ·exact .inl f
    ·have w:x≠ .free:=by rintro rfl;exact k
     exact .inr ⟨d,x,(m d x i w).1,(by show l d=c;rw[(m d x i w).2];exact h),k⟩
    ·exact .inr ⟨j,ob,B,o,h⟩
   ·rintro(f|⟨d,x,i,h,k⟩)
    ·exact .inl (.inl f)
    ·rcases s d x i with⟨p,q,_⟩|⟨rfl,rfl⟩
     ·exact .inl (.inr ⟨d,x,p,by rw[<-q];exact h,k⟩)
     ·exact .inr ⟨by rw[<-h];exact o,k⟩
  ·intro d g i h I k;rcases s d g i with⟨p,q,_⟩|⟨rfl,rfl⟩
   ·exact hi.hinv.sep d g p h I (by rw[<-q];exact k)
   ·have z:o8 X.kL Pw st.bx b I:=by rw[<-o];exact k
    have:=hi.hinv.nt _ _ z;exact Nat.lt_irrefl _ this
 have T:bj σ τ:=by
  refine⟨W,W,W,r.size,λc U _=>r.cy c U,?_⟩;intro d g i h;rcases s d g i with⟨p,q,_⟩|⟨rfl,rfl⟩
  ·exact .inr ⟨g,p,h,q⟩
  ·exact .inl (by show _<=l _;rw[o];exact auK _)
 have J:τ.H=st.H.set j ob:=by show σ.H.set j ob=_;rw[hi.hH]
 refine⟨τ,W,o,J,y,?_⟩;have:=hi.heap y Y (λK n f=>r.cy _ ((hi.box K n f).lt trivial)) T;rw[J]at this;exact this
theorem cE.place{X:bJ}{σ:Sg}{Pw:Nat->Nat}{st:St}{a:Act}(hi:cE X σ Pw st a){ob:Ob}{n:Nat}{H':Hp}(j:Place st.H ob n H')(x:Obj)
  (h: ∀τ:Sg,dW σ τ->τ.w= {σ.w with heap:=σ.w.heap.push x} ->gZ τ σ.w.heap.size ob):
  ∃τ:Sg,τ.w= {σ.w with heap:=σ.w.heap.push x} /\τ.l n=σ.w.heap.size/\τ.H[n]?=some ob/\dW σ τ/\cE X τ Pw ⟨st.sl,st.bx,H'⟩ a:=by
 rcases j with⟨rfl,rfl⟩|⟨i,rfl⟩
 ·obtain⟨τ,c,d,e,f,g⟩:=hi.newObj ob x h;exact⟨τ,c,by rw[<-hi.hH];exact d,by rw[e];simp,f,g⟩
 ·obtain⟨τ,c,d,e,f,g⟩:=hi.JU ob x n i h;have k:n<st.H.length:=by rcases auM n st.H.length with b|b;exact b;simp[auP b]at i
  exact⟨τ,c,d,by rw[e];simp[k],f,g⟩
section ops
variable{X:bJ}{st:St}{dst:Option Nat}{ty:Nat}{pos:String}{af:Array Edge}{g:Option (Nat×Bool)}{pn:Nat}{H':Hp}
end ops
end Go.Mt
