/- A part of the proof of the last text of this claim, without conditions. -/
import Derived.Test.YtbafhpblecdbbaaGreatDoorB
import Derived.LaidEql
import Derived.Defers
import Derived.Recover
import Derived.ProofKit
import Derived.OpenShut
import Derived.Deep.Matrix
import Derived.SizedLaws
set_option maxRecDepth 4000
set_option linter.all false
namespace Go.Mt
variable{k:IntKind}{σ:Sg}{P:Program}{t xt yt:Nat}{w:World}{v:Value}{x y:Operand}{k1 k2:Int}{s1 s2:ByteArray}
def Jn(P:Program)(t:Nat):Bool:=match P.underlying t with
 |some (.int .u8)=>true
 |_=>false
def GF(P:Program)(t:Nat):Bool:=match P.underlying t with
 |some .string=>true
 |_=>false
def Ke(P:Program)(t:Nat):Bool:=match P.underlying t with
 |some (.struct a)=>match a.toList with
  |[a,b]=> !decide (a.name= "_")&& !decide (b.name= "_")&&Nat.beq a.offset 0&&Nat.beq b.offset 1&&Jn P a.type&&GF P b.type&& !P.stoodInHeld t&& !P.eqGuardType P.depth t
  |_=>false
 |_=>false
class tm(P:Program)(t:Nat):Prop where
 b:Ke P t=true
def tm.u(h:tm P t):(∃a b:Field,P.underlying t=some (.struct #[a,b])/\(a.name= "_")=False/\(b.name= "_")=False/\a.offset=0/\b.offset=1/\P.underlying a.type=some (.int .u8)/\P.underlying b.type=some .string)/\P.stoodInHeld t=false/\P.eqGuardType P.depth t=false:=by
 have a:=h.b;unfold Ke at a;split at a
 .rename_i g i;split at a
  .rename_i d f j;simp only[agZ,ahH,decide_eq_false_iff_not]at a;obtain⟨⟨⟨⟨⟨⟨⟨k,l⟩,m⟩,n⟩,b⟩,c⟩,o⟩,p⟩:=a;have e:g= #[d,f]:=by rw[<-j]
   refine⟨⟨d,f,by rw[i,e],eq_false k,eq_false l,agO m,agO n,?_,?_⟩,o,p⟩
   .unfold Jn at b;split at b
    .assumption
    .cases b
   .unfold GF at c;split at c
    .assumption
    .cases c
  .cases a
 .cases a
def zF(h:tm P t)(d e:Int)(f g:ByteArray):
  (Op.equal t (.agg #[.int .u8 d,.string f]) (.agg #[.int .u8 e,.string g])).run P w=.ok (decide (d=e)&&decide (f=g)) w:=by
 obtain⟨⟨a,c,r,i,j,s,u,v,x⟩,y,E⟩:=h.u;have z:(underlying t).run P w=.ok (.struct #[a,c]) w:=by simp[underlying,program,Sem.run,r]
 have k:(underlying a.type).run P w=.ok (.int .u8) w:=by simp[underlying,program,Sem.run,v]
 have l:(underlying c.type).run P w=.ok .string w:=by simp[underlying,program,Sem.run,x]
 have A:(program).run P w=.ok P w:=by simp[program,Sem.run]
 have m:∀c b:Int,(Op.equalIn 9999 a.type (.int .u8 c) (.int .u8 b)).run P w=.ok (decide (c=b)) w:=by
  intro q b;rw[Op.equalIn];simp[k];by_cases B:q=b<;>simp[B]
 have n:∀a b:ByteArray,(Op.equalIn 9999 c.type (.string a) (.string b)).run P w=.ok (decide (a=b)) w:=by
  intro q b;rw[Op.equalIn];simp[l,wE]
 have o:∀c:Int,∀s:ByteArray,(part a.type #[.int .u8 c,.string s] a.offset).run P w=.ok (.int .u8 c) w:=by
  intro q B;simp[part,isAgg,k,s]
 have p:∀a:Int,∀s:ByteArray,(part c.type #[.int .u8 a,.string s] c.offset).run P w=.ok (.string s) w:=by
  intro q B;simp[part,isAgg,l,u]
 simp only[Op.equal,Op.maxDepth];rw[Op.equalIn];simp[z,A,y,i,j,o,p,m,n];by_cases C:d=e<;>by_cases D:f=g<;>simp[C,D,o,p,m,n,i,j]
def wF{O:Nat->Nat->Prop}{k:Int}{s:ByteArray}(h:gI O w (.agg [.int .u8 k,.str s]) v):v=.agg #[.int .u8 k,.string s]:=by
 cases h with
 |agg _ d e i a=>
  obtain⟨l⟩:=d
  match l,e with
  |[c,b],_=>
   have f:=a 0 _ c W W;have g:=a 1 _ b W W;cases f;cases g;rfl
section
variable{X:cY}{st:St}{dst:Option Nat}{ty:Nat}{pos:String}{af:Array Edge}{g:Option (Nat×Bool)}
def GG[ht:tm X.P xt](c:st.ev x=some (.m (.d (.agg [.int .u8 k1,.str s1]))))(d:st.ev y=some (.m (.d (.agg [.int .u8 k2,.str s2])))):
  cJ X ⟨dst,.binOp .eql xt x y yt,ty,pos,af,g⟩ st (dm (.m (.d (.bool (decide (k1=k2)&&decide (s1=s2))))) st):=by
 refine Lq λe a f b=>?_
 have e:=wF (b.mz c);have c:=wF (b.mz d);have b:(program).run X.P a.w=.ok X.P a.w:=by simp[program,Sem.run]
 have d:=zF (w:=a.w) ht k1 k2 s1 s2;exact⟨_,by simp[execOp,e,c,eqGuard,b,ht.u.2.2,binOp,d],.m (.d (.bool _))⟩
end
section
variable{X:cY}{st:St}{dst:Option Nat}{ty:Nat}{pos:String}{af:Array Edge}{g:Option (Nat×Bool)}
def GI[ht:tm X.P xt](c:st.ev x=some (.m (.d (.agg [.int .u8 k1,.str s1]))))(d:st.ev y=some (.m (.d (.agg [.int .u8 k2,.str s2])))):
  cJ X ⟨dst,.binOp .neq xt x y yt,ty,pos,af,g⟩ st (dm (.m (.d (.bool (!(decide (k1=k2)&&decide (s1=s2)))))) st):=by
 refine Lq λe a f b=>?_
 have e:=wF (b.mz c);have c:=wF (b.mz d);have b:(program).run X.P a.w=.ok X.P a.w:=by simp[program,Sem.run]
 have d:=zF (w:=a.w) ht k1 k2 s1 s2;exact⟨_,by simp[execOp,e,c,eqGuard,b,ht.u.2.2,binOp,d],.m (.d (.bool _))⟩
def xr(g T:Nat)(k:IntKind)(ms:List Int):M:=.c_ (.d (.int .i64 g):: .d (.int .i64 T)::ms.map λz=>.d (.int k z))
def RM.tp{n:Int}(h:RM σ (.d (.int k n)) v):v=.int k n:=by
 cases h with
 |d h=>cases h;rfl
def RM.tq{n m:Nat}(h:RM σ (.d (.int k n)) (.int k (m:Int))):m=n:=by
 have:=h.tp;injection this with _ h
 omega
def vG{b c e:Nat}{ms:List Int}(h:fJ σ b (.iter (xr c e k ms))):b=c/\σ.w.heap[c]?=some (.cells (ms.map λz=>Value.int k z).toArray e (0,0)):=by
 rcases h with⟨f,x,w,last,l,a⟩|⟨j,m,l,a⟩
 .exfalso;rcases a with⟨_,a⟩|⟨a,_⟩
  .cases a
  .unfold xr lL at a;cases a with
   |c_ n o p h=>
    have i:(#[Value.map f,.int .i64 x]++w.map λb=>.int .i64 b)[0]?=some (.map f):=by rw[agY (by simp)];rfl
    have g:=h 0 (.d (.int .i64 c)) (.map f) W i;cases g with
    |d g=>cases g
 .unfold xr at a;cases a with
  |c_ y A g h=>
   have n:=h 0 (.d (.int .i64 c)) (.int .i64 b) W (by rw[agY (by simp)];rfl);have o:=h 1 (.d (.int .i64 e)) (.int .i64 (m:Nat)) W (by rw[agY (by simp)];rfl);have p:b=c:=n.tq;have q:m=e:=o.tq;subst p;subst q;refine⟨W,?_⟩;have r:j=(ms.map λz=>Value.int k z).toArray:=by
    have s:j.size=ms.length:=by simp at g;omega
    apply Array.ext
    .simpa using s
    .intro i t B;have u:i<ms.length:=by omega
     have v:=h (i+2) (.d (.int k ms[i])) j[i] (by simp[u]) (by rw[aho (by simp)];simp[t]);rw[v.tp];simp
   rw[l,r]
end
end Go.Mt
namespace Go.Mt
def ld(P:Program)(t:Nat):Nat:=match P.underlying t with
 |some (.pointer _)=>1
 |some (.map _ _)=>2
 |some (.func _ _ _)=>3
 |some .bool=>4
 |some (.interface _)=>5
 |some (.slice _)=>6
 |_=>0
def Db:Nat->V->Option Bool
 |1,.loc _ _=>some false
 |1,.m (.ref _ _)=>some false
 |1,.m (.cF _ _ _)=>some false
 |1,.m (.d (.ca _ _))=>some false
 |1,.m (.d .nJ)=>some true
 |2,.m (.mp _)=>some false
 |2,.m (.d .jJ)=>some true
 |3,.m (.d (.fn _ _))=>some false
 |3,.m (.fn _ _)=>some false
 |3,.m (.d .wS)=>some true
 |5,.m (.d .mh)=>some true
 |5,.m (.d (.E_ _ _))=>some false
 |_,_=>none
def Dc(P:Program)(f:Nat):Bool:=match P.funcs[f]? with
 |some fn=> !(fn.name== "runtime.NumGoroutine")&&fn.body.isSome
 |none=>false
def sA(P:Program)(s f:Nat):Option (Nat×Nat):=
 match P.underlying s with
 |some (.struct a)=>match a[f]? with
  |some a=>some (a.type,a.offset)
  |none=>none
 |_=>none
def jy:M->Option (List M)
 |.d (.agg a)=>some (a.map .d)
 |.agg a=>some a
 |_=>none
def sB(a:Operand->Option V):Option Operand->Option (Option Nat)
 |none=>some none
 |some y=>match a y with
  |some (.m (.d (.int _ (.ofNat i))))=>some (some i)
  |_=>none
variable{ms:List M}{f:Nat}
section ops
variable{X:cY}{st:St}{dst:Option Nat}{ty:Nat}{pos:String}{af:Array Edge}{g:Option (Nat×Bool)}{pn:Nat}{H':Hp}
def pJ{T e n len:Nat}{parts:List (Nat×Operand)}{z:D}{ms:List (Nat×M)}{cs:List M}[ht:br X.P T e][r:cc X.P e n][H:fC X.P e z]
  (I:Nat.blt 0 n=true) (s:(bP z).length=n) (ac:Nat.ble (len*n) 16777216=true) (J:dF st parts=some ms)
  (t:gK (λi=>some (i*n,n)) (fM n len (bP z)) ms=some cs) (K:Place st.H (.row false n 0 cs) pn H'):
  cJ X ⟨dst,.buildSlice T len parts.toArray,ty,pos,af,g⟩ st (dm (.m (.cy pn 0 len)) ⟨st.sl,st.bx,H'⟩):=by
 intro a c L w;have j:=bL I;have Ws:=agT ac;obtain⟨N,O⟩:=w.dF J;obtain⟨v,P,Q⟩:=(cz H.zero).run;have x:jh c ((bP z).map .d) v.cells:=(RM.d (eW Q):RM c (.d z) v).cells W;have R:v.cells.size=n:=by rw[x.1];simpa using s
 have S:jh c (fM n len (bP z)) ((Array.range (len*n)).map λi=>v.cells[i%v.cells.size]!):=by
  refine⟨by simp[fM],λi m u y d=>?_⟩;have A:i<len*n:=by
   rcases agJ i (len*n)with h|h
   .exact h
   .rw[agX (by simpa using h)]at d;cases d
  have U:i%n<n:=aik _ j;have F:i%n<(bP z).length:=by omega
  simp[fM,A,s]at y;simp[A,R]at d;have G:i%n<v.cells.size:=by omega
  subst y;subst d;refine x.2 (i%n) _ _ ?_ ?_
  .simp[ag3 F]
  .simp[G]
 obtain⟨k,l,o⟩:=oC S N O t;have q:cs.length=len*n:=by
  have U:∀{c:List (Nat×M)} {a b:List M},gK (λi=>some (i*n,n)) a c=some b->b.length=a.length:=by
   intro y
   induction y with
   |nil=>intro a b h;simp[gK]at h;subst h;rfl
   |cons G y V=>
    intro a b h;obtain⟨F,m⟩:=G;unfold gK at h;simp only at h;cases A:(Nat.beq (cellsOf m).length n&&m.s6)with
    |false=>simp[A]at h
    |true=>
     simp only[A,ag6]at h;split at h
     .rename_i a1 d;rw[V h];unfold dE at d;cases i:Nat.ble (F*n+(cellsOf m).length) a.length with
      |false=>simp[i]at d
      |true=>
       simp only[i,ag6,ahl]at d;subst d;have:=agT i;simp;omega
     .cases h
  rw[U t];simp[fM]
 have B:k.size=len*n:=by rw[o.1,q]
 have Y:len<=140737488355328:=by have:=aiv len j;omega
 obtain⟨f,p,C,E,g4,Z⟩:=w.place K (.cells k e (0,0)) (by
  intro f y A;refine⟨j,k,e,len,len,by rw[A];exact hU _ _,B,ags _,⟨q,Y⟩,?_⟩;intro d m u i h;exact⟨(o.2 d m u i h).1.mono y,(o.2 d m u i h).2⟩)
 refine dv.value (u:=.slice (some ⟨c.w.heap.size,0,none⟩) len len) (w':=f.w) ?_ ⟨_,_,f,L,⟨W,W⟩,W,Z,?_⟩
 .have:(Array.map (λx:Nat×Operand=>match x with|(y,x)=>(y,a.eval x)) parts.toArray).toList=parts.map λi=>(i.1,a.eval i.2):=by simp
  have A:¬(len*n>2^24):=by omega
  by_cases d:len*n=0
  .have F:len=0:=by
    rcases aiM.1 d with h|h
    .exact h
    .omega
   subst F;have h:((Array.range (0*n)).map λi=>v.cells[i%v.cells.size]!)= #[]:=by simp
   rw[h]at l;simp only[execOp,Instr.buildSlice,Sem.run_bind,underlying,program,Sem.run,ht.u,Sem.run_pure,Result.andThen_ok,dr r.size,Sem.run_ite,d,ah3,this];have G:Array.range 0=(#[]:Array Nat):=by decide
   simp only[G,Array.map_empty];rw[l];simp[newRow,newObj,Sem.run,p]
  .simp only[execOp,Instr.buildSlice,Sem.run_bind,underlying,program,Sem.run,ht.u,Sem.run_pure,Result.andThen_ok,dr r.size,Sem.run_ite,A,ahL,d,P,this];rw[l];simp[newRow,newObj,Sem.run,p]
 .refine .m (.cy _ 0 len _ len (.inr ⟨false,n,0,cs,E,ags _⟩) ?_);intro A F G d;rw[E]at d;simp at d;obtain⟨h,i,y⟩:=d;subst h;subst i;subst y;exact⟨by rw[C],q,_,e,by rw[C,p];exact hU _ _,B⟩
def yW{LX:List Operand}(b:st.gE LX=some ms)(c:f<1024:=by decide):
  cJ X ⟨dst,.makeFunc (.func f) #[] LX.toArray,ty,pos,af,g⟩ st (dm (.m (.fn f ms)) st):=by
 refine Lq λa e h d=>?_
 have h:=d.gE b;exact⟨.func (.func f) #[] (LX.map a.eval).toArray,by simp[execOp,Instr.makeFunc],.m (.fn f ms _ c h.1 h.2)⟩
def BJ{σ:Sg}{ns:List M}{c us:Array Value}(h:nC σ ms c)(k:nC σ ns us):nC σ (ms++ns) (c++us):=by
 refine⟨by simp[h.1,k.1],λi m v a b=>?_⟩;have d:=h.1;rcases agJ i ms.length with e|f
 .rw[agF e]at a;rw[agY (by omega)]at b;exact h.2 i m v a b
 .rw[agP f]at a;rw[aho (by omega),d]at b;exact k.2 _ m v a b
def Enters(X:cY)(st:St)(c:Call)(f:Nat)(ms:List M):Prop:=
 ∀(i:Option Nat) (e:Nat) (j:String) (h:Array Edge) (g:Option (Nat×Bool)) (b:Act) (a:Sg) (d:Nat->Nat),cj X a d st b->∃d,(execOp b.eval ⟨i,.call c,e,j,h,g⟩).run X.P a.w=.ok (.enter f d) a.w/\nC a ms d
def BK{x:Operand}{LX:List M}{args:List Operand}{NI:Array Nat}[d:bu X.P f](e:st.ev x=some (.m (.fn f LX)))(h:st.gE args=some ms)(i:f<1024:=by decide):Enters X st ⟨.value x,args.toArray,NI⟩ f (ms++LX):=by
 intro w q y r g b p s c;have a:=c.ev e;have j:=c.gE h;generalize k:b.eval x=u at a;cases a with
 |m a=>cases a with
  |ww f g l n o t v=>omega
  |fn f t l i n o=>
   refine⟨(args.map b.eval).toArray++l,?_,BJ j ⟨n,o⟩⟩;simp only[execOp,resolve,k,Deferred.ofValue,invoke];simp[d.run]
def cJ.weaken{o:Oper}{p q:V->St->Prop}(h:cJ X o st p)(c:∀v s,p v s->q v s):cJ X o st q:=by
 intro a b d f;have:=h a b d f;unfold dv at this⊢;generalize (execOp a.eval o).run X.P b.w=z at*;cases z with
 |ok x m=>
  cases x<;>simp only at this⊢ <;>first
   |(obtain⟨v,s,g,i,j,k⟩:=this;exact⟨v,s,g,i,c _ _ j,k⟩)
   |exact this.mono λe n ⟨u,l,v,s,g,i,j,k⟩=>⟨u,l,v,s,g,i,c _ _ j,k⟩
   |exact this
 |halt x g=>exact this
def Dd{c:Call}{r:M}{a:Hp}(d:Enters X st c f ms)(h:CT X.P f ms st.H λd b=>d=r/\b=a):
  cJ X ⟨dst,.call c,ty,pos,af,g⟩ st (dm (.m r) ⟨st.sl,st.bx,a⟩):=
 (cJ.Gs h (d dst ty pos af g)).weaken (by rintro v s ⟨e,i,rfl,⟨rfl,rfl⟩,rfl⟩;exact⟨W,W⟩)
end ops
end Go.Mt
namespace Go.Mt
variable{x:Operand}{σ:Sg}{cs:List M}{Li:Nat->Nat}{t e n xt yt off T len:Nat}{m r:M}{P:Program}{w:World}{v:V}{u:Value}{z:Bool}{op:BinOp}{a:Act}{l:Option Nat}
section ops
variable{X:cY}{st:St}{dst:Option Nat}{ty:Nat}{pos:String}{af:Array Edge}{g:Option (Nat×Bool)}{pn:Nat}{H':Hp}
def GJ(h:RV σ Li v u)(a:Db 5 v=some z):(z=true/\u=.nilIface)\/(z=false/\∃t x,u=.iface t x):=by
 unfold Db at a;cases h with
 |loc t b=>simp at a
 |tl _ _ _ _ _ _ _ _=>simp at a
 |m h=>cases h with
  |d h=>cases h with
   |mh=>simp at a;subst a;exact .inl ⟨W,W⟩
   |E_ t d v h=>simp at a;subst a;exact .inr ⟨W,_,_,W⟩
   |_=>simp at a
  |_=>simp at a
def xu{ms}(h:P.underlying t=some (.interface ms))(x:Value)(a:x=.nilIface\/∃f c,x=.iface f c):(Op.equal t x .nilIface).run P w=.ok (match x with|.nilIface=>true|_=>false) w:=by
 have b:(underlying t).run P w=.ok (.interface ms) w:=by simp[underlying,program,Sem.run,h]
 simp only[Op.equal,Op.maxDepth];rw[Op.equalIn];rcases a with rfl|⟨f,c,rfl⟩<;>simp[b]
def GK(h:op=.eql\/op=.neq)(e:ld X.P xt=5)(k:st.ev x=some v)(l:Db 5 v=some z):
  cJ X ⟨dst,.binOp op xt x (.const .nilIface) yt,ty,pos,af,g⟩ st (dm (.m (.d (.bool (match op with|.eql=>z|_=> !z)))) st):=by
 refine Lq λj f n m=>?_
 have b:∃a,X.P.underlying xt=some (.interface a):=by
  unfold ld at e;split at e<;>first|exact⟨_,by assumption⟩|cases e
 obtain⟨o,b⟩:=b;have d:j.eval (.const .nilIface)=.nilIface:=rfl;rcases GJ (m.ev k) l with⟨rfl,a⟩|⟨rfl,t,c,a⟩
 .have i:=xu (w:=f.w) b .nilIface (.inl W);rcases h with rfl|rfl
  .exact⟨.bool true,by simp[execOp,a,d,eqGuard,binOp,i],.m (.d (.bool _))⟩
  .exact⟨.bool false,by simp[execOp,a,d,eqGuard,binOp,i],.m (.d (.bool _))⟩
 .have i:=xu (w:=f.w) b (.iface t c) (.inr ⟨t,c,rfl⟩);rcases h with rfl|rfl
  .exact⟨.bool false,by simp[execOp,a,d,eqGuard,binOp,i],.m (.d (.bool _))⟩
  .exact⟨.bool true,by simp[execOp,a,d,eqGuard,binOp,i],.m (.d (.bool _))⟩
def Fe(h:P.underlying t=some (.slice e))(a:Addr)(l c:Nat):(Op.equal t (.slice (some a) l c) (.slice none 0 0)).run P w=.ok false w:=by
 have b:(underlying t).run P w=.ok (.slice e) w:=by simp[underlying,program,Sem.run,h]
 simp only[Op.equal,Op.maxDepth];rw[Op.equalIn];simp[b]
def GM(k:op=.eql\/op=.neq)(a:ld X.P xt=6)(m:∀a b d,cj X b d st a->∃b l c,a.eval x=.slice (some b) l c):
  cJ X ⟨dst,.binOp op xt x (.const (.slice none 0 0)) yt,ty,pos,af,g⟩ st (dm (.m (.d (.bool (match op with|.eql=>false|_=>true)))) st):=by
 refine Lq λd f n p=>?_
 have b:∃e,X.P.underlying xt=some (.slice e):=by
  unfold ld at a;split at a<;>first|exact⟨_,by assumption⟩|cases a
 obtain⟨e,b⟩:=b;obtain⟨o,l,c,h⟩:=m d f n p;have i:d.eval (.const (.slice none 0 0))=.slice none 0 0:=rfl;have j:=Fe (w:=f.w) b o l c;rcases k with rfl|rfl
 .exact⟨.bool false,by simp[execOp,h,i,eqGuard,binOp,j],.m (.d (.bool _))⟩
 .exact⟨.bool true,by simp[execOp,h,i,eqGuard,binOp,j],.m (.d (.bool _))⟩
def GO(hi:cj X σ Li st a){r:List D}{rs:List (List D)}(d:st.ev x=some (.m (.d (.sl (r::rs))))):∃d l c,a.eval x=.slice (some d) l c:=by
 have h:=hi.mz d;generalize a.eval x=u at h;cases h with
 |sl s b o p e q f g i j k m n=>exact⟨_,_,_,W⟩
def zG{c:Array Value}(h:jh σ cs c)(a:ef P t cs off=some m):∃u,(part t c off).run P w=.ok u w/\RM σ m u:=by
 unfold ef at a;split at a
 .rename_i n k g;have l:dw P t n:=⟨k,g⟩;cases f:Nat.ble (off+n) cs.length with
  |false=>simp[f]at a
  |true=>
   simp only[f,ag6]at a;injection a with a
   have r:=agT f;have q:=h.1;refine⟨.agg (c.extract off (off+n)),?_,?_⟩
   .unfold part;simp[l.run,dr g]
   .have d:jh σ ((cs.drop off).take n) (c.extract off (off+n)):=by
     refine⟨by simp;omega,λi o v e j=>?_⟩;have p:i<n:=by
      rcases agJ i n with h|h
      .exact h
      .rw[agD (by simp;omega)]at e;cases e
     rw[jG _ _ _ _ p]at e;rw[ahC,agK (by omega)]at j;exact h.2 (off+i) o v e j
    rw[<-a];unfold pack;split
    .rename_i e i;have:=nC.fY ⟨d.1,λi m v a b=>(d.2 i m v a b).1⟩ i;exact .d (.agg e _ this.1 d.flat this.2)
    .exact .agg _ _ d.1 d.flat (λi m v a b=>(d.2 i m v a b).1)
 .rename_i n e;have f:cT P t:=⟨e⟩;have g:off<cs.length:=by rcases agJ off cs.length with h|h;exact h;simp[agD h]at a
  have d:off<c.size:=by rw[h.1];exact g
  refine⟨c[off],?_,(h.2 off m c[off] a (by simp[d])).1⟩;unfold part;simp[f.run,d]
 .cases a
def AW{parts:List (Nat×Operand)}{z:List D}{ms:List (Nat×M)}(f:X.P.underlying T=some (.array len e))[h:cc X.P e n](j:oY X.P T=some (.agg z))(k:dF st parts=some ms)
  (l:gK (λi=>some (i*n,n)) (z.map .d) ms=some cs):cJ X ⟨dst,.build T parts.toArray,ty,pos,af,g⟩ st (dm (.m (pack cs)) st):=by
 refine Lq λc d A o=>?_
 obtain⟨q,r⟩:=o.dF k;obtain⟨v,s,t⟩:=(cz j).run;have u:jh d (z.map .d) v.cells:=(RM.d (eW t):RM d (.d (.agg z)) v).cells W;obtain⟨w,x,a⟩:=oC u q r l;refine⟨.agg w,?_,.m ?_⟩
 .simp only[execOp,Instr.build];simp only[Sem.run_bind,s,Result.andThen_ok,underlying,program,Sem.run,f,Sem.run_pure,dr h.size];have:(Array.map (λx:Nat×Operand=>match x with|(i,x)=>(i,c.eval x)) parts.toArray).toList=parts.map λp=>(p.1,c.eval p.2):=by simp
  simp only[this];rw[x];simp
 .unfold pack;split
  .rename_i i y;have:=nC.fY ⟨a.1,λi m v c b=>(a.2 i m v c b).1⟩ y;exact .d (.agg i _ this.1 a.flat this.2)
  .exact .agg _ _ a.1 a.flat (λi m v c b=>(a.2 i m v c b).1)
def De(b:RV σ Li (.m m) u)(a:jy m=some cs):∃a,u=.agg a/\jh σ cs a:=by
 unfold jy at a;cases b with
 |m b=>cases b with
  |d b=>cases b with
   |agg l f g h j=>
    simp at a;subst a;refine⟨f,W,by simp[g],λi m v c e=>?_⟩;simp only[ahh,agU]at c;obtain⟨d,k,rfl⟩:=c;exact⟨.d (j i d v k e),h i v e⟩
   |_=>simp at a
  |agg h c e f g=>
   simp at a;subst a;exact⟨c,W,e,λi m v b a=>⟨g i m v b a,f i v a⟩⟩
  |_=>simp at a
def AX{i:Nat}{y:Operand}{k:IntKind}(f:X.P.underlying T=some (.array len e))[h:cc X.P e n](j:st.ev x=some (.m m))(l:st.ev y=some (.m (.d (.int k (.ofNat i)))))(o:jy m=some cs)(hi:i<len)
  (p:ef X.P e cs (i*n)=some r):cJ X ⟨dst,.index T x y,ty,pos,af,g⟩ st (dm (.m r) st):=by
 refine Lq λd a E c=>?_
 have b:=c.ev j;have q:=c.jF l;generalize s:d.eval x=D at b;obtain⟨F,rfl,t⟩:=De b o;obtain⟨z,u,v⟩:=zG (w:=a.w) t p;refine⟨z,?_,.m v⟩;have A:(underlying T).run X.P a.w=.ok (.array len e) a.w:=by simp[underlying,program,Sem.run,f]
 have B:(0:Int)<=Int.ofNat i/\Int.ofNat i<(len:Int):=⟨ago i,by exact Int.ofNat_lt.2 hi⟩;simp only[execOp,s,q,Instr.index,asIntOf,Sem.run_bind,Sem.run_pure,Result.andThen_ok,A,agK B,dr h.size];have C:(Int.ofNat i).toNat=i:=rfl;rw[C,u];rfl
def uI{s f h:Nat}(t:st.ev x=some (.m m))(a:sA X.P s f=some (h,off))(b:jy m=some cs)(y:ef X.P h cs off=some r):
  cJ X ⟨dst,.field s x f,ty,pos,af,g⟩ st (dm (.m r) st):=by
 refine Lq λq j O A=>?_
 have c:=A.ev t;generalize i:q.eval x=u at c;have N:∃b a,X.P.underlying s=some (.struct b)/\b[f]?=some a/\a.type=h/\a.offset=off:=by
  unfold sA at a;split at a
  .rename_i p i;split at a
   .rename_i l k;injection a with a;injection a with n o
    exact⟨p,l,i,k,n,o⟩
   .cases a
  .cases a
 obtain⟨p,l,B,C,D,E⟩:=N;have F:∃a,u=.agg a/\jh j cs a:=by
  unfold jy at b;cases c with
  |m c=>cases c with
   |d c=>cases c with
    |agg P e G H I=>
     simp at b;subst b;refine⟨e,W,by simp[G],λk m v n o=>?_⟩;simp only[ahh,agU]at n;obtain⟨d,J,rfl⟩:=n;exact⟨.d (I k d v J o),H k v o⟩
    |_=>simp at b
   |agg G e k n o=>
    simp at b;subst b;exact⟨e,W,k,λi m v b a=>⟨o i m v b a,n i v a⟩⟩
   |_=>simp at b
 obtain⟨e,rfl,K⟩:=F;obtain⟨z,L,M⟩:=zG (w:=j.w) K y;refine⟨z,?_,.m M⟩;simp[execOp,Instr.field,i,underlying,program,Sem.run,B,C,asAgg,D,E,L]
def xv(hi:cj X σ Li st a){o:Option Operand}(h:sB st.ev o=some l):(l=none/\o.map a.eval=none)\/∃n k,l=some n/\o.map a.eval=some (.int k (n:Int)):=by
 unfold sB at h;cases o with
 |none=>simp at h;subst h;exact .inl ⟨W,W⟩
 |some y=>
  simp only at h;split at h
  .rename_i k i b;injection h with h;subst h
   right;exact⟨i,k,W,by simp[hi.jF b]⟩
  .cases h
def sC{lo hi:Option Operand}{h:Option Nat}{rows:List (List D)}[ht:br X.P t e][F:cc X.P e n](H:st.ev x=some (.m (.d (.sl rows))))(I:sB st.ev lo=some l)(J:sB st.ev hi=some h)
  (a:rows≠[]) (w:l.getD 0<=h.getD rows.length) (h2:h.getD rows.length<=rows.length) (K:∀r∈rows,r.length=n):
  cJ X ⟨dst,.slice t x lo hi none,ty,pos,af,g⟩ st (dm (.m (.d (match(rows.drop (l.getD 0)).take (h.getD rows.length-l.getD 0)with|[]=>.oa|r=>.sl r))) st):=by
 refine Lq λj v Li m=>?_
 have y:=m.mz H;have M:=xv m I;have N:=xv m J;generalize O:j.eval x=am at y;have P:∀w:World,(underlying t).run X.P w=.ok (.slice e) w:= λce=>by simp[underlying,program,Sem.run,ht.u]
 cases y with
 |slnil c=>exact absurd W a
 |sl rows b o c f Z Q M9 LV z R S T=>
  have U:f=n:=by
   cases rows with
   |nil=>exact absurd W Q
   |cons r i=>rw[<-z r (by simp)];exact K r (by simp)
  subst U;generalize p:l.getD 0=L at*;generalize s:h.getD rows.length=G at*;refine⟨.slice (if c=L then some ⟨b,o,none⟩else some ⟨b,o+L*f,none⟩) (G-L) (c-L),?_,?_⟩
  .have u:((G:Nat):Int)<=c:=by omega
   have q:∀a f:Option Value,(a=none/\L=0\/∃k,a=some (.int k (L:Int)))->(f=none/\G=rows.length\/∃k,f=some (.int k (G:Int)))->
     (Instr.sliceBounds true rows.length c a f none).run X.P v.w=.ok (L,G,c) v.w:=by
    rintro A B (⟨rfl,rfl⟩|⟨k,rfl⟩) (⟨rfl,rfl⟩|⟨C,rfl⟩)
    .simp[Instr.sliceBounds]
    .simp[Instr.sliceBounds,Instr.sliceBound,asIntOf,show G<=c by omega]
    .simp[Instr.sliceBounds,Instr.sliceBound,asIntOf,w]
    .simp[Instr.sliceBounds,Instr.sliceBound,asIntOf,show G<=c by omega,w]
   have a:=q (lo.map j.eval) (hi.map j.eval)
    (by
      rcases M with⟨rfl,e⟩|⟨n,k,rfl,e⟩
      .left;exact⟨e,by simpa using p.symm⟩
      .right;exact⟨k,by rw[e];simp at p;subst p;rfl⟩)
    (by
      rcases N with⟨rfl,e⟩|⟨n,k,rfl,e⟩
      .left;exact⟨e,by simpa using s.symm⟩
      .right;exact⟨k,by rw[e];simp at s;subst s;rfl⟩)
   simp only[execOp,Instr.sliceAt,Instr.slice,O,Option.map_none];simp only[Sem.run_bind,P,Result.andThen_ok,a,dr F.size,Sem.run_pure];by_cases i:c=L
   .simp[i]
   .simp[i,j_]
  .generalize A:(rows.drop L).take (G-L)=q;have u:q.length=G-L:=by rw[<-A];simp;omega
   cases q with
   |nil=>
    simp at u;rw[show G-L=0 by omega];exact .m (.d (.oa _ _))
   |cons V ac=>
    simp only;generalize B:V::ac=q at*;have Tv:0<G-L:=by rw[<-u,<-B];simp
    rw[agw (by omega),<-u];have C:∀i r,q[i]?=some r->rows[L+i]?=some r:=by
     intro i r a;rw[<-A,ahQ]at a;split at a
     .rw[ahP]at a;exact a
     .cases a
    have E:∀i,i<q.length->L+i<rows.length:=by intro i hi;omega
    refine .m (.d (gI.sl q b (o+L*f) (c-L) f (λi j=>Z (L+i) j) (by rw[<-B];simp) (by omega) (by omega) ?_ ?_ ?_ ?_))
    .intro r a;obtain⟨i,hi⟩:=aiA.1 a;exact z r (agN (C i r hi))
    .intro i k hi Y;have:=R (L+i) k (E i hi) Y;rw[show o+L*f+(i*f+k)=o+((L+i)*f+k) by rw[ahp];omega];exact this
    .intro i k hi Y;exact S (L+i) k (E i hi) Y
    .intro i k r d a Y;exact T (L+i) k r d (C i r a) Y
end ops
end Go.Mt
namespace Go.Mt
section ops
variable{X:cY}{st:St}{dst:Option Nat}{ty:Nat}{pos:String}{af:Array Edge}{g:Option (Nat×Bool)}
def GR{t:Nat}{x:Operand}{i:Nat}{es:List (D×M)}(ht:ld X.P t=2)(f:st.ev x=some (.m (.mp i)))(j:st.H[i]?=some (.map es)):
  cJ X ⟨dst,.call ⟨.builtin .len,#[x],#[t]⟩,ty,pos,af,g⟩ st (dm (.m (.d (.int .i64 (es.length:Nat)))) st):=by
 refine Lq λc d v a=>?_
 have h:=a.ev f;have b:∃k e,X.P.underlying t=some (.map k e):=by
  unfold ld at ht;split at ht<;>first|exact⟨_,_,by assumption⟩|cases ht
 obtain⟨w,e,b⟩:=b;generalize k:c.eval x=u at h;cases h with
 |m h=>cases h with
  |mp i y z=>
   have l:d.H[i]?=some (.map es):=by rw[a.hH];exact j
   obtain⟨C,n,o,E,p,q,A,B⟩:=a.hinv.obj i (.map es) l;have r:=n.len;refine⟨.int .i64 (es.length:Nat),?_,.m (.d (.int _ _))⟩;have s:o.size=es.length:=by rw[<-r];exact q
   simp[execOp,resolve,invoke,builtin,Builtin.len_,underlying,program,Sem.run,b,k,getObj,p,goInt,s]
end ops
section
variable{X:cY}{st:St}{dst:Option Nat}{ty:Nat}{pos:String}{af:Array Edge}{g:Option (Nat×Bool)}{pn:Nat}{H':Hp}
def IE{P:Program}{T:Nat}(ht:ld P T=2):∃k e,P.underlying T=some (.map k e):=by
 unfold ld at ht;split at ht<;>first|exact⟨_,_,by assumption⟩|cases ht
end
theorem dz{P:Program}{f:Nat}(h:Dc P f=true):bu P f:=by
 unfold Dc at h;split at h
 .rename_i fn c;simp only[agZ,ahH]at h;refine⟨λi w=>?_⟩;unfold callFunc;have a:fn.body.isNone=false:=by cases a:fn.body with
   |none=>rw[a]at h;simp at h
   |some b=>rfl
  have d:¬fn.name= "runtime.NumGoroutine" :=by simpa using h.1
  have g:¬fn.body=none:=by intro e;rw[e]at a;cases a
  simp[program,Sem.run,c,d,g]
 .cases h
variable{σ:Sg}{P:Program}{Oo:Nat->Nat->Prop}
section
variable{X:cY}
def JF(d:Deferred)(g:Nat)(a:Array Value):Prop:=d=⟨.fn (.func g) a,#[]⟩\/d=⟨.fn (.func g) #[],a⟩
def BL{fn:Func}{tmps:Array Value}{R:Ending->World->Prop}{d:Deferred}{g:Nat}{ds:Array Value}{u:FrameMode}{w:World}(i:JF d g ds)(c:bu P g)(e:u≠.run)
  (h:CallsD P g ds u w λ
   |.returned _,b,a=>Leaves P fn tmps R [] (settle b) a
   |.panicked j,b,a=>Leaves P fn tmps R [] (raised b j) a
   |.outgrown,_,a=>R .outgrown a):Leaves P fn tmps R [d] u w:=by
 rcases i with rfl|rfl
 .exact leaves_cons (f:=g) (args:=ds) e (by simp[invoke,c.run]) h
 .exact leaves_cons (f:=g) (args:=ds) e (by simp[invoke,c.run]) h
def cj.enter{n:Nat}{ms:List M}{a:Array Value}(c:ie σ Oo)(d:nC σ ms a)(i:ms.length<=n):
  cj ⟨P,n,σ,Oo,[]⟩ σ (λ_=>0) ⟨lV 0 ms,[],σ.H⟩ {tmps:=a++Array.replicate (n-a.size) undef,defers:=[]} :=by
 refine⟨W,W,?_,?_,by simp[get],by simp[get],by simp[get],by simp[get],?_,db.refl _,bT.refl _⟩
 .have:=d.1;simp;omega
 .intro t v g;obtain⟨_,m,e,rfl⟩:=sj ms 0 t v g;simp at e;have f:t<a.size:=by
   rw[d.1];rcases agJ t ms.length with h|h;exact h;simp[agD h]at e
  exact⟨a[t],by simp[aiz,f],.m (d.2 t m _ e (by simp[f]))⟩
 .exact⟨c.obj,c.inj,λb o=>by rw[c.own];simp[lU,get],λi d e a o f=>c.sep i d e a o (by simpa [lU,get] using f),λb o a=>c.iG b o (by simpa [lU,get] using a)⟩
def cj.GU{Li:Nat->Nat}{st:St}{a:Act}(hi:cj X σ Li st a):∃τ:Sg,τ.w=σ.w/\τ.H=st.H/\ie τ X.jj/\db X.s0 τ/\bT X.s0 τ/\∀m v,RM σ m v->RM τ m v:=by
 let τ:Sg:={σ with O:= λb o=>X.jj b o\/∃(i:Nat) (c:Ob),σ.H[i]?=some c/\σ.l i=b/\c.iP o}
 have d:db σ τ:=by
  refine⟨λb o v e f=>⟨e,λc=>f ?_⟩,λi d c=>⟨⟨d,c⟩,rfl⟩,λi d c=>⟨⟨d,c⟩,rfl⟩,λi d c=>⟨⟨d,c⟩,rfl⟩,λi c=>c,λi f c e d c=>.inr ⟨f,e,d,c,ags _,λ_=>⟨rfl,rfl,λd T c=>⟨d,c,rfl⟩⟩⟩,λ_ h=>⟨_,h⟩⟩;rw[hi.hinv.own];rcases c with c|c
  .exact .inl (.inl c)
  .exact .inr c
 refine⟨τ,W,hi.hH,?_,hi.mono.trans d,⟨hi.a_.os,hi.a_.output,hi.a_.tape,hi.a_.size,hi.a_.a_,hi.a_.loc⟩,λm v h=>h.mono d⟩;exact⟨λi c e=>(hi.hinv.obj i c e).fT d (λx c=>c),hi.hinv.inj,λb o=>ail,λi c d e o f=>hi.hinv.sep i c d e o (.inl f),λb o c=>hi.hinv.iG b o (.inl c)⟩
end
def RM.mb{m:M}{v:Value}(h:RM σ m v):MB σ.H.length m:=by
 have row:∀(i c:Nat),(σ.H[i]?=some .dead\/∃g e a f,σ.H[i]?=some (.row g e a f)/\c<=a)->i<σ.H.length:=by
  rintro i c (h|⟨_,_,_,_,h,_⟩)<;>exact eS h
 have a:∀(a:List M) (c:Array Value),c.size=a.length->(∀(i:Nat) (m:M) (v:Value),a[i]?=some m->c[i]?=some v->MB σ.H.length m)->∀m∈a,MB σ.H.length m:=by
  intro g c j h m e;obtain⟨i,f,rfl⟩:=ahr e;exact h i _ c[i] (by simp[f]) (by simp[show i<c.size by omega])
 induction h with
 |d h=>exact .d _
 |ref i c e h=>exact .ref i c (eS h)
 |cy i c e g k f j=>exact .cy i c e (row i c f)
 |cF i c e b f g=>exact .cF i c e (row i c f)
 |mp i c h=>exact .mp i (eS h)
 |it i x h=>exact .it i (eS h)
 |agg c e f i h g=>exact .agg c (a c e f g)
 |fn f c e j g h i=>exact .fn f c (a c e g i)
 |ww j g c e k f h i=>exact .fn g c (a c e f i)
 |c_ c e f h g=>exact .c_ c (a c e f g)
 |undef v=>exact .undef
def ie.hb(hi:ie σ Oo):HB σ.H.length σ.H:=by
 intro b f;obtain⟨i,g,rfl⟩:=ahr f;have h:=hi.obj i _ (ag3 g);generalize σ.H[i]=b at h;cases b with
 |box n=>
  obtain⟨a,T,_,o,d⟩:=h;intro m k;obtain⟨j,l,rfl⟩:=ahr k;exact(d j _ a[j] (by simp[l]) (by simp[show j<a.size by omega])).1.mb
 |row w a t r=>
  obtain⟨u,d,T,q,n,_,s,k,⟨v,_⟩,p⟩:=h;intro m l;obtain⟨j,o,rfl⟩:=ahr l;have:n*a<=q*a:=agR _ k;exact(p j _ d[j] (by simp[o]) (by simp[show j<d.size by omega])).1.mb
 |map r=>
  obtain⟨n,o,d,c,_,q,k,_⟩:=h;intro e p;obtain⟨j,l,rfl⟩:=ahr (o.mem.2 p);rcases k j n[j] d[j] (by simp[l]) (by simp[show j<d.size by omega])with⟨_,a⟩|⟨_,a⟩|⟨_,a⟩<;>exact a.mb
 |iter x=>
  rcases h with⟨_,_,_,_,_,a⟩|⟨_,_,_,a⟩
  .rcases a with⟨_,a⟩|⟨a,_⟩<;>exact a.mb
  .exact a.mb
 |dead=>trivial
 |free=>trivial
end Go.Mt
namespace Go.Mt
variable{X:cY}{sl:List (Nat×V)}{bx:List (Nat×List M)}{H:Hp}{c:Code}
def again{I:Nat->St->Prop}{k k':Nat}{LJ:List (Nat×V)}{H':Hp}(b:k'<k)(c:I k' ⟨LJ,bx,H'⟩)(d:H=H')(e:keeps sl LJ):
  ∃k' b,k'<k/\I k' b/\∀a w,Inv X ⟨sl,bx,H⟩ a w->Inv X b a w:=
 ⟨k',_,b,c,λ_ _ f=>by subst d;exact f.gN (gA e) (λ_=>rfl)⟩
def LI{post:Exit->St->Prop}(I:Nat->St->Prop)(a:Nat)(LJ:List (Nat×V))(b:I a ⟨LJ,bx,H⟩)(d:keeps sl LJ)
  (e:∀k s,I k s->TC X c s (after post λd=>∃a b,a<k/\I a b/\∀a w,Inv X d a w->Inv X b a w)):TC X (.loop c) ⟨sl,bx,H⟩ post:=
 TC.C4 I a _ b (λa w a=>a.gN (gA d) λ_=>rfl) e
def TC.rename{q:Exit->St->Prop}(LJ:List (Nat×V))(H':Hp)(a:keeps sl LJ)(b:H=H')(k:TC X c ⟨LJ,bx,H'⟩ q):TC X c ⟨sl,bx,H⟩ q:=by
 subst b;exact TC.gN k a
def kF(k:IntKind)(a:List Int):List (List D):=a.map λz=>[.int k z]
def JG(k:IntKind)(a:List Int)(v:D):Prop:=oc v=some a.length/\(a=[]\/v=.sl (kF k a))/\∀z∈a,(Lit.int k z).wf=true
def xw{k:IntKind}{a:List Int}{i:Nat}{z:Int}(h:a[i]?=some z):(kF k a)[((i:Nat):Int).toNat]?=some [.int k z]:=by simp[kF,h]
def AY(k:IntKind)(w:World)(a:Option Addr)(len cap:Nat)(b:List Int):Prop:=
 (a=none/\len=0/\cap=0/\b=[])\/
 ∃x,a=some x/\len<=cap/\cap<=maxLen/\b.length=cap/\(∀i,i<b.length->w.cell? (x.add i)=some (.int k (b.getD i 0)))/\∀n∈b,(Lit.int k n).wf=true
end Go.Mt
namespace Go.Mt
variable{e xt yt:Nat}{x:Operand}
section
variable{X:cY}{ops:Array Oper}{rest:List Oper}{sl:List (Nat×V)}{bx:List (Nat×List M)}{H:Hp}{post:St->Prop}{d ty:Nat}{pos:String}{af:Array Edge}{st:St}{dst:Option Nat}{g:Option (Nat×Bool)}
def Df{P:Program}{w:World}{t:Nat}(h:P.underlying t=some (.slice e))(a:Option Addr)(l c:Nat):(Op.equal t (.slice a l c) (.slice none 0 0)).run P w=.ok a.isNone w:=by
 have b:(underlying t).run P w=.ok (.slice e) w:=by simp[underlying,program,Sem.run,h]
 simp only[Op.equal,Op.maxDepth];rw[Op.equalIn];cases a<;>simp[b]
def GW[ht:br X.P xt e](i:st.ev x=some (.m (.d (.sl [])))):
  cJ X ⟨dst,.binOp .eql xt x (.const (.slice none 0 0)) yt,ty,pos,af,g⟩ st (λv s=>∃b,v=.m (.d (.bool b))/\s=st):=by
 intro c a j d;have h:=d.mz i;generalize k:c.eval x=u at h;cases h with
 |slnil f=>
  have l:c.eval (.const (.slice none 0 0))=.slice none 0 0:=rfl;have m:=Df (w:=a.w) ht.u f 0 0;refine dv.value (u:=.bool f.isNone) (w':=a.w) (by simp[execOp,k,l,eqGuard,binOp,m]) ⟨_,_,a,j,⟨_,rfl,rfl⟩,rfl,d,.m (.d (.bool _))⟩
 |sl A b o y l z f m n p q r t=>exact absurd W f
def tr[ht:br X.P xt e](a:Nat.blt d X.n=true)(c:bj sl x=some (.m (.d (.sl []))))(k:∀b,TL X ops rest ⟨(d,.m (.d (.bool b)))::sl,bx,H⟩ post):
  TL X ops (⟨some d,.binOp .eql xt x (.const (.slice none 0 0)) yt,ty,pos,af,none⟩::rest) ⟨sl,bx,H⟩ post:=
 TL.op W W a (GW (by exact c)) (by rintro v s ⟨b,rfl,rfl⟩;exact k b)
end
end Go.Mt
namespace Go.Mt
section
variable{X:cY}{ops:Array Oper}{rest:List Oper}{sl:List (Nat×V)}{bx:List (Nat×List M)}{H:Hp}{post:St->Prop}{d ty:Nat}{pos:String}{af:Array Edge}
def BM{T len e n:Nat}{parts:List (Nat×Operand)}{z:List D}{ms:List (Nat×M)}{cs:List M}{ds:List D}[a:cc X.P e n](b:Nat.blt d X.n=true)(c:X.P.underlying T=some (.array len e))(f:oY X.P T=some (.agg z))(h:ez sl parts=some ms)
  (i:gK (λi=>some (i*n,n)) (z.map .d) ms=some cs) (j:fY cs=some ds) (k:TL X ops rest ⟨(d,.m (.d (.agg ds)))::sl,bx,H⟩ post):TL X ops (⟨some d,.build T parts.toArray,ty,pos,af,none⟩::rest) ⟨sl,bx,H⟩ post:=by
 have a:=AW (X:=X) (dst:=some d) (ty:=ty) (pos:=pos) (af:=af) (g:=none) (st:=⟨sl,bx,H⟩) (T:=T) c f (by rw[eA];exact h) i;have:pack cs=.d (.agg ds):=by simp[pack,j]
 rw[this]at a;exact LA W W b a k
end
variable{n f:Nat}{x:Operand}{H:Hp}{ms:List M}
def gr(b:Nat)(rs:List (List D)):M:=match rs with
 |[]=>.d (.sl [])
 |_::r=>.cy b r.length (r.length+1)
def dY(H0:Hp)(n:Nat)(rs:List (List D)):Hp:=match rs with
 |[]=>H0
 |q::r=>H0++[.row true n r.length (bf (q::r))]
def i_(H0:Hp)(n:Nat)(rs:List (List D))(a:∀r∈rs,r.length=n):eK (dY H0 n rs) (gr H0.length rs)=some (.sl rs):=by
 cases rs with
 |nil=>rfl
 |cons q r=>
  have h:=Acc.view (n:=n) (i:=H0.length) (rs:=q::r) (m:=gr H0.length (q::r)) (H:=dY H0 n (q::r)) (.inr ⟨by simp,r.length,by simp[gr],by simp[dY]⟩) a;exact h
def lg(b:Nat)(rs:List (List D)):fj (gr b rs)=some [gr b rs]:=by cases rs<;>rfl
def uJ(H0:Hp)(n:Nat)(rs:List (List D))(j:Nat)(a:j<H0.length):(dY H0 n rs)[j]?=H0[j]?:=by
 cases rs with
 |nil=>rfl
 |cons q r=>simp only[dY];rw[agF a]
def Dg(H0:Hp)(n:Nat)(rs:List (List D)):(dY H0 n rs).take H0.length=H0:=by cases rs<;>simp[dY]
def Ff(H0:Hp)(n:Nat)(rs:List (List D)):H0.length<=(dY H0 n rs).length:=by cases rs<;>simp[dY]
section
variable{X:cY}{ops:Array Oper}{rest:List Oper}{sl:List (Nat×V)}{bx:List (Nat×List M)}{post:St->Prop}{d ty:Nat}{pos:String}{af:Array Edge}
def wG{T e a:Nat}{y:Operand}{H0:Hp}{rs:List (List D)}{r:List D}{z:D}[ht:br X.P T e][p:cc X.P e n][s:jx X.P e a][t:fC X.P e z](b:Nat.blt d X.n=true)
  (c:bj sl x=some (.m (gr H0.length rs))) (f:bj sl y=some (.m (.d (.sl [r])))) (l:Nat.blt 0 n=true) (g:(bP z).length=n) (h:r.length=n) (i:(rs.length+1)*a<=140737488355328) (m:rs.length+1<=140737488355328)
  (k:TL X ops rest ⟨(d,.m (gr H0.length (rs++[r])))::sl,bx,dY H0 n (rs++[r])⟩ post):
  TL X ops (⟨some d,.call ⟨.builtin .append,#[x,y],#[T,T]⟩,ty,pos,af,none⟩::rest) ⟨sl,bx,dY H0 n rs⟩ post:=by
 cases rs with
 |nil=>exact fl true b c f l g (by simp) (by intro q j;rw[ag9]at j;rw[j];exact h) (by simpa using i) k
 |cons q rs=>
  refine fm (acc:=true) (cs:=bf (q::rs)) b c f (by simp[dY]) g (by intro q j;rw[ag9]at j;rw[j];exact h) (by simpa using i) (by simpa using m) ?_;have e:(dY H0 n (q::rs)).set H0.length (.row true n (rs.length+1) (bf (q::rs)++bf [r]))=dY H0 n (q::rs++[r]):=by simp[dY,bf]
  have o:M.cy H0.length (rs.length+1) (rs.length+1+1)=gr H0.length (q::rs++[r]):=by simp[gr]
  rw[<-e,<-o]at k;exact k
def AZ{LX:List Operand}(a:Nat.blt d X.n=true)(b:gE sl LX=some ms)(k:TL X ops rest ⟨(d,.m (.fn f ms))::sl,bx,H⟩ post)(c:f<1024:=by decide):
  TL X ops (⟨some d,.makeFunc (.func f) #[] LX.toArray,ty,pos,af,none⟩::rest) ⟨sl,bx,H⟩ post:=
 LA W W a (yW (by rw[oE];exact b) c) k
def Fg{H':Hp}{LX:List M}{args:List Operand}{NI:Array Nat}{r:M}[a:bu X.P f](h:CT X.P f (ms++LX) H λa b=>a=r/\b=H')(a:Nat.blt d X.n=true)(c:bj sl x=some (.m (.fn f LX)))(e:gE sl args=some ms)
  (k:TL X ops rest ⟨(d,.m r)::sl,bx,H'⟩ post) (g:f<1024:=by decide):TL X ops (⟨some d,.call ⟨.value x,args.toArray,NI⟩,ty,pos,af,none⟩::rest) ⟨sl,bx,H⟩ post:=
 LA W W a (Dd (BK (by exact c) (by rw[oE];exact e) g) h) k
end
def cM{x:List D}(h:x.length=n):∀r∈[x],r.length=n:=by intro r a;rw[ag9]at a;rw[a];exact h
def nU{a b:Nat}(h:Nat.ble a b=true):a<=b:=agT h
end Go.Mt
namespace Go.Mt
variable{c x y:Code}{H H':Hp}{sl LJ:List (Nat×V)}{bx:List (Nat×List M)}{id f k:Nat}{ms:List M}{ops:List Oper}{s sE:St}{P:Program}{p:M->Hp->Prop}{e:Exit}
def DT(P:Program)(f:Nat)(ms:List M)(H:Hp)(post:M->Hp->Prop):Prop:=∃r K,post r K/\CT P f ms H λa b=>a=r/\b=K
def DC(P:Program)(n B:Nat)(c:Code)(st:St)(post:Exit->St->Prop):Prop:=
 ∃e s,post e s/\∀a b,a.H.length<=B->TC ⟨P,n,a,b,[]⟩ c st λa b=>a=e/\b=s
def DT.mono{q:M->Hp->Prop}(h:DT P f ms H p)(k:∀r K,p r K->q r K):DT P f ms H q:=by
 obtain⟨r,K,a,b⟩:=h;exact⟨r,K,k _ _ a,b⟩
def DT.ct(h:DT P f ms H p):CT P f ms H p:=by
 obtain⟨r,K,c,d⟩:=h;exact d.mono λ_ _ ⟨a,b⟩=>by subst a;subst b;exact c
section
variable{P:Program}{n B:Nat}{st:St}{post:Exit->St->Prop}
def DC.mono{q:Exit->St->Prop}(h:DC P n B c st post)(k:∀e s,post e s->q e s):DC P n B c st q:=by
 obtain⟨e,s,a,b⟩:=h;exact⟨e,s,k _ _ a,b⟩
def DC.seq(h:DC P n B x st (after post λs=>DC P n B y s post)):DC P n B (.seq x y) st post:=by
 obtain⟨e,s,a,c⟩:=h;cases e with
 |normal=>
  obtain⟨j,k,l,m⟩:=a;exact⟨j,k,l,λd f g=>TC.seq ((c d f g).mono λo p ⟨i,b⟩=>by subst i;subst b;exact m d f g)⟩
 |_=>exact⟨_,s,a,λf g i=>TC.seq ((c f g i).mono λj k ⟨d,b⟩=>by subst d;subst b;exact⟨W,W⟩)⟩
def DC.skip(h:post .normal st):DC P n B .skip st post:=⟨_,_,h,λ_ _ _=>TC.skip ⟨rfl,rfl⟩⟩
def DC.exit(h:post (.exit id) st):DC P n B (.exit id) st post:=⟨_,_,h,λ_ _ _=>TC.exit ⟨rfl,rfl⟩⟩
def DC.ret(h:post .ret st):DC P n B .ret st post:=⟨_,_,h,λ_ _ _=>TC.ret ⟨rfl,rfl⟩⟩
def DC.block(h:DC P n B c st (mU id post)):DC P n B (.block id c) st post:=by
 obtain⟨e,s,a,f⟩:=h;by_cases d:e=.exit id
 .subst d;simp only[mU,ah3]at a;refine⟨.normal,s,a,λi j k=>TC.block ((f i j k).mono λl m ⟨g,b⟩=>?_)⟩;subst g;subst b;simp[mU]
 .refine⟨e,s,?_,λj k l=>TC.block ((f j k l).mono λm o ⟨g,b⟩=>?_)⟩
  .cases e with
   |exit i=>simp only[mU]at a;rw[agw (by rintro rfl;exact d W)]at a;exact a
   |_=>exact a
  .subst g;subst b;cases m with
   |exit i=>show(if i=id then _ else _);rw[agw (by rintro rfl;exact d W)];exact⟨W,W⟩
   |_=>exact⟨W,W⟩
def DC.cond{c:Operand}{b:Bool}(a:st.ev c=some (.m (.d (.bool b))))(ht:b=true->DC P n B x st post)(d:b=false->DC P n B y st post):DC P n B (.cond c x y) st post:=by
 cases b with
 |true=>
  obtain⟨e,s,f,g⟩:=ht W;exact⟨e,s,f,λi j k=>TC.cond a (λ_=>g i j k) (λh=>by cases h)⟩
 |false=>
  obtain⟨e,s,f,g⟩:=d W;exact⟨e,s,f,λi j k=>TC.cond a (λh=>by cases h) (λ_=>g i j k)⟩
def DC.region(h:∃s,(∀a b,TL ⟨P,n,a,b,[]⟩ ops.toArray ops st λa=>a=s)/\post .normal s):DC P n B (.region id ops.toArray false) st post:=by
 obtain⟨s,c,d⟩:=h;refine⟨.normal,s,d,λa b _=>TC.region ?_⟩;show TL _ _ _ _ (λa=>Exit.normal=Exit.normal/\a=s);rw[show(λa:St=>Exit.normal=Exit.normal/\a=s)=(λa=>a=s)from funext λa=>by simp];exact c a b
def DC.draw(a:P.follows .mixedOrders=true)(h:∃s,(∀a b,TF ⟨P,n,a,b,[]⟩ ops.toArray ops st λa b=>mY ops st.sl a=true/\b=s)/\post .normal s):DC P n B (.region id ops.toArray true) st post:=by
 obtain⟨s,f,g⟩:=h;refine⟨.normal,s,g,λb c _=>Na a ?_⟩;obtain⟨d,e,i,j,k⟩:=f b c;exact⟨d,e,i,j,W,k⟩
def KZ(a:∀a b,TL ⟨P,n,a,b,[]⟩ ops.toArray ops st λa=>a=s)(b:post .normal s):DC P n B (.region id ops.toArray false) st post:=DC.region ⟨s,a,b⟩
def Le(a:P.follows .mixedOrders=true)(b:∀a b,TF ⟨P,n,a,b,[]⟩ ops.toArray ops st λa b=>mY ops st.sl a=true/\b=s)(c:post .normal s):DC P n B (.region id ops.toArray true) st post:=DC.draw a ⟨s,b,c⟩
def Mq(d:St)(g:∀a f,a.H.length<=B->∀b w,Inv ⟨P,n,a,f,[]⟩ st b w->Inv ⟨P,n,a,f,[]⟩ d b w)(k:DC P n B c d post):DC P n B c st post:=by
 obtain⟨e,s,a,h⟩:=k;exact⟨e,s,a,λb d f a w i=>h b d f a w (g b d f a w i)⟩
inductive pe(P:Program)(n B:Nat)(c:Code):Nat->St->Exit->St->Prop where
 |stop {s b:St} {e:Exit} (j:e≠.normal) (h:∀d f,d.H.length<=B->TC ⟨P,n,d,f,[]⟩ c s λg i=>g=e/\i=b):pe P n B c 0 s e b
 |more {k:Nat} {s d g sE:St} {e:Exit} (h:∀b f,b.H.length<=B->TC ⟨P,n,b,f,[]⟩ c s λi j=>i=.normal/\j=d)
   (hw:∀b f,b.H.length<=B->∀a w,Inv ⟨P,n,b,f,[]⟩ d a w->Inv ⟨P,n,b,f,[]⟩ g a w) (hk:pe P n B c k g e sE):pe P n B c (k+1) s e sE
def pe.ne(h:pe P n B c k s e sE):e≠.normal:=by
 induction h with
 |stop a _=>exact a
 |more _ _ _ a=>exact a
def pe.run(h:pe P n B c k s e sE)(a:Sg)(d:Nat->Nat->Prop)(f:a.H.length<=B):TC ⟨P,n,a,d,[]⟩ (.loop c) s λa d=>a=e/\d=sE:=by
 have o:=h.ne;refine TC.C4 (λk s=>pe P n B c k s e sE) k s h (λ_ _ a=>a) ?_;intro k s j;cases j with
 |stop l h=>
  refine(h a d f).mono λi m ⟨g,b⟩=>?_
  subst g;subst b;cases i with
  |normal=>exact absurd W l
  |_=>exact⟨W,W⟩
 |more h i k=>
  refine(h a d f).mono λl m ⟨g,b⟩=>?_
  subst g;subst b;exact⟨_,_,aib _,k,i a d f⟩
def xx(P:Program)(n B:Nat)(I:Nat->St->Prop)(k:Nat)(s:St):Prop:=
 ∃a c,a<k/\I a c/\∀a d,a.H.length<=B->∀b w,Inv ⟨P,n,a,d,[]⟩ s b w->Inv ⟨P,n,a,d,[]⟩ c b w
def DC.JH(I:Nat->St->Prop)(f:Nat)(g:I f st)(w:∀k s,I k s->DC P n B c s (after post λa=>xx P n B I k a)):DC P n B (.loop c) st post:=by
 have v:∀k s,I k s->∃m e a,pe P n B c m s e a/\post e a:=by
  intro k
  induction k using Nat.strongRecOn with
  |ind k h=>
   intro s i;obtain⟨e,j,a,b⟩:=w k s i;cases e with
   |normal=>
    obtain⟨l,o,p,q,r⟩:=a;obtain⟨m,e,d,t,u⟩:=h l p o q;exact⟨m+1,e,d,.more b r t,u⟩
   |_=>exact⟨0,_,j,.stop (by simp) b,a⟩
 obtain⟨m,e,d,a,b⟩:=v f st g;exact⟨e,d,b,λb d f=>a.run b d f⟩
def DC.loop(I:Nat->St->Prop)(a:Nat)(LJ:List (Nat×V))(b:I a ⟨LJ,bx,H⟩)(d:keeps sl LJ)
  (e:∀k s,I k s->DC P n B c s (after post λa=>xx P n B I k a)):DC P n B (.loop c) ⟨sl,bx,H⟩ post:=
 Mq ⟨LJ,bx,H⟩ (λ_ _ _ a w a=>a.gN (gA d) λ_=>rfl) (DC.JH I a b e)
def bH{I:Nat->St->Prop}{k':Nat}(a:k'<k)(b:I k' ⟨LJ,bx,H'⟩)(c:H=H')(d:keeps sl LJ):xx P n B I k ⟨sl,bx,H⟩:=
 ⟨k',_,a,b,λ_ _ _ _ _ e=>by subst c;exact e.gN (gA d) (λ_=>rfl)⟩
def LF(LJ:List (Nat×V))(H':Hp)(a:keeps sl LJ)(b:H=H')(k:DC P n B c ⟨LJ,bx,H'⟩ post):DC P n B c ⟨sl,bx,H⟩ post:=by
 subst b;exact Mq _ (λ_ _ _ b w b=>b.gN (gA a) λ_=>rfl) k
def L3(LJ:List (Nat×V))(L4:List (Nat×List M))(H':Hp)(a:keeps sl LJ)(b:∀t,get L4 t=get bx t)(d:H=H')(k:DC P n B c ⟨LJ,L4,H'⟩ post):DC P n B c ⟨sl,bx,H⟩ post:=by
 subst d;exact Mq _ (λ_ _ _ d w d=>d.gN (gA a) b) k
def DC.bg(t:Nat){m:M}{x:D}(a:get sl t=some (.m m))(b:eK H m=some x)(k:DC P n B c ⟨(t,.m (.d x))::sl,bx,H⟩ post):DC P n B c ⟨sl,bx,H⟩ post:=
 Mq _ (λ_ _ _ d w d=>d.bg a b) k
def DC.cZ(t:Nat){cs Ls:List M}(a:get bx t=some cs)(b:dV H cs=some Ls)(k:DC P n B c ⟨sl,(t,Ls)::bx,H⟩ post):DC P n B c ⟨sl,bx,H⟩ post:=
 Mq _ (λ_ _ _ d w d=>d.cZ a b) k
def DC.GX(c:St)(a:DC P n B x st (after post λs=>∀a d,a.H.length<=B->∀b w,Inv ⟨P,n,a,d,[]⟩ s b w->Inv ⟨P,n,a,d,[]⟩ c b w))(b:DC P n B y c post):DC P n B x st (after post λs=>DC P n B y s post):=
 a.mono λe s h=>by
  cases e with
  |normal=>exact Mq _ h b
  |_=>exact h
def pf(b:H=H')(c:keeps sl LJ):∀b c,b.H.length<=B->∀a w,Inv ⟨P,n,b,c,[]⟩ ⟨sl,bx,H⟩ a w->Inv ⟨P,n,b,c,[]⟩ ⟨LJ,bx,H'⟩ a w:=
 λ_ _ _ _ _ d=>by subst b;exact d.gN (gA c) (λ_=>rfl)
def A0{L4:List (Nat×List M)}(b:∀t,get L4 t=get bx t)(c:H=H')(d:keeps sl LJ):∀b c,b.H.length<=B->∀a w,Inv ⟨P,n,b,c,[]⟩ ⟨sl,bx,H⟩ a w->Inv ⟨P,n,b,c,[]⟩ ⟨LJ,L4,H'⟩ a w:=
 λ_ _ _ _ _ e=>by subst c;exact e.gN (gA d) b
end
def Lj{fn:Func}{post:M->Hp->Prop}(i:P.funcs[f]?=some fn)(j:fn.body=some c)
  {n:Nat} (k:fn.ntmps=n) (l:Nat.ble ms.length n=true) (h:DC P n H.length c ⟨lV 0 ms,[],H⟩ (pX P fn post)):DT P f ms H post:=by
 obtain⟨e,s,a,o⟩:=h;have g:∀m,s7 P fn s=some m->(∀a,a=e->∀d,d=s->pX P fn (λa d=>a=m/\d=s.H) a d)->CT P f ms H λr t=>r=m/\t=s.H:= λm v u=>
  Lf i j k l λa d=>TC.base λg=>(o a d g).mono λp q ⟨d,b⟩=>u p d q b
 cases e with
 |normal=>
  obtain⟨m,d,p⟩:=a;exact⟨m,s.H,p,g m d (by rintro _ rfl _ rfl;exact⟨m,d,W,W⟩)⟩
 |ret=>
  obtain⟨m,d,p⟩:=a;exact⟨m,s.H,p,g m d (by rintro _ rfl _ rfl;exact⟨m,d,W,W⟩)⟩
 |_=>exact a.elim
section
variable{X:cY}{ops:Array Oper}{rest:List Oper}{sl:List (Nat×V)}{bx:List (Nat×List M)}{H:Hp}{post:St->Prop}{d ty:Nat}{pos:String}{af:Array Edge}
def aD{args:List Operand}{NI:Array Nat}{r:M}{K:Hp}[c:bu X.P f](h:CT X.P f ms H λa b=>a=r/\b=K)(a:Nat.blt d X.n=true)(b:gE sl args=some ms)
  (k:TL X ops rest ⟨(d,.m r)::sl,bx,K⟩ post):TL X ops (⟨some d,.call ⟨.value (.func f),args.toArray,NI⟩,ty,pos,af,none⟩::rest) ⟨sl,bx,H⟩ post:=
 iQ h a b (by rintro _ _ ⟨rfl,rfl⟩;exact k)
end
end Go.Mt
namespace Go.Mt
section
variable{X:cY}{ops:Array Oper}{rest:List Oper}{post:St->Prop}{sl:List (Nat×V)}{bx:List (Nat×List M)}{H:Hp}{d ty:Nat}{pos:String}{af:Array Edge}
def Ew{x y:Operand}{a g:Nat}{b c:Int}{e f:ByteArray}[ht:tm X.P a](h:Nat.blt d X.n=true)(i:bj sl x=some (.m (.d (.agg [.int .u8 b,.str e]))))(j:bj sl y=some (.m (.d (.agg [.int .u8 c,.str f]))))
  (k:TL X ops rest ⟨(d,.m (.d (.bool (decide (b=c)&&decide (e=f)))))::sl,bx,H⟩ post):TL X ops (⟨some d,.binOp .eql a x y g,ty,pos,af,none⟩::rest) ⟨sl,bx,H⟩ post:=
 LA W W h (GG i j) k
end
variable{x y:Code}{st:St}{post:Exit->St->Prop}{c:Operand}{P:Program}{n B:Nat}{X:cY}
section
variable{X:cY}{ops:Array Oper}{rest:List Oper}{post:St->Prop}{Lw:List Ef->St->Prop}{sl:List (Nat×V)}{bx:List (Nat×List M)}{H:Hp}{d ty:Nat}{pos:String}{af:Array Edge}
def tu{x y:Operand}{g h:Nat}{a b:Int}{c f:ByteArray}[ht:tm X.P g](i:Nat.blt d X.n=true)(j:bj sl x=some (.m (.d (.agg [.int .u8 a,.str c]))))(l:bj sl y=some (.m (.d (.agg [.int .u8 b,.str f]))))
  (k:TF X ops rest ⟨(d,(.m (.d (.bool (!(decide (a=b)&&decide (c=f)))))))::sl,bx,H⟩ λg h=>Lw (⟨some d,(.m (.d (.bool (!(decide (a=b)&&decide (c=f)))))),[],[],none,false,none⟩::g) h):
  TF X ops (⟨some d,.binOp .neq g x y h,ty,pos,af,none⟩::rest) ⟨sl,bx,H⟩ Lw:=
 TF.cons (e:=⟨some d,(.m (.d (.bool (!(decide (a=b)&&decide (c=f)))))),[],[],none,false,none⟩) (Lm W W (bL i) λa a=>GI ((a.ev (x:=x) (by simp[Op.operands,Call.operands])).trans j) ((a.ev (x:=y) (by simp[Op.operands,Call.operands])).trans l)) W k
end
def Lo(a:st.ev c=some (.m (.d (.bool true))))(ht:DC P n B x st post):DC P n B (.cond c x y) st post:=DC.cond a (λ_=>ht) λh=>nomatch h
def Lc(a:st.ev c=some (.m (.d (.bool false))))(ht:DC P n B y st post):DC P n B (.cond c x y) st post:=DC.cond a (λh=>nomatch h) λ_=>ht
def LK(a:st.ev c=some (.m (.d (.bool true))))(ht:TC X x st post):TC X (.cond c x y) st post:=TC.cond a (λ_=>ht) λh=>nomatch h
def Ll(a:st.ev c=some (.m (.d (.bool false))))(ht:TC X y st post):TC X (.cond c x y) st post:=TC.cond a (λh=>nomatch h) λ_=>ht
end Go.Mt
namespace Go.Mt
variable{X:cY}{I:Hp->Prop}{ops:Array Oper}{st:St}{post:List Ef->St->Prop}{rest:List Oper}{o:Oper}{e:Ef}{id:Nat}
def lX.nil(h:post [] st):lX X I ops [] st post:=⟨[],st,.nil st,h⟩
def lX.cons(h:AO X I ops o e st)(a:e.d=o.dst)
  (k:lX X I ops rest (e.app st) λa s=>post (e::a) s):lX X I ops (o::rest) st post:=by
 obtain⟨b,c,d,f⟩:=k;exact⟨e::b,c,.cons h a d,f⟩
def NN{a:St}(h:TF X ops [o] st λb s=>b=[e]/\s=a)
  (k:lX X I ops rest a λa s=>post (e::a) s):lX X I ops (o::rest) st post:=by
 obtain⟨f,g,b,rfl,rfl⟩:=h;cases b with
 |cons h c d=>
  cases d;exact lX.cons (λa b _=>h a b) c k
def lX.GY{sl:List (Nat×V)}{bx:List (Nat×List M)}{H:Hp}{d ty:Nat}{pos:String}{af:Array Edge}{T:Nat}{x:Operand}{i off:Nat}{m:M}[ht:cT X.P T](a:Nat.blt d X.n=true)
  (b:bj sl x=some (.m (.ref i off))) (c:∀H,I H->∃a,H[i]?=some (.box a)/\a[off]?=some m) (k:lX X I ops rest ⟨(d,.m m)::sl,bx,H⟩ λa s=>post (⟨some d,.m m,[],[],none,false,none⟩::a) s):
  lX X I ops (⟨some d,.load T x,ty,pos,af,none⟩::rest) ⟨sl,bx,H⟩ post:=by
 refine lX.cons (e:=⟨some d,.m m,[],[],none,false,none⟩) (λf g h=>?_) W k;obtain⟨o,j,l⟩:=c _ h;have n:=(g.ev (x:=x) (by simp[Op.operands])).trans b;exact(k9 (X:=X) (st:=f) (dst:=some d) n j (by simp[ef,ht.cell,l])).C5 W W (bL a)
def xy(I:Hp->Prop):List Ef->Prop
 |[]=>True
 |e::r=>(match e.wh with|none=>True|some h=>I h)/\xy I r
def xy.mem:∀{es:List Ef},xy I es->∀e∈es,∀h,e.wh=some h->I h
 |[],_,e,a,_,_=>by cases a
 |f::r,⟨b,d⟩,e,a,h,c=>by
  rcases agu.1 a with rfl|a
  .rw[c]at b;exact b
  .exact xy.mem d e a h c
def TC.Dh{ops:List Oper}{post:Exit->St->Prop}(I:Hp->Prop)(a:I st.H)(b:X.P.follows .mixedOrders=true)
  (h:lX X I ops.toArray ops st λa b=>mY ops st.sl a=true/\(∀e∈a,∀h,e.wh=some h->I h)/\post .normal b):TC X (.region id ops.toArray true) st post:=by
 obtain⟨c,d,f,g,i,j⟩:=h;exact TC.Gv I a b ⟨c,d,f,g,.all i,j⟩
section
variable{P:Program}{n B:Nat}{st:St}{post:Exit->St->Prop}
def DC.Dh{ops:List Oper}{s:St}(I:Hp->Prop)(a:I st.H)(b:P.follows .mixedOrders=true)(c:∀a b,lX ⟨P,n,a,b,[]⟩ I ops.toArray ops st λa b=>mY ops st.sl a=true/\xy I a/\b=s)(h:post .normal s):DC P n B (.region id ops.toArray true) st post:=by
 refine⟨.normal,s,h,λd e _=>TC.Dh I a b ?_⟩;obtain⟨f,g,i,j,k,l⟩:=c d e;exact⟨f,g,i,j,k.mem,W,l⟩
end
end Go.Mt
namespace Go.Mt
variable{n i e T nb t h:Nat}{m:M}{H H':Hp}{x y:Operand}{rs rows:List (List D)}{z:D}{kk:IntKind}
def CT.GZ{P:Program}{f:Nat}{d:D}{rest:List M}{post:M->Hp->Prop}(k:eK H m=some d)(h:CT P f (.d d::rest) H post):CT P f (m::rest) H post:=by
 intro j l n c e a;refine h j l n c e ⟨a.1,λi x v b g=>?_⟩;cases i with
 |zero=>
  simp at b;subst b;exact RM.view c (a.2 0 m v W g) (by rw[e];exact k)
 |succ i=>exact a.2 (i+1) x v b g
def cQ(m:M)(H:Hp)(rows:List (List D)):M:=match m with
 |.cy i a b=>.cy i (a+1) (b+rows.length)
 |_=>sy H rows
def eg(n:Nat)(m:M)(H:Hp)(rows:List (List D)):Hp:=match m with
 |.cy i b a=>match H[i]? with
  |some (.row a _ _ c)=>H.set i (.row a n (b+1) (c++bf rows))
  |_=>H
 |_=>jf H n rows
def bQ(m:M)(H:Hp)(rows:List (List D)):fj (cQ m H rows)=some [cQ m H rows]:=by
 cases m<;>cases rows<;>rfl
section
variable{X:cY}{ops:Array Oper}{rest:List Oper}{sl:List (Nat×V)}{bx:List (Nat×List M)}{H:Hp}{post:St->Prop}{Lw:List Ef->St->Prop}{d ty:Nat}{pos:String}{af:Array Edge}
def lZ[ht:br X.P T e][q:cc X.P e n][r:jx X.P e nb][s:fC X.P e z](l:Acc n i rs m H)(a:Nat.blt d X.n=true)(b:bj sl x=some (.m m))(c:bj sl y=some (.m (.d (.sl rows))))
  (o:Nat.blt 0 n=true) (f:(bP z).length=n) (g:∀r∈rows,r.length=n) (h:(rs.length+rows.length)*nb<=140737488355328) (p:rs.length+rows.length<=140737488355328)
  (k:TL X ops rest ⟨(d,.m (cQ m H rows))::sl,bx,eg n m H rows⟩ post):TL X ops (⟨some d,.call ⟨.builtin .append,#[x,y],#[T,T]⟩,ty,pos,af,none⟩::rest) ⟨sl,bx,H⟩ post:=by
 rcases l with⟨rfl,rfl⟩|⟨t,u,rfl,j⟩
 .exact Ev a b c o f g (by simpa using h) k
 .refine fm a b c j f g h p ?_;simp only[cQ,eg,j]at k;exact k
def wH{r:List D}[ht:br X.P T e][q:cc X.P e n][s:jx X.P e nb][t:fC X.P e z](l:Acc n i rs m H)(a:Nat.blt d X.n=true)(b:bj sl x=some (.m m))(c:bj sl y=some (.m (.d (.sl [r]))))
  (o:Nat.blt 0 n=true) (f:(bP z).length=n) (g:r.length=n) (h:(rs.length+1)*nb<=140737488355328) (p:rs.length+1<=140737488355328)
  (k:TF X ops rest ⟨(d,.m (cQ m H [r]))::sl,bx,eg n m H [r]⟩ λa b=>Lw (⟨some d,.m (cQ m H [r]),[],[],none,true,some (eg n m H [r])⟩::a) b):TF X ops (⟨some d,.call ⟨.builtin .append,#[x,y],#[T,T]⟩,ty,pos,af,none⟩::rest) ⟨sl,bx,H⟩ Lw:=by
 rcases l with⟨rfl,rfl⟩|⟨u,v,rfl,j⟩
 .exact pc true a b c o f (by simp) (cM g) (by simpa using h) k
 .refine m_ a b c j f (cM g) h p ?_;simp only[cQ,eg,j]at k;exact k
def vH{len:Nat}{parts:List (Nat×Operand)}{ms:List (Nat×M)}{cs:List M}[ht:br X.P T e][f:cc X.P e n][g:fC X.P e z](a:Nat.blt d X.n=true)(b:Nat.blt 0 n=true)(c:(bP z).length=n)
  (h:Nat.ble (len*n) 16777216=true) (f:ez sl parts=some ms) (g:gK (λi=>some (i*n,n)) (fM n len (bP z)) ms=some cs)
  (k:TL X ops rest ⟨(d,.m (.cy H.length 0 len))::sl,bx,H++[.row false n 0 cs]⟩ post):TL X ops (⟨some d,.buildSlice T len parts.toArray,ty,pos,af,none⟩::rest) ⟨sl,bx,H⟩ post:=
 LA W W a (pJ b c h (by rw[eA];exact f) g (.inl ⟨W,W⟩)) k
def yX(rows:List (List D)):D:=match rows with
 |[]=>.oa
 |r=>.sl r
def xz[ht:br X.P t e][q:cc X.P e n](b:Nat.blt d X.n=true)(c:bj sl x=some (.m (.d (.sl rows))))(f:bj sl y=some (.m (.d (.int kk ((h:Nat):Int)))))(i:rows≠[])(o:h<=rows.length)(j:∀r∈rows,r.length=n)
  (k:TL X ops rest ⟨(d,.m (.d (yX (rows.drop h))))::sl,bx,H⟩ post):TL X ops (⟨some d,.slice t x (some y) none none,ty,pos,af,none⟩::rest) ⟨sl,bx,H⟩ post:=by
 refine LA (v:=.m (.d (yX (rows.drop h)))) (LJ:=sl) (L4:=bx) (H':=H) W W b ?_ k;have this:=sC (X:=X) (st:=⟨sl,bx,H⟩) (dst:=some d) (ty:=ty) (pos:=pos) (af:=af) (g:=none) (t:=t) (lo:=some y) (hi:=none) (l:=some h) (h:=none) c (by simp only[sB,St.ev,f]) W i o (ags _) j;have m:(rows.drop ((some h).getD 0)).take (((none:Option Nat).getD rows.length)-(some h).getD 0)=rows.drop h:=by
  show(rows.drop h).take (rows.length-h)=rows.drop h;exact ahw (by simp)
 rw[m]at this;cases a:rows.drop h with
 |nil=>rw[a]at this;exact this
 |cons p r=>rw[a]at this;exact this
def xA[ht:br X.P t e][w:cc X.P e n](f:Nat.blt d X.n=true)(i:bj sl x=some (.m (.d (.sl rows))))(j:bj sl y=some (.m (.d (.int kk ((h:Nat):Int)))))(a:rows≠[])(z:0<h)(s:h<=rows.length)(m:∀r∈rows,r.length=n)
  (k:TF X ops rest ⟨(d,.m (.d (.sl (rows.take h))))::sl,bx,H⟩ λa b=>Lw (⟨some d,.m (.d (.sl (rows.take h))),[],[],none,false,none⟩::a) b):TF X ops (⟨some d,.slice t x none (some y) none,ty,pos,af,none⟩::rest) ⟨sl,bx,H⟩ Lw:=by
 refine TF.cons (e:=⟨some d,.m (.d (.sl (rows.take h))),[],[],none,false,none⟩) (Lm W W (bL f) λo b=>?_) W k;have p:=(b.ev (x:=x) (by simp[Op.operands])).trans i;have q:=(b.ev (x:=y) (by simp[Op.operands])).trans j;have this:=sC (X:=X) (st:=o) (dst:=some d) (ty:=ty) (pos:=pos) (af:=af) (g:=none) (t:=t) (lo:=none) (hi:=some y) (l:=none) (h:=some h) p W (by simp only[sB,q]) a (ahy _) s m;have r:(rows.drop ((none:Option Nat).getD 0)).take (((some h:Option Nat).getD rows.length)-(none:Option Nat).getD 0)=rows.take h:=by simp
 rw[r]at this;cases c:rows.take h with
 |nil=>
  cases rows with
  |nil=>exact absurd W a
  |cons v u=>obtain⟨A,rfl⟩:∃a,h=a+1:=⟨h-1,by omega⟩;simp at c
 |cons v u=>rw[c]at this;exact this
end
def nc{ob:Ob}(h:H[i]?=some ob):i<H.length:=by
 rcases agJ i H.length with a|a
 .exact a
 .simp[agD a]at h
def Acc.other(h:Acc n i rs m H)(a:∀a,H[i]?=some a->H'[i]?=some a):Acc n i rs m H':=by
 rcases h with h|⟨b,c,d,e⟩
 .exact .inl h
 .exact .inr ⟨b,c,d,a _ e⟩
def Acc.any{j:Nat}(h:Acc n i [] m H):Acc n j [] m H':=by
 rcases h with h|⟨a,_⟩
 .exact .inl h
 .exact absurd W a
def Acc.lt(h:Acc n i rs m H)(a:rs≠[]):i<H.length:=by
 rcases h with⟨h,_⟩|⟨_,c,_,b⟩
 .exact absurd h a
 .exact nc b
end Go.Mt
namespace Go.Mt
namespace BI
end BI
section
variable{X:cY}{ops:Array Oper}{rest:List Oper}{sl:List (Nat×V)}{bx:List (Nat×List M)}{H:Hp}{post:St->Prop}{Lw:List Ef->St->Prop}{d ty:Nat}{pos:String}{af:Array Edge}
def qc{x:Operand}{a b:Nat}{r:List D}{rows:List (List D)}(c:Nat.blt d X.n=true)(e:ld X.P a=6)(f:bj sl x=some (.m (.d (.sl (r::rows)))))
  (k:TL X ops rest ⟨(d,.m (.d (.bool false)))::sl,bx,H⟩ post):TL X ops (⟨some d,.binOp .eql a x (.const (.slice none 0 0)) b,ty,pos,af,none⟩::rest) ⟨sl,bx,H⟩ post:=
 LA W W c (GM (op:=.eql) (.inl W) e λa a a a=>GO a f) k
end
end Go.Mt
namespace Go.Mt
open Go.ChangeShapes
end Go.Mt
namespace Go.Mt
variable{m r:M}{H H0:Hp}{n off i T e s f ft nb t:Nat}{x y:Operand}{F F0:Nat->Prop}{cs LP:List M}{rs:List (List D)}{o:Ob}{z:D}{α:Type}{P:Program}{ds:List D}
structure As where
 p:Hp->(Nat->Prop)->Prop
 loc:∀{H K:Hp} {F:Nat->Prop},p H F->(∀i,F i->K[i]?=H[i]?)->p K F
 yY:∀{H:Hp} {F:Nat->Prop} {i:Nat},p H F->F i->i<H.length
variable{l l':List As}{a:As}{φ:α->As}
structure Di(F a:Nat->Prop)(H K:Hp):Prop where
 len:H.length<=K.length
 iG:∀i,i<H.length->¬F i->K[i]?=H[i]?
 own:∀i,a i->F i\/H.length<=i
def Di.refl(F:Nat->Prop)(H:Hp):Di F F H H:=⟨ags _,λ_ _ _=>rfl,λ_ h=>.inl h⟩
def Di.trans{c d:Nat->Prop}{K L:Hp}(a:Di F c H K)(b:Di c d K L):Di F d H L:=
 ⟨agW a.len b.len,λi c d=>(b.iG i (ahY c a.len) λh=>(a.own i h).elim d (by omega)).trans (a.iG i c d),
 λi h=>(b.own i h).elim (a.own i) λh=>.inr (agW a.len h)⟩
def As.IF:As:=⟨λ_ F=>∀i,¬F i,λh _=>h,λh a=>absurd a (h _)⟩
def As.star(P Q:As):As where
 p H F:=∃F1 F2,P.p H F1/\Q.p H F2/\(∀i,F1 i->F2 i->False)/\∀i,F i↔F1 i\/F2 i
 loc:= λ⟨F1,F2,h1,h2,h3,h4⟩ hk=>⟨F1,F2,P.loc h1 (λi hi=>hk i ((h4 i).2 (.inl hi))),Q.loc h2 (λi hi=>hk i ((h4 i).2 (.inr hi))),h3,h4⟩
 yY:= λ⟨F1,F2,h1,h2,h3,h4⟩ hi=>((h4 _).1 hi).elim (P.yY h1) (Q.yY h2)
def Sep:List As->As
 |[]=>.IF
 |a::l=>a.star (Sep l)
def As.ob(i:Nat)(o:Ob):As:=⟨λH F=>H[i]?=some o/\∀j,F j↔j=i,λ⟨b,a⟩ c=>⟨(c i ((a i).2 rfl)).trans b,a⟩,λ⟨b,a⟩ c=>by rw[(a _).1 c];exact nc b⟩
def As.acc(n:Nat)(rs:List (List D))(m:M):As where
 p H F:=∃i,Acc n i rs m H/\∀j,F j↔rs≠[]/\j=i
 loc:= λ⟨i,h1,h2⟩ hk=>⟨i,h1.elim .inl λ⟨a,Lh,b,c⟩=>.inr ⟨a,Lh,b,(hk i ((h2 i).2 ⟨a,rfl⟩)).trans c⟩,h2⟩
 yY:= λ⟨i,h1,h2⟩ hi=>by
  obtain⟨a,rfl⟩:=(h2 _).1 hi;exact h1.lt a
def Sep.perm(g:l.Perm l')(h:(Sep l).p H F):(Sep l').p H F:=by
 induction g generalizing F with
 |nil=>exact h
 |cons m _ a=>
  obtain⟨d,e,f,i,j,k⟩:=h;exact⟨d,e,f,a i,j,k⟩
 |swap p b l=>
  obtain⟨d,r,i,⟨k,f,m,n,o,a⟩,e,j⟩:=h;refine⟨k,λi=>d i\/f i,m,⟨d,f,i,n,λi d b=>e i d ((a i).2 (.inr b)),λi=>ail⟩,λi d b=>b.elim (λc=>e i c ((a i).2 (.inl d))) (o i d),λq=>?_⟩;rw[j,a];exact⟨λh=>h.elim (λa=>.inr (.inl a)) (λh=>h.elim .inl λb=>.inr (.inr b)),λh=>h.elim (λa=>.inr (.inl a)) (λh=>h.elim .inl λb=>.inr (.inr b))⟩
 |trans _ _ a d=>exact d (a h)
def Sep.app{a e:List As} :(Sep (a++e)).p H F↔((Sep a).star (Sep e)).p H F:=by
 induction a generalizing F with
 |nil=>
  refine⟨λh=>⟨λ_=>False,F,λ_ h=>h,h,λ_ h _=>h,λi=>by simp⟩,λ⟨i,d,f,g,j,h⟩=>?_⟩;have:F=d:=funext λi=>propext ((h i).trans ⟨λh=>h.elim (λa=>absurd a (f i)) id,.inr⟩)
  rw[this];exact g
 |cons r s h=>
  constructor
  .rintro⟨f,t,i,k,g,l⟩;obtain⟨j,m,n,o,p,d⟩:=h.1 k;refine⟨λi=>f i\/j i,m,⟨f,j,i,n,λi a b=>g i a ((d i).2 (.inl b)),λi=>ail⟩,o,λi a b=>a.elim (λc=>g i c ((d i).2 (.inr b))) (λc=>p i c b),λq=>?_⟩;rw[l,d,or_assoc]
  .rintro⟨q,f,⟨l,j,m,n,o,d⟩,i,g,k⟩;refine⟨l,λi=>j i\/f i,m,h.2 ⟨j,f,n,i,λi a b=>g i ((d i).2 (.inr a)) b,λi=>ail⟩,λi a b=>b.elim (o i a) (g i ((d i).2 (.inl a))),λp=>?_⟩;rw[k,d,or_assoc]
def Wk(a:Nat->Prop)(H0:Hp)(l:List As)(H:Hp):Prop:=∃F,(Sep l).p H F/\Di a F H0 H
def Wk.start(h:(Sep l).p H F):Wk F H l H:=⟨F,h,.refl F H⟩
def Wk.perm(w:Wk F0 H0 l H)(c:l.Perm l'):Wk F0 H0 l' H:=w.imp λF ⟨a,b⟩=>⟨Sep.perm c a,b⟩
def Ey(x:Nat):List Nat->List Nat
 |[]=>[x]
 |y::l=>bif Nat.ble x y then x::y::l else y::Ey x l
def A3:List Nat->List Nat
 |[]=>[]
 |x::l=>Ey x (A3 l)
def Dj(x:Nat)(l:List Nat):(x::l).Perm (Ey x l):=by
 induction l with
 |nil=>exact .refl _
 |cons y l a=>
  unfold Ey;cases Nat.ble x y with
  |true=>exact .refl _
  |false=>exact(List.Perm.swap y x l).trans (a.cons y)
def BN(l:List Nat):l.Perm (A3 l):=by
 induction l with
 |nil=>exact .refl _
 |cons x l a=>exact(a.cons x).trans (Dj x _)
def G0(a:List Nat)(l:List As):List As:=a.map λk=>l[k]?.getD .IF
def Dk{a:List Nat}(d:A3 a=List.range l.length):l.Perm (G0 a l):=by
 have e:l=(List.range l.length).map λk=>l[k]?.getD .IF:=by
  apply aiD
  .simp
  .intro i a b;simp[a]
 have c:=(d▸BN a).symm.map (λk=>l[k]?.getD As.IF);rw[<-e]at c;exact c
def Wk.pick(a:List Nat)(w:Wk F0 H0 l H)(b:A3 a=List.range l.length:=by rfl):Wk F0 H0 (G0 a l) H:=w.perm (Dk b)
def Wk.step{l:Nat->Prop}{H0 H K:Hp}{a:List As}{b r:List As}(w:Wk l H0 (a++r) H)(h:∀F,(Sep a).p H F->Wk F H b K):Wk l H0 (b++r) K:=by
 obtain⟨F,n,o⟩:=w;obtain⟨p,f,q,g,m,j⟩:=Sep.app.1 n;obtain⟨k,s,d⟩:=h p q;have t:∀i,k i->f i->False:= λi a b=>(d.own i a).elim (λc=>m i c b) λc=>Nat.not_lt.2 c ((Sep r).yY g b)
 refine⟨λi=>k i\/f i,Sep.app.2 ⟨k,f,s,(Sep r).loc g λi e=>d.iG i ((Sep r).yY g e) λh=>m i h e,t,λi=>ail⟩,o.trans ⟨d.len,λi e f=>d.iG i e λh=>f ((j i).2 (.inl h)),λi e=>?_⟩⟩;rcases e with e|e
 .exact(d.own i e).imp_left λh=>(j i).2 (.inl h)
 .exact .inl ((j i).2 (.inr e))
def Dt(P:Program)(f:Nat)(ms:List M)(l:List As)(Q:M->List As->Prop):Prop:=∀(H:Hp) (F:Nat->Prop),(Sep l).p H F->DT P f ms H λr K=>∃a,Q r a/\Wk F H a K
def Wk.call{n:Nat->Prop}{H0 H:Hp}{P:Program}{f:Nat}{ms:List M}{a r:List As}{Q:M->List As->Prop}(w:Wk n H0 (a++r) H)(h:Dt P f ms a Q):
  ∃x K l,Q x l/\Wk n H0 (l++r) K/\CT P f ms H λd e=>d=x/\e=K:=by
 obtain⟨F,p,q⟩:=w;obtain⟨s,g,t,j,o,k⟩:=Sep.app.1 p;obtain⟨x,K,⟨l,u,v⟩,y⟩:=h H s t;refine⟨x,K,l,u,?_,y⟩;obtain⟨m,z,d⟩:=v;have A:∀i,m i->g i->False:= λi a b=>(d.own i a).elim (λc=>o i c b) λc=>Nat.not_lt.2 c ((Sep r).yY j b)
 refine⟨λi=>m i\/g i,Sep.app.2 ⟨m,g,z,(Sep r).loc j λi e=>d.iG i ((Sep r).yY j e) λh=>o i h e,A,λi=>ail⟩,q.trans ⟨d.len,λi e g=>d.iG i e λh=>g ((k i).2 (.inl h)),λi e=>?_⟩⟩;rcases e with e|e
 .exact(d.own i e).imp_left λh=>(k i).2 (.inl h)
 .exact .inl ((k i).2 (.inr e))
section
variable{F0:Nat->Prop}{H0 H:Hp}{r:List As}
def Wk.ob(w:Wk F0 H0 (.ob i o::r) H):H[i]?=some o:=by
 obtain⟨F,⟨b,c,⟨a,_⟩,_⟩,_⟩:=w;exact a
def qd(h:a.p H F):(Sep [a]).p H F:=⟨F,λ_=>False,h,λ_ h=>h,λ_ _ h=>h,λi=>by simp⟩
def G1(h:(Sep [a]).p H F):a.p H F:=by
 obtain⟨b,f,c,d,g,e⟩:=h;have:F=b:=funext λi=>propext ((e i).trans ⟨λh=>h.elim id (λa=>absurd a (d i)),.inl⟩)
 rw[this];exact c
def Wk.set(w:Wk F0 H0 (.ob i o::r) H)(c:Ob):Wk F0 H0 (.ob i c::r) (H.set i c):=by
 refine Wk.step (a:=[.ob i o]) (b:=[.ob i c]) w λF f=>?_
 obtain⟨g,d⟩:=G1 f;have h:=nc g;exact⟨F,qd ⟨by simp[h],d⟩,by simp,λj c c=>by rw[ag8 (λe=>c ((d j).2 e.symm))],λj c=>.inl c⟩
def Wk.new(w:Wk F0 H0 r H)(o:Ob):Wk F0 H0 (.ob H.length o::r) (H++[o]):=by
 refine Wk.step (a:=[]) (b:=[.ob H.length o]) w λF c=>?_
 refine⟨λj=>j=H.length,qd ⟨by simp,λj=>ail⟩,by simp,λj c _=>by rw[agF c],λj c=>.inr (by omega)⟩
def Wk.nil(w:Wk F0 H0 r H)(n:Nat):Wk F0 H0 (.acc n [] (.d (.sl []))::r) H:=by
 refine Wk.step (a:=[]) (b:=[.acc n [] (.d (.sl []))]) w λF c=>?_
 exact⟨λ_=>False,qd ⟨0,.inl ⟨rfl,rfl⟩,λj=>by simp⟩,ags _,λ_ _ _=>rfl,λ_ h=>h.elim⟩
def Wk.drop(w:Wk F0 H0 (a::r) H):Wk F0 H0 r H:=by
 refine Wk.step (a:=[a]) (b:=[]) w λF c=>?_
 exact⟨λ_=>False,λ_ h=>h,ags _,λ_ _ _=>rfl,λ_ h=>h.elim⟩
def Wk.zH(w:Wk F0 H0 (.acc n rs m::r) H):∃i,Acc n i rs m H:=by
 obtain⟨F,⟨b,c,⟨i,a,_⟩,_⟩,_⟩:=w;exact⟨i,a⟩
def Wk.view(w:Wk F0 H0 (.acc n rs m::r) H)(a:∀r∈rs,r.length=n):eK H m=some (.sl rs):=by
 obtain⟨i,h⟩:=w.zH;exact h.view a
def Wk.app(w:Wk F0 H0 (.acc n rs m::r) H)(rows:List (List D)):Wk F0 H0 (.acc n (rs++rows) (cQ m H rows)::r) (eg n m H rows):=by
 refine Wk.step (a:=[.acc n rs m]) (b:=[.acc n (rs++rows) (cQ m H rows)]) w λF j=>?_
 obtain⟨i,h,c⟩:=G1 j;rcases h with⟨rfl,rfl⟩|⟨d,f,rfl,g⟩
 .cases rows with
  |nil=>exact⟨F,qd ⟨i,.inl ⟨W,W⟩,by simpa using c⟩,ags _,λ_ _ _=>rfl,λ_ h=>.inl h⟩
  |cons q t=>
   refine⟨λj=>j=H.length,qd ⟨H.length,.inr ⟨by simp,0,by simp[cQ,sy],by simp[eg,jf]⟩,λj=>by simp⟩,by simp[eg,jf],λj c _=>by simp only[eg,jf];rw[agF c],λj c=>.inr (by omega)⟩
 .have k:=nc g;have e:eg n (.cy i f rs.length) H rows=H.set i (.row true n (f+1) (bf rs++bf rows)):=by simp only[eg,g]
  rw[e];refine⟨F,qd ⟨i,.inr ⟨by simp[d],f+1,by simp[cQ],by simp[k,bf]⟩,λj=>by rw[c];simp[d]⟩,by simp,λj f f=>by rw[ag8 (λe=>f ((c j).2 ⟨d,e.symm⟩))],λj c=>.inl c⟩
end
section
variable{X:cY}{ops:Array Oper}{rest:List Oper}{sl:List (Nat×V)}{bx:List (Nat×List M)}{H:Hp}{post:St->Prop}{Lw:List Ef->St->Prop}{d ty:Nat}{pos:String}{af:Array Edge}{F0:Nat->Prop}{H0:Hp}{r:List As}
def cX{rows:List (List D)}[ht:br X.P T e][q:cc X.P e n][s:jx X.P e nb][t:fC X.P e z](w:Wk F0 H0 (.acc n rs m::r) H)(a:Nat.blt d X.n=true)(b:bj sl x=some (.m m))(c:bj sl y=some (.m (.d (.sl rows))))
  (f:Nat.blt 0 n=true) (g:(bP z).length=n) (h:Nat.ble nb 1000=true) (i:∀r∈rows,r.length=n) (j:rs.length+rows.length<=100000000000)
  (k:TL X ops rest ⟨(d,.m (cQ m H rows))::sl,bx,eg n m H rows⟩ post):TL X ops (⟨some d,.call ⟨.builtin .append,#[x,y],#[T,T]⟩,ty,pos,af,none⟩::rest) ⟨sl,bx,H⟩ post:=by
 obtain⟨p,l⟩:=w.zH;have o:=agT h;exact lZ l a b c f g i (by have:=ah0 j o;omega) (by omega) k
def fa{q:List D}[ht:br X.P T e][s:cc X.P e n][t:jx X.P e nb][u:fC X.P e z](w:Wk F0 H0 (.acc n rs m::r) H)(a:Nat.blt d X.n=true)(b:bj sl x=some (.m m))(c:bj sl y=some (.m (.d (.sl [q]))))
  (f:Nat.blt 0 n=true) (g:(bP z).length=n) (h:Nat.ble nb 1000=true) (i:q.length=n) (j:rs.length+1<=100000000000)
  (k:TF X ops rest ⟨(d,.m (cQ m H [q]))::sl,bx,eg n m H [q]⟩ λa b=>Lw (⟨some d,.m (cQ m H [q]),[],[],none,true,some (eg n m H [q])⟩::a) b):TF X ops (⟨some d,.call ⟨.builtin .append,#[x,y],#[T,T]⟩,ty,pos,af,none⟩::rest) ⟨sl,bx,H⟩ Lw:=by
 obtain⟨p,l⟩:=w.zH;have o:=agT h;exact wH l a b c f g i (by have:=ah0 j o;omega) (by omega) k
end
def As.ex{α:Type}(φ:α->As):As:=⟨λH F=>∃x,(φ x).p H F,λ⟨x,h⟩ a=>⟨x,(φ x).loc h a⟩,λ⟨x,h⟩ a=>(φ x).yY h a⟩
def As.fact(φ:Prop):As:=⟨λ_ F=>φ/\∀i,¬F i,λh _=>h,λh a=>absurd a (h.2 _)⟩
section
variable{F0:Nat->Prop}{H0 H:Hp}{r:List As}
def Wk.open(w:Wk F0 H0 (.ex φ::r) H):∃x,Wk F0 H0 (φ x::r) H:=by
 obtain⟨F,⟨a,b,⟨x,c⟩,d⟩,e⟩:=w;exact⟨x,F,⟨a,b,c,d⟩,e⟩
def Ng(x:α)(w:Wk F0 H0 (φ x::r) H):Wk F0 H0 (.ex φ::r) H:=by
 obtain⟨F,⟨a,b,c,d⟩,e⟩:=w;exact⟨F,⟨a,b,⟨x,c⟩,d⟩,e⟩
def Wk.split{a:List As}(w:Wk F0 H0 (Sep a::r) H):Wk F0 H0 (a++r) H:=by
 obtain⟨F,h,b⟩:=w;exact⟨F,Sep.app.2 h,b⟩
def MP{a:List As}(w:Wk F0 H0 (a++r) H):Wk F0 H0 (Sep a::r) H:=by
 obtain⟨F,h,b⟩:=w;exact⟨F,Sep.app.1 h,b⟩
def Wk.BO{φ:Prop}(w:Wk F0 H0 (.fact φ::r) H):φ:=by
 obtain⟨F,⟨b,c,⟨a,_⟩,_⟩,_⟩:=w;exact a
def Wk.zI{φ:Prop}(h:φ)(w:Wk F0 H0 r H):Wk F0 H0 (.fact φ::r) H:=by
 refine Wk.step (a:=[]) (b:=[.fact φ]) w λF c=>?_
 exact⟨λ_=>False,qd ⟨h,λ_ h=>h⟩,ags _,λ_ _ _=>rfl,λ_ h=>h.elim⟩
end
class zJ(P:Program)(s f:Nat)(ft off:outParam Nat):Prop where
 h:sA P s f=some (ft,off)
class G2(P:Program)(t:Nat)(len e:outParam Nat):Prop where
 u:P.underlying t=some (.array len e)
section
variable{X:cY}{ops:Array Oper}{rest:List Oper}{sl:List (Nat×V)}{bx:List (Nat×List M)}{H:Hp}{post:St->Prop}{Lw:List Ef->St->Prop}{d ty:Nat}{pos:String}{af:Array Edge}
def uK[ht:cT P t](a:cs[off]?=some m):ef P t cs off=some m:=by simp[ef,ht.cell,a]
def Fh[ht:dw P t n](a:sub cs off n=some LP)(b:fY LP=some ds):ef P t cs off=some (.d (.agg ds)):=by
 have c:=(sub_eq a).1;have d:=(sub_eq a).2;simp only[ef,ht.agg,ht.size,agV c,ag6];unfold pack;rw[d,b]
def sD[a:zJ X.P s f ft off][ht:cT X.P ft](b:Nat.blt d X.n=true)(c:bj sl x=some (.m m))(e:jy m=some cs)(g:cs[off]?=some r)
  (k:TL X ops rest ⟨(d,.m r)::sl,bx,H⟩ post):TL X ops (⟨some d,.field s x f,ty,pos,af,none⟩::rest) ⟨sl,bx,H⟩ post:=
 LA W W b (uI c a.h e (uK g)) k
def G3[a:zJ X.P s f ft off][ht:dw X.P ft n](b:Nat.blt d X.n=true)(c:bj sl x=some (.m m))(e:jy m=some cs)(g:sub cs off n=some LP)(h:fY LP=some ds)
  (k:TL X ops rest ⟨(d,.m (.d (.agg ds)))::sl,bx,H⟩ post):TL X ops (⟨some d,.field s x f,ty,pos,af,none⟩::rest) ⟨sl,bx,H⟩ post:=
 LA W W b (uI c a.h e (Fh g h)) k
def xB[a:zJ X.P s f ft off][ht:cT X.P ft](b:Nat.blt d X.n=true)(c:bj sl x=some (.m m))(g:jy m=some cs)(h:cs[off]?=some r)
  (k:TF X ops rest ⟨(d,.m r)::sl,bx,H⟩ λa b=>Lw (⟨some d,.m r,[],[],none,false,none⟩::a) b):TF X ops (⟨some d,.field s x f,ty,pos,af,none⟩::rest) ⟨sl,bx,H⟩ Lw:=
 TF.cons (e:=⟨some d,.m r,[],[],none,false,none⟩) (Lm W W (bL b) λb b=>uI ((b.ev (x:=x) (by simp[Op.operands])).trans c) a.h g (uK h)) W k
def zK{len:Nat}{a:IntKind}[b:G2 X.P T len e][l:cc X.P e n][ht:cT X.P e](c:Nat.blt d X.n=true)(f:bj sl x=some (.m m))(g:bj sl y=some (.m (.d (.int a (.ofNat i)))))(h:jy m=some cs)(hi:i<len)(j:cs[i*n]?=some r)
  (k:TL X ops rest ⟨(d,.m r)::sl,bx,H⟩ post):TL X ops (⟨some d,.index T x y,ty,pos,af,none⟩::rest) ⟨sl,bx,H⟩ post:=
 LA W W c (AX b.u f g h hi (uK j)) k
def jo{a b:Nat}{s u:ByteArray}(c:Nat.blt d X.n=true)(e:bj sl x=some (.m (.d (.str s))))(f:bj sl y=some (.m (.d (.str u))))(g:Nat.ble s.size 1000=true)(h:u.size<=4000000000)(k:TL X ops rest ⟨(d,.m (.d (.str (s++u))))::sl,bx,H⟩ post):
  TL X ops (⟨some d,.binOp .add a x y b,ty,pos,af,none⟩::rest) ⟨sl,bx,H⟩ post:=
 j' c e f (by have:=agT g;omega) k
end
end Go.Mt
namespace Go.Mt
variable{i c since b j T r n:Nat}{es LM Oy:List (D×M)}{bs seen:List Nat}{σ:Sg}{x:Operand}{α:Type}{e:D×M}{a:Act}{P:Program}{w:World}{Li:Nat->Nat}{d:M}{y z u:Value}{se:Array Nat}{code:Code}{q:Exit->St->Prop}{k:Obj->Sem α}
def A4(c:Nat)(e:D×M)(b:Nat):D×M:=(.jJ,.c_ [.d e.1,e.2,.d (.int .i64 b),.d (.int .i64 c)])
def fe(c:Nat)(es:List (D×M))(bs:List Nat):List (D×M):=List.zipWith (A4 c) es bs
def jI(i since:Nat)(seen:List Nat):M:=.c_ (.mp i:: .d (.int .i64 since)::seen.map λ(b:Nat)=>M.d (.int .i64 (b:Int)))
def G4{l:List α}{a:α}(h:l[i]?=some a):i<l.length:=by
 rcases agJ i l.length with b|b
 .exact b
 .rw[agD b]at h;cases h
def xD(h:(fe c es bs)[i]?=some e):∃a b,es[i]?=some a/\bs[i]?=some b/\e=A4 c a b:=by
 unfold fe at h;rw[ajn]at h;cases a:es[i]? with
 |none=>rw[a]at h;simp at h
 |some f=>
  cases d:bs[i]? with
  |none=>rw[a,d]at h;simp at h
  |some b=>rw[a,d]at h;simp at h;exact⟨f,b,W,W,h.symm⟩
def Fi(a:es[i]?=some e)(d:bs[i]?=some b):(fe c es bs)[i]?=some (A4 c e b):=by
 unfold fe;rw[ajn,a,d]
def xE(h:bs.length=es.length):(fe c es bs).length=es.length:=by simp[fe,h]
def dQ.born{d:List (D×M)}(h:dQ d (fe c es bs)):d=fe c es bs:=by
 rcases h with rfl|⟨f,j,_⟩
 .rfl
 .cases a:fe c es bs with
  |nil=>rw[a]at f;exact ahT.1 f.length_eq
  |cons e r=>
   exfalso;obtain⟨l,b,_,_,k⟩:=xD (c:=c) (es:=es) (bs:=bs) (i:=0) (e:=e) (by rw[a];rfl);obtain⟨s,g⟩:=j e (by rw[a];simp);rw[k]at g;cases g
def RM.Kf{a b c:M}{x:Value}(h:RM σ (.c_ [a,b,c,d]) (.tuple #[x,y,z,u])):RM σ a x/\RM σ b y/\RM σ c z/\RM σ d u:=by
 cases h with
 |c_ e f g h=>exact⟨h 0 a x W W,h 1 b y W W,h 2 c z W W,h 3 d u W W⟩
def RM.IG{a b c:M}{x:Value}(g:RM σ a x)(h:RM σ b y)(i:RM σ c z)(j:RM σ d u):RM σ (.c_ [a,b,c,d]) (.tuple #[x,y,z,u]):=by
 refine .c_ _ _ W λn m v e f=>?_
 match n with
 |0=>simp at e f;subst e;subst f;exact g
 |1=>simp at e f;subst e;subst f;exact h
 |2=>simp at e f;subst e;subst f;exact i
 |3=>simp at e f;subst e;subst f;exact j
 |n+4=>simp at e
def RM.G5{s:ByteArray}{v:Value}(h:RM σ (.d (.str s)) v):v=.string s:=by
 cases h with
 |d h=>cases h;rfl
def Ez(h:σ.H[i]?=some (.map es)):RM σ (jI i since seen) (lL (some (σ.l i)) since seen.toArray):=by
 refine .c_ _ _ (by simp[jI,lL]) λn m v c a=>?_
 match n with
 |0=>simp[jI]at c;simp[lL]at a;subst c;subst a;exact .mp i es h
 |1=>simp[jI]at c;simp[lL]at a;subst c;subst a;exact .d (.int _ _)
 |n+2=>
  simp[jI]at c;obtain⟨b,d,rfl⟩:=c;have:v=.int .i64 b:=by
   rw[aho (by simp)]at a;simp[d]at a;exact a.symm
  subst this;exact .d (.int _ _)
def G6{b:Nat}{c:Option Nat}(h:RM σ (jI i since seen) (lL c b se)):c=some (σ.l i)/\b=since/\se.toList=seen/\∃es,σ.H[i]?=some (.map es):=by
 unfold jI lL at h;cases h with
 |c_ k l g h=>
  have m:se.size=seen.length:=by simp at g;omega
  have d:=h 0 (.mp i) (.map c) W (by rw[agY (by simp)];rfl);have e:=(h 1 (.d (.int .i64 since)) (.int .i64 b) W (by rw[agY (by simp)];rfl)).tp;refine⟨?_,?_,?_,?_⟩
  .cases d;rfl
  .injection e with _ e;omega
  .apply ah7;intro n;rcases agJ n seen.length with a|a
   .have f:=(h (n+2) (.d (.int .i64 seen[n])) (.int .i64 (se[n]'(by omega))) (by simp[a]) (by
     rw[aho (by simp)];simp[show n<se.size by omega])).tp
    injection f with _ f
    have j:se[n]'(by omega)=seen[n]:=by omega
    simp[a,show n<se.size by omega,j]
   .rw[agD a,agD (by simpa using (by omega:se.size<=n))]
  .cases d with
   |mp i es a=>exact⟨es,a⟩
def EA(h:fJ σ b (.iter (jI i since seen))):∃last,σ.w.heap[b]?=some (.mapIter (some (σ.l i)) since seen.toArray last)/\since=last:=by
 rcases h with⟨f,g,j,last,c,a⟩|⟨l,T,c,a⟩
 .rcases a with⟨_,a⟩|⟨a,d⟩
  .exfalso;unfold jI at a;cases a
  .obtain⟨rfl,rfl,e,_⟩:=G6 a;exact⟨last,by rw[c,<-e],d⟩
 .exfalso;unfold jI at a;cases a with
  |c_ d e k h=>
   have:=h 0 (.mp i) (.int .i64 b) W (by rw[agY (by simp)];rfl);cases this
def uL(d:bs.length=es.length)(h:fJ σ b (.map (fe c es bs))):
  ∃a d,σ.w.heap[b]?=some (.map a d)/\a.size=es.length/\lB a d/\∀(n:Nat) e x u,es[n]?=some e->bs[n]?=some x->a[n]?=some u->RM σ (.d e.1) u.key/\RM σ e.2 u.val/\u.born=x/\d=c:=by
 obtain⟨w,g,f,v,i,j,k,l⟩:=h;have:=g.born;subst this;refine⟨f,v,i,by rw[j,xE d],l,λn e x u m o p=>?_⟩;have a:=k n _ u (Fi m o) p;unfold A4 at a;rcases a with⟨a,_⟩|⟨a,_⟩|⟨_,a⟩
 .cases a
 .cases a
 .obtain⟨q,r,s,t⟩:=a.Kf;exact⟨q,r,s.tq,t.tq⟩
def BP{α:Type}{P:Program}(a:0<c):∃n w',n<c/\(w'=w\/w'={w with drawn:=w.drawn+1})/\∀k:Nat->Sem α,(choose (.mapNext c)>>=k).run P w=(k n).run P w':=by
 cases b:(Question.mapNext c).forced with
 |true=>exact⟨0,w,a,.inl W,λk=>by show(Sem.choose _ _).run P w=_;simp[Sem.run,b];rfl⟩
 |false=>exact⟨(Question.mapNext c).cut (w.tape w.drawn (.mapNext c)),{w with drawn:=w.drawn+1},aik _ a,.inr W,λk=>by show(Sem.choose _ _).run P w=_;simp[Sem.run,b];rfl⟩
section
variable{X:cY}{st:St}{dst:Option Nat}{ty:Nat}{pos:String}{af:Array Edge}{g:Option (Nat×Bool)}
def cj.born(hi:cj X σ Li st a)(p:st.H[i]?=some (.map es))(A:strKeys es=true):
  ∃(c:List (D×M)) (bs:List Nat) (f:Nat) (τ:Sg),dQ c es/\bs.length=c.length/\bs.Nodup/\(∀b∈bs,b<f)/\(∃c,σ.w.heap[σ.l i]?=some (.map c f))/\τ.w=σ.w/\τ.l i=σ.l i/\db σ τ/\cj X τ Li ⟨st.sl,st.bx,st.H.set i (.map (fe f c bs))⟩ a:=by
 obtain⟨k,q,f,n,r,s,B,l⟩:=hi.hinv.obj i (.map es) (by rw[hi.hH];exact p);have C:=q.strs A
 let bs:List Nat:=f.toList.map (·.born)
 have t:bs.length=k.length:=by simp[bs,s]
 have g:∀(n b:Nat),bs[n]?=some b->∃u,f[n]?=some u/\u.born=b:=by
  intro w b h;simp only[bs,ahh,agU]at h;obtain⟨u,c,o⟩:=h;exact⟨u,by simpa using c,o⟩
 obtain⟨τ,E,F,Q,G,H⟩:=hi.jg (j:=i) (b':=σ.l i) (ob:=.map es) (MA:=.map (fe n k bs)) (w':=σ.w) p trivial W W W (ags _)
  (λ_ _ _=>rfl) (.inl W) (λo v c=>(c trivial).elim) W (by
   intro τ I J _ _;refine⟨_,.inl W,f,n,by rw[J];exact r,by rw[xE t];exact s,λo e z K u=>?_,l⟩;obtain⟨w,b,x,L,rfl⟩:=xD K;obtain⟨R,h,N⟩:=g o b L;rw[u]at h;injection h with h;subst h
   obtain⟨P,y⟩:=cI.1 C w (agN x);obtain⟨d,m⟩:=w;simp only at y;subst y;rcases B o _ z x u with⟨c,O⟩|⟨c,_⟩|⟨c,_⟩
   .simp only[wA,ahl]at c;refine .inr (.inr ⟨W,RM.IG ?_ (O.mono I) ?_ (.d (.int _ _))⟩)
    .rw[<-c];exact .d (.str _)
    .rw[<-N];exact .d (.int _ _)
   .cases c
   .cases c)
 refine⟨k,bs,n,τ,q,t,?_,?_,⟨f,r⟩,E,F,G,H⟩
 .refine aiq.2 λx y I J K c=>?_
  obtain⟨u,h,o⟩:=g x bs[x] (by simp[I]);obtain⟨v,w,z⟩:=g y bs[y] (by simp[J]);have:=l.2 x y u v h w (by rw[o,z];exact c);omega
 .intro b w;obtain⟨c,x⟩:=ahS w;obtain⟨u,h,o⟩:=g c b x;rw[<-o];exact l.1 c u h
def cj.tv(hi:cj X σ Li st a)(f:st.H[i]?=some (.map (fe c LM bs)))(h:bs.length=LM.length)(k:strKeys LM=true)(b:dQ LM es):
  ∃τ:Sg,cj X τ Li ⟨st.sl,st.bx,st.H.set i (.map es)⟩ a/\τ.w=σ.w/\db σ τ:=by
 obtain⟨l,A,m,o,p,q⟩:=uL h (hi.hinv.obj i _ (by rw[hi.hH];exact f));obtain⟨τ,r,C,D,s,t⟩:=hi.jg (j:=i) (b':=σ.l i) (ob:=.map (fe c LM bs)) (MA:=.map es) (w':=σ.w) f trivial W W W (ags _)
  (λ_ _ _=>rfl) (.inl W) (λo v b=>(b trivial).elim) W (by
   intro τ w x _ _;refine⟨LM,b,l,A,by rw[x];exact m,o,λn e u d y=>?_,p⟩;have E:=G4 d;obtain⟨g,z,_⟩:=q n e (bs[n]'(by omega)) u d (by simp[show n<bs.length by omega]) y;obtain⟨B,b⟩:=cI.1 k e (agN d);rw[b]at g;refine .inl ⟨by rw[b,RM.G5 g];rfl,z.mono w⟩)
 exact⟨τ,t,r,s⟩
def cj.perm(hi:cj X σ Li st a)(b:st.H[i]?=some (.map es))(d:∀b,dQ b es->dQ b Oy):
  ∃τ:Sg,cj X τ Li ⟨st.sl,st.bx,st.H.set i (.map Oy)⟩ a/\τ.w=σ.w:=by
 obtain⟨c,f,g,r,h,k,l,m⟩:=hi.hinv.obj i (.map es) (by rw[hi.hH];exact b);obtain⟨τ,n,s,t,u,o⟩:=hi.jg (j:=i) (b':=σ.l i) (ob:=.map es) (MA:=.map Oy) (w':=σ.w) b trivial W W W (ags _)
  (λ_ _ _=>rfl) (.inl W) (λo v b=>(b trivial).elim) W (by
   intro τ p q _ _;exact⟨c,d c f,g,r,by rw[q];exact h,k,λn e u b c=>(l n e u b c).up λv b=>b.mono p,m⟩)
 exact⟨τ,o,n⟩
def Dl(ht:ld X.P T=2)(q:st.ev x=some (.m (.mp i)))(l:st.H[i]?=some (.map es))(r:strKeys es=true):
  cJ X ⟨dst,.range T x,ty,pos,af,g⟩ st λv s=>∃(a:List (D×M)) (bs:List Nat) (since:Nat),dQ a es/\bs.length=a.length/\bs.Nodup/\(∀b∈bs,b<since)/\v=.m (.it st.H.length)/\s=⟨st.sl,st.bx,st.H.set i (.map (fe since a bs))++[.iter (jI i since [])]⟩:=by
 intro p c t o;have h:=o.ev q;obtain⟨Q,e,w⟩:=IE ht;obtain⟨n,bs,a,k,y,z,A,B,⟨R,C⟩,f,E,S,j⟩:=o.born l r;have F:i<st.H.length:=nc l;have G:k.H[i]?=some (.map (fe a n bs)):=by rw[j.hH];simp[F]
 generalize H:p.eval x=u at h;cases h with
 |m h=>
  cases h with
  |mp _ U V=>
   obtain⟨d,I,J,K,Y,L⟩:=j.newObj (.iter (jI i a [])) (.mapIter (some (c.l i)) a #[] a) (by
    intro d N O;refine .inl ⟨some (c.l i),a,#[],a,by rw[O,f];simp,.inr ⟨?_,rfl⟩⟩;have:=(Ez (since:=a) (seen:=[]) G).mono N;rw[E]at this;exact this)
   have P:k.H.length=st.H.length:=by rw[j.hH];simp
   refine dv.value (u:=.pointer (some ⟨c.w.heap.size,0,none⟩)) (w':={c.w with heap:=c.w.heap.push (.mapIter (some (c.l i)) a #[] a)}) ?_ ⟨_,_,d,t,⟨n,bs,a,y,z,A,B,rfl,rfl⟩,by rw[I,f],L,?_⟩
   .simp[execOp,Instr.range,underlying,program,Sem.run,H,w,getObj,C,newObj]
   .have N:d.l st.H.length=c.w.heap.size:=by rw[<-P,J,f]
    rw[<-N];exact .m (.it _ (jI i a []) (by rw[K];simp))
def zL{s l:Nat}{m:Option Nat}(h:w.heap[r]?=some (.mapIter m s se l)):(getObj r>>=k).run P w=(k (.mapIter m s se l)).run P w:=by
 show(Sem.getObj r _).run P w=_;simp only[Sem.run,h];rfl
def zM{es:Array MapEntry}(h:w.heap[r]?=some (.map es c)):(getObj r>>=k).run P w=(k (.map es c)).run P w:=by
 show(Sem.getObj r _).run P w=_;simp only[Sem.run,h];rfl
def Fj(R:st.ev x=some (.m (.it j)))(J:st.H[j]?=some (.iter (jI i since seen)))(S:st.H[i]?=some (.map (fe since es bs)))(T:bs.length=es.length)(U:∀b∈bs,b<since):
  cJ X ⟨dst,.next x false,ty,pos,af,g⟩ st λv s=>(v=.m (.c_ [.d (.bool false)])/\s=st/\∀b∈bs,b∈seen)\/
   ∃(n:Nat) (e:D×M) (b:Nat),es[n]?=some e/\bs[n]?=some b/\b∉seen/\v=.m (.c_ [.d (.bool true),.d e.1,e.2])/\s=⟨st.sl,st.bx,st.H.set j (.iter (jI i since (seen++[b])))⟩:=by
 intro H σ K p;have h:=p.ev R;have V:σ.H[j]?=some (.iter (jI i since seen)):=by rw[p.hH];exact J
 have L:σ.H[i]?=some (.map (fe since es bs)):=by rw[p.hH];exact S
 obtain⟨last,A,h2⟩:=EA (p.hinv.obj j _ V);obtain⟨a,t,Y,h4,h5,N⟩:=uL T (p.hinv.obj i _ L);have B:∀(n:Nat) u,a[n]?=some u->∃e b,es[n]?=some e/\bs[n]?=some b/\RM σ (.d e.1) u.key/\RM σ e.2 u.val/\u.born=b/\b<since:=by
  intro n u d;have q:n<a.size:=by
   rcases agJ n a.size with h|h
   .exact h
   .rw[agX h]at d;cases d
  obtain⟨f,l,o,_⟩:=N n (es[n]'(by omega)) (bs[n]'(by omega)) u (by simp[show n<es.length by omega]) (by simp[show n<bs.length by omega]) d;exact⟨es[n]'(by omega),bs[n]'(by omega),by simp[show n<es.length by omega],by simp[show n<bs.length by omega],f,l,o,U _ (agx _)⟩
 generalize k:H.eval x=u at h;cases h with
 |m h=>
  cases h with
  |it _ ce hh=>
   have OF:(!seen.toArray.isEmpty&& !a.isEmpty&&a.all (·.born>=last))=false:=by
    cases y:a.isEmpty with
    |true=>simp
    |false=>
     have o:0<a.size:=by
      rcases ag5 a.size with h|h
      .have:a= #[]:=aiE h;subst this;simp at y
      .exact h
     obtain⟨e,b,_,_,_,_,E,I⟩:=B 0 a[0] (by simp[o]);have:a.all (·.born>=last)=false:=by
      rw[<-aiB,Array.all_eq_true];intro C;have:=C 0 o;simp at this;omega
     simp[this]
   generalize F:(a.filter λe=> !seen.toArray.contains e.born)=left;have G:∀u∈left,∃(n:Nat) (e:D×M) (b:Nat),es[n]?=some e/\bs[n]?=some b/\b∉seen/\RM σ (.d e.1) u.key/\RM σ e.2 u.val/\u.born=b/\b<since:=by
    intro u o;rw[<-F,Array.mem_filter]at o;obtain⟨n,q,ac⟩:=Array.getElem_of_mem o.1;obtain⟨e,b,C,E,I,O,y,Z⟩:=B n u (by rw[<-ac];simp[q]);refine⟨n,e,b,C,E,λTe=>?_,I,O,y,Z⟩;have:=o.2;rw[y]at this;simp[Te]at this
   have MR:left= #[]->∀b∈bs,b∈seen:=by
    intro C b Z;obtain⟨n,q,rfl⟩:=ahr Z;have o:n<a.size:=by omega
    obtain⟨e,b',_,y,_,_,E,_⟩:=B n a[n] (by simp[o]);have I:b'=bs[n]:=by simpa [q] using y.symm
    refine Classical.byContradiction λO=>?_
    have:a[n]∈left:=by
     rw[<-F,Array.mem_filter];exact⟨ai1 o,by rw[E,I];simpa using O⟩
    rw[C]at this;simp at this
   have am:left.filter (λe=>decide (e.born<since))=left:=by
    rw[Array.filter_eq_self];intro u o;obtain⟨_,_,b,_,_,_,_,_,y,C⟩:=G u o;simp[y,C]
   have Ow:left.filter (λe=>decide (e.born>=since))= #[]:=by
    rw[Array.filter_eq_empty_iff];intro u o;obtain⟨_,_,b,_,_,_,_,_,y,C⟩:=G u o;simp[y];omega
   obtain⟨l,z⟩:∃a,a=(if left.isEmpty then #[none]else #[])++(left++(#[]:Array MapEntry)).map some:=⟨_,rfl⟩;have r:(Instr.next (.pointer (some ⟨σ.l j,0,none⟩)) false ty).run X.P σ.w=(choose (.mapNext l.size)>>= λn=>match l[n]? with
     |some (some e)=>(do setObj (σ.l j) (.mapIter (some (σ.l i)) since (seen.toArray.push e.born) t);pure (.tuple #[.bool true,e.key,e.val]))
     |some none=>pure (.tuple #[.bool false])
     |none=>stuck "Next: no such candidate").run X.P σ.w:=by
    unfold Instr.next;simp only[zL A,zM Y,OF,ahj,ahL,F,am,Ow,<-z];rfl
   have Tv:0<l.size:=by
    rw[z];cases o:left.isEmpty with
    |true=>simp;omega
    |false=>
     have:0<left.size:=by
      rcases ag5 left.size with h|h
      .rw[aiE h]at o;simp at o
      .exact h
     simp;omega
   obtain⟨n,w',q,Py,Xn⟩:=BP (α:=Value) (P:=X.P) (w:=σ.w) Tv;rw[Xn]at r;have Q:∀r a,(Instr.next (.pointer (some ⟨σ.l j,0,none⟩)) false ty).run X.P σ.w=.ok r a->(execOp H.eval ⟨dst,.next x false,ty,pos,af,g⟩).run X.P σ.w=.ok (.value r) a:=by
    intro o y h;simp only[execOp,k];simp[h]
   have Pr:l[n]?=some l[n]:=by simp[q]
   rw[Pr]at r;have f:l[n]∈l:=ai1 q;generalize hc:l[n]=c at r f;have d:w'.heap=σ.w.heap/\w'.os=σ.w.os/\w'.output=σ.w.output/\w'.tape=σ.w.tape:=by rcases Py with rfl|rfl<;>exact⟨W,W,W,W⟩
   cases c with
   |none=>
    have I:left= #[]:=by
     rw[z]at f;cases o:left.isEmpty with
     |true=>simpa using o
     |false=>rw[o]at f;simp at f
    have C:=Q _ _ r;have E:fS σ.w w':=⟨d.2.1,d.2.2.1,d.2.2.2,by rw[d.1];exact ags _,λb _=>by rw[d.1]⟩;refine dv.value (u:=.tuple #[.bool false]) (w':=w') C ⟨_,_,{σ with w:=w'},K,.inl ⟨rfl,rfl,MR I⟩,rfl,p.ext E,.m (.c_ _ _ W λn m v o y=>by
     match n with
     |0=>simp at o y;subst o;subst y;exact .d (.bool _)
     |n+1=>simp at o)⟩
   |some u=>
    have ac:u∈left:=by
     rw[z]at f;cases y:left.isEmpty with
     |true=>rw[y]at f;simp at f;simp at y;rw[y]at f;simp at f
     |false=>rw[y]at f;simpa using f
    obtain⟨m,e,b,C,E,Z,q4,q5,q6,q7⟩:=G u ac;have Lx:σ.l j<σ.w.heap.size:=fD A;have Ze:(do setObj (σ.l j) (.mapIter (some (σ.l i)) since (seen.toArray.push u.born) t);pure (.tuple #[.bool true,u.key,u.val]):Sem Value).run X.P w'=.ok (.tuple #[.bool true,u.key,u.val]) (cW w' (σ.l j) (.mapIter (some (σ.l i)) since (seen.toArray.push u.born) t)):=by
     show(Sem.setObj _ _ _).run X.P w'=_;have y:w'.heap[σ.l j]?=some (.mapIter (some (σ.l i)) since seen.toArray last):=by rw[d.1];exact A
     simp only[Sem.run,y];rfl
    have OG:=Q _ _ (r.trans Ze);obtain⟨I,k1,k2,k3,O,k5⟩:=p.jg (j:=j) (b':=σ.l j) (ob:=.iter (jI i since seen)) (MA:=.iter (jI i since (seen++[b]))) (w':=cW w' (σ.l j) (.mapIter (some (σ.l i)) since (seen.toArray.push u.born) t)) J trivial d.2.1 d.2.2.1 d.2.2.2 (by rw[iJ,d.1];exact ags _)
     (λc _ a=>by rw[hM a,d.1]) (.inl W) (λo v a=>(a trivial).elim) W (by
      intro I y hw co hH;refine .inl ⟨some (σ.l i),since,seen.toArray.push u.born,t,by rw[hw];exact fE (by rw[d.1];exact Lx),.inr ⟨?_,?_⟩⟩
      .have:=(Ez (σ:=σ) (since:=since) (seen:=seen++[b]) L).mono y;rw[q6];simpa using this
      .obtain⟨_,Od⟩:∃x:Nat,bs[m]?=some x:=⟨_,E⟩;have o:m<es.length:=G4 C;obtain⟨_,_,_,Ln⟩:=N m e b (a[m]'(by omega)) C E (by simp[show m<a.size by omega]);omega)
    refine dv.value OG ⟨_,_,I,K,.inr ⟨m,e,b,C,E,Z,W,W⟩,k1,k5,.m ?_⟩;refine .c_ _ _ W λn v w o k=>?_
    match n with
    |0=>simp at o k;subst o;subst k;exact .d (.bool _)
    |1=>simp at o k;subst o;subst k;exact q4.mono O
    |2=>simp at o k;subst o;subst k;exact q5.mono O
    |n+3=>simp at o
def Dm(t:st.ev x=some (.m (.it j)))(w:st.H[j]?=some (.iter (jI i since (seen++[b]))))(y:st.H[i]?=some (.map (fe since es bs)))(z:bs.length=es.length)(P:bs.Nodup)(q:es[n]?=some e)(A:bs[n]?=some b)
  :cJ X ⟨dst,.entry x,ty,pos,af,g⟩ st (dm (.m (.c_ [.d e.1,e.2])) st):=by
 refine Lq λs f Q h=>?_
 have k:=h.ev t;have B:f.H[j]?=some (.iter (jI i since (seen++[b]))):=by rw[h.hH];exact w
 have C:f.H[i]?=some (.map (fe since es bs)):=by rw[h.hH];exact y
 obtain⟨last,D,R⟩:=EA (h.hinv.obj j _ B);obtain⟨a,O,E,S,F,G⟩:=uL z (h.hinv.obj i _ C);have c:n<es.length:=G4 q;have p:n<a.size:=by omega
 obtain⟨H,I,r,T⟩:=G n e b a[n] q A (by simp[p]);have J:a.find? (·.born==b)=some a[n]:=by
  cases l:a.find? (·.born==b)with
  |none=>
   exfalso;rw[Array.find?_eq_none]at l;exact l a[n] (ai1 p) (by simp[r])
  |some u=>
   have K:=Array.find?_some l;have L:=Array.mem_of_find?_eq_some l;obtain⟨o,M,rfl⟩:=Array.getElem_of_mem L;have N:a[o].born=a[n].born:=by rw[r];simpa using K
   have:=F.2 o n a[o] a[n] (by simp[M]) (by simp[p]) N;subst this;rfl
 generalize d:s.eval x=u at k;cases k with
 |m k=>
  cases k with
  |it _ L M=>
   refine⟨.tuple #[a[n].key,a[n].val],?_,.m (.c_ _ _ W λn m v c d=>?_)⟩
   .have l:(Instr.entry (.pointer (some ⟨f.l j,0,none⟩))).run X.P f.w=.ok (.tuple #[a[n].key,a[n].val]) f.w:=by
     unfold Instr.entry;simp only[zL D];have o:(seen++[b]).toArray.back?=some b:=by simp
     simp only[o,zM E,J];have K:(O !=last)=false:=by simp;omega
     simp only[K,ahj,ahL];rfl
    simp only[execOp,d];simp[l]
   .match n with
    |0=>simp at c d;subst c;subst d;exact H
    |1=>simp at c d;subst c;subst d;exact I
    |n+2=>simp at c
end
section
variable{X:cY}{ops:Array Oper}{rest:List Oper}{sl:List (Nat×V)}{bx:List (Nat×List M)}{H:Hp}{post:St->Prop}{d ty:Nat}{pos:String}{af:Array Edge}
def uM(a:Nat.blt d X.n=true)(r:gJ d sl=true)(ht:ld X.P T=2)(c:bj sl x=some (.m (.mp i)))(e:H[i]?=some (.map es))(f:strKeys es=true)
  (k:∀(c:List (D×M)) (a:List Nat) (e:Nat),dQ c es->a.length=c.length->a.Nodup->(∀b∈a,b<e)->TL X ops rest ⟨(d,.m (.it H.length))::sl,bx,H.set i (.map (fe e c a))++[.iter (jI i e [])]⟩ post):
  TL X ops (⟨some d,.range T x,ty,pos,af,none⟩::rest) ⟨sl,bx,H⟩ post:=
 TL.op (by simp[iw]) W a (Dl ht c e f) λv s ⟨g,h,q,j,l,m,n,o,p⟩=>by subst o;subst p;exact k g h q j l m n
def xF(c:Nat.blt d X.n=true)(f:bj sl x=some (.m (.it j)))(g:H[j]?=some (.iter (jI i since seen)))(k:H[i]?=some (.map (fe since es bs)))(l:bs.length=es.length)(m:∀b∈bs,b<since)
  (o:(∀b∈bs,b∈seen)->TL X ops rest ⟨(d,.m (.c_ [.d (.bool false)]))::sl,bx,H⟩ post)
  (p:∀(n:Nat) (e:D×M) (b:Nat),es[n]?=some e->bs[n]?=some b->b∉seen->TL X ops rest ⟨(d,.m (.c_ [.d (.bool true),.d e.1,e.2]))::sl,bx,H.set j (.iter (jI i since (seen++[b])))⟩ post):
  TL X ops (⟨some d,.next x false,ty,pos,af,none⟩::rest) ⟨sl,bx,H⟩ post:=
 TL.op (by simp[iw]) W c (Fj f g k l m) λv s h=>by
  rcases h with⟨rfl,rfl,a⟩|⟨n,e,b,q,r,a,rfl,rfl⟩
  .exact o a
  .exact p n e b q r a
def uN(a:Nat.blt d X.n=true)(c:bj sl x=some (.m (.it j)))(f:H[j]?=some (.iter (jI i since (seen++[b]))))(g:H[i]?=some (.map (fe since es bs)))(h:bs.length=es.length)(l:bs.Nodup)(m:es[n]?=some e)(o:bs[n]?=some b)
  (k:TL X ops rest ⟨(d,.m (.c_ [.d e.1,e.2]))::sl,bx,H⟩ post):TL X ops (⟨some d,.entry x,ty,pos,af,none⟩::rest) ⟨sl,bx,H⟩ post:=
 LA W W a (Dm c f g h l m o) k
def TC.tv(c:H[i]?=some (.map (fe since LM bs)))(d:bs.length=LM.length)(e:strKeys LM=true)(f:dQ LM es)(k:TC X code ⟨sl,bx,H.set i (.map es)⟩ q):TC X code ⟨sl,bx,H⟩ q:=
 λa w ⟨n,g,h,j⟩=>by
  obtain⟨b,l,m,_⟩:=j.tv c d e f;exact k a w ⟨b,g,m.trans h,l⟩
def TC.perm(c:H[i]?=some (.map es))(d:∀a,dQ a es->dQ a Oy)(k:TC X code ⟨sl,bx,H.set i (.map Oy)⟩ q):TC X code ⟨sl,bx,H⟩ q:=
 λa w ⟨l,e,f,g⟩=>by
  obtain⟨b,h,j⟩:=g.perm c d;exact k a w ⟨b,e,j.trans f,h⟩
end
end Go.Mt
namespace Go.Mt
variable{cs Ls:List M}{H:Hp}{i Lh ec n B:Nat}{sl:List (Nat×V)}{bx:List (Nat×List M)}{X:cY}{a:Act}{P:Program}{post:Exit->St->Prop}{c:Code}{σ:Sg}{Li:Nat->Nat}{st:St}{m:M}
def cj.uO(hi:cj X σ Li st a)(c:st.H[i]?=some (.row false ec Lh cs))(e:Ls.length=cs.length)
  (f:∀(k:Nat) b,Ls[k]?=some b->cs[k]?=some b\/∃m d,cs[k]?=some m/\eK st.H m=some d/\b=.d d):
  ∃τ:Sg,cj X τ Li ⟨st.sl,st.bx,st.H.set i (.row false ec Lh Ls)⟩ a/\τ.w=σ.w:=by
 obtain⟨o,C,T,D,n,p,q,r,s,g⟩:=hi.hinv.obj i _ (by rw[hi.hH];exact c);rw[<-hi.hH]at f;obtain⟨τ,t,E,F,G,u⟩:=hi.jg (j:=i) (b':=σ.l i) (ob:=.row false ec Lh cs) (MA:=.row false ec Lh Ls) (w':=σ.w) c trivial W W W (ags _)
  (λ_ _ _=>rfl) (.inl W) (λo v b=>(b (.inl W)).elim) ⟨rfl,.inr ⟨rfl,e,rfl,λb T h=>⟨b,h,rfl⟩⟩⟩ (by
   intro τ h w _ _;refine⟨o,C,T,D,n,by rw[w];exact p,q,r,by rw[e];exact s,λk m v x l=>?_⟩;rcases f k m x with b|⟨y,d,b,z,rfl⟩
   .obtain⟨A,B⟩:=g k m v b l;exact⟨A.mono h,B⟩
   .obtain⟨A,B⟩:=g k y v b l;exact⟨(A.view hi.hinv z).mono h,B⟩)
 exact⟨τ,u,t⟩
def DC.uO(b:H[i]?=some (.row false ec Lh cs))(e:Ls.length=cs.length)
  (f:∀(k:Nat) a,Ls[k]?=some a->cs[k]?=some a\/∃m d,cs[k]?=some m/\eK H m=some d/\a=.d d) (k:DC P n B c ⟨sl,bx,H.set i (.row false ec Lh Ls)⟩ post):DC P n B c ⟨sl,bx,H⟩ post:=
 Mq _ (λ_ _ _ p w ⟨q,g,h,j⟩=>by
  obtain⟨a,l,o⟩:=j.uO b e f;exact⟨a,g,o.trans h,l⟩) k
def cj.Kg(hi:cj X σ Li st a)(b:st.H[i]?=some (.row false ec Lh cs)):
  ∃τ:Sg,cj X τ Li ⟨st.sl,st.bx,st.H.set i (.row true ec Lh cs)⟩ a/\τ.w=σ.w:=by
 obtain⟨d,q,T,r,n,e,f,g,h,c⟩:=hi.hinv.obj i _ (by rw[hi.hH];exact b);obtain⟨τ,k,s,t,u,l⟩:=hi.jg (j:=i) (b':=σ.l i) (ob:=.row false ec Lh cs) (MA:=.row true ec Lh cs) (w':=σ.w) b trivial W W W (ags _)
  (λ_ _ _=>rfl) (.inl W) (λo v b=>(b (.inl W)).elim) ⟨rfl,.inr ⟨rfl,rfl,rfl,λb T h=>⟨b,h,rfl⟩⟩⟩ (by
   intro τ o p _ _;exact⟨d,q,T,r,n,by rw[p];exact e,f,g,h,λk m v b d=>⟨(c k m v b d).1.mono o,(c k m v b d).2⟩⟩)
 exact⟨τ,l,k⟩
def DC.G7(b:H[i]?=some (.row false ec Lh cs))(k:DC P n B c ⟨sl,bx,H.set i (.row true ec Lh cs)⟩ post):DC P n B c ⟨sl,bx,H⟩ post:=
 Mq _ (λ_ _ _ j w ⟨l,d,e,f⟩=>by
  obtain⟨a,g,h⟩:=f.Kg b;exact⟨a,d,h.trans e,g⟩) k
def As.own(n:Nat)(rs:List (List D))(m:M):As where
 p H F:=(rs=[]/\m=.d (.sl [])/\∀j,¬F j)\/(rs≠[]/\∃i Lh,m=.cy i Lh rs.length/\H[i]?=some (.row false n Lh (bf rs))/\∀j,F j↔j=i)
 loc:= λh hk=>h.elim .inl λ⟨a,i,Lh,b,c,d⟩=>.inr ⟨a,i,Lh,b,(hk i ((d i).2 rfl)).trans c,d⟩
 yY:= λh hi=>h.elim (λ⟨_,_,d⟩=>absurd hi (d _)) λ⟨_,i,Lh,_,c,d⟩=>by rw[(d _).1 hi];exact nc c
section
variable{F0:Nat->Prop}{H0 H:Hp}{r:List As}{n:Nat}{rs:List (List D)}{m:M}
def Wk.Kh(w:Wk F0 H0 r H)(n:Nat):Wk F0 H0 (.own n [] (.d (.sl []))::r) H:=by
 refine Wk.step (a:=[]) (b:=[.own n [] (.d (.sl []))]) w λF c=>?_
 exact⟨λ_=>False,qd (.inl ⟨rfl,rfl,λ_ h=>h⟩),ags _,λ_ _ _=>rfl,λ_ h=>h.elim⟩
def Wk.Jo(w:Wk F0 H0 (.own n [] m::r) H):m=.d (.sl []):=by
 obtain⟨F,⟨b,c,a,_⟩,_⟩:=w;rcases a with⟨_,h,_⟩|⟨h,_⟩
 .exact h
 .exact absurd W h
def Wk.Jp(w:Wk F0 H0 (.own n rs m::r) H)(a:rs≠[]):∃i a,m=.cy i a rs.length/\Wk F0 H0 (.ob i (.row false n a (bf rs))::r) H:=by
 obtain⟨F,⟨c,d,e,f⟩,g⟩:=w;rcases e with⟨h,_⟩|⟨_,i,b,j,k,l⟩
 .exact absurd h a
 .exact⟨i,b,j,F,⟨c,d,⟨k,l⟩,f⟩,g⟩
def Wk.Jq(w:Wk F0 H0 (.ob i (.row false n Lh (bf rs))::r) H)(a:rs≠[]):Wk F0 H0 (.own n rs (.cy i Lh rs.length)::r) H:=by
 obtain⟨F,⟨b,c,⟨d,e⟩,f⟩,g⟩:=w;exact⟨F,⟨b,c,.inr ⟨a,i,Lh,W,d,e⟩,f⟩,g⟩
end
def Inv.uP{w:World}{t:Nat}(h:Inv X ⟨sl,bx,H⟩ a w)(p:get bx t=some cs)(s:Ls.length=cs.length)
  (x:∀(k:Nat) c,Ls[k]?=some c->cs[k]?=some c\/∃m d,cs[k]?=some m/\eK H m=some d/\c=.d d):Inv X ⟨sl,(t,Ls)::bx,H⟩ a w:=by
 obtain⟨o,k,rfl,c⟩:=h;have y:o.H=H:=c.hH;obtain⟨I,T,f,g⟩:=c.box t cs p;have i:∀u c,get ((t,Ls)::bx) u=some c->∃c,get bx u=some c:=by
  intro u j f;rcases bY f with⟨rfl,rfl⟩|⟨q,n⟩
  .exact⟨cs,p⟩
  .exact⟨j,n⟩
 have l:∀b o,lU X.jj k ((t,Ls)::bx) b o↔lU X.jj k bx b o:=by
  intro b r;constructor
  .rintro(f|⟨u,j,f,g⟩)
   .exact .inl f
   .obtain⟨n,q⟩:=i u j f;exact .inr ⟨u,n,q,g⟩
  .rintro(f|⟨u,j,f,g⟩)
   .exact .inl f
   .by_cases e:t=u
    .subst e;exact .inr ⟨t,Ls,by simp[b_],g⟩
    .exact .inr ⟨u,j,by simp[b_,e,f],g⟩
 refine⟨o,k,W,c.hH,c.defers,c.size,c.slot,?_,?_,?_,?_,?_,c.mono,c.a_⟩
 .intro u z A;rcases bY A with⟨rfl,rfl⟩|⟨_,B⟩
  .refine⟨I,T,f,by rw[g.1,s],λj q v C r=>?_⟩;rcases x j q C with n|⟨D,d,n,E,rfl⟩
   .exact g.2 j q v n r
   .obtain⟨F,G⟩:=g.2 j D v n r;exact⟨F.view c.hinv (by rw[y];exact E),G⟩
  .exact c.box u z B
 .intro u v j r n q z;obtain⟨_,A⟩:=i u j n;obtain⟨_,B⟩:=i v r q;exact c.nK u v _ _ A B z
 .intro u j n;obtain⟨_,q⟩:=i u j n;exact c.oA u _ q
 .intro u j n;obtain⟨_,q⟩:=i u j n;exact c.oB u _ q
 .exact⟨c.hinv.obj,c.hinv.inj,λb o=>by rw[l];exact c.hinv.own b o,λi k f g o j=>c.hinv.sep i k f g o ((l _ _).1 j),λb o f=>c.hinv.iG b o ((l _ _).1 f)⟩
def DC.uP(t:Nat)(a:get bx t=some cs)(b:Ls.length=cs.length)
  (e:∀(k:Nat) a,Ls[k]?=some a->cs[k]?=some a\/∃m d,cs[k]?=some m/\eK H m=some d/\a=.d d) (k:DC P n B c ⟨sl,(t,Ls)::bx,H⟩ post):DC P n B c ⟨sl,bx,H⟩ post:=
 Mq _ (λ_ _ _ f w f=>f.uP a b e) k
def JI{a b:M}{d:D}(h:eK H m=some d):∀(k:Nat) c,[a,b,M.d d][k]?=some c->[a,b,m][k]?=some c\/∃e f,[a,b,m][k]?=some e/\eK H e=some f/\c=.d f:=by
 intro k e c
 match k with
 |0=>exact .inl c
 |1=>exact .inl c
 |2=>exact .inr ⟨m,d,W,h,by simpa using c.symm⟩
 |k+3=>simp at c
def Wk.G8{d:Nat->Prop}{H0:Hp}{r:List As}{rs:List (List D)}(w:Wk d H0 (.own n rs m::r) H):
  ∃a,Wk d H0 (.acc n rs m::r) a/\∀{P:Program} {k B:Nat} {c:Code} {post:Exit->St->Prop} {sl:List (Nat×V)} {bx:List (Nat×List M)},DC P k B c ⟨sl,bx,a⟩ post->DC P k B c ⟨sl,bx,H⟩ post:=by
 by_cases a:rs=[]
 .subst a;have b:=w.Jo;subst b;exact⟨H,(w.drop).nil n,λh=>h⟩
 .obtain⟨i,b,f,e⟩:=w.Jp a;subst f;have g:=e.ob;have h:=e.set (.row true n b (bf rs));refine⟨H.set i (.row true n b (bf rs)),?_,λh=>DC.G7 g h⟩;obtain⟨F,⟨j,l,⟨o,p⟩,q⟩,s⟩:=h;exact⟨F,⟨j,l,⟨i,.inr ⟨a,b,W,o⟩,λj=>by rw[p];simp[a]⟩,q⟩,s⟩
end Go.Mt
namespace Go.Mt
variable{arr:Array Oper}{X:cY}{k a b n j:Nat}{st:St}{B:List Oper}{o:Oper}{Q:Exit->Act->World->Prop}
def uQ(arr:Array Oper)(ops:List Oper)(sl:List (Nat×V))(es:List Ef):Bool:=
 p6 0 ops&&p7 arr 0 ops es (iU ops)&&mX sl es
def Dn(n:Nat)(B:List Oper):Bool:=B.all λo=>(List.range n).all λk=>o.after.toList.any λe=>Region.binds .any e&&Nat.beq e.on k
def Dp(h:Dn n B=true)(b:o∈B)(c:k<n):∃e∈o.after.toList,Region.binds .any e=true/\e.on=k:=by
 have d:=ahD.1 h o b;have f:=ahD.1 d k (ahZ.2 c);obtain⟨e,g,a⟩:=ahX.1 f;simp only[agZ]at a;exact⟨e,g,a.1,agO a.2⟩
def IH{A:List Oper}{s:St}{es:List Ef}(I:Hp->Prop)(S6:I st.H)(Pu:arr=(A++B).toArray)
  (M':p9 X I arr A st es s) (T:uQ arr A st.sl es=true) (Xr:lF I A 0 es) (QZ:Dn A.length B=true)
  (hQ:∀a w,Inv X s a w->wpAny X.P .any arr Q B.length (Array.replicate A.length true++Array.replicate B.length false) a w):
  ∀a w,Inv X st a w->wpAny X.P .any arr Q (A.length+B.length) (Array.replicate (A.length+B.length) false) a w:=by
 obtain⟨d7,Uj,U⟩:=M'.spec;simp only[uQ,agZ]at T;obtain⟨⟨S7,RS⟩,RT⟩:=T;have hE:=og S7;have K:=oe RS;have OE:s=S st es (λ_=>true) A.length:=by rw[iZ,ahw (by omega),Uj]
 have u:∀(k:Nat) e,es[k]?=some e->∃o b,A[k]?=some o/\(iU A)[k]?=some b/\e.d=o.dst/\k<A.length:=by
  intro k e c;have j:k<es.length:=by rcases agJ k es.length with h|h;exact h;simp[agD h]at c
  have g:A[k]?=some A[k]:=by simp[show k<A.length by omega]
  have i:k<(iU A).length:=by rw[mB];omega
  exact⟨A[k],(iU A)[k],g,by simp[i],(U k _ e g c).2,by omega⟩
 have Rp:∀(k:Nat) e d,es[k]?=some e->e.nw=some d->gJ d st.sl=true:=by
  have:∀(l:List Ef),mX st.sl l=true->∀(k:Nat) e d,l[k]?=some e->e.nw=some d->gJ d st.sl=true:=by
   intro l
   induction l with
   |nil=>intro _ k e d h;simp at h
   |cons x l i=>
    intro g k e d c h;simp only[mX,agZ]at g;cases k with
    |zero=>simp at c;subst c;simpa [h] using g.1
    |succ k=>simp at c;exact i g.2 k e d c h
  exact this es RT
 intro a w y;subst Pu;have d5:∀(g:Nat) (c:Array Bool) (a:Act) (w:World),c.size=A.length+B.length->(∀k,A.length<=k->c.getD k false=false)->nD A.length (λk=>c.getD k false)=g->
   (∀j b,c.getD j false=true->(iU A)[j]?=some b->∀i∈b,c.getD i false=true)->
   Inv X (S st es (λk=>c.getD k false) A.length) a w->
   wpAny X.P .any (A++B).toArray Q (g+B.length) c a w:=by
  intro r
  induction r with
  |zero=>
   intro c a w i j l x t;have g:=qY l;have o:c=Array.replicate A.length true++Array.replicate B.length false:=by
    apply Array.ext
    .simp[i]
    .intro k n z;have p:c[k]=c.getD k false:=by simp[n]
     rw[p];rcases agJ k A.length with h|h
     .rw[g k h];simp[h]
     .rw[j k h];simp[h]
   rw[ahq];have q:Inv X s a w:=by
    have e:S st es (λk=>c.getD k false) A.length=s:=by
     rw[OE];have:∀n,n<=A.length->S st es (λk=>c.getD k false) n=S st es (λ_=>true) n:=by
      intro n
      induction n with
      |zero=>intro _;rfl
      |succ n h=>
       intro k;simp only[S,h (by omega),g n (by omega)]
     exact this _ (ags _)
    rw[<-e];exact t
   have:=hQ a w q;rw[<-o]at this;exact this
  |succ r ih=>
   intro c a w M0 XJ z C d6;have XL:r+1+B.length=(r+B.length)+1:=by omega
   rw[XL];have Sx:∀(L:List Oper) (i:Nat),i∈Region.ready .any L.toArray c↔i<L.length/\c.getD i true=false/\∃o,L[i]?=some o/\∀e∈o.after.toList,Region.binds .any e=true->c.getD e.on false=true:=by
    intro L i;unfold Region.ready;rw[aiN];simp only[ahZ,aiZ,agZ,ahH,ahO];constructor
    .rintro⟨g,o,k⟩;refine⟨g,o,L[i],by simp[g],?_⟩;simp[g]at k;intro e l j;have q:e∈L[i].after:=by simpa using l
     obtain⟨n,p,rfl⟩:=ajm.1 q;rcases k n p with h|h
     .rw[h]at j;cases j
     .simpa using h
    .rintro⟨g,j,o,k,l⟩;refine⟨g,j,?_⟩;have:L[i]=o:=by simpa [g] using k
     simp[g,this];intro n p;cases h:Region.binds .any o.after[n]with
     |false=>exact .inl rfl
     |true=>right;simpa using l o.after[n] (by simp) h
   have am:∀i,i∈Region.ready .any (A++B).toArray c↔i<A.length/\c.getD i true=false/\∃o,A[i]?=some o/\∀e∈o.after.toList,Region.binds .any e=true->c.getD e.on false=true:=by
    intro i;rw[Sx];constructor
    .rintro⟨x,j,o,g,h⟩;by_cases y:i<A.length
     .exact⟨y,j,o,by rwa [agF y]at g,h⟩
     .exfalso;obtain⟨t,l,n,D⟩:=tf (m:=A.length) (f:= λk=>c.getD k false) (by omega);rw[agP (by omega)]at g;obtain⟨e,k,p,q⟩:=Dp QZ (agN g) l;have:=h e k p;rw[q,n]at this;cases this
    .rintro⟨g,h,o,j,k⟩;exact⟨by rw[agq];omega,h,o,by rw[agF g];exact j,k⟩
   refine⟨?_,?_⟩
   .intro n;obtain⟨i,g,h,l⟩:=tf (m:=A.length) (f:= λk=>c.getD k false) (by omega);have:i∈Region.ready .any (A++B).toArray c:=by
     rw[am];have o:i<c.size:=by omega
     refine⟨g,by simp[o]at h⊢;exact h,A[i],by simp[g],?_⟩;intro e j k;have:=hE i A[i] (by simp[g]) e j k;exact l e.on (by omega)
    rw[n]at this;cases this
   .intro i Qn;obtain⟨l,Y,o,k,RU⟩:=(am i).1 Qn;have V:i<c.size:=by omega
    have h:c.getD i false=false:=by simp[V]at Y⊢;exact Y
    have QE:i<es.length:=by omega
    obtain⟨e,j⟩:∃e,es[i]?=some e:=⟨es[i],by simp[QE]⟩;have NQ:i<(iU A).length:=by rw[mB];exact l
    obtain⟨N,q⟩:∃b,(iU A)[i]?=some b:=⟨(iU A)[i],by simp[NQ]⟩;have ac:∀k,k∈N->c.getD k false=true:=by
     intro t x;obtain⟨L,D,J,g⟩:=zx k q x;have n:=RU L D J;rcases g with g|⟨R,Z,_,h6⟩
     .rw[<-g];exact n
     .exact C _ R n Z t h6
    have P:∀(k:Nat) f,k<i->es[k]?=some f->∀x,A[k]?=some x->fN (A++B).toArray x o f e=true->c.getD k false=true:=by
     intro g f n t x D z;have:=(K g i x f o e N n D t k j q).1 z;simp at this;exact ac g this
    have p:∀(k:Nat) f,i<k->es[k]?=some f->∀x,A[k]?=some x->fN (A++B).toArray o x e f=true->c.getD k false=false:=by
     intro g f D t x L z;obtain⟨_,b,_,n,_,_⟩:=u g f t;have:=(K i g o e x f b D k j L t n).1 z;simp at this;cases J:c.getD g false with
     |false=>rfl
     |true=>rw[C g b J n i this]at h;cases h
    obtain⟨Qa,YG⟩:=U i o e k j;have Xs:(es.take i).foldl (λs e=>e.app s) st=S st es (λ_=>true) i:=(iZ st es i).symm;rw[Xs]at Qa;have E:∀t k,(kf es t).W k=true->∃f x,es[k]?=some f/\A[k]?=some x/\f.d=some t/\x.dst=some t:=by
     intro R x g;simp only[kf]at g;split at g
     .rename_i f t;split at g
      .rename_i d n;have:=agO g;subst this;obtain⟨D,b,J,_,L,_⟩:=u x f t;exact⟨f,D,t,J,n,by rw[<-L];exact n⟩
      .cases g
     .cases g
    have F:∀t k,(lM es t).W k=true->∃f x,es[k]?=some f/\A[k]?=some x/\t∈f.wb.map (·.1):=by
     intro J t g;simp only[lM]at g;split at g
     .rename_i f n;obtain⟨x,b,D,_,_,_⟩:=u t f n;exact⟨f,x,n,D,iV.1 g⟩
     .cases g
    have G:∀k,(kg es).W k=true->∃f x,es[k]?=some f/\A[k]?=some x/\f.wh.isSome=true:=by
     intro t g;simp only[kg]at g;split at g
     .rename_i f n;obtain⟨x,b,D,_,_,_⟩:=u t f n;exact⟨f,x,n,D,g⟩
     .cases g
    have O:∀(l:List (Nat×List M)) (r:List Nat) (t:Nat),t∈l.map (·.1)->t∈r->(l.any λp=>has r p.1)=true:=by
     intro D L J n t;rw[ahX];obtain⟨g,x,rfl⟩:=agC.1 n;exact⟨g,x,iV.2 t⟩
    have Uk:Ag (A++B).toArray o e (S st es (λ_=>true) i) (S st es (λk=>c.getD k false) A.length):=by
     refine⟨?_,?_,?_,?_⟩
     .intro t n;refine oF (kf es t) _ i A.length (by omega) ?_ ?_
      .intro g D R;obtain⟨f,x,J,L,_,Z⟩:=E t g R;refine P g f D J x L ?_;have:has (slotsOf (A++B).toArray o) t=true:=iV.2 (by simp[slotsOf,n]);simp[fN,Z,this]
      .intro g hk Mp L;by_cases Z:g=i
       .rw[Z];exact h
       .obtain⟨f,x,D,J,_,R⟩:=E t g L;refine p g f (by omega) D x J ?_;have:has (slotsOf (A++B).toArray o) t=true:=iV.2 (by simp[slotsOf,n]);simp[fN,R,this]
     .intro t n;refine oF (lM es t) _ i A.length (by omega) ?_ ?_
      .intro g D R;obtain⟨f,x,J,L,Z⟩:=F t g R;refine P g f D J x L ?_;have:=O f.wb _ t Z n;simp[fN,this]
      .intro g hk Mp L;by_cases R:g=i
       .rw[R];exact h
       .obtain⟨f,x,D,J,Z⟩:=F t g L;refine p g f (by omega) D x J ?_;have:=O f.wb _ t Z n;simp[fN,this]
     .intro g;refine oF (kg es) _ i A.length (by omega) ?_ ?_
      .intro n t L;obtain⟨f,x,D,J,R⟩:=G n L;refine P n f t D x J ?_;simp only[ah5]at g;rcases g with g|g<;>simp[fN,R,g]
      .intro n Z Mp J;by_cases L:n=i
       .rw[L];exact h
       .obtain⟨f,x,t,D,R⟩:=G n J;refine p n f (by omega) t x D ?_;simp only[ah5]at g;rcases g with g|g<;>simp[fN,R,g]
     .intro d L ce oo g;have co:∀n,n<=A.length->get (S st es (λk=>c.getD k false) n).sl ce=some (.loc d oo)->False:=by
       intro n
       induction n with
       |zero=>
        intro _ g;exact xc (Rp i e d j L) g
       |succ n J=>
        intro hn g;simp only[S]at g;cases x:es[n]? with
        |none=>simp only[x]at g;exact J (by omega) g
        |some f=>
         simp only[x]at g;cases t:c.getD n false with
         |false=>rw[t]at g;exact J (by omega) g
         |true=>
          rw[t]at g;simp only[ag6,Ef.app]at g;obtain⟨R,b,Z,hb,O_,_⟩:=u n f x;cases Ro:f.d with
          |none=>simp only[Ro]at g;exact J (by omega) g
          |some d'=>
           simp only[Ro]at g;rcases bY g with⟨_,D⟩|⟨_,D⟩
           .have LG:n≠i:=by rintro rfl;rw[t]at h;cases h
            rcases Nat.lt_or_gt_of_ne LG with Lx|Ul
            .have:=(K n i R f o e N Lx Z x k j q).2;simp[xf,L,<-D]at this
            .have:=p n f Ul x R Z (by simp[fN,L,<-D]);rw[this]at t;cases t
           .exact J (by omega) D
      exact co _ (ags _) g
    have Sj:=Qa _ Uk (xi I S6 (λg f t x n L=>(Xr.mem g f x t L).resolve_right λJ=>by
     have R:g≠i:=by rintro rfl;rw[h]at n;cases n
     obtain⟨b,D,q⟩:=vB J i l (ahJ R);have:=C g b n D i q;rw[h]at this;cases this) _)
    have S8:∀g h,Inv X (e.app (S st es (λk=>c.getD k false) A.length)) g h->wpAny X.P .any (A++B).toArray Q (r+B.length) (c.setIfInBounds i true) g h:=by
     intro a' w' NK;have x:(λk=>(c.setIfInBounds i true).getD k false)= λg=>if g=i then true else c.getD g false:=by
      funext g
      by_cases n:g=i
      .subst n;simp[V]
      .simp[n,ahb (ahJ n)]
     refine ih _ a' w' (by simp[M0]) (λk c=>by rw[ajt x k,agw (by omega)];exact XJ k c) ?_ ?_ ?_
     .rw[x];have:=xh (m:=A.length) (f:= λk=>c.getD k false) l h;omega
     .intro n b hj t g D;have L:(if n=i then true else c.getD n false)=true:=by rw[<-ajt x n];exact hj
      have R:(if g=i then true else c.getD g false)=true:=by
       by_cases J:g=i
       .simp[J]
       .rw[agw J];by_cases Z:n=i
        .subst Z;rw[q]at t;injection t with t;subst t
         exact ac g D
        .rw[agw Z]at L;exact C n b L t g D
      rw[<-ajt x g]at R;exact R
     .rw[x];have g1:∀t,get (S st es (λk=>if k=i then true else c.getD k false) A.length).sl t=get (e.app (S st es (λk=>c.getD k false) A.length)).sl t:=by
       intro t;refine uA (kf es t) _ i A.length l e j h ?_;intro QF n J Mp O1;obtain⟨f,D,L,R,_,Z⟩:=E t n O1;obtain⟨f',x',OU,g,_,Un⟩:=E t i QF;rw[k]at g;injection g with g;subst g
       refine p n f J L D R ?_;have:has (slotsOf (A++B).toArray o) t=true:=iV.2 (by simp[slotsOf,Un]);simp[fN,Z,this]
      have g2:∀t,get (S st es (λk=>if k=i then true else c.getD k false) A.length).bx t=get (e.app (S st es (λk=>c.getD k false) A.length)).bx t:=by
       intro t;refine uA (lM es t) _ i A.length l e j h ?_;intro QF n J Mp O1;obtain⟨f,D,L,R,Z⟩:=F t n O1;obtain⟨f',x',g,NP,Uo⟩:=F t i QF;rw[j]at g;injection g with g;subst g
       refine p n f J L D R ?_;have:=O f.wb (e.rb++e.wb.map (·.1)) t Z (agG.2 (.inr Uo));simp[fN,this]
      have g3:(S st es (λk=>if k=i then true else c.getD k false) A.length).H=(e.app (S st es (λk=>c.getD k false) A.length)).H:=by
       refine uA (kg es) _ i A.length l e j h ?_;intro Z n D Mp O1;obtain⟨f,t,J,L,R⟩:=G n O1;obtain⟨f',x',g,NP,Up⟩:=G i Z;rw[j]at g;injection g with g;subst g
       refine p n f D J t L ?_;simp[fN,R,Up]
      have:=Inv.gN (X:=X) (sl:=(e.app (S st es (λk=>c.getD k false) A.length)).sl) (bx:=(e.app (S st es (λk=>c.getD k false) A.length)).bx) (H:=(e.app (S st es (λk=>c.getD k false) A.length)).H)
       (LJ:=(S st es (λk=>if k=i then true else c.getD k false) A.length).sl) (L4:=(S st es (λk=>if k=i then true else c.getD k false) A.length).bx) NK
       (λt v c=>by rw[<-g1];exact c) g2
      rw[<-g3]at this;exact this
    have:=Sj a w d6 (wpAny X.P .any (A++B).toArray Q (r+B.length) (c.setIfInBounds i true)) Q S8;unfold wpOp;have Uq:(A++B).toArray[i]?=some o:=by rw[ahO,agF l];exact k
    simp only[Uq];split
    .rename_i g;rw[agK g]at this;exact .inl this
    .rename_i g;rw[agw g]at this;exact this
 refine d5 _ _ a _ (by simp) (λk _=>by simp[ahx];split<;>rfl) ?_ ?_ ?_
 .have:∀n,nD n (λk=>(Array.replicate (A.length+B.length) false).getD k false)=n:=by
   intro n
   induction n with
   |zero=>rfl
   |succ n c=>
    simp only[nD,c];have:(Array.replicate (A.length+B.length) false).getD n false=false:=by simp[ahx];split<;>rfl
    rw[this];rfl
  simpa using this A.length
 .intro j b c;have:(Array.replicate (A.length+B.length) false).getD j false=false:=by simp[ahx];split<;>rfl
  rw[this]at c;cases c
 .have g:∀n,S st es (λk=>(Array.replicate (A.length+B.length) false).getD k false) n=st:=by
   intro n
   induction n with
   |zero=>rfl
   |succ n c=>
    have:(Array.replicate (A.length+B.length) false).getD n false=false:=by simp[ahx];split<;>rfl
    simp only[S,c,this];cases es[n]?<;>rfl
  rw[g];exact y
def Tree(X:cY)(arr:Array Oper)(Z:St):Nat->Array Bool->St->Prop
 |0,L,st=>Region.ready .any arr L=[]/\st=Z
 |n+1,L,st=>Region.ready .any arr L≠[]/\∀i∈Region.ready .any arr L,∃o a,arr[i]?=some o/\wx X arr o st a/\Tree X arr Z n (L.setIfInBounds i true) a
def Tree.any{Z:St}(b:∀a w,Inv X Z a w->Q .normal a w):∀{n:Nat} {L:Array Bool} {st:St},Tree X arr Z n L st->∀a w,Inv X st a w->wpAny X.P .any arr Q n L a w
 |0,L,st,⟨c,d⟩,a,w,e=>⟨c,b a w (d▸e)⟩
 |n+1,L,st,⟨c,d⟩,a,w,e=>by
  refine⟨λh=>absurd h c,λi f=>?_⟩;obtain⟨o,l,g,h,j⟩:=d i f;have:=h a w e (wpAny X.P .any arr Q n (L.setIfInBounds i true)) Q λc d e=>Tree.any b j c d e
  unfold wpOp;simp only[g];split
  .rename_i k;rw[agK k]at this;exact .inl this
  .rename_i k;rw[agw k]at this;exact this
def wx.G9{s b:St}(h:wx X arr o st s)(c:∀a w,Inv X s a w->Inv X b a w):wx X arr o st b:=
 λa w b K Q d=>h a w b K Q λa b e=>d a b (c a b e)
def pg(k a b:Nat):Array Bool:=Array.replicate k true++ #[Nat.blt 0 a,Nat.blt 1 a,Nat.blt 0 b,Nat.blt 1 b,Nat.blt 2 b]
def A5(k a b:Nat):List Nat:=(bif Nat.blt a 2 then [k+a]else [])++(bif Nat.blt b 3 then [k+2+b]else [])
def A6(k:Nat)(arr:Array Oper):Bool:=(List.range 3).all λa=>(List.range 4).all λb=>decide (Region.ready .any arr (pg k a b)=A5 k a b)
def qe(h:A6 k arr=true)(c:a<=2)(d:b<=3):Region.ready .any arr (pg k a b)=A5 k a b:=by
 have c:=ahD.1 h a (ahZ.2 (by omega));have d:=ahD.1 c b (ahZ.2 (by omega));exact agr d
def BQ(k:Nat)(c:a<2)(d:b<=3):(pg k a b).setIfInBounds (k+a) true=pg k (a+1) b:=by
 unfold pg;rw[aiy (by simp)];simp only[Array.size_replicate,Nat.add_sub_cancel_left]
 congr 1
 match a,c with
 |0,_=>rfl
 |1,_=>rfl
def BR(k:Nat)(d:a<=2)(c:b<3):(pg k a b).setIfInBounds (k+2+b) true=pg k a (b+1):=by
 unfold pg;rw[aiy (by simp;omega)];have e:k+2+b-(Array.replicate k true).size=2+b:=by simp;omega
 rw[e]
 congr 1
 match b,c with
 |0,_=>rfl
 |1,_=>rfl
 |2,_=>rfl
def Tree.G_(st:Nat->Nat->St)(g h:Nat->Oper)(d:A6 k arr=true)(i:∀a,a<2->arr[k+a]?=some (g a))(j:∀b,b<3->arr[k+2+b]?=some (h b))
  (l:∀a b,a<2->b<=3->wx X arr (g a) (st a b) (st (a+1) b)) (m:∀a b,a<=2->b<3->wx X arr (h b) (st a b) (st a (b+1))):
  ∀(n a b:Nat),a<=2->b<=3->n=5-a-b->Tree X arr (st 2 3) n (pg k a b) (st a b)
 |0,a,b,c,e,p=>by
  have f:a=2:=by omega
  have o:b=3:=by omega
  subst f;subst o;exact⟨by rw[qe d c e];rfl,rfl⟩
 |n+1,a,b,e,f,r=>by
  refine⟨?_,λq c=>?_⟩
  .rw[qe d e f];unfold A5;by_cases o:a<2
   .rw[show Nat.blt a 2=true by simpa [ajr] using o];simp
   .have:b<3:=by omega
    rw[show Nat.blt b 3=true by simpa [ajr] using this];simp
  .rw[qe d e f]at c;unfold A5 at c;rcases agG.1 c with c|c
   .cases o:Nat.blt a 2 with
    |false=>rw[o]at c;simp at c
    |true=>
     rw[o]at c;have p:a<2:=bL o;simp at c;subst c;exact⟨_,_,i a p,l a b p f,by rw[BQ k p f];exact Tree.G_ st g h d i j l m n (a+1) b (by omega) f (by omega)⟩
   .cases o:Nat.blt b 3 with
    |false=>rw[o]at c;simp at c
    |true=>
     rw[o]at c;have p:b<3:=bL o;simp at c;subst c;exact⟨_,_,j b p,m a b e p,by rw[BR k e p];exact Tree.G_ st g h d i j l m n a (b+1) e (by omega) (by omega)⟩
def uR{sl:List (Nat×V)}{d:Nat}{v:V}{o:Operand}(h:o≠.tmp d):bj ((d,v)::sl) o=bj sl o:=by
 cases o with
 |tmp t=>
  show get ((d,v)::sl) t=get sl t;rw[b_,agw (λe=>h (by rw[e]))]
 |_=>rfl
def DC.zN{P:Program}{B:Nat}{post:Exit->St->Prop}{id:Nat}{ops:List Oper}(k:Nat){Qd:List (Nat×V)}{UE:List (Nat×List M)}{H9:Hp}
  {d1 d2 d3 Zg Zh Zi Zj Zk T1 T2 T3 T4 s3 f3:Nat} {p1 p2 p3 p4 p5:String} {a1 a2 a3 a4 a5:Array Edge} {x1 y1 z1 x2 y2 z2:Operand}
  (hm:P.follows .mixedOrders=true) (hlen:ops.length=k+5)
  (hd:ops.drop k=[⟨some d1,.indexAddr T1 x1 y1,Zg,p1,a1,none⟩,⟨none,.store T2 (.tmp d1) z1,Zh,p2,a2,none⟩,⟨some d2,.indexAddr T3 x2 y2,Zi,p3,a3,none⟩,⟨some d3,.fieldAddr s3 (.tmp d2) f3,Zj,p4,a4,none⟩,⟨none,.store T4 (.tmp d3) z2,Zk,p5,a5,none⟩])
  (QZ:Dn k (ops.drop k)=true) (hg:A6 k ops.toArray=true)
  (h1:∀a c,TF ⟨P,n,a,c,[]⟩ ops.toArray (ops.take k) st λa c=>uQ ops.toArray (ops.take k) st.sl a=true/\c=⟨Qd,UE,H9⟩)
  {e1 On M_ WH n2 e3 Nn ir L5 WI o3 n4:Nat} {kk1 kk2:IntKind} {i1 i2:Int} {Ql Qv UF LP Qw UG:List M} {m1 m2:M}
  (t1:br P T1 e1) (t2:cc P e1 On) (t3:cc P T2 n2) (t4:br P T3 e3) (t5:cc P e3 Nn) (t6:aS P s3 f3 o3) (t7:cc P T4 n4)
  (O4:Nat.blt d1 n=true) (Od:Nat.blt d2 n=true) (Ru:Nat.blt d3 n=true)
  (P0:bj Qd x1=some (.m (.cy j M_ WH))) (Rt:bj Qd y1=some (.m (.d (.int kk1 i1)))) (hj:H9[j]?=some (.row false On M_ Ql)) (XM:0<=i1) (Nw:i1<WH)
  (NO:bj Qd z1=some (.m m1)) (Lp:fj m1=some UF) (Si:Nat.beq UF.length n2=true) (R4:dE Ql (i1.toNat*On) UF=some Qv)
  (R2:bj Qd x2=some (.m (.cy ir L5 WI))) (R3:bj Qd y2=some (.m (.d (.int kk2 i2)))) (Qn:H9[ir]?=some (.row false Nn L5 LP)) (XN:0<=i2) (MR:i2<WI)
  (NR:bj Qd z2=some (.m m2)) (Ly:fj m2=some UG) (Mf:Nat.beq UG.length n4=true) (P2:dE LP (i2.toNat*Nn+o3) UG=some Qw)
  (LG:j≠ir) (Ok:∀o∈[x1,y1,z1,x2,y2,z2],o≠.tmp d1/\o≠.tmp d2/\o≠.tmp d3) (MJ:d1≠d2/\d1≠d3/\d2≠d3)
  (h3:post .normal ⟨(d3,.m (.cF ir L5 (i2.toNat*Nn+o3)))::(d2,.m (.cF ir L5 (i2.toNat*Nn)))::(d1,.m (.cF j M_ (i1.toNat*On)))::Qd,UE,(H9.set j (.row false On M_ Qv)).set ir (.row false Nn L5 Qw)⟩):
  DC P n B (.region id ops.toArray true) st post:=by
 refine⟨.normal,_,h3,λc d _=>?_⟩;obtain⟨D,E,q,r,rfl⟩:=h1 c d;intro a w h;refine wp_region_any hm ?_;have s:ops=ops.take k++ops.drop k:=(ahf k ops).symm;have l:(ops.take k).length=k:=by rw[agM];omega
 have m:(ops.drop k).length=5:=by rw[hd];rfl
 let g:Nat->Nat->St:= λa b=>⟨(bif Nat.blt 1 b then [(d3,V.m (.cF ir L5 (i2.toNat*Nn+o3)))]else [])++((bif Nat.blt 0 b then [(d2,V.m (.cF ir L5 (i2.toNat*Nn)))]else [])++((bif Nat.blt 0 a then [(d1,V.m (.cF j M_ (i1.toNat*On)))]else [])++Qd)),UE,
  (λh:Hp=>bif Nat.blt 2 b then h.set ir (.row false Nn L5 Qw)else h) (bif Nat.blt 1 a then H9.set j (.row false On M_ Qv)else H9)⟩
 have p:(H9.set ir (.row false Nn L5 Qw))[j]?=some (.row false On M_ Ql):=by rw[ag8 (ahJ LG)];exact hj
 have C:(H9.set j (.row false On M_ Qv))[ir]?=some (.row false Nn L5 LP):=by rw[ag8 LG];exact Qn
 have f:∀o∈[x1,y1,z1,x2,y2,z2],∀a b,bj (g a b).sl o=bj Qd o:=by
  intro o i a b;obtain⟨t,u,x⟩:=Ok o i;show bj ((bif Nat.blt 1 b then [(d3,V.m (.cF ir L5 (i2.toNat*Nn+o3)))]else [])++((bif Nat.blt 0 b then [(d2,V.m (.cF ir L5 (i2.toNat*Nn)))]else [])++((bif Nat.blt 0 a then [(d1,V.m (.cF j M_ (i1.toNat*On)))]else [])++Qd))) o=_;cases Nat.blt 1 b<;>cases Nat.blt 0 b<;>cases Nat.blt 0 a<;>simp only[ag6,aiu,ag2,agQ,uR t,uR u,uR x]
 have y:∀{sl f:List (Nat×V)} {H:Hp},(∀t,get f t=get sl t)->∀a w,Inv (⟨P,n,c,d,[]⟩:cY) ⟨sl,UE,H⟩ a w->Inv (⟨P,n,c,d,[]⟩:cY) ⟨f,UE,H⟩ a w:=
  λc a w a=>a.gN (λt v h=>by rw[<-c];exact h) λ_=>rfl
 have z:∀b,bj (g 1 b).sl (.tmp d1)=some (.m (.cF j M_ (i1.toNat*On))):=by
  intro b;show get ((bif Nat.blt 1 b then [(d3,V.m (.cF ir L5 (i2.toNat*Nn+o3)))]else [])++((bif Nat.blt 0 b then [(d2,V.m (.cF ir L5 (i2.toNat*Nn)))]else [])++([(d1,V.m (.cF j M_ (i1.toNat*On)))]++Qd))) d1=_;cases Nat.blt 1 b<;>cases Nat.blt 0 b<;>simp[b_,MJ.1,MJ.2.1,ahJ MJ.1,ahJ MJ.2.1]
 have T:=Tree.G_ (X:=⟨P,n,c,d,[]⟩) (arr:=ops.toArray) (k:=k) g
  (λa=>bif Nat.beq a 0 then⟨some d1,.indexAddr T1 x1 y1,Zg,p1,a1,none⟩else⟨none,.store T2 (.tmp d1) z1,Zh,p2,a2,none⟩)
  (λb=>bif Nat.beq b 0 then⟨some d2,.indexAddr T3 x2 y2,Zi,p3,a3,none⟩else bif Nat.beq b 1 then⟨some d3,.fieldAddr s3 (.tmp d2) f3,Zj,p4,a4,none⟩else⟨none,.store T4 (.tmp d3) z2,Zk,p5,a5,none⟩) hg ?_ ?_ ?_ ?_ 5 0 0 (by omega) (by omega) W
 .have u:=IH (X:=⟨P,n,c,d,[]⟩) (A:=ops.take k) (B:=ops.drop k) (arr:=ops.toArray) (Q:= λe f h=>∃a,(e=Exit.normal/\a=g 2 3)/\Inv (⟨P,n,c,d,[]⟩:cY) a f h) (λ_=>True) trivial (by rw[<-s]) q.fi r (.all λ_ _ _ _=>trivial) (by rw[l];exact QZ) (by
   intro i o t;rw[l,m];have:=Tree.any (Q:= λe f h=>∃a,(e=Exit.normal/\a=g 2 3)/\Inv (⟨P,n,c,d,[]⟩:cY) a f h) (λa w a=>⟨_,⟨rfl,rfl⟩,a⟩) T i o t;exact this)
  obtain⟨i,o,rfl,t⟩:=h;have:=u a _ ⟨{i with w:={i.w with drawn:=i.w.drawn+1} },o,rfl,t.ext (fS.drew _)⟩;rw[l,m,<-hlen]at this;exact this
 .intro a i;have e:ops.toArray[k+a]?=(ops.drop k)[a]?:=by rw[ahO,ahP]
  rw[e,hd]
  match a,i with
  |0,_=>rfl
  |1,_=>rfl
 .intro b i;have e:ops.toArray[k+2+b]?=(ops.drop k)[2+b]?:=by rw[ahO,ahP,ahR]
  rw[e,hd]
  match b,i with
  |0,_=>rfl
  |1,_=>rfl
  |2,_=>rfl
 .intro a b o x
  match a,o with
  |0,_=>
   have u:(g 0 b).H[j]?=some (.row false On M_ Ql):=by
    show(bif Nat.blt 2 b then H9.set ir (.row false Nn L5 Qw)else H9)[j]?=_;cases Nat.blt 2 b with
    |true=>exact p
    |false=>exact hj
   refine wx.G9 ((o8 (st:=g 0 b) (by show bj _ x1=_;rw[f x1 (by simp)];exact P0) (by show bj _ y1=_;rw[f y1 (by simp)];exact Rt) u XM Nw).C5 W W (bL O4)) ?_;refine y λt=>?_
   show get ((bif Nat.blt 1 b then [(d3,V.m (.cF ir L5 (i2.toNat*Nn+o3)))]else [])++((bif Nat.blt 0 b then [(d2,V.m (.cF ir L5 (i2.toNat*Nn)))]else [])++([(d1,V.m (.cF j M_ (i1.toNat*On)))]++Qd))) t=get ((d1,V.m (.cF j M_ (i1.toNat*On)))::((bif Nat.blt 1 b then [(d3,V.m (.cF ir L5 (i2.toNat*Nn+o3)))]else [])++((bif Nat.blt 0 b then [(d2,V.m (.cF ir L5 (i2.toNat*Nn)))]else [])++([]++Qd)))) t;cases Nat.blt 1 b<;>cases Nat.blt 0 b<;>simp only[ag6,aiu,ag2,agQ,b_]<;>(repeat' split)<;>first|rfl|(exfalso;subst_vars;first|exact MJ.1 W|exact MJ.2.1 W|exact MJ.2.2 W|(rename_i i _;exact MJ.1 i)|omega)
  |1,_=>
   have i:(g 1 b).H[j]?=some (.row false On M_ Ql):=by
    show(bif Nat.blt 2 b then H9.set ir (.row false Nn L5 Qw)else H9)[j]?=_;cases Nat.blt 2 b with
    |true=>exact p
    |false=>exact hj
   refine wx.G9 ((o7 (st:=g 1 b) (z b) (by show bj _ z1=_;rw[f z1 (by simp)];exact NO) i (by rw[(cU Lp).1];exact agO Si) (cU Lp).2 (by rw[(cU Lp).1];exact R4)).Er W W) ?_;intro a w h;have e:(g 1 b).H.set j (.row false On M_ Qv)=(g 2 b).H:=by
    show(bif Nat.blt 2 b then H9.set ir (.row false Nn L5 Qw)else H9).set j _=(bif Nat.blt 2 b then(H9.set j (.row false On M_ Qv)).set ir (.row false Nn L5 Qw)else H9.set j (.row false On M_ Qv));cases Nat.blt 2 b with
    |true=>exact List.set_comm _ _ (ahJ LG)
    |false=>rfl
   rw[e]at h;exact h
 .intro a b t o;have i:(g a 0).H[ir]?=some (.row false Nn L5 LP):=by
   show(bif Nat.blt 1 a then H9.set j (.row false On M_ Qv)else H9)[ir]?=_;cases Nat.blt 1 a with
   |true=>exact C
   |false=>exact Qn
  match b,o with
  |0,_=>exact(o8 (st:=g a 0) (by show bj _ x2=_;rw[f x2 (by simp)];exact R2) (by show bj _ y2=_;rw[f y2 (by simp)];exact R3) i XN MR).C5 W W (bL Od)
  |1,_=>exact(sg (st:=g a 1) (by show get ((d2,V.m (.cF ir L5 (i2.toNat*Nn)))::_) d2=_;rw[b_,agK W])).C5 W W (bL Ru)
  |2,_=>exact(o7 (st:=g a 2) (by show get ((d3,V.m (.cF ir L5 (i2.toNat*Nn+o3)))::_) d3=_;rw[b_,agK W]) (by show bj _ z2=_;rw[f z2 (by simp)];exact NR) i (by rw[(cU Ly).1];exact agO Mf) (cU Ly).2 (by rw[(cU Ly).1];exact P2)).Er W W
def Wk.ne{a:Nat->Prop}{H0 H:Hp}{r:List As}{i:Nat}{o b:Ob}(w:Wk a H0 (.ob i o:: .ob j b::r) H):i≠j:=by
 obtain⟨F,⟨g,h,⟨_,c⟩,⟨k,l,⟨_,d⟩,_,_,e⟩,f,_⟩,_⟩:=w;rintro rfl;exact f i ((c i).2 W) ((e i).2 (.inl ((d i).2 W)))
end Go.Mt
namespace Go.Mt
variable{t:Nat}{x:Operand}
section
variable{X:cY}{c:Code}{st:St}{post:Exit->St->Prop}{k:St->Prop}{id:Nat}
def gF(h:k st):after post k .normal st:=h
def tw(h:post .ret st):after post k .ret st:=h
def qg(h:post (.exit id) st):after post k (.exit id) st:=h
def kG(h:post .normal st):mU id post .normal st:=h
def tx(h:post .ret st):mU id post .ret st:=h
def qh(h:post .normal st):mU id post (.exit id) st:=by
 show if id=id then post .normal st else post (.exit id) st
 rw[agK W];exact h
def ph(X:cY)(c:Code)(post:Exit->St->Prop):Nat->St->Prop
 |0,_=>False
 |n+1,st=>TC X c st (after post (ph X c post n))
def ph.mk{n:Nat}(h:TC X c st (after post (ph X c post n))):ph X c post (n+1) st:=h
def TC.Dq(n:Nat)(h:ph X c post n st):TC X (.loop c) st post:=
 TC.loop (λk s=>ph X c post k s) n h λk s h=>by
  cases k with
  |zero=>exact h.elim
  |succ k=>
   refine TC.mono h λe b a=>?_
   cases e with
   |normal=>exact⟨k,aib k,a⟩
   |_=>exact a
end
def Ha(d:Nat):V->V
 |.loc t o=>bif Nat.beq t d then .m .undef else .loc t o
 |v=>v
def EB(d:Nat)(sl:List (Nat×V)):List (Nat×V):=sl.map λp=>(p.1,Ha d p.2)
def Hb(d:Nat)(v:V):Ha d v=v\/Ha d v=.m .undef:=by
 cases v with
 |loc t o=>
  show(bif Nat.beq t d then V.m .undef else .loc t o)=_\/(bif Nat.beq t d then V.m .undef else .loc t o)=_;cases Nat.beq t d
  .exact .inl W
  .exact .inr W
 |_=>exact .inl W
def zO{d:Nat}{v:V} :∀{sl:List (Nat×V)},get (EB d sl) t=some v->get sl t=some v\/(v=.m .undef/\∃a,get sl t=some a)
 |[],h=>.inl h
 |(k,u)::r,h=>by
  rw[EB,agH,b_]at h;rw[b_];split at h
  .next hk=>
   rw[agK hk];injection h with h
   subst h;rcases Hb d u with h|h
   .rw[h];exact .inl W
   .exact .inr ⟨h,_,W⟩
  .next hk=>rw[agw hk];exact zO h
section
variable{X:cY}{ops:Array Oper}{rest:List Oper}{post:St->Prop}{sl:List (Nat×V)}{bx:List (Nat×List M)}{H:Hp}{d ty:Nat}{pos:String}{af:Array Edge}
def uS{T:Nat}{cs:List M}[n:iS X.P T cs](f:Nat.blt d X.n=true)(g:gJ d (EB d sl)=true)(k:TL X ops rest ⟨(d,.loc d 0)::EB d sl,(d,cs)::bx,H⟩ post):
  TL X ops (⟨some d,.alloc T,ty,pos,af,none⟩::rest) ⟨sl,bx,H⟩ post:=
 λc w a=>aM f g k c w (by
  obtain⟨e,i,j,a⟩:=a;refine⟨e,i,j,a.hH,a.defers,a.size,λt v h=>?_,a.box,a.nK,a.oA,a.oB,a.hinv,a.mono,a.a_⟩;rcases zO h with b|⟨rfl,l,b⟩
  .exact a.slot t v b
  .obtain⟨u,m,_⟩:=a.slot t l b;exact⟨u,m,.m (.undef _)⟩)
def II{a b:Nat}(c:ld X.P a=5)(e:Nat.blt d X.n=true)(f:bj sl x=some (.m (.d .mh)))
  (k:TL X ops rest ⟨(d,.m (.d (.bool true)))::sl,bx,H⟩ post):TL X ops (⟨some d,.binOp .eql a x (.const .nilIface) b,ty,pos,af,none⟩::rest) ⟨sl,bx,H⟩ post:=
 LA W W e (GK (.inl W) c f W) k
def IJ{i:Nat}{es:List (D×M)}(ht:ld X.P t=2)(a:Nat.blt d X.n=true)(b:bj sl x=some (.m (.mp i)))(c:H[i]?=some (.map es))
  (k:TL X ops rest ⟨(d,.m (.d (.int .i64 ((es.length:Nat):Int))))::sl,bx,H⟩ post):TL X ops (⟨some d,.call ⟨.builtin .len,#[x],#[t]⟩,ty,pos,af,none⟩::rest) ⟨sl,bx,H⟩ post:=
 LA W W a (GR ht b c) k
end
end Go.Mt
namespace Go.Mt
def CT.Fk{P:Program}{f g:Nat}{fn p:Func}{id am ty L d n m:Nat}{pos N:String}{af O:Array Edge}{args R:Array Operand}{NI S:Array Nat}{T rest U:Code}{ms LX:List M}{H:Hp}{post:M->Hp->Prop}
  (hf:P.funcs[f]?=some fn) (hb:fn.body=some (.seq T (.seq (.region id #[⟨none,.defer ⟨.value (.func g),args,NI⟩,ty,pos,af,none⟩] false) rest))) (RQ:fn.ntmps=n) (A:Nat.ble ms.length n=true)
  {UJ:St} (QH:UJ.bx=[]) (UK:UJ.gE args.toList=some LX) (Q0:Dc P g=true)
  (ce:P.funcs[g]?=some p) (Oe:p.body=some (.seq (.region am #[⟨some d,.call ⟨.builtin .recover,R,S⟩,L,N,O,none⟩] false) U)) (P4:p.ntmps=m) (B:Nat.ble LX.length m=true) (hd:Nat.blt d m=true)
  (z:∀c h,TC ⟨P,n,c,h,[]⟩ T ⟨lV 0 ms,[],H⟩ (λe s=>e=.normal/\s=UJ))
  (h1:∀c h d,TC ⟨P,n,c,h,[d]⟩ rest UJ (λe s=>(e=.normal\/e=.ret)/\∃v,s7 P fn s=some v/\post v s.H))
  (h2:∀K c h,TC ⟨P,m,c,h,[]⟩ U ⟨(d,.m (.d .mh))::lV 0 LX,[],K⟩ (λe s=>(e=.normal\/e=.ret)/\s.H=K/\∃v,s7 P p s=some v)):
  CT P f ms H post:=by
 subst RQ;subst P4;replace A:=agT A;replace B:=agT B;intro h k C K hH M7;have Q1:∀(c:Sg) (i:Nat->Nat->Prop) (h:Array Value),ie c i->nC c LX h->CallsD P g h .returning c.w λe V D=>V=.returning/\∃v h,e=.returned v/\h.w=D/\h.H=c.H/\ie h i/\db c h/\bT c h:=by
  intro h k C K NJ;refine callsD_of_wpS ce Oe λu x y=>?_
  have z:=cj.enter (P:=P) (n:=p.ntmps) K NJ B;generalize ({tmps:=C++Array.replicate (p.ntmps-C.size) undef,defers:=[]} :Act)=a at z;have hr:recoverD (u::x)=none:=by simp[recoverD,y]
  have E:(execOp a.eval ⟨some d,.call ⟨.builtin .recover,R,S⟩,L,N,O,none⟩).run P h.w=.ok .recover h.w:=by
   simp[execOp,resolve,invoke,builtin]
  refine wpS_seq (wpS_region ?_);simp only[aiZ,agA,List.length_nil,ahq,List.range_one,wpOpsS];simp only[ahO,List.getElem?_cons_zero,Region.wanted,ah3,E,hr];refine wpS_of_wp (wp_mono (h2 h.H h k _ h.w ⟨h,_,W,z.set (bL hd) (.m (.d .mh))⟩) ?_);rintro e q D ⟨s,⟨E,ac,m,F⟩,t,G,rfl,c⟩;have J:q.defers=[]/\∃c,u::x={u with mode:=c} ::x/\∃v,(results p q.tmps).run P t.w=.ok v t.w/\(c=FrameMode.returning/\∃i c,Ending.returned v=.returned i/\c.w=t.w/\c.H=h.H/\ie c k/\db h c/\bT h c):=by
   obtain⟨I,h3,_⟩:=ux c F;obtain⟨τ,t1,t2,t3,t4,t5,_⟩:=c.GU;exact⟨c.defers,.returning,by cases u;simp at y;subst y;rfl,I,h3,rfl,I,τ,rfl,t1,t2.trans ac,t3,t4,t5⟩
  rcases E with rfl|rfl
  .exact J
  .exact J
 refine calls_of_wp_defers hf hb ?_;have X:=cj.enter (P:=P) (n:=fn.ntmps) K M7 A;rw[hH]at X;refine wp_seq (wp_mono (z h k _ h.w ⟨h,_,W,X⟩) ?_);rintro e r w1 ⟨s,⟨rfl,rfl⟩,i,Y,rfl,j⟩;have Xq:=j.gE UK;obtain⟨o,Z⟩:∃c:Deferred,c=⟨.fn (.func g) #[],(args.toList.map r.eval).toArray⟩:=⟨_,rfl⟩;have O_:(execOp r.eval ⟨none,.defer ⟨.value (.func g),args,NI⟩,ty,pos,af,none⟩).run P i.w=.ok (.defer o) i.w:=by
  rw[Z];simp[execOp,resolve,Act.eval,Deferred.ofValue];cases args;simp
 have Lt:cj ⟨P,fn.ntmps,i,k,[o]⟩ i Y s {r with defers:=o::r.defers} :=by
  refine⟨j.hH,by simp[j.defers],j.size,j.slot,j.box,j.nK,j.oA,λx y u=>?_,j.hinv,db.refl _,bT.refl _⟩;rw[QH]at u;simp[get]at u
 have Zs:(Code.region id #[⟨none,.defer ⟨.value (.func g),args,NI⟩,ty,pos,af,none⟩] false).wp P (λe h c=>e=.normal/\Inv ⟨P,fn.ntmps,i,k,[o]⟩ s h c) r i.w:=by
  have:=wp_region_lit (P:=P) (id:=id) (l:=[⟨none,.defer ⟨.value (.func g),args,NI⟩,ty,pos,af,none⟩]) (Q:= λe h c=>e=.normal/\Inv ⟨P,fn.ntmps,i,k,[o]⟩ s h c) (a:=r) (w:=i.w) (by
   unfold wpList;rw[agK (by simp[Region.wanted])];left;unfold Oper.wp;rw[O_,Oper.upon_defer];exact wpList_nil ⟨W,i,Y,W,Lt⟩)
  simpa using this
 refine wp_seq (wp_mono Zs ?_);rintro e a2 w2 ⟨rfl,Oq⟩;refine wp_mono (h1 i k o a2 w2 Oq) ?_;rintro e q D ⟨s,⟨he,m,F,N_⟩,t,G,rfl,c⟩;have hl:Leaves P fn q.tmps (λe i=>∃v r c,e=.returned v/\c.w=i/\post r c.H/\ie c k/\RM c r v/\db h c/\bT h c) q.defers .returning t.w:=by
  rw[show q.defers=[o]from c.defers];refine BL (g:=g) (ds:=(args.toList.map r.eval).toArray) (.inr Z) (dz Q0) (by simp) ?_;refine(Q1 t _ _ c.hinv (Xq.mono c.mono)).mono ?_;rintro e V w3 ⟨rfl,v3,ac,rfl,rfl,co,XO,I,Np⟩;have Zt:cj ⟨P,fn.ntmps,i,k,[o]⟩ ac G s q:=by
   refine⟨co.trans c.hH,c.defers,c.size,λt v h=>let⟨x,J,h5⟩:=c.slot t v h;⟨x,J,h5.mono I⟩,?_,c.nK,c.oA,c.oB,XO,c.mono.trans I,c.a_.trans Np⟩;intro y E u;have Lx:=(c.box y E u).lt trivial;have LG:=mA c.hinv (b:=G y) (.inr ⟨y,E,u,rfl⟩);refine(c.box y E u).fT I λd5 hx=>?_
   rw[Np.a_ _ Lx LG];exact hx
  obtain⟨x,u,J⟩:=ux Zt F;obtain⟨τ,t1,t2,t3,t4,t5,t6⟩:=Zt.GU;exact⟨x,u,x,m,τ,W,t1,by rw[t2];exact N_,t3,t6 _ _ J,j.mono.trans t4,j.a_.trans t5⟩
 rcases he with rfl|rfl
 .exact hl
 .exact hl
end Go.Mt
