/- A part of the proof of the last text of this claim, without conditions. -/
import Derived.Test.YtjbigbaipmiihaaGreatB
import Derived.LaidEql
import Derived.Defers
import Derived.Recover
import Derived.ProofKit
import Derived.OpenShut
import Derived.Test.YtjbigbaipmiihaaGreatProg
import Derived.KernelRfl
set_option maxRecDepth 4000
set_option linter.all false
namespace Go.Mt
def A6(f:M->Option D):List M->Option (List D)
 | []=>some []
 |m::r=>match f m with
  |some d=>match A6 f r with
   |some ds=>some (d::ds)
   |none=>none
  |none=>none
def EX(ec:Nat):Nat->List D->Option (List (List D))
 |0,l=>match l with
  | []=>some []
  |_=>none
 |n+1,l=>match sub l 0 ec with
  |some r=>match EX ec n (l.drop ec)with
   |some rs=>some (r::rs)
   |none=>none
  |none=>none
def DO(H:Hp):Nat->M->Option D
 |0,m=>match m with
  | .d x=>some x
  |_=>none
 |n+1,m=>match m with
  | .d x=>some x
  | .bB i aG len=>bif Nat.beq len 0 then some .o8 else
   match H[i]? with
   |some (.row true ec v cs)=>bif (Nat.beq v aG&&Nat.blt 0 ec)then
     (match A6 (DO H n) cs with
     |some ds=>match EX ec len ds with
      |some rows=>some (.sl rows)
      |none=>none
     |none=>none)else none
   |_=>none
  | .agg cs=>match A6 (DO H n) cs with|some ds=>some (.agg ds)|none=>none
  | .fn f cs=>match A6 (DO H n) cs with|some ds=>some (.fn f ds)|none=>none
  |_=>none
def Src(P:Program)(σ:Sg)(n:Nat)(v:Value)(cs:List M)(len:Nat):Prop:=
 (∀w':World,(Builtin.lenOf v).run P w'= .ok len w')/\cs.length=len*n/\len<=140737488355328/\ ∃vs:Array Value,(∀w':World,w'.heap=σ.w.heap->(Builtin.firstCells n len v).run P w'= .ok vs w')/\vs.size=len*n/\
  ∀(k:Nat) (m:M),cs[k]?=some m-> ∃u,vs[k]?=some u/\RM σ m u/\flat u=true
def oF(H:Hp)(n:Nat):M->Option (List M×Nat)
 | .d (.sl rows)=>bif lD n rows then some (aX rows,rows.length)else none
 | .d .o8=>some ([],0)
 | .bB i aG len=>match H[i]? with
  |some (.row _ n' Nn cs)=>bif (Nat.beq n n'&&Nat.beq aG Nn)then some (cs,len)else none
  |_=>none
 |_=>none
theorem A7{P:Program}{σ:Sg}{G:Nat->Nat->Prop}(hi:j_ σ G){n:Nat}(x:0<n){m:M}{v:Value}{cs:List M}{len:Nat}(h:RM σ m v)(a:oF σ.H n m=some (cs,len)):Src P σ n v cs len:=by
 unfold oF at a;split at a
 ·rename_i u;cases p:lD n u with
  |false=>simp[p]at a
  |true=>
   simp only[p,aqX]at a;injection a with a;injection a with f c
   subst f;subst c;have q:=tF p;cases h with
   |d h=>
    obtain⟨H,I,J,K,L⟩:=h.firstCells (P:=P) x q;have r:u.length<=140737488355328:=by
     cases h with
     |slnil o=>simp
     |sl u b d6 B ec val h0 OV r P3 M5 NY NZ=>exact r
    refine⟨I,tg q,r,H,J,K,λe m k=> ?_⟩;obtain⟨j,D,E,d,rfl,c,l,rfl⟩:=xr x q k;obtain⟨F,N,O,Q⟩:=L j D E d c l;exact⟨F,N,.d O,Q⟩
 ·injection a with a;injection a with f c
  subst f;subst c;cases h with
  |d h=>cases h with
   |o8 o B=>
    cases o with
    |none=>exact⟨λ_=>by simp[Builtin.lenOf],by simp,by simp,#[],λ_ _=>by simp[Builtin.firstCells],by simp,by simp⟩
    |some o=>exact⟨λ_=>by simp[Builtin.lenOf],by simp,by simp,#[],λ_ _=>by simp[Builtin.firstCells,loadCells,loadCellsFrom],by simp,by simp⟩
 ·rename_i j y ac;split at a
  ·rename_i co R S s z;cases g:(Nat.beq n R&&Nat.beq y S)with
   |false=>simp[g]at a
   |true=>
    simp only[g,aqX]at a;injection a with a;injection a with f c
    subst f;subst c;simp only[aqB]at g;have l:=aqr g.1;have A:=aqr g.2;subst l;subst A;cases h with
    |bB j y len ad B d7 T=>
     obtain⟨f,c,WH,T1,l,A⟩:=T co n s z;subst f;obtain⟨U,i,TT,Ot,t,V,X,Y,⟨Z,UI⟩,h7⟩:=hi.obj j _ z;have QO:t=ac:=art U (by rw[<-Z,<-c]);subst QO;have SR:t*n<=i.size:=by rw[X];exact aqW _ Y
     refine⟨λ_=>by simp[Builtin.lenOf],c,UI,i.extract 0 (t*n),λw' QN=> ?_,by simp;omega,λe m k=> ?_⟩
     ·simp only[Builtin.firstCells];exact uz (w:=w') (by rw[QN];exact V) SR
     ·have hk:e<s.length:=by rcases aqh e s.length with h|h;exact h;simp[aqj h]at k
      have C:e<i.size:=by omega
      refine⟨i[e],?_,h7 e m i[e] k (by simp[C])⟩;rw[arG,aqy (by omega)];simp[C]
  ·cases a
 ·cases a
theorem cw.src{X:bD}{st:St}{σ:Sg}{MD:Nat->Nat}{a:Act}(h:cw X σ MD st a){x:Operand}{m:M}{n:Nat}(c:0<n){cs:List M}{len:Nat}(d:st.ev x=some (.m m))(e:oF st.H n m=some (cs,len)):Src X.P σ n (a.eval x) cs len:=by
 have b:=h.ev d;cases b with
 |m b=>exact A7 h.hinv c b (by rw[h.hH];exact e)
section ops
variable{X:bD}{st:St}{dst:Option Nat}{ty:Nat}{pos:String}{af:Array Edge}{g:Option (Nat×Bool)}{pn:Nat}{H':Hp}
theorem qG{T e n i:Nat}{x y:Operand}{p:List M}{a:Nat}{z:D}(acc:Bool)[ht:aQ X.P T e][B:bU X.P e n][U:js X.P e i][V:gg X.P e z](Y:Nat.blt 0 n=true)(NJ:(bf z).length=n)
  (Z:st.ev x=some (.m (.d (.sl [])))) {C:M} (hy:st.ev y=some (.m C)) (f:oF st.H n C=some (p,a)) (hr:0<a) (Nk:a*i<=140737488355328) (hp:Place st.H (.row acc n 0 p) pn H'):
  cE X ⟨dst,.call ⟨.builtin .append,#[x,y],#[T,T]⟩,ty,pos,af,g⟩ st (c_ (.m (.bB pn 0 a)) ⟨st.sl,st.bx,H'⟩):=by
 intro k c E q;have F:=bL Y;have h:=q.o9 Z;obtain⟨A,i1,i2,i3⟩:=qC B.size U.bytes;obtain⟨G,QK,QL⟩:=(fY V.zero).run;have ZU:G.cells.size=n:=by have:=(eJ (O:=c.O) (w:=c.w) QL).cells.1;omega
 obtain⟨H,I,Z3,r,J,v3,v4⟩:=q.src F hy f;have d9:=hr;generalize hu:k.eval x=u at h;generalize s:k.eval y=wv at H J;cases h with
 |slnil K=>
  let cap:=a+c.w.tape c.w.drawn (.appendCap a 0 e)%(2^63-a)
  let d:=r++Builtin.zeroCells G.cells (cap-a)
  have L:a<=cap:=arT _ _;have N:d.size=cap*n:=by
   simp only[d,asL,kM,v3,ZU];rw[<-ar0];congr 1;omega
  have hd:cw X {c with w:=c.w.drew} E st k:=q.ext (fJ.drew _);have Tu:dy c {c with w:=c.w.drew} :=dy.ext (fJ.drew _);obtain⟨l,P,g2,Q,g4,g5⟩:=hd.place hp (.cells d e (0,0)) (by
   intro l hm s;refine⟨F,d,e,cap,a,by rw[s];exact iy _ _,N,L,⟨I,Z3⟩,?_⟩;intro j m v OD f;obtain⟨u,R,u2,u3⟩:=v4 j m OD;have MV:j<r.size:=by rcases aqh j r.size with o|o;exact o;simp[aqT o]at R
   have:d[j]?=some u:=by simp only[d];rw[arH MV];exact R
   rw[this]at f;injection f with f;subst f
   exact⟨(u2.mono Tu).mono hm,u3⟩)
  refine dv.value (u:= .slice (some ⟨c.w.heap.size,0,none⟩) a cap) (w':=l.w) ?_ ⟨_,_,l,E,⟨rfl,rfl⟩,rfl,g5,?_⟩
  ·have c1: ¬a<=0:=by omega
   have c2: ¬(((a:Nat):Int)>IntKind.i64.max/\i=0):=by
    rintro⟨h,h2⟩;have:((a:Nat):Int)<=140737488355328:=by omega
    have h3:IntKind.i64.max=9223372036854775807:=by decide
    omega
   have c3: ¬(Builtin.nextslicecap a 0*i>2^48):=by
    have h:=rT (P6:=a) (cap:=0) (by omega);have:=aqW i h;rw[as5]at this;omega
   have d7:(Builtin.firstCells n 0 (.slice K 0 0)).run X.P c.w.drew= .ok #[] c.w.drew:=by
    cases K<;>simp[Builtin.firstCells,loadCells,loadCellsFrom]
   have V5: ∀w:World,(typeInfo e).run X.P w= .ok A w:= λw=>by simp[typeInfo,program,Sem.run,i1]
   have N5: ∀w:World,(underlying T).run X.P w= .ok (.slice e) w:= λw=>by simp[underlying,program,Sem.run,ht.u]
   simp only[execOp,resolve,invoke,builtin,Builtin.append_];simp only[Sem.run_bind,Sem.run_pure,Result.andThen_ok,ar8,aqN,arf,hu,s];simp[N5,V5,c9 B.size];have WR:(Question.appendCap a 0 e).cut (c.w.tape c.w.drawn (Question.appendCap a 0 e))=cap:=rfl;have RX:(Question.appendCap a 0 e).forced=false:=rfl;have Rc:=J c.w.drew W;have ac: ¬a=0:=by omega
   have co: ¬(9223372036854775807<((a:Nat):Int)/\A.bytes=0):=by
    rintro⟨h,h2⟩;have h3:IntKind.i64.max=9223372036854775807:=by decide
    exact c2 ⟨by omega,by omega⟩
   have d6: ¬(281474976710656<Builtin.nextslicecap a 0*A.bytes):=by rw[i3];omega
   simp only[H,ac,co,d6,RX,Result.andThen_ok,arK,are];rw[d7];simp only[Result.andThen_ok];rw[Rc];simp only[Result.andThen_ok,QK,WR];simp[newRow,newObj,Sem.run,P,d]
  ·have S:=g2;refine .m (.bB _ 0 a _ cap (.inr ⟨acc,n,0,p,Q,aqd _⟩) ?_);intro O9 V3 MY t;rw[Q]at t;simp at t;obtain⟨e1,e2,e3⟩:=t;subst e1;subst e2;subst e3;exact⟨by rw[S];rfl,I,d,e,by rw[S,P];exact iy _ _,N⟩
 |sl f4 b d8 cap ec val h0 L Nr P3 M5 NY NZ=>exact absurd W h0
theorem xy{T e n j len:Nat}{x y:Operand}{M N:IntKind}{z:D}[ht:aQ X.P T e][k:bU X.P e n][O:js X.P e j][P:gg X.P e z](Q:Nat.blt 0 n=true)(s:(bf z).length=n)
  (R:st.ev x=some (.m (.d (.int M len)))) (S:st.ev y=some (.m (.d (.int N len)))) (Nk:len*j<=140737488355328) (U:len<=140737488355328) (V:Place st.H (.row false n 0 (d_ n len (bf z))) pn H'):
  cE X ⟨dst,.makeSlice T x y,ty,pos,af,g⟩ st (c_ (.m (.bB pn 0 len)) ⟨st.sl,st.bx,H'⟩):=by
 intro d6 f Y l;have t:=bL Q;have w:=l.kj R;have A:=l.kj S;obtain⟨q,Z,i2,B⟩:=qC k.size O.bytes;obtain⟨v,QK,QL⟩:=(fY P.zero).run;have C:ki f ((bf z).map .d) v.cells:=(RM.d (eJ QL):RM f (.d z) v).cells W;have O5:v.cells.size=n:=by rw[C.1];simpa using s
 have E:ki f (d_ n len (bf z)) ((Array.range (len*n)).map λa=>v.cells[a%v.cells.size]!):=by
  refine⟨by simp[d_],λa m u h c=> ?_⟩;have F:a<len*n:=by
   rcases aqh a (len*n)with d|d
   ·exact d
   ·rw[aqT (by simpa using d)]at c;cases c
  have Ra:a%n<n:=ar5 _ t;have Tu:a%n<(bf z).length:=by omega
  simp[d_,F,s]at h;simp[F,O5]at c;have MV:a%n<v.cells.size:=by omega
  subst h;subst c;refine C.2 (a%n) _ _ ?_ ?_
  ·simp[aqi Tu]
  ·simp[MV]
 obtain⟨i,o,g2,G,g4,g5⟩:=l.place V (.cells ((Array.range (len*n)).map λa=>v.cells[a%v.cells.size]!) e (0,0)) (by
  intro i h hw;refine⟨t,_,e,len,len,by rw[hw];exact iy _ _,by simp,aqd _,⟨by simp[d_],U⟩,?_⟩;intro r m u H c;exact⟨(E.2 r m u H c).1.mono h,(E.2 r m u H c).2⟩)
 refine dv.value (u:= .slice (some ⟨f.w.heap.size,0,none⟩) len len) (w':=i.w) ?_ ⟨_,_,i,Y,⟨rfl,rfl⟩,rfl,g5,?_⟩
 ·have I: ∀b:World,(typeInfo e).run X.P b= .ok q b:= λb=>by simp[typeInfo,program,Sem.run,Z]
  have J: ∀b:World,(underlying T).run X.P b= .ok (.slice e) b:= λb=>by simp[underlying,program,Sem.run,ht.u]
  have XP:IntKind.i64.wrap (len:Int)=len:=IntWalk.i64_in _ ⟨by omega,by omega⟩;have ac: ¬((q.bytes:Int)*(len:Int)>2^48):=by
   rw[B];have:((len*j:Nat):Int)<=140737488355328:=by omega
   rw[Int.natCast_mul,Int.mul_comm]at this;omega
  have XQ: ¬((len:Int)<0):=by omega
  have co: ¬(len*q.bytes>roomBytes):=by rw[B];unfold roomBytes;omega
  by_cases K:len*n=0
  ·have Sv:len=0:=by
    rcases asi.1 K with d|d
    ·exact d
    ·omega
   subst Sv;have e0:Array.range 0=(#[]:Array Nat):=by decide
   have w0:IntKind.i64.wrap 0=0:=by decide
   simp only[execOp,Instr.makeSlice,w,A,asInt,asIntOf];simp[J,I,w0,c9 k.size,askRoom,roomBytes,newRow,newObj,Sem.run,o,e0]
  ·simp only[execOp,Instr.makeSlice,w,A,asInt,asIntOf];simp[J,I,XP,c9 k.size,askRoom,newRow,newObj,Sem.run,o,ac,XQ,co,K,QK]
   first|done|omega|(split<;>first|rfl|omega)
 ·have L:=g2;refine .m (.bB _ 0 len _ len (.inr ⟨false,n,0,d_ n len (bf z),G,aqd _⟩) ?_);intro O9 V3 MY p;rw[G]at p;simp at p;obtain⟨e1,e2,e3⟩:=p;subst e1;subst e2;subst e3;exact⟨by rw[L],by simp[d_],_,e,by rw[L,o];exact iy _ _,by simp⟩
theorem qH{T e n nb:Nat}{x y:Operand}{r:List M}{k:Nat}{z:D}{j aG len:Nat}{acc:Bool}{cs:List M}[ht:aQ X.P T e][hs:bU X.P e n][hb:js X.P e nb][hz:gg X.P e z](NJ:(bf z).length=n)
  (hx:st.ev x=some (.m (.bB j aG len))) {my:M} (hy:st.ev y=some (.m my)) (h:oF st.H n my=some (r,k)) (E:st.H[j]?=some (.row acc n aG cs)) (Nk:(len+k)*nb<=140737488355328) (Nr:len+k<=140737488355328):
  cE X ⟨dst,.call ⟨.builtin .append,#[x,y],#[T,T]⟩,ty,pos,af,g⟩ st (c_ (.m (.bB j (aG+1) (len+k))) ⟨st.sl,st.bx,st.H.set j (.row acc n (aG+1) (cs++r))⟩):=by
 intro co b MD G;have H:=G.ev hx;have Qe:b.H[j]?=some (.row acc n aG cs):=by rw[G.hH];exact E
 obtain⟨ac,i1,i2,i3⟩:=qC hs.size hb.bytes;obtain⟨zv,QK,QL⟩:=(fY hz.zero).run;have ZU:zv.cells.size=n:=by have:=(eJ (O:=b.O) (w:=b.w) QL).cells.1;omega
 obtain⟨K,s,TT,q,d,I,L,h5,⟨h6,UI⟩,U⟩:=G.hinv.obj j _ Qe;obtain⟨v1,Ss,Z3,i,v2,v3,v4⟩:=G.src K hy h;generalize hu:co.eval x=u at H;generalize hw:co.eval y=wv at v1 v2;have V5: ∀w:World,(typeInfo e).run X.P w= .ok ac w:= λw=>by simp[typeInfo,program,Sem.run,i1]
 have N5: ∀w:World,(underlying T).run X.P w= .ok (.slice e) w:= λw=>by simp[underlying,program,Sem.run,ht.u]
 cases H with
 |m H=>cases H with
  |bB j aG len ad cap ge N6=>
   obtain⟨e1,V,WH,T1,Y,e4⟩:=N6 acc n cs Qe;subst e1;rw[I]at Y;injection Y with Y;injection Y with e5 e6
   subst e5;subst e6;have OV:q=cap:=art K (by rw[<-L,<-e4]);subst OV;have QO:d=len:=art K (by rw[<-h6,<-V]);subst QO;have N:(cs++r).length=(d+k)*n:=by rw[aqg,V,Ss,ar0]
   have WU: ∀(a:Nat) (m:M),(cs++r)[a]?=some m->(a<cs.length/\cs[a]?=some m)\/(cs.length<=a/\ ∃u,i[a-cs.length]?=some u/\RM b m u/\flat u=true):=by
    intro a m t;rcases aqh a cs.length with o|o
    ·rw[aqf o]at t;exact .inl ⟨o,t⟩
    ·rw[aqm o]at t;obtain⟨u,B,J,F⟩:=v4 _ m t;exact .inr ⟨o,u,B,J,F⟩
   have d8: ∀v∈i.toList,flat v=true:=by
    intro v h;obtain⟨a,o⟩:=aqG.1 h;have PY:a<i.size:=by rcases aqh a i.size with f|f;exact f;simp[aqT f]at o
    have M':a<r.length:=by omega
    obtain⟨u,B,J,F⟩:=v4 a r[a] (by simp[M']);have:i[a]?=some v:=by simpa using o
    rw[B]at this;injection this with this;subst this;exact F
   by_cases Z:d+k<=q
   ·
    have VM:d*n+i.toList.length<=s.size:=by
     rw[L];simp[v3];rw[<-ar0];exact aqW _ Z
    have Nu:=nr (P:=X.P) (off:=d*n) i.toList 0 b.w s I (by simpa using VM) d8;simp only[arV]at Nu;have MV:=fK I;have MC: ∀a,(dZ s (d*n) i.toList)[a]?=if d*n<=a/\a<d*n+i.toList.length then i.toList[a-d*n]? else s[a]?:= λa=>mF _ _ _ _ VM
    obtain⟨C,Q,R,S,g4,g5⟩:=G.qA (j:=j) (b':=b.l j) (ob:= .row acc n aG cs) (NH:= .row acc n (aG+1) (cs++r)) (w':=cU b.w (b.l j) (.cells (dZ s (d*n) i.toList) TT (0,0))) E trivial W W W (by rw[jR];exact aqd _)
     (λc _ p=>iW p) (.inl W) (by
      intro d6 v ho p;have Z4:acc=true/\d6<cs.length:=by
       simp only[Ob.jy,not_or,Nat.not_le]at ho;refine⟨?_,ho.2⟩;cases acc
       ·exact absurd W ho.1
       ·rfl
      refine⟨?_,λ_ l=> ?_⟩
      ·simp only[dY,World.cell?,fL MV];simp only[dY,World.cell?,I]at p;simp at p⊢;rw[MC,aqo (by omega)];exact p
      ·simp only[Ob.jy]at l;rcases l with l|l
       ·rw[Z4.1]at l;cases l
       ·rw[N,ar0]at l;omega) ⟨rfl,.inl (by omega)⟩ (by
      intro C t QN _ _;refine⟨K,_,TT,q,d+k,by rw[QN];exact fL MV,by rw[fM];exact L,Z,⟨N,Nr⟩,?_⟩;intro a m v OD h;rw[MC]at h;rcases WU a m OD with⟨o,p⟩|⟨o,u,B,J,F⟩
      ·rw[aqo (by omega)]at h;exact⟨(U a m v p h).1.mono t,(U a m v p h).2⟩
      ·have PY:a-cs.length<i.size:=by rcases aqh (a-cs.length) i.size with f|f;exact f;simp[aqT f]at B
       rw[aqy (by simp;omega)]at h;have:i.toList[a-d*n]?=some u:=by rw[<-V];simpa using B
       rw[this]at h;injection h with h;subst h
       exact⟨J.mono t,F⟩)
    refine dv.value (u:= .slice (some ⟨b.l j,0,none⟩) (d+k) q) (w':=C.w) ?_ ⟨_,_,C,MD,⟨rfl,rfl⟩,rfl,g5,?_⟩
    ·simp only[execOp,resolve,invoke,builtin,Builtin.append_];simp only[Sem.run_bind,Sem.run_pure,Result.andThen_ok,ar8,aqN,arf,hu,hw];simp[N5,V5,c9 hs.size,v1,Z,v2 b.w W,li,Nu,Q]
    ·refine .m (.bB j (aG+1) (d+k) _ q (.inr ⟨acc,n,aG+1,cs++r,by rw[S];exact uy E,aqd _⟩) ?_);intro O9 V3 d9 l;rw[S]at l;have OO:j<st.H.length:=by rcases aqh j st.H.length with f|f;exact f;simp[aqj f]at E
     simp[OO]at l;obtain⟨f1,f2,f3⟩:=l;subst f1;subst f2;subst f3;exact⟨by rw[R],N,_,TT,by rw[R,Q];exact fL MV,by rw[fM];exact L⟩
   ·
    let P6:=d+k
    let cap:=P6+b.w.tape b.w.drawn (.appendCap P6 q e)%(2^63-P6)
    let A:=s.extract 0 (d*n)++i++Builtin.zeroCells zv.cells (cap-P6)
    have f4:P6<=cap:=arT _ _;have SR:d*n<=s.size:=by rw[L];exact aqW _ h5
    have d7:(s.extract 0 (d*n)).size=d*n:=by simp;omega
    have Z6:A.size=cap*n:=by
     simp only[A,asL,kM,v3,ZU,d7];rw[<-ar0,<-ar0];congr 1;omega
    have hd:cw X {b with w:=b.w.drew} MD st co:=G.ext (fJ.drew _);have Tu:dy b {b with w:=b.w.drew} :=dy.ext (fJ.drew _)
    let w':World:= {b.w.drew with heap:=b.w.drew.heap.push (.cells A e (0,0))}
    have OA:fJ b.w.drew w':=fJ.alloc _ _;have XN: ∀a,a<cs.length->A[a]?=s[a]?:=by
     intro a o;simp only[A];rw[Array.append_assoc,arH (by omega),arG,aqy (by omega)];simp
    have f7: ∀a,cs.length<=a->a-cs.length<i.size->A[a]?=i[a-cs.length]?:=by
     intro a o M';simp only[A];rw[Array.append_assoc,ar3 (by omega),arH (by omega),d7,V]
    obtain⟨C,Q,R,S,g4,g5⟩:=hd.qA (j:=j) (b':=b.w.heap.size) (ob:= .row acc n aG cs) (NH:= .row acc n (aG+1) (cs++r)) (w':=w') E trivial W W W OA.size
     (λc p _=>OA.cp c p) (.inr (aqd _)) (by
      intro d6 v ho p;exact⟨OA.cell p,λl=>by have:=fK I;exact absurd l (by show ¬b.w.heap.size=b.l j;omega)⟩) ⟨rfl,.inl (by omega)⟩ (by
      intro C t Z7 _ _;refine⟨K,A,e,cap,P6,by rw[Z7];exact iy _ _,Z6,f4,⟨N,Nr⟩,?_⟩;intro a m v OD h;rcases WU a m OD with⟨o,p⟩|⟨o,u,B,J,F⟩
      ·rw[XN a o]at h;exact⟨((U a m v p h).1.mono Tu).mono t,(U a m v p h).2⟩
      ·have PY:a-cs.length<i.size:=by rcases aqh (a-cs.length) i.size with f|f;exact f;simp[aqT f]at B
       rw[f7 a o PY,B]at h;injection h with h;subst h
       exact⟨(J.mono Tu).mono t,F⟩)
    refine dv.value (u:= .slice (some ⟨b.w.heap.size,0,none⟩) P6 cap) (w':=C.w) ?_ ⟨_,_,C,MD,⟨rfl,rfl⟩,rfl,g5,?_⟩
    ·have i6: ¬(9223372036854775807<(((d+k:Nat):Nat):Int)/\ac.bytes=0):=by rintro⟨f,_⟩;omega
     have f8: ¬(281474976710656<Builtin.nextslicecap (d+k) q*ac.bytes):=by
      rw[i3];have H:=rT (P6:=d+k) (cap:=q) (by omega);have:=aqW nb H;rw[as5]at this;omega
     have WR:(Question.appendCap (d+k) q e).cut (b.w.tape b.w.drawn (Question.appendCap (d+k) q e))=cap:=rfl;have RX:(Question.appendCap (d+k) q e).forced=false:=rfl;have Rc:=v2 b.w.drew W;have gc:(Builtin.firstCells n d (.slice (some ⟨b.l j,0,none⟩) d q)).run X.P b.w.drew= .ok (s.extract 0 (d*n)) b.w.drew:=by
      simp only[Builtin.firstCells];exact uz (w:=b.w.drew) I SR
     simp only[execOp,resolve,invoke,builtin,Builtin.append_];simp only[Sem.run_bind,Sem.run_pure,Result.andThen_ok,ar8,aqN,arf,hu,hw];simp[N5,V5,c9 hs.size];simp only[v1,Result.andThen_ok];rw[aqo Z];have f9: ¬(9223372036854775807<(d:Int)+(k:Int)/\ac.bytes=0):=by rintro⟨f,_⟩;omega
     simp only[f9,f8,RX,arK,are];rw[gc];simp only[Result.andThen_ok];rw[Rc];simp only[Result.andThen_ok,QK,WR];simp[newRow,newObj,Sem.run,Q,A,w',P6];rfl
    ·refine .m (.bB j (aG+1) P6 _ cap (.inr ⟨acc,n,aG+1,cs++r,by rw[S];exact uy E,aqd _⟩) ?_);intro O9 V3 d9 l;rw[S]at l;have OO:j<st.H.length:=by rcases aqh j st.H.length with f|f;exact f;simp[aqj f]at E
     simp[OO]at l;obtain⟨f1,f2,f3⟩:=l;subst f1;subst f2;subst f3;exact⟨by rw[R],N,A,e,by rw[R,Q];exact iy _ _,Z6⟩
end ops
theorem EY{H:Hp}{n:Nat} : ∀{rows:List (List D)},(∀r∈rows,r.length=n)->oF H n (.d (.sl rows))=some (aX rows,rows.length):=by
 intro rows a;have:lD n rows=true:=by
  induction rows with
  |nil=>rfl
  |cons r e c=>simp only[lD,aqB];exact⟨by rw[a r aqP];exact asD n,c λb d=>a b (aqF _ d)⟩
 show(bif lD n rows then some (aX rows,rows.length)else none)=_;rw[this];rfl
section ops
variable{X:bD}{st:St}{dst:Option Nat}{ty:Nat}{pos:String}{af:Array Edge}{g:Option (Nat×Bool)}
theorem v8{T e n a:Nat}{x y:Operand}{rows:List (List D)}{z:D}(acc:Bool)[ht:aQ X.P T e][l:bU X.P e n][m:js X.P e a][o:gg X.P e z](c:Nat.blt 0 n=true)(d:(bf z).length=n)
  (f:st.ev x=some (.m (.d (.sl [])))) (h:st.ev y=some (.m (.d (.sl rows)))) (i:rows≠ []) (j: ∀b∈rows,b.length=n) (k:rows.length*a<=140737488355328):
  cE X ⟨dst,.call ⟨.builtin .append,#[x,y],#[T,T]⟩,ty,pos,af,g⟩ st (c_ (.m (.bB st.H.length 0 rows.length)) ⟨st.sl,st.bx,st.H++ [.row acc n 0 (aX rows)]⟩):=
 qG acc c d f h (EY j) (asA.2 i) k (.inl ⟨rfl,rfl⟩)
theorem v9{T e n a:Nat}{x y:Operand}{rows:List (List D)}{z:D}{j aG len:Nat}{acc:Bool}{cs:List M}[ht:aQ X.P T e][m:bU X.P e n][o:js X.P e a][p:gg X.P e z](c:(bf z).length=n)
  (d:st.ev x=some (.m (.bB j aG len))) (f:st.ev y=some (.m (.d (.sl rows)))) (h:st.H[j]?=some (.row acc n aG cs)) (i: ∀b∈rows,b.length=n) (k:(len+rows.length)*a<=140737488355328) (l:len+rows.length<=140737488355328):
  cE X ⟨dst,.call ⟨.builtin .append,#[x,y],#[T,T]⟩,ty,pos,af,g⟩ st (c_ (.m (.bB j (aG+1) (len+rows.length))) ⟨st.sl,st.bx,st.H.set j (.row acc n (aG+1) (cs++aX rows))⟩):=
 qH c d f (EY i) h k l
end ops
section rules
variable{X:bD}{ops:Array Oper}{rest:List Oper}{post:St->Prop}{M6:List Ef->St->Prop}{sl:List (Nat×V)}{bx:List (Nat×List M)}{H:Hp}{d ty:Nat}{pos:String}{af:Array Edge}
theorem iB{T e n a:Nat}{x y:Operand}{rows:List (List D)}{z:D}(acc:Bool)[ht:aQ X.P T e][o:bU X.P e n][p:js X.P e a][q:gg X.P e z](c:Nat.blt d X.n=true)(f:bj sl x=some (.m (.d (.sl []))))(g:bj sl y=some (.m (.d (.sl rows))))(h:Nat.blt 0 n=true)(i:(bf z).length=n)(j:rows≠ [])(l: ∀b∈rows,b.length=n)(m:rows.length*a<=140737488355328)(k:TL X ops rest ⟨(d,(.m (.bB H.length 0 rows.length)))::sl,bx,H++ [Ob.row acc n 0 (aX rows)]⟩ post):TL X ops (⟨some d,.call ⟨.builtin .append,#[x,y],#[T,T]⟩,ty,pos,af,none⟩::rest) ⟨sl,bx,H⟩ post:=
 No W W c (v8 acc h i f g j l m) k
theorem xz{T e n b:Nat}{x y:Operand}{rows:List (List D)}{z:D}(acc:Bool)[ht:aQ X.P T e][u:bU X.P e n][v:js X.P e b][w:gg X.P e z](h:Nat.blt d X.n=true)(i:bj sl x=some (.m (.d (.sl []))))(j:bj sl y=some (.m (.d (.sl rows))))(l:Nat.blt 0 n=true)(m:(bf z).length=n)(o:rows≠ [])(p: ∀f∈rows,f.length=n)(q:rows.length*b<=140737488355328)(k:TF X ops rest ⟨(d,(.m (.bB H.length 0 rows.length)))::sl,bx,H++ [Ob.row acc n 0 (aX rows)]⟩ λr s=>M6 (⟨some d,(.m (.bB H.length 0 rows.length)),[],[],none,true,some (H++ [Ob.row acc n 0 (aX rows)])⟩::r) s):TF X ops (⟨some d,.call ⟨.builtin .append,#[x,y],#[T,T]⟩,ty,pos,af,none⟩::rest) ⟨sl,bx,H⟩ M6:=
 TF.cons (e:=⟨some d,(.m (.bB H.length 0 rows.length)),[],[],none,true,some (H++ [Ob.row acc n 0 (aX rows)])⟩) (Oi W W (bL h) λt a=>(by have c:=a.H W;simp only at c;have:=(v8 (X:=X) (st:=t) (dst:=some d) (ty:=ty) (pos:=pos) (af:=af) (g:=none) (T:=T) acc l m ((a.ev (x:=x) (by simp[Op.operands,Call.operands])).trans i) ((a.ev (x:=y) (by simp[Op.operands,Call.operands])).trans j) o p q);rw[c]at this;exact this)) W k
theorem fC{T e n a:Nat}{x y:Operand}{rows:List (List D)}{z:D}{j aG len:Nat}{acc:Bool}{cs:List M}[ht:aQ X.P T e][p:bU X.P e n][q:js X.P e a][r:gg X.P e z](c:Nat.blt d X.n=true)(f:bj sl x=some (.m (.bB j aG len)))(g:bj sl y=some (.m (.d (.sl rows))))(h:H[j]?=some (.row acc n aG cs))(i:(bf z).length=n)(l: ∀b∈rows,b.length=n)(m:(len+rows.length)*a<=140737488355328)(o:len+rows.length<=140737488355328)(k:TL X ops rest ⟨(d,(.m (.bB j (aG+1) (len+rows.length))))::sl,bx,H.set j (Ob.row acc n (aG+1) (cs++aX rows))⟩ post):TL X ops (⟨some d,.call ⟨.builtin .append,#[x,y],#[T,T]⟩,ty,pos,af,none⟩::rest) ⟨sl,bx,H⟩ post:=
 No W W c (v9 i f g h l m o) k
theorem xA{T e n b:Nat}{x y:Operand}{rows:List (List D)}{z:D}{j aG len:Nat}{acc:Bool}{cs:List M}[ht:aQ X.P T e][v:bU X.P e n][w:js X.P e b][A:gg X.P e z](h:Nat.blt d X.n=true)(i:bj sl x=some (.m (.bB j aG len)))(l:bj sl y=some (.m (.d (.sl rows))))(m:H[j]?=some (.row acc n aG cs))(o:(bf z).length=n)(p: ∀f∈rows,f.length=n)(q:(len+rows.length)*b<=140737488355328)(r:len+rows.length<=140737488355328)(k:TF X ops rest ⟨(d,(.m (.bB j (aG+1) (len+rows.length))))::sl,bx,H.set j (Ob.row acc n (aG+1) (cs++aX rows))⟩ λs t=>M6 (⟨some d,(.m (.bB j (aG+1) (len+rows.length))),[],[],none,true,some (H.set j (Ob.row acc n (aG+1) (cs++aX rows)))⟩::s) t):TF X ops (⟨some d,.call ⟨.builtin .append,#[x,y],#[T,T]⟩,ty,pos,af,none⟩::rest) ⟨sl,bx,H⟩ M6:=
 TF.cons (e:=⟨some d,(.m (.bB j (aG+1) (len+rows.length))),[],[],none,true,some (H.set j (Ob.row acc n (aG+1) (cs++aX rows)))⟩) (Oi W W (bL h) λu a=>(by have c:=a.H W;simp only at c;have:=(v9 (X:=X) (st:=u) (dst:=some d) (ty:=ty) (pos:=pos) (af:=af) (g:=none) (T:=T) o ((a.ev (x:=x) (by simp[Op.operands,Call.operands])).trans i) ((a.ev (x:=y) (by simp[Op.operands,Call.operands])).trans l) (by rw[a.H W];exact m) p q r);rw[c]at this;exact this)) W k
end rules
section walk
variable{X:bD}{ops:Array Oper}{rest:List Oper}{post:St->Prop}{sl:List (Nat×V)}{bx:List (Nat×List M)}{H:Hp}{d:Nat}{ty:Nat}{pos:String}{af:Array Edge}
theorem EZ{T e n b:Nat}{x y:Operand}{rows:List (List D)}{z:D}[ht:aQ X.P T e][o:bU X.P e n][p:js X.P e b][q:gg X.P e z](c:Nat.blt d X.n=true)(f:bj sl x=some (.m (.d (.sl []))))(g:bj sl y=some (.m (.d (.sl rows))))(h:Nat.blt 0 n=true)(i:(bf z).length=n)
  (j: ∀a∈rows,a.length=n) (l:rows.length*b<=140737488355328) (k:TL X ops rest ⟨(d,.m (vo H rows))::sl,bx,kW H n rows⟩ post):
  TL X ops (⟨some d,.call ⟨.builtin .append,#[x,y],#[T,T]⟩,ty,pos,af,none⟩::rest) ⟨sl,bx,H⟩ post:=by
 cases rows with
 |nil=>exact pg c f g k
 |cons m a=>exact iB true c f g h i (by simp) j l k
theorem Jg{T e n o:Nat}{x y:Operand}{r1 r2:List (List D)}{z:D}[ht:aQ X.P T e][G:bU X.P e n][I:js X.P e o][J:gg X.P e z](h:Nat.blt d X.n=true)(b:bj sl x=some (.m (vo H r1)))(j:bj sl y=some (.m (.d (.sl r2))))(A:Nat.blt 0 n=true)(p:(bf z).length=n)
  (B: ∀a∈r1,a.length=n) (g: ∀a∈r2,a.length=n) (q:(r1.length+r2.length)*o<=140737488355328) (C:r1.length+r2.length<=140737488355328) (k:TL X ops rest ⟨(d,.m (.d (.sl (r1++r2))))::sl,bx,A3 H n r1 r2⟩ post):
  TL X ops (⟨some d,.call ⟨.builtin .append,#[x,y],#[T,T]⟩,ty,pos,af,none⟩::rest) ⟨sl,bx,kW H n r1⟩ post:=by
 have r: ∀(m v:V) (l:Hp),TL X ops rest ⟨(d,v)::sl,bx,l⟩ post->TL X ops rest ⟨(d,v)::(d,m)::sl,bx,l⟩ post:=by
  intro m v l f t u E;refine f t u (E.nK ?_ (λ_=>rfl));intro w x b;rw[bJ]at b⊢;by_cases e:d=w
  ·rw[aqy e]at b⊢;exact b
  ·rw[aqo e]at b⊢;rw[bJ,aqo e];exact b
 cases r1 with
 |nil=>
  cases r2 with
  |nil=>exact pg h b j k
  |cons c a=>
   refine iB true h b j A p (by simp) g (by simpa using q) ?_;refine TL.b9 d (by rw[bJ,aqy W];rfl) (Acc.view (n:=n) (i:=H.length) (rs:=c::a) (.inr ⟨by simp,0,rfl,by simp[kW]⟩) g) ?_;exact r _ _ _ k
 |cons c a=>
  refine fC (acc:=true) (cs:=aX (c::a)) h b j (by simp[kW]) p g q C ?_;have e:(kW H n (c::a)).set H.length (.row true n (0+1) (aX (c::a)++aX r2))=A3 H n (c::a) r2:=by simp[kW,A3]
  rw[e];refine TL.b9 d (by rw[bJ,aqy W]) (Acc.view (n:=n) (i:=H.length) (rs:=c::a++r2) (.inr ⟨by simp,1,by simp;omega,by simp[A3,aX]⟩) (by
   intro s F;rcases aql.1 F with f|f
   ·exact B s f
   ·exact g s f)) ?_
  exact r _ _ _ k
end walk
namespace dV
end dV
inductive R(α:Type)where
 |ok (a:α)
 |no (why:List Nat)
 deriving Inhabited
inductive Dn where
 |val (v:V)
 |ld (t:Nat) (k:List M->R V)
 |st (t:Nat) (k:List M->R (List M))
 |nw (cs:List M)
 |rd (i:Nat) (k:Ob->R V)
 |Me (k:Hp->R V)
 |up (all:Bool) (i:Nat) (k:Hp->Ob->R (V×Ob))
 |al (all:Bool) (k:Hp->R Ob) (mk:Nat->V)
 |cl (k:Hp->R (V×Hp×List Nat))
structure DP where
 P:Program
 call:Nat->List M->Hp->R (M×Hp×List Nat)
 pure:Nat->List D->R (List D)
 Mf:Nat->Bool
 LC:Nat->Nat
 sum:Nat->List D->Option (List D)
def Mg{α:Type}(w:Nat):Option α->R α
 |some a=> .ok a
 |none=> .no [w]
def B':List UInt8->List UInt8->Bool
 | [],[]=>true
 |a::r,b::s=>bif Nat.beq a.toNat b.toNat then B' r s else false
 |_,_=>false
def A8(s u:ByteArray):Bool:=B' s.data.toList u.data.toList
def LD(s u:ByteArray):ByteArray:=⟨⟨s.data.toList++u.data.toList⟩⟩
def HA(k:ByteArray):List (D×M)->Option M
 | []=>none
 |(.str s,m)::r=>bif A8 s k then some m else HA k r
 |_::r=>HA k r
def gm:List (D×M)->Bool
 | []=>true
 |(.bQ,.cZ [.ref _ _,_])::r=>gm r
 |_=>false
def gv(i o:Nat):List (D×M)->Option M
 | []=>none
 |(.bQ,.cZ [.ref j u,m])::r=>bif Nat.beq i j&&Nat.beq o u then some m else gv i o r
 |_::r=>gv i o r
def iJ(i o:Nat)(v:M):List (D×M)->List (D×M)
 | []=>[(.bQ,.cZ [.ref i o,v])]
 |(.bQ,.cZ [.ref j u,m])::r=>bif Nat.beq i j&&Nat.beq o u then(.bQ,.cZ [.ref i o,v])::r else(.bQ,.cZ [.ref j u,m])::iJ i o v r
 |x::r=>x::iJ i o v r
def oG(a b:IntKind):Bool:=decide (a=b)
def LF(op:BinOp):D->D->R D
 | .int k m,.int k' n=>
  match op with
  | .shl=>bif decide (n<0)then .no [101]else .ok (.int k (k.wrap (m*2^(min n.toNat k.bits))))
  | .shr=>bif decide (n<0)then .no [102]else .ok (.int k (m.fdiv (2^(min n.toNat k.bits))))
  | .quo=>bif oG k k' then(bif n==0 then .no [103]else .ok (.int k (k.wrap (m.tdiv n))))else .no [104]
  | .rem=>bif oG k k' then(bif n==0 then .no [105]else .ok (.int k (m.tmod n)))else .no [106]
  | .and=>bif oG k k' then .ok (.int k (k.wrap (BitVec.ofInt k.bits m&&&BitVec.ofInt k.bits n).toNat))else .no [107]
  | .or=>bif oG k k' then .ok (.int k (k.wrap (BitVec.ofInt k.bits m|||BitVec.ofInt k.bits n).toNat))else .no [107]
  | .xor=>bif oG k k' then .ok (.int k (k.wrap (BitVec.ofInt k.bits m^^^BitVec.ofInt k.bits n).toNat))else .no [107]
  |op=>bif oG k k' then Mg 108 (lB op k m n)else .no [109]
 | .str s,.str u=>
  match op with
  | .eql=> .ok (.bool (A8 s u))
  | .neq=> .ok (.bool (!A8 s u))
  | .add=>bif Nat.ble (s.size+u.size) 9223372036854775807 then .ok (.str (LD s u))else .no [110]
  | .lss=> .ok (.bool (Op.bytesLess s.toList u.toList))
  |_=> .no [111]
 |_,_=> .no [113]
def kX(P:Program)(t:Nat):Nat:=match P.underlying t with
 |some (.pointer _)=>1
 |some (.map _ _)=>2
 |some (.func _ _ _)=>3
 |some .bool=>4
 |some (.interface _)=>5
 |some (.slice _)=>6
 |_=>0
def jI(P:Program)(t:Nat):Bool:=match P.underlying t with
 |some (.pointer e)=>(match fu P e with
  |some n=>Nat.blt 0 n
  |none=>false)
 |_=>false
def gw:Nat->V->Option Bool
 |1,.loc _ _=>some false
 |1,.m (.ref _ _)=>some false
 |1,.m (.dX _ _ _)=>some false
 |1,.m (.d (.aZ _ _))=>some false
 |1,.m (.d .bQ)=>some true
 |2,.m (.mp _)=>some false
 |2,.m (.d .oA)=>some true
 |3,.m (.d (.fn _ _))=>some false
 |3,.m (.fn _ _)=>some false
 |3,.m (.d .pT)=>some true
 |5,.m (.d .wV)=>some true
 |5,.m (.d (.FO _ _))=>some false
 |_,_=>none
def Mb(P:Program)(op:BinOp)(xt:Nat)(yc ys:Bool)(v u:V):R Dn:=
 match kX P xt with
 |0=>(match v,u with
  | .m (.d a),.m (.d b)=>(match a,b with
   | .bool _,_=> .no [118]
   |_,_=>(match LF op a b with| .ok r=> .ok (.val (.m (.d r)))| .no w=> .no w))
  |_,_=> .no [117])
 |4=>(match v,u with
  | .m (.d (.bool a)),.m (.d (.bool b))=>(match op with
   | .eql=> .ok (.val (.m (.d (.bool (a==b)))))
   | .neq=> .ok (.val (.m (.d (.bool (!(a==b))))))
   |_=> .no [119])
  |_,_=> .no [116])
 |5=>bif yc then(match gw 5 v with
  |some z=>(match op with
   | .eql=> .ok (.val (.m (.d (.bool z))))
   | .neq=> .ok (.val (.m (.d (.bool (!z)))))
   |_=> .no [120])
  |none=> .no [121])else .no [122]
 |6=>bif ys then(match v with
  | .m (.d (.sl (_::_)))=>(match op with
   | .eql=> .ok (.val (.m (.d (.bool false))))
   | .neq=> .ok (.val (.m (.d (.bool true))))
   |_=> .no [123])
  | .m (.bB j aG _)=> .ok (.rd j λob=>match ob with
   | .row _ _ Nn _=>bif Nat.beq aG Nn then(match op with
    | .eql=> .ok (.m (.d (.bool false)))
    | .neq=> .ok (.m (.d (.bool true)))
    |_=> .no [123])else .no [124]
   |_=> .no [125])
  |_=> .no [126])else .no [127]
 |k=>(match gw k v,gw k u with
  |some z,some true=>(match op with
   | .eql=> .ok (.val (.m (.d (.bool z))))
   | .neq=> .ok (.val (.m (.d (.bool (!z)))))
   |_=> .no [114])
  |_,_=>(match v,u with
   | .m (.ref i a),.m (.ref j b)=>bif jI P xt then(match op with
    | .eql=> .ok (.val (.m (.d (.bool (Nat.beq i j&&Nat.beq a b)))))
    | .neq=> .ok (.val (.m (.d (.bool (!(Nat.beq i j&&Nat.beq a b))))))
    |_=> .no [128])else .no [129]
   |_,_=> .no [115]))
def HC(P:Program)(f:Nat):Bool:=match P.funcs[f]? with
 |some fn=> !(fn.name== "runtime.NumGoroutine")&&fn.body.isSome
 |none=>false
def FY(P:Program)(t:Nat):Option Nat:=match P.underlying t with
 |some (.slice e)=>some e
 |_=>none
def Jh(P:Program)(t:Nat):Option IntKind:=match P.underlying t with
 |some (.int k)=>some k
 |_=>none
def LG:M->Bool
 | .d _=>true
 |_=>false
def Ji:M->Option Nat
 | .d (.sl rows)=>some rows.length
 | .d .o8=>some 0
 | .bB _ _ len=>some len
 |_=>none
def KI(P:Program)(C:DP)(d:Nat)(T U:Nat)(x y:M):R Dn:=
 match FY P T with
 |none=> .no [301]
 |some e=>match fu P e,uh P e,sU P e with
  |some n,some nb,some z=>
   bif (Nat.blt 0 n&&Nat.beq (bf z).length n&&Nat.ble nb 1000000)then
    (bif Nat.beq T U then
     (match x,Ji y with
     | .d (.sl []),some 0=> .ok (.Me λH=>match oF H n y with
       |some (_,0)=> .ok (.m (.d (.sl [])))
       |_=> .no [302])
     | .d (.sl []),some (len+1)=> .ok (.al (!LG y) (λH=>match oF H n y with
       |some (cs,k)=>bif (Nat.beq k (len+1)&&Nat.ble k 100000000)then .ok (.row (!Nat.beq (C.LC d) 1) n 0 cs)else .no [303]
       |none=> .no [304]) λi=> .m (.bB i 0 (len+1)))
     | .bB j aG len,some k2=> .ok (.up (!LG y) j λH ob=>match oF H n y,ob with
       |some (Nc,k),.row acc n' Nn cs=>bif (Nat.beq n n'&&Nat.beq aG Nn&&Nat.ble (len+k) 100000000)then .ok (.m (.bB j (aG+1) (len+k)),.row acc n (aG+1) (cs++Nc))else .no [306]
       |_,_=> .no [307])
     |_,_=> .no [308,d])
    else match Jh P U,x,y with
     |some k0,.d (.sl []),.d (.int k1 (.ofNat len))=>bif (oG k0 k1&&Nat.blt 0 len&&Nat.ble len 100000000)then
       .ok (.al false (λ_=> .ok (.row false n 0 (List.replicate (len*n) .undef))) λi=> .m (.bB i 0 len))else .no [309]
     |_,_,_=> .no [310])
   else .no [311]
  |_,_,_=> .no [312]
def tI(ev:Operand->Option V):Option Operand->Option (Option Nat)
 |none=>some none
 |some y=>match ev y with
  |some (.m (.d (.int _ (.ofNat i))))=>some (some i)
  |_=>none
section ops
variable{X:bD}{st:St}{dst:Option Nat}{ty:Nat}{pos:String}{af:Array Edge}{g:Option (Nat×Bool)}{pn:Nat}{H':Hp}
def HD(σ:Sg)(a:Act)(xs:List (Nat×Operand))(ms:List (Nat×M)):Prop:=
 ms.length=(xs.map λp=>(p.1,a.eval p.2)).length/\ ∀(k:Nat) p q,ms[k]?=some p->(xs.map λp=>(p.1,a.eval p.2))[k]?=some q->p.1=q.1/\RM σ p.2 q.2
theorem Hl{T e n len:Nat}{parts:List (Nat×Operand)}{z:D}{ms:List (Nat×M)}{cs:List M}{rows:List (List D)}[ht:aQ X.P T e][w:bU X.P e n][K:gg X.P e z]
  (L:Nat.blt 0 n=true) (x:(bf z).length=n) (ac:Nat.ble (len*n) 16777216=true) (co: ∀f h p,cw X h p st f->HD h f parts ms)
  (hf:fN (λa=>some (a*n,n)) (d_ n len (bf z)) ms=some cs) (d6:chunk n len cs=some rows):
  cE X ⟨dst,.buildSlice T len parts.toArray,ty,pos,af,g⟩ st (c_ (.m (.d (.sl rows))) st):=by
 refine cE.grow λf h p y=> ?_
 have q:=bL L;have ZJ:=aq5 ac;obtain⟨N,O⟩:=co f h p y;obtain⟨v,P,Q⟩:=(fY K.zero).run;have A:ki h ((bf z).map .d) v.cells:=(RM.d (eJ Q):RM h (.d z) v).cells W;have R:v.cells.size=n:=by rw[A.1];simpa using x
 have S:ki h (d_ n len (bf z)) ((Array.range (len*n)).map λa=>v.cells[a%v.cells.size]!):=by
  refine⟨by simp[d_],λa m u B i=> ?_⟩;have C:a<len*n:=by
   rcases aqh a (len*n)with c|c
   ·exact c
   ·rw[aqT (by simpa using c)]at i;cases i
  have Ra:a%n<n:=ar5 _ q;have U:a%n<(bf z).length:=by omega
  simp[d_,C,x]at B;simp[C,R]at i;have V:a%n<v.cells.size:=by omega
  subst B;subst i;refine A.2 (a%n) _ _ ?_ ?_
  ·simp[aqi U]
  ·simp[V]
 obtain⟨E,r,F⟩:=pV S N O hf;have H:cs.length=len*n:=by
  have Y: ∀{k:List (Nat×M)} {f b:List M},fN (λa=>some (a*n,n)) f k=some b->b.length=f.length:=by
   intro k
   induction k with
   |nil=>intro f b c;simp[fN]at c;subst c;rfl
   |cons j k Z=>
    intro f b c;obtain⟨a,m⟩:=j;unfold fN at c;simp only at c;cases G:(Nat.beq (cellsOf m).length n&&m.iG)with
    |false=>simp[G]at c
    |true=>
     simp only[G,aqX]at c;split at c
     ·rename_i a1 l;rw[Z c];unfold dI at l;cases s:Nat.ble (a*n+(cellsOf m).length) f.length with
      |false=>simp[s]at l
      |true=>
       simp only[s,aqX,arv]at l;subst l;have:=aq5 s;simp;omega
     ·cases c
  rw[Y hf];simp[d_]
 obtain⟨h5,h6,h7⟩:=pd d6 H;have VI:E.size=len*n:=by rw[F.1,H]
 refine⟨.slice (some ⟨h.w.heap.size,0,none⟩) len len,{h.w with heap:=h.w.heap.push (.cells E e (0,0))},?_,fJ.alloc _ _,.m (.d (gd.Hr q y.hinv.BU h5 h6 VI (by have:=arE len q;omega) ?_))⟩
 ·have:(Array.map (λo:Nat×Operand=>match o with|(a,o)=>(a,f.eval o)) parts.toArray).toList=parts.map λj=>(j.1,f.eval j.2):=by simp
  have XJ: ¬(len*n>2^24):=by omega
  by_cases t:len*n=0
  ·have SR:len=0:=by
    rcases asi.1 t with c|c
    ·exact c
    ·omega
   subst SR;have QZ:((Array.range (0*n)).map λa=>v.cells[a%v.cells.size]!)= #[]:=by simp
   rw[QZ]at r;simp only[execOp,Instr.buildSlice,Sem.run_bind,underlying,program,Sem.run,ht.u,Sem.run_pure,Result.andThen_ok,c9 w.size,Sem.run_ite,t,arR,this];have e0:Array.range 0=(#[]:Array Nat):=by decide
   simp only[e0,asW];rw[r];simp[newRow,newObj,Sem.run]
  ·simp only[execOp,Instr.buildSlice,Sem.run_bind,underlying,program,Sem.run,ht.u,Sem.run_pure,Result.andThen_ok,c9 w.size,Sem.run_ite,XJ,arK,t,P,this];rw[r];simp[newRow,newObj,Sem.run]
 ·intro a I J d u hr hd i;have:=F.2 _ _ u (h7 a I J d hr hd) i;refine⟨?_,this.2⟩;cases this.1 with
  |d c=>exact c
theorem nt{T e n len:Nat}{parts:List (Nat×Operand)}{z:D}{ms:List (Nat×M)}{cs:List M}[ht:aQ X.P T e][E:bU X.P e n][P:gg X.P e z]
  (Q:Nat.blt 0 n=true) (F:(bf z).length=n) (ac:Nat.ble (len*n) 16777216=true) (R:dU st parts=some ms)
  (hf:fN (λa=>some (a*n,n)) (d_ n len (bf z)) ms=some cs) (S:Place st.H (.row false n 0 cs) pn H'):
  cE X ⟨dst,.buildSlice T len parts.toArray,ty,pos,af,g⟩ st (c_ (.m (.bB pn 0 len)) ⟨st.sl,st.bx,H'⟩):=by
 intro d i U G;have q:=bL Q;have ZJ:=aq5 ac;obtain⟨V,Y⟩:=G.dU R;obtain⟨v,Z,QL⟩:=(fY P.zero).run;have H:ki i ((bf z).map .d) v.cells:=(RM.d (eJ QL):RM i (.d z) v).cells W;have O5:v.cells.size=n:=by rw[H.1];simpa using F
 have hc:ki i (d_ n len (bf z)) ((Array.range (len*n)).map λa=>v.cells[a%v.cells.size]!):=by
  refine⟨by simp[d_],λa m u k f=> ?_⟩;have I:a<len*n:=by
   rcases aqh a (len*n)with c|c
   ·exact c
   ·rw[aqT (by simpa using c)]at f;cases f
  have Ra:a%n<n:=ar5 _ q;have Tu:a%n<(bf z).length:=by omega
  simp[d_,I,F]at k;simp[I,O5]at f;have MV:a%n<v.cells.size:=by omega
  subst k;subst f;refine H.2 (a%n) _ _ ?_ ?_
  ·simp[aqi Tu]
  ·simp[MV]
 obtain⟨r,s,t⟩:=pV hc V Y hf;have B:cs.length=len*n:=by
  have Ss: ∀{l:List (Nat×M)} {d b:List M},fN (λa=>some (a*n,n)) d l=some b->b.length=d.length:=by
   intro l
   induction l with
   |nil=>intro d b c;simp[fN]at c;subst c;rfl
   |cons j l ih=>
    intro d b c;obtain⟨a,m⟩:=j;unfold fN at c;simp only at c;cases J:(Nat.beq (cellsOf m).length n&&m.iG)with
    |false=>simp[J]at c
    |true=>
     simp only[J,aqX]at c;split at c
     ·rename_i a1 h;rw[ih c];unfold dI at h;cases w:Nat.ble (a*n+(cellsOf m).length) d.length with
      |false=>simp[w]at h
      |true=>
       simp only[w,aqX,arv]at h;subst h;have:=aq5 w;simp;omega
     ·cases c
  rw[Ss hf];simp[d_]
 have K:r.size=len*n:=by rw[t.1,B]
 have Z9:len<=140737488355328:=by have:=arE len q;omega
 obtain⟨o,x,L,N,g4,g5⟩:=G.place S (.cells r e (0,0)) (by
  intro o k h;refine⟨q,r,e,len,len,by rw[h];exact iy _ _,K,aqd _,⟨B,Z9⟩,?_⟩;intro C m u O f;exact⟨(t.2 C m u O f).1.mono k,(t.2 C m u O f).2⟩)
 refine dv.value (u:= .slice (some ⟨i.w.heap.size,0,none⟩) len len) (w':=o.w) ?_ ⟨_,_,o,U,⟨rfl,rfl⟩,rfl,g5,?_⟩
 ·have:(Array.map (λp:Nat×Operand=>match p with|(a,p)=>(a,d.eval p)) parts.toArray).toList=parts.map λj=>(j.1,d.eval j.2):=by simp
  have XJ: ¬(len*n>2^24):=by omega
  by_cases y:len*n=0
  ·have SR:len=0:=by
    rcases asi.1 y with c|c
    ·exact c
    ·omega
   subst SR;have QZ:((Array.range (0*n)).map λa=>v.cells[a%v.cells.size]!)= #[]:=by simp
   rw[QZ]at s;simp only[execOp,Instr.buildSlice,Sem.run_bind,underlying,program,Sem.run,ht.u,Sem.run_pure,Result.andThen_ok,c9 E.size,Sem.run_ite,y,arR,this];have e0:Array.range 0=(#[]:Array Nat):=by decide
   simp only[e0,asW];rw[s];simp[newRow,newObj,Sem.run,x]
  ·simp only[execOp,Instr.buildSlice,Sem.run_bind,underlying,program,Sem.run,ht.u,Sem.run_pure,Result.andThen_ok,c9 E.size,Sem.run_ite,XJ,arK,y,Z,this];rw[s];simp[newRow,newObj,Sem.run,x]
 ·refine .m (.bB _ 0 len _ len (.inr ⟨false,n,0,cs,N,aqd _⟩) ?_);intro O9 V3 MY A;rw[N]at A;simp at A;obtain⟨e1,e2,e3⟩:=A;subst e1;subst e2;subst e3;exact⟨by rw[L],B,_,e,by rw[L,x];exact iy _ _,K⟩
theorem th{f:Nat}{a:List Operand}{ms:List M}(d:st.fG a=some ms):
  cE X ⟨dst,.makeFunc (.func f) #[] a.toArray,ty,pos,af,g⟩ st (c_ (.m (.fn f ms)) st):=by
 refine MQ λc h i e=> ?_
 have b:=e.fG d;exact⟨.func (.func f) #[] (a.map c.eval).toArray,by simp[execOp,Instr.makeFunc],.m (.fn f ms _ b.1 b.2)⟩
theorem Ca{σ:Sg}{ms d:List M}{e us:Array Value}(h:uj σ ms e)(k:uj σ d us):uj σ (ms++d) (e++us):=by
 refine⟨by simp[h.1,k.1],λc m v a b=> ?_⟩;have f:=h.1;rcases aqh c ms.length with g|i
 ·rw[aqf g]at a;rw[arH (by omega)]at b;exact h.2 c m v a b
 ·rw[aqm i]at a;rw[ar3 (by omega),f]at b;exact k.2 _ m v a b
def E0(X:bD)(st:St)(c:Call)(f:Nat)(ms:List M):Prop:=
 ∀(dst:Option Nat) (ty:Nat) (pos:String) (af:Array Edge) (g:Option (Nat×Bool)) (a:Act) (σ:Sg) (MD:Nat->Nat),cw X σ MD st a-> ∃vs,(execOp a.eval ⟨dst,.call c,ty,pos,af,g⟩).run X.P σ.w= .ok (.enter f vs) σ.w/\uj σ ms vs
theorem v_{x:Operand}{f:Nat}{c:List M}{args:List Operand}{O_:Array Nat}{ms:List M}[hf:br X.P f](e:st.ev x=some (.m (.fn f c)))(g:st.fG args=some ms):E0 X st ⟨.value x,args.toArray,O_⟩ f (ms++c):=by
 intro t q u af n b o r d;have a:=d.ev e;have h:=d.fG g;generalize i:b.eval x=p at a;cases a with
 |m a=>cases a with
  |fn f s j k l=>
   refine⟨(args.map b.eval).toArray++j,?_,Ca h ⟨k,l⟩⟩;simp only[execOp,resolve,i,Deferred.ofValue,invoke];simp[hf.run]
theorem cE.weaken{o:Oper}{p q:V->St->Prop}(h:cE X o st p)(k: ∀v a,p v a->q v a):cE X o st q:=by
 intro g i n r;have:=h g i n r;unfold dv at this⊢;generalize (execOp g.eval o).run X.P i.w=l at*;cases l with
 |ok j s=>
  cases j<;>simp only at this⊢ <;>first
   |(obtain⟨v,a,b,c,d,f⟩:=this;exact⟨v,a,b,c,k _ _ d,f⟩)
   |exact this.mono λe u ⟨m,t,v,a,b,c,d,f⟩=>⟨m,t,v,a,b,c,k _ _ d,f⟩
   |exact this
 |halt j s=>exact this
theorem xB{c:Call}{f:Nat}{ms:List M}{r:M}{a:Hp}(e:E0 X st c f ms)(h:CT X.P f ms st.H λd b=>d=r/\b=a):
  cE X ⟨dst,.call c,ty,pos,af,g⟩ st (c_ (.m r) ⟨st.sl,st.bx,a⟩):=
 (cE.Ho h (e dst ty pos af g)).weaken (by rintro v i ⟨j,k,rfl,⟨rfl,rfl⟩,rfl⟩;exact⟨rfl,rfl⟩)
end ops
section ops
variable{X:bD}{st:St}{dst:Option Nat}{ty:Nat}{pos:String}{af:Array Edge}{g:Option (Nat×Bool)}{pn:Nat}{H':Hp}
theorem Cb{σ:Sg}{MD:Nat->Nat}{v:V}{u:Value}{z:Bool}(h:RV σ MD v u)(a:gw 1 v=some z): ∃p,u= .pointer p/\p.isNone=z:=by
 unfold gw at a;cases h with
 |loc j c=>simp at a;subst a;exact⟨_,rfl,rfl⟩
 |tl _ _ _ _ _ _ _ _=>simp at a
 |m h=>cases h with
  |ref e c f h=>simp at a;subst a;exact⟨_,rfl,rfl⟩
  |dX e l c b g i=>simp at a;subst a;exact⟨_,rfl,rfl⟩
  |d h=>cases h with
   |aZ f c b k val g i n=>simp at a;subst a;exact⟨_,rfl,rfl⟩
   |bQ=>simp at a;subst a;exact⟨_,rfl,rfl⟩
   |_=>simp at a
  |_=>simp at a
theorem Cc{σ:Sg}{MD:Nat->Nat}{v:V}{u:Value}{z:Bool}(h:RV σ MD v u)(a:gw 2 v=some z): ∃p,u= .map p/\p.isNone=z:=by
 unfold gw at a;cases h with
 |loc b f=>simp at a
 |tl _ _ _ _ _ _ _ _=>simp at a
 |m h=>cases h with
  |mp c e h=>simp at a;subst a;exact⟨_,rfl,rfl⟩
  |d h=>cases h with
   |oA=>simp at a;subst a;exact⟨_,rfl,rfl⟩
   |_=>simp at a
  |_=>simp at a
theorem Cd{σ:Sg}{MD:Nat->Nat}{v:V}{u:Value}{z:Bool}(h:RV σ MD v u)(c:gw 3 v=some z):(z=true/\u= .nilFunc)\/(z=false/\ ∃f a b,u= .func f a b):=by
 unfold gw at c;cases h with
 |loc k l=>simp at c
 |tl _ _ _ _ _ _ _ _=>simp at c
 |m h=>cases h with
  |fn f e g i j=>simp at c;subst c;exact .inr ⟨rfl,_,_,_,rfl⟩
  |d h=>cases h with
   |pT=>simp at c;subst c;exact .inl ⟨rfl,rfl⟩
   |fn f e g i j=>simp at c;subst c;exact .inr ⟨rfl,_,_,_,rfl⟩
   |_=>simp at c
  |_=>simp at c
theorem DQ{P:Program}{w:World}{t e:Nat}(h:P.underlying t=some (.pointer e))(p:Option Addr):(Op.equal t (.pointer p) (.pointer none)).run P w= .ok p.isNone w:=by
 have a:(underlying t).run P w= .ok (.pointer e) w:=by simp[underlying,program,Sem.run,h]
 simp only[Op.equal,Op.maxDepth];rw[Op.equalIn];cases p<;>simp[a]
theorem DR{P:Program}{w:World}{t e a:Nat}(h:P.underlying t=some (.map e a))(p:Option Nat):(Op.equal t (.map p) (.map none)).run P w= .ok p.isNone w:=by
 have b:(underlying t).run P w= .ok (.map e a) w:=by simp[underlying,program,Sem.run,h]
 simp only[Op.equal,Op.maxDepth];rw[Op.equalIn];cases p<;>simp[b]
theorem xC{P:Program}{w:World}{t:Nat}{e1 e2 e3}(h:P.underlying t=some (.func e1 e2 e3))(x:Value)(b:x= .nilFunc\/ ∃a c d,x= .func a c d):(Op.equal t x .nilFunc).run P w= .ok (match x with| .nilFunc=>true|_=>false) w:=by
 have e:(underlying t).run P w= .ok (.func e1 e2 e3) w:=by simp[underlying,program,Sem.run,h]
 simp only[Op.equal,Op.maxDepth];rw[Op.equalIn];rcases b with rfl|⟨a,c,d,rfl⟩<;>simp[e]
theorem eq_nil{P:Program}{w:World}{f k:Nat}{σ:Sg}{MD:Nat->Nat}{v u:V}{a b:Value}{z:Bool}(j:kX P f=k)(D:k=1\/k=2\/k=3)(o:RV σ MD v a)(p:RV σ MD u b)(q:gw k v=some z)(r:gw k u=some true):
  (Op.equal f a b).run P w= .ok z w/\(∀op x y,(eqGuard op f x y a b).run P w= .ok () w)/\(binOp .eql f a b).run P w= .ok (.bool z) w/\(binOp .neq f a b).run P w= .ok (.bool (!z)) w:=by
 have n:(Op.equal f a b).run P w= .ok z w->(∃i h,a= .pointer i/\b= .pointer h)\/(∃i h,a= .map i/\b= .map h)\/((a= .nilFunc\/ ∃l c d,a= .func l c d)/\b= .nilFunc)->
   (Op.equal f a b).run P w= .ok z w/\(∀op x y,(eqGuard op f x y a b).run P w= .ok () w)/\(binOp .eql f a b).run P w= .ok (.bool z) w/\(binOp .neq f a b).run P w= .ok (.bool (!z)) w:=by
  rintro s (⟨i,h,rfl,rfl⟩|⟨i,h,rfl,rfl⟩|⟨rfl|⟨l,c,d,rfl⟩,rfl⟩)<;>
   exact⟨s,λop x y=>by cases op<;>simp[eqGuard],by simp[binOp,s],by simp[binOp,s]⟩
 rcases D with rfl|rfl|rfl
 ·obtain⟨i,rfl,t⟩:=Cb o q;obtain⟨h,rfl,A⟩:=Cb p r;have g: ∃e,P.underlying f=some (.pointer e):=by
   unfold kX at j;split at j<;>first|exact⟨_,by assumption⟩|cases j
  obtain⟨e,g⟩:=g;refine n ?_ (.inl ⟨i,h,rfl,rfl⟩);have:h=none:=by simpa using A
  subst this;rw[DQ g,t]
 ·obtain⟨i,rfl,t⟩:=Cc o q;obtain⟨h,rfl,A⟩:=Cc p r;have g: ∃e m,P.underlying f=some (.map e m):=by
   unfold kX at j;split at j<;>first|exact⟨_,_,by assumption⟩|cases j
  obtain⟨e,m,g⟩:=g;refine n ?_ (.inr (.inl ⟨i,h,rfl,rfl⟩));have:h=none:=by simpa using A
  subst this;rw[DR g,t]
 ·have g: ∃e m B,P.underlying f=some (.func e m B):=by
   unfold kX at j;split at j<;>first|exact⟨_,_,_,by assumption⟩|cases j
  obtain⟨E,m,B,g⟩:=g;rcases Cd p r with⟨_,rfl⟩|⟨C,_⟩
  ·rcases Cd o q with⟨rfl,rfl⟩|⟨rfl,l,c,d,rfl⟩
   ·exact n (by rw[xC g _ (.inl W)]) (.inr (.inr ⟨.inl W,rfl⟩))
   ·exact n (by rw[xC g _ (.inr ⟨l,c,d,rfl⟩)]) (.inr (.inr ⟨.inr ⟨l,c,d,rfl⟩,rfl⟩))
  ·cases C
theorem HE{σ:Sg}{MD:Nat->Nat}{v:V}{u:Value}{z:Bool}(h:RV σ MD v u)(a:gw 5 v=some z):(z=true/\u= .nilIface)\/(z=false/\ ∃t x,u= .iface t x):=by
 unfold gw at a;cases h with
 |loc t b=>simp at a
 |tl _ _ _ _ _ _ _ _=>simp at a
 |m h=>cases h with
  |d h=>cases h with
   |wV=>simp at a;subst a;exact .inl ⟨rfl,rfl⟩
   |FO t d v h=>simp at a;subst a;exact .inr ⟨rfl,_,_,rfl⟩
   |_=>simp at a
  |_=>simp at a
theorem xD{P:Program}{w:World}{t:Nat}{ms}(h:P.underlying t=some (.interface ms))(x:Value)(b:x= .nilIface\/ ∃a c,x= .iface a c):(Op.equal t x .nilIface).run P w= .ok (match x with| .nilIface=>true|_=>false) w:=by
 have d:(underlying t).run P w= .ok (.interface ms) w:=by simp[underlying,program,Sem.run,h]
 simp only[Op.equal,Op.maxDepth];rw[Op.equalIn];rcases b with rfl|⟨a,c,rfl⟩<;>simp[d]
theorem LH{f n:Nat}{x:Operand}{v:V}{z:Bool}{op:BinOp}(k:op= .eql\/op= .neq)(h:kX X.P f=5)(o:st.ev x=some v)(p:gw 5 v=some z):
  cE X ⟨dst,.binOp op f x (.const .nilIface) n,ty,pos,af,g⟩ st (c_ (.m (.d (.bool (match op with| .eql=>z|_=> !z)))) st):=by
 refine MQ λm i r q=> ?_
 have d: ∃l,X.P.underlying f=some (.interface l):=by
  unfold kX at h;split at h<;>first|exact⟨_,by assumption⟩|cases h
 obtain⟨l,d⟩:=d;have e:m.eval (.const .nilIface)= .nilIface:=rfl;rcases HE (q.ev o) p with⟨rfl,a⟩|⟨rfl,j,c,a⟩
 ·have b:=xD (w:=i.w) d .nilIface (.inl W);rcases k with rfl|rfl
  ·exact⟨.bool true,by simp[execOp,a,e,eqGuard,binOp,b],.m (.d (.bool _))⟩
  ·exact⟨.bool false,by simp[execOp,a,e,eqGuard,binOp,b],.m (.d (.bool _))⟩
 ·have b:=xD (w:=i.w) d (.iface j c) (.inr ⟨j,c,rfl⟩);rcases k with rfl|rfl
  ·exact⟨.bool false,by simp[execOp,a,e,eqGuard,binOp,b],.m (.d (.bool _))⟩
  ·exact⟨.bool true,by simp[execOp,a,e,eqGuard,binOp,b],.m (.d (.bool _))⟩
theorem FZ{P:Program}{w:World}{t e:Nat}(h:P.underlying t=some (.slice e))(a:Addr)(l c:Nat):(Op.equal t (.slice (some a) l c) (.slice none 0 0)).run P w= .ok false w:=by
 have b:(underlying t).run P w= .ok (.slice e) w:=by simp[underlying,program,Sem.run,h]
 simp only[Op.equal,Op.maxDepth];rw[Op.equalIn];simp[b]
theorem HF{f o:Nat}{x:Operand}{op:BinOp}(p:op= .eql\/op= .neq)(h:kX X.P f=6)(q: ∀a b i,cw X b i st a-> ∃j d c,a.eval x= .slice (some j) d c):
  cE X ⟨dst,.binOp op f x (.const (.slice none 0 0)) o,ty,pos,af,g⟩ st (c_ (.m (.d (.bool (match op with| .eql=>false|_=>true)))) st):=by
 refine MQ λa b i r=> ?_
 have k: ∃e,X.P.underlying f=some (.slice e):=by
  unfold kX at h;split at h<;>first|exact⟨_,by assumption⟩|cases h
 obtain⟨e,k⟩:=k;obtain⟨j,d,c,l⟩:=q a b i r;have m:a.eval (.const (.slice none 0 0))= .slice none 0 0:=rfl;have n:=FZ (w:=b.w) k j d c;rcases p with rfl|rfl
 ·exact⟨.bool false,by simp[execOp,l,m,eqGuard,binOp,n],.m (.d (.bool _))⟩
 ·exact⟨.bool true,by simp[execOp,l,m,eqGuard,binOp,n],.m (.d (.bool _))⟩
theorem HG{σ:Sg}{MD:Nat->Nat}{a:Act}(hi:cw X σ MD st a){x:Operand}{r:List D}{rs:List (List D)}(e:st.ev x=some (.m (.d (.sl (r::rs))))): ∃ad l c,a.eval x= .slice (some ad) l c:=by
 have d:=hi.o9 e;generalize a.eval x=f at d;cases d with
 |sl s b g q h val i j k m n o p=>exact⟨_,_,_,rfl⟩
theorem xF{P:Program}{w:World}{t e n:Nat}(h:P.underlying t=some (.pointer e))(c:fu P e=some n)(i:0<n)(a b:Addr){z:Bool}(d:(sameAddr a b).run P w= .ok z w):(Op.equal t (.pointer (some a)) (.pointer (some b))).run P w= .ok z w:=by
 have f:(underlying t).run P w= .ok (.pointer e) w:=by simp[underlying,program,Sem.run,h]
 have g: ¬n=0:=by omega
 simp only[Op.equal,Op.maxDepth];rw[Op.equalIn];simp[f,c9 c,g,d]
theorem F0{o w i j oi oj:Nat}{x y:Operand}{op:BinOp}(z:op= .eql\/op= .neq)(b:jI X.P o=true)(A:st.ev x=some (.m (.ref i oi)))(B:st.ev y=some (.m (.ref j oj))):
  cE X ⟨dst,.binOp op o x y w,ty,pos,af,g⟩ st (c_ (.m (.d (.bool (match op with| .eql=>(Nat.beq i j&&Nat.beq oi oj)|_=> !(Nat.beq i j&&Nat.beq oi oj))))) st):=by
 refine MQ λr a N d=> ?_
 have f: ∃e c,X.P.underlying o=some (.pointer e)/\fu X.P e=some c/\0<c:=by
  unfold jI at b;split at b
  ·rename_i e f;split at b
   ·rename_i c p;exact⟨e,c,f,p,bL b⟩
   ·cases b
  ·cases b
 obtain⟨e,c,f,C,p⟩:=f;have h:=d.ev A;have k:=d.ev B;generalize s:r.eval x=K at h;generalize t:r.eval y=L at k;cases h with
 |m h=>cases h with
  |ref i oi O u=>cases k with
   |m k=>cases k with
    |ref j oj Q v=>
     obtain⟨R,M,D,_⟩:=d.hinv.obj i _ u;obtain⟨S,T,E,_⟩:=d.hinv.obj j _ v;have F:(sameAddr ⟨a.l i,oi,none⟩ ⟨a.l j,oj,none⟩).run X.P a.w= .ok (Nat.beq i j&&Nat.beq oi oj) a.w:=by
      by_cases q:i=j/\oi=oj
      ·obtain⟨rfl,rfl⟩:=q;have:=run_sameAddr_same (P:=X.P) a.w ⟨a.l i,oi,none⟩;simpa using this
      ·have G:(⟨a.l i,oi,none⟩:Addr)≠⟨a.l j,oj,none⟩:=by
        intro l;injection l with H I
        exact q ⟨d.hinv.inj i j _ _ u v trivial trivial H,I⟩
       have J:(Nat.beq i j&&Nat.beq oi oj)=false:=by
        rw[<-arp];intro n;rw[aqB]at n;exact q ⟨aqr n.1,aqr n.2⟩
       rw[J];exact run_sameAddr_other (P:=X.P) a.w G D E
     have l:=xF f C p _ _ F;rcases z with rfl|rfl
     ·exact⟨.bool (Nat.beq i j&&Nat.beq oi oj),by simp[execOp,s,t,eqGuard,binOp,l],.m (.d (.bool _))⟩
     ·exact⟨.bool (!(Nat.beq i j&&Nat.beq oi oj)),by simp[execOp,s,t,eqGuard,binOp,l],.m (.d (.bool _))⟩
theorem wK{a e k:Nat}{x y:Operand}{v u:V}{z:Bool}{op:BinOp}(f:op= .eql\/op= .neq)(h:kX X.P a=k)(i:k=1\/k=2\/k=3)(j:st.ev x=some v)(l:st.ev y=some u)(m:gw k v=some z)(n:gw k u=some true):
  cE X ⟨dst,.binOp op a x y e,ty,pos,af,g⟩ st (c_ (.m (.d (.bool (match op with| .eql=>z|_=> !z)))) st):=by
 refine MQ λq d r b=> ?_
 obtain⟨s,c,o,p⟩:=eq_nil (w:=d.w) h i (b.ev j) (b.ev l) m n;rcases f with rfl|rfl
 ·exact⟨.bool z,by simp[execOp,c,o],.m (.d (.bool z))⟩
 ·exact⟨.bool (!z),by simp[execOp,c,p],.m (.d (.bool (!z)))⟩
theorem xG{σ:Sg}{MD:Nat->Nat}{a:Act}(hi:cw X σ MD st a){o:Option Operand}{l:Option Nat}(h:tI st.ev o=some l):(l=none/\o.map a.eval=none)\/ ∃n k,l=some n/\o.map a.eval=some (.int k (n:Int)):=by
 unfold tI at h;cases o with
 |none=>simp at h;subst h;exact .inl ⟨rfl,rfl⟩
 |some d=>
  simp only at h;split at h
  ·rename_i k b c;injection h with h;subst h
   right;exact⟨b,k,rfl,by simp[hi.kj c]⟩
  ·cases h
theorem tJ{t e n:Nat}{x:Operand}{lo hi:Option Operand}{l h:Option Nat}{rows:List (List D)}[ht:aQ X.P t e][M:bU X.P e n](N:st.ev x=some (.m (.d (.sl rows))))(ac:tI st.ev lo=some l)(co:tI st.ev hi=some h)
  (f:rows≠ []) (E:l.getD 0<=h.getD rows.length) (h2:h.getD rows.length<=rows.length) (O: ∀r∈rows,r.length=n):
  cE X ⟨dst,.slice t x lo hi none,ty,pos,af,g⟩ st (c_ (.m (.d (match(rows.drop (l.getD 0)).take (h.getD rows.length-l.getD 0)with| []=> .o8|r=> .sl r))) st):=by
 refine MQ λu C MD w=> ?_
 have F:=w.o9 N;have P:=xG w ac;have Q:=xG w co;generalize R:u.eval x=d8 at F;have S: ∀v:World,(underlying t).run X.P v= .ok (.slice e) v:= λv=>by simp[underlying,program,Sem.run,ht.u]
 cases F with
 |slnil ad=>exact absurd W f
 |sl rows b q k o val T OV Nr G U V Y=>
  have d6:o=n:=by
   cases rows with
   |nil=>exact absurd W T
   |cons r rs=>rw[<-G r (by simp)];exact O r (by simp)
  subst d6;generalize y:l.getD 0=a at*;generalize z:h.getD rows.length=i at*;refine⟨.slice (if k=a then some ⟨b,q,none⟩else some ⟨b,q+a*o,none⟩) (i-a) (k-a),?_,?_⟩
  ·have c2:((i:Nat):Int)<=k:=by omega
   have d7: ∀lv s:Option Value,(lv=none/\a=0\/ ∃m,lv=some (.int m (a:Int)))->(s=none/\i=rows.length\/ ∃m,s=some (.int m (i:Int)))->
     (Instr.sliceBounds true rows.length k lv s none).run X.P C.w= .ok (a,i,k) C.w:=by
    rintro lv s (⟨rfl,rfl⟩|⟨m,rfl⟩) (⟨rfl,rfl⟩|⟨k',rfl⟩)
    ·simp[Instr.sliceBounds]
    ·simp[Instr.sliceBounds,Instr.sliceBound,asIntOf,show i<=k by omega]
    ·simp[Instr.sliceBounds,Instr.sliceBound,asIntOf,E]
    ·simp[Instr.sliceBounds,Instr.sliceBound,asIntOf,show i<=k by omega,E]
   have f:=d7 (lo.map u.eval) (hi.map u.eval)
    (by
      rcases P with⟨rfl,e⟩|⟨n,m,rfl,e⟩
      ·left;exact⟨e,by simpa using y.symm⟩
      ·right;exact⟨m,by rw[e];simp at y;subst y;rfl⟩)
    (by
      rcases Q with⟨rfl,e⟩|⟨n,m,rfl,e⟩
      ·left;exact⟨e,by simpa using z.symm⟩
      ·right;exact⟨m,by rw[e];simp at z;subst z;rfl⟩)
   simp only[execOp,Instr.sliceAt,Instr.slice,R,Option.map_none];simp only[Sem.run_bind,S,Result.andThen_ok,f,c9 M.size,Sem.run_pure];by_cases H:k=a
   ·simp[H]
   ·simp[H,li]
  ·generalize I:(rows.drop a).take (i-a)=p;have A:p.length=i-a:=by rw[<-I];simp;omega
   cases p with
   |nil=>
    simp at A;rw[show i-a=0 by omega];exact .m (.d (.o8 _ _))
   |cons Z p7=>
    simp only;generalize J:Z::p7=p at*;have SZ:0<i-a:=by rw[<-A,<-J];simp
    rw[aqo (by omega),<-A];have K: ∀c r,p[c]?=some r->rows[a+c]?=some r:=by
     intro c r f;rw[<-I,aso]at f;split at f
     ·rw[asn]at f;exact f
     ·cases f
    have L: ∀c,c<p.length->a+c<rows.length:=by intro c hi;omega
    refine .m (.d (gd.sl p b (q+a*o) (k-a) o (λc j=>val (a+c) j) (by rw[<-J];simp) (by omega) (by omega) ?_ ?_ ?_ ?_))
    ·intro r f;obtain⟨c,hi⟩:=aqG.1 f;exact G r (aqk (K c r hi))
    ·intro c j hi B;have:=U (a+c) j (L c hi) B;rw[show q+a*o+(c*o+j)=q+((a+c)*o+j) by rw[ar0];omega];exact this
    ·intro c j hi B;exact V (a+c) j (L c hi) B
    ·intro c j r d f hd;exact Y (a+c) j r d (K c r f) hd
end ops
theorem wa{P:Program}{t:Nat}(h:jI P t=true): ∃e n,P.underlying t=some (.pointer e)/\fu P e=some n/\0<n:=by
 unfold jI at h;split at h
 ·rename_i e a;split at h
  ·rename_i n b;exact⟨e,n,a,b,bL h⟩
  ·cases h
 ·cases h
theorem RM.LI{σ:Sg}{a b:M}{x y:Value}(h:RM σ (.cZ [a,b]) (.tuple #[x,y])):RM σ a x/\RM σ b y:=by
 cases h with
 |cZ c d e h=>exact⟨h 0 a x W W,h 1 b y W W⟩
theorem RM.E4{σ:Sg}{a b:M}{x y:Value}(f:RM σ a x)(g:RM σ b y):RM σ (.cZ [a,b]) (.tuple #[x,y]):=by
 refine .cZ _ _ W λe m v c d=> ?_
 match e with
 |0=>simp at c d;subst c;subst d;exact f
 |1=>simp at c d;subst c;subst d;exact g
 |e+2=>simp at c
theorem zg{P:Program}{σ:Sg}{e:Nat->Nat->Prop}(hi:j_ σ e){i j oi oj:Nat}{cs ds:List M}(c:σ.H[i]?=some (.box cs))(d:σ.H[j]?=some (.box ds)):
  (sameAddr ⟨σ.l i,oi,none⟩ ⟨σ.l j,oj,none⟩).run P σ.w= .ok (Nat.beq i j&&Nat.beq oi oj) σ.w:=by
 obtain⟨p,o,f,_⟩:=hi.obj i _ c;obtain⟨q,r,g,_⟩:=hi.obj j _ d;by_cases b:i=j/\oi=oj
 ·obtain⟨rfl,rfl⟩:=b;have:=run_sameAddr_same (P:=P) σ.w ⟨σ.l i,oi,none⟩;simpa using this
 ·have h:(⟨σ.l i,oi,none⟩:Addr)≠⟨σ.l j,oj,none⟩:=by
   intro k;injection k with l m
   exact b ⟨hi.inj i j _ _ c d trivial trivial l,m⟩
  have n:(Nat.beq i j&&Nat.beq oi oj)=false:=by
   rw[<-arp];intro a;rw[aqB]at a;exact b ⟨aqr a.1,aqr a.2⟩
  rw[n];exact run_sameAddr_other (P:=P) σ.w h f g
theorem l9{P:Program}{σ:Sg}{O:Nat->Nat->Prop}(hi:j_ σ O){d B C:Nat}(E:P.underlying d=some (.pointer B))(F:fu P B=some C)(G:0<C){i o:Nat}{cs:List M}(H:σ.H[i]?=some (.box cs)):
  ∀{es:List (D×M)} {us:List MapEntry} {n:Nat},gm es=true->us.length=es.length->(∀(k:Nat) e u,es[k]?=some e->us[k]?=some u->vg σ e u)->
  (gv i o es=none/\(Instr.findAsking d (.pointer (some ⟨σ.l i,o,none⟩)) us n).run P σ.w= .ok none σ.w/\(∀v,iJ i o v es=es++ [(.bQ,.cZ [.ref i o,v])]))\/
  ∃k m u,gv i o es=some m/\us[k]?=some u/\es[k]?=some (.bQ,.cZ [.ref i o,m])/\(Instr.findAsking d (.pointer (some ⟨σ.l i,o,none⟩)) us n).run P σ.w= .ok (some (n+k,u.val)) σ.w/\
   u.key= .pointer (some ⟨σ.l i,o,none⟩)/\RM σ m u.val/\(∀v,iJ i o v es=es.set k (.bQ,.cZ [.ref i o,v]))
 | [],us,n,_,h,_=>by
  have:us= []:=by simpa using h
  subst this;exact .inl ⟨rfl,by simp[Instr.findAsking,Sem.run],λv=>rfl⟩
 |(dk,mm)::c,us,n,j,h,A=>by
  unfold gm at j;split at j
  ·rename_i q;cases q
  ·rename_i a u m r' q;injection q with f Q;injection f with R S;subst R;subst S;subst Q
   cases us with
   |nil=>simp at h
   |cons w us=>
    obtain⟨I,T⟩:RM σ (.ref a u) w.key/\RM σ m w.val:=by
     rcases A 0 _ _ rfl rfl with⟨f,_⟩|⟨_,f⟩
     ·simp[EM]at f
     ·exact f.LI
    obtain⟨l,r,s⟩: ∃l,σ.H[a]?=some (.box l)/\w.key= .pointer (some ⟨σ.l a,u,none⟩):=by
     generalize w.key=ac at I;cases I with
     |ref a u l r=>exact⟨l,r,rfl⟩
    have p:=xF (w:=σ.w) E F G ⟨σ.l i,o,none⟩ ⟨σ.l a,u,none⟩ (zg (P:=P) hi (oi:=o) (oj:=u) H r);cases g:(Nat.beq i a&&Nat.beq o u)with
    |true=>
     have t:=g;rw[aqB]at t;have U:=aqr t.1;have V:=aqr t.2;subst U;subst V;refine .inr ⟨0,m,w,by simp[gv],rfl,rfl,?_,s,T,λv=>by simp[iJ]⟩;rw[g]at p;simp only[Instr.findAsking,s];simp[p]
    |false=>
     rw[g]at p;have J:(Instr.findAsking d (.pointer (some ⟨σ.l i,o,none⟩)) (w::us) n).run P σ.w=(Instr.findAsking d (.pointer (some ⟨σ.l i,o,none⟩)) us (n+1)).run P σ.w:=by
      simp only[Instr.findAsking,s];simp[p]
     have K:gv i o ((.bQ,.cZ [.ref a u,m])::c)=gv i o c:=by simp only[gv,g,arS]
     have L: ∀v,iJ i o v ((.bQ,.cZ [.ref a u,m])::c)=(.bQ,.cZ [.ref a u,m])::iJ i o v c:= λv=>by simp only[iJ,g,arS]
     rcases l9 hi E F G (o:=o) H (n:=n+1) (es:=c) (us:=us) j (by simpa using h) (λk e u N b=>A (k+1) e u (by simpa using N) (by simpa using b))with⟨x,y,z⟩|⟨k,X,Y,x,y,z,Z,h7,h8,h9⟩
     ·exact .inl ⟨by rw[K];exact x,by rw[J];exact y,λv=>by rw[L,z];rfl⟩
     ·exact .inr ⟨k+1,X,Y,by rw[K];exact x,by simpa using y,by simpa using z,by rw[J,Z];congr 3;omega,h7,h8,λv=>by rw[L,h9];rfl⟩
  ·cases j
theorem uB{P:Program}{w:World}{a b:Nat}(d:P.underlying a=some (.pointer b))(p:Option Addr)(us:List MapEntry):
  (Instr.findKey a (.pointer p) us).run P w=(Instr.findAsking a (.pointer p) us).run P w:=by
 have c:(underlying a).run P w= .ok (.pointer b) w:=by simp[underlying,program,Sem.run,d]
 cases us with
 |nil=>simp[Instr.findKey,Instr.findNow,Instr.findAsking,c]
 |cons e us=>simp[Instr.findKey,Instr.findNow,Instr.sameNow,c]
theorem tj{P:Program}{b:Bool}{n a c:Nat}{v:Value}{w:World}(h:P.underlying a=some (.pointer c)):(Instr.checkKey b (n+1) a v).run P w= .ok () w:=by
 simp[Instr.checkKey,underlying,program,Sem.run,h]
section ops
variable{X:bD}{st:St}{dst:Option Nat}{ty:Nat}{pos:String}{af:Array Edge}{g:Option (Nat×Bool)}
theorem we{T e A:Nat}{x y:Operand}{i j o:Nat}{es:List (D×M)}{z:D}(ht:X.P.underlying T=some (.map A e))(J:jI X.P A=true)[K:gg X.P e z]{ok:Bool}(L:st.ev x=some (.m (.mp i)))(N:st.ev y=some (.m (.ref j o)))(O:st.H[i]?=some (.map es))(P:gm es=true):
  cE X ⟨dst,.lookup T x y ok,ty,pos,af,g⟩ st (c_ (bif ok then .m (match gv j o es with|some m=> .cZ [m,.d (.bool true)]|none=> .cZ [.d z,.d (.bool false)])else .m (match gv j o es with|some m=>m|none=> .d z)) st):=by
 refine MQ λk l MD h=> ?_
 have p:=h.ev L;have q:=h.ev N;obtain⟨e0,n0,B,Q,R⟩:=wa J;obtain⟨E,r,F⟩:=(fY K.zero).run;generalize s:k.eval x=f at p;generalize a:k.eval y=Z at q;cases q with
 |m q=>cases q with
  |ref j o cs S=>
   cases p with
   |m p=>cases p with
    |mp i ac hh=>
     obtain⟨G,co,t,U,V⟩:=h.hinv.obj i (.map es) (by rw[h.hH];exact O);have u: ∀b v,(Instr.checkKey b 10000 A v).run X.P l.w= .ok () l.w:= λb v=>tj (n:=9999) B
     have d:=uB (w:=l.w) B (some ⟨l.l j,o,none⟩) G.toList;rcases l9 h.hinv B Q R (o:=o) S (n:=0) (es:=es) (us:=G.toList) P (by simpa using U) (λi e f k b=>V i e f k (by simpa using b))with⟨C,H,_⟩|⟨n,m,f,C,H,h8,Y,Pz,I,_⟩
     ·rw[C];rw[H]at d;cases ok with
      |true=>
       refine⟨.tuple #[E,.bool false],?_,.m (.cZ _ _ W ?_)⟩
       ·simp only[execOp,s,a,Instr.lookup];simp[underlying,program,Sem.run,ht,getObj,t,u,r];simp[d,r]
       ·intro n m v c a
        match n with
        |0=>simp at c a;subst c;subst a;exact .d (eJ F)
        |1=>simp at c a;subst c;subst a;exact .d (.bool _)
        |n+2=>simp at c
      |false=>
       refine⟨E,?_,.m (.d (eJ F))⟩;simp only[execOp,s,a,Instr.lookup];simp[underlying,program,Sem.run,ht,getObj,t,u,r];simp[d,r]
     ·rw[C];rw[Y]at d;cases ok with
      |true=>
       refine⟨.tuple #[f.val,.bool true],?_,.m (.cZ _ _ W ?_)⟩
       ·simp only[execOp,s,a,Instr.lookup];simp[underlying,program,Sem.run,ht,getObj,t,u];simp[d]
       ·intro n m' v c a
        match n with
        |0=>simp at c a;subst c;subst a;exact I
        |1=>simp at c a;subst c;subst a;exact .d (.bool _)
        |n+2=>simp at c
      |false=>
       refine⟨f.val,?_,.m I⟩;simp only[execOp,s,a,Instr.lookup];simp[underlying,program,Sem.run,ht,getObj,t,u];simp[d]
theorem xH{T e K:Nat}{x y z:Operand}{i j o:Nat}{es:List (D×M)}{m:M}(ht:X.P.underlying T=some (.map K e))(hp:jI X.P K=true)(hx:st.ev x=some (.m (.mp i)))(hy:st.ev y=some (.m (.ref j o)))(hz:st.ev z=some (.m m))(S:st.H[i]?=some (.map es))(hk:gm es=true):
  cE X ⟨dst,.mapUpdate T x y z,ty,pos,af,g⟩ st (c_ (.m .undef) ⟨st.sl,st.bx,st.H.set i (.map (iJ j o m es))⟩):=by
 intro l a L r;have h:=r.ev hx;have B:=r.ev hy;have C:=r.ev hz;obtain⟨e0,n0,N,hs,t⟩:=wa hp;generalize f:l.eval x=k at h;generalize E:l.eval y=co at B;cases C with
 |m C=>
 cases B with
 |m B=>cases B with
  |ref j o cs U=>
  have V:RM a (.ref j o) (.pointer (some ⟨a.l j,o,none⟩)):= .ref j o cs U;cases h with
  |m h=>cases h with
   |mp i d6 hh=>
    have Qe:a.H[i]?=some (.map es):=by rw[r.hH];exact S
    obtain⟨q,R,u,O,P⟩:=r.hinv.obj i (.map es) Qe;have MV:=fK u;have Y: ∀b v,(Instr.checkKey b 10000 K v).run X.P a.w= .ok () a.w:= λb v=>tj (n:=9999) N
    have F:=uB (w:=a.w) N (some ⟨a.l j,o,none⟩) q.toList;have Z: ∀(s:Array MapEntry) (G:Nat),s.size=(iJ j o m es).length->(∀(n:Nat) e k,(iJ j o m es)[n]?=some e->s[n]?=some k->vg a e k)->
      ∃p:Sg,p.w=cU a.w (a.l i) (.map s G)/\cw X p L ⟨st.sl,st.bx,st.H.set i (.map (iJ j o m es))⟩ l:=by
     intro s G g1 g2;obtain⟨p,A,H,k3,k4,k5⟩:=r.qA (j:=i) (b':=a.l i) (ob:= .map es) (NH:= .map (iJ j o m es)) (w':=cU a.w (a.l i) (.map s G)) S trivial W W W (by rw[jR];exact aqd _)
      (λc _ hc=>iW hc) (.inl W) (λo v ho=>(ho trivial).elim) W (by
       intro p RY hw _ _;exact⟨s,G,by rw[hw];exact fL MV,g1,λn e k l b=>(g2 n e k l b).up λv E=>E.mono RY⟩)
     exact⟨p,A,k5⟩
    rcases l9 r.hinv N hs t (o:=o) U (n:=0) (es:=es) (us:=q.toList) hk (by simpa using O) (λi e k l b=>P i e k l (by simpa using b))with⟨h6,I,J⟩|⟨n,m',k,h6,I,J,h9,Pz,Rw,Re⟩
    ·rw[I]at F;obtain⟨p,A,H⟩:=Z (q.push {key:= .pointer (some ⟨a.l j,o,none⟩),val:=l.eval z,born:=R}) (R+1) (by rw[J];simp[O]) (by
      intro n e k d f;rw[J]at d;rcases aqh n es.length with t|t
      ·rw[aqf t]at d;rw[ar9,aqo (by omega)]at f;exact P n e k d f
      ·rw[aqm t]at d;have Qg:n-es.length=0:=by
        rcases aqJ (n-es.length)with h|h
        ·exact h
        ·rw[aqj (by simp;omega)]at d;cases d
       rw[Qg]at d;simp at d;subst d;rw[ar9,aqy (by omega)]at f;injection f with f;subst f
       exact .inr ⟨rfl,RM.E4 V C⟩)
     refine dv.skip ?_ ⟨.m .undef,_,p,L,⟨rfl,rfl⟩,A,H,.m (.undef _)⟩;simp only[execOp,f,E,Instr.mapUpdate];simp[underlying,program,Sem.run,ht,getObj,u,Y];simp[F];simp[Sem.run,setObj,cU,u]
    ·rw[h9]at F;have QO:n<q.size:=by
      have:=I;simp at this;rcases aqh n q.size with h|h
      ·exact h
      ·simp[aqT h]at this
     obtain⟨p,A,H⟩:=Z (q.modify n λe=> {e with key:= .pointer (some ⟨a.l j,o,none⟩),val:=l.eval z}) R (by rw[Re];simp[O]) (by
      intro n' e u' d f;rw[Re]at d;rw[asu]at f;by_cases Q:n=n'
      ·subst Q;rw[uy J]at d;injection d with d;subst d
       simp[QO]at f;subst f;exact .inr ⟨rfl,RM.E4 V C⟩
      ·rw[aqn Q]at d;rw[aqo Q]at f;exact P n' e u' d f)
     refine dv.skip ?_ ⟨.m .undef,_,p,L,⟨rfl,rfl⟩,A,H,.m (.undef _)⟩;have ac:q[n]?.map (·.key)=some (.pointer (some ⟨a.l j,o,none⟩)):=by
      have:q[n]?=some k:=by simpa using I
      rw[this];simp[Pz]
     have Nu:(Instr.keyThatStays (.pointer (some ⟨a.l j,o,none⟩)) (.pointer (some ⟨a.l j,o,none⟩))).run X.P a.w= .ok (.pointer (some ⟨a.l j,o,none⟩)) a.w:=by simp[Instr.keyThatStays,Instr.sameBits]
     simp only[execOp,f,E,Instr.mapUpdate];simp[underlying,program,Sem.run,ht,getObj,u,Y];simp[F,ac,Nu];simp[Sem.run,setObj,cU,u]
end ops
section
variable{X:bD}{st:St}{dst:Option Nat}{ty:Nat}{pos:String}{af:Array Edge}{g:Option (Nat×Bool)}{pn:Nat}{H':Hp}
end
theorem cK{P:Program}{f:Nat}(h:HC P f=true):br P f:=by
 unfold HC at h;split at h
 ·rename_i fn c;simp only[aqB,arn]at h;refine⟨λj i=> ?_⟩;unfold callFunc;have a:fn.body.isNone=false:=by cases a:fn.body with
   |none=>rw[a]at h;simp at h
   |some b=>rfl
  have d: ¬fn.name= "runtime.NumGoroutine" :=by simpa using h.1
  have g: ¬fn.body=none:=by intro e;rw[e]at a;cases a
  simp[program,Sem.run,c,d,g]
 ·cases h
section
variable{X:bD}{st:St}{dst:Option Nat}{ty:Nat}{pos:String}{af:Array Edge}{g:Option (Nat×Bool)}{C:DP}
end
section
variable{X:bD}{st:St}{dst:Option Nat}{ty:Nat}{pos:String}{af:Array Edge}{g:Option (Nat×Bool)}{C:DP}
end
section
variable{X:bD}{ops:Array Oper}{C:DP}
def Kf(d:Option Nat)(v:V)(s:St):St:=match d with
 |some t=>⟨(t,v)::s.sl,s.bx,s.H⟩
 |none=>s
theorem cw.pad{σ:Sg}{MD:Nat->Nat}{st:St}{a:Act}(hi:cw X σ MD st a)(k:Nat): ∃τ:Sg,τ.w=σ.w/\cw X τ MD ⟨st.sl,st.bx,st.H++List.replicate k .free⟩ a:=by
 let q:=σ.H++List.replicate k Ob.free
 let τ:Sg:=⟨σ.w,σ.O,σ.l,q⟩
 have m: ∀(c:Nat) e,σ.H[c]?=some e->q[c]?=some e:=by
  intro c e d;have r:c<σ.H.length:=f_ d;show(σ.H++List.replicate k Ob.free)[c]?=_;rw[aqf r];exact d
 have o: ∀(c:Nat) e,q[c]?=some e->e.live->σ.H[c]?=some e:=by
  intro c e d n;have j:(σ.H++List.replicate k Ob.free)[c]?=some e:=d;rcases aqh c σ.H.length with r|x
  ·rw[aqf r]at j;exact j
  ·rw[aqm x,asP]at j;split at j
   ·injection j with j;subst j;exact n.elim
   ·cases j
 have u:dy σ τ:=⟨λb p v h f=>⟨h,f⟩,λc l d=>⟨⟨l,m c _ d⟩,rfl⟩,λc l d=>⟨⟨l,m c _ d⟩,rfl⟩,λc l d=>⟨⟨l,m c _ d⟩,rfl⟩,λc d=>m c _ d,
  λc F J y l d=> .inr ⟨F,y,l,m c _ d,aqd _,λ_=>⟨rfl,rfl,λz H A=>⟨z,A,rfl⟩⟩⟩,λc d=>⟨_,m c _ d⟩⟩
 have G:j_ τ (nP X.jF MD st.bx):=by
  refine⟨?_,?_,?_,?_,hi.hinv.lU⟩
  ·intro c e d;by_cases n:e.live
   ·exact(hi.hinv.obj c e (o c e d n)).cB u λg B=>B
   ·cases e<;>first|trivial|exact absurd trivial n
  ·intro c s g t h f i w C;exact hi.hinv.inj c s g t (o c g h i) (o s t f w) i w C
  ·intro b p;show σ.O b p↔_;rw[hi.hinv.own];constructor
   ·rintro(d|⟨c,g,h,f,i⟩)
    ·exact .inl d
    ·exact .inr ⟨c,g,m c g h,f,i⟩
   ·rintro(d|⟨c,g,h,f,i⟩)
    ·exact .inl d
    ·exact .inr ⟨c,g,o c g h (Ob.ji i),f,i⟩
  ·intro c e h f p i;exact hi.hinv.sep c e (o c e h f) f p i
 have D:aW σ τ:=⟨rfl,rfl,rfl,aqd _,λ_ _ _=>rfl,λc e d n=> .inr ⟨e,o c e d n,n,rfl⟩⟩;have:=hi.heap u G (λI l d=>rfl) D;refine⟨τ,rfl,?_⟩;have E:τ.H=st.H++List.replicate k .free:=by show σ.H++_=_;rw[hi.hH]
 rw[E]at this;exact this
theorem TC.pad{c:Code}{st:St}{post:Exit->St->Prop}(k:Nat)(h:TC X c ⟨st.sl,st.bx,st.H++List.replicate k .free⟩ post):TC X c st post:=by
 rintro a i ⟨j,d,rfl,e⟩;obtain⟨b,f,g⟩:=e.pad k;rw[<-f];exact h a _ ⟨b,d,rfl,g⟩
theorem DS{N:Nat}{H:Hp}(h:N<=H.length):dV.front N H []++H.drop N=H:=by
 refine dV.A5 (N:=N) (by simp[dV.jm]) h ?_ (dV.pk _ _ _ _);intro b a;rw[dV.qF _ _ _ _ _ a];rfl
theorem qI{N i:Nat}{H:Hp}{ob:Ob}(h:N<=H.length)(hi:i<N):dV.front N H [(i,ob)]++H.drop N=H.set i ob:=by
 refine dV.A5 (N:=N) (by simp[dV.jm]) (by simp;exact h) ?_ ?_
 ·intro a b;rw[dV.qF _ _ _ _ _ b];by_cases e:i=a
  ·subst e;simp[bJ,arJ,show i<H.length by omega]
  ·have c:get [(i,ob)] a=none:=by rw[bJ,aqo e];rfl
   rw[c];simp[arJ,aqn e]
 ·rw[dV.pk,List.drop_set_of_lt hi]
end
section
variable{X:bD}{ops:Array Oper}{C:DP}
theorem F7{o:Oper}{x:Operand}{t:Nat}(a:x∈o.op.operands.toList)(ht:x= .tmp t):t∈o.looksAt ops:=by
 unfold Oper.looksAt;refine aql.2 (.inl ?_);rw[List.mem_filterMap];exact⟨x,a,by subst ht;rfl⟩
theorem Q0{N:Nat}{o:Oper}{e:dV.Ef}{st a:St}(h:dV.Ag N ops o e st a){x:Operand}(c:x∈o.op.operands.toList):a.ev x=bj st.sl x:=by
 cases x with
 |tmp b=>exact h.sl b (F7 c W)
 |_=>rfl
theorem Ce{N:Nat}{d:Option Nat}{v:V}{a:List Nat}{rh:dV.Rh}{st:St}(h:N<=st.H.length):dV.Ef.app N ⟨d,v,a,[],none,rh,[],none⟩ st=Kf d v st:=by
 unfold dV.Ef.app Kf;simp only[aqK,DS h];cases d<;>rfl
end
section
variable{X:bD}{C:DP}
end
section
variable{X:bD}{C:DP}
end
theorem again{X:bD}{b:Nat->St->Prop}{k k':Nat}{sl Na:List (Nat×V)}{bx:List (Nat×List M)}{H H':Hp}(d:k'<k)(e:b k' ⟨Na,bx,H'⟩)(f:H=H')(g:keeps sl Na):
  ∃k' c,k'<k/\b k' c/\ ∀a w,Inv X ⟨sl,bx,H⟩ a w->Inv X c a w:=
 ⟨k',_,d,e,λ_ _ h=>by subst f;exact h.nK (gJ g) (λ_=>rfl)⟩
theorem Ou{X:bD}{c:Code}{q:Exit->St->Prop}(Na:List (Nat×V))(H':Hp){sl:List (Nat×V)}{bx:List (Nat×List M)}{H:Hp}(a:keeps sl Na)(b:H=H')(k:TC X c ⟨Na,bx,H'⟩ q):TC X c ⟨sl,bx,H⟩ q:=by
 subst b;exact TC.nK k a
theorem down{X:bD}{sl Na:List (Nat×V)}{bx:List (Nat×List M)}{H H':Hp}(b:H=H')(c:keeps sl Na): ∀a w,Inv X ⟨sl,bx,H⟩ a w->Inv X ⟨Na,bx,H'⟩ a w:=
 λ_ _ d=>by subst b;exact d.nK (gJ c) (λ_=>rfl)
def jJ(k:IntKind)(zs:List Int):List (List D):=zs.map λz=>[.int k z]
def oH(k:IntKind)(zs:List Int)(v:D):Prop:=oB v=some zs.length/\(zs= []\/v= .sl (jJ k zs))/\ ∀z∈zs,(Lit.int k z).wf=true
theorem xI{k:IntKind}{a:List Int}{i:Nat}{z:Int}(h:a[i]?=some z):(jJ k a)[((i:Nat):Int).toNat]?=some [.int k z]:=by simp[jJ,h]
def qJ(k:IntKind)(w:World)(a:Option Addr)(len cap:Nat)(zs:List Int):Prop:=
 (a=none/\len=0/\cap=0/\zs= [])\/
 ∃x,a=some x/\len<=cap/\cap<=maxLen/\zs.length=cap/\(∀i,i<zs.length->w.cell? (x.add i)=some (.int k (zs.getD i 0)))/\ ∀n∈zs,(Lit.int k n).wf=true
theorem xJ(k:IntKind)(m:Option Addr)(a i:Nat)(e:List Int)(w:World)(u:qJ k w m a i e)(G:a<=140737488355328):
  ∃(x:List Int) (v:D),oH k x v/\gd (λ_ _=>False) w v (.slice m a i):=by
 rcases u with⟨rfl,rfl,rfl,rfl⟩|⟨r,rfl,H,I,n,o,y⟩
 ·exact⟨[],.sl [],⟨rfl,.inl W,by simp⟩,.slnil none⟩
 ·by_cases z:a=0
  ·subst z;exact⟨[],.o8,⟨rfl,.inl W,by simp⟩,.o8 _ _⟩
  ·obtain⟨b,C,F⟩:=r;have A:=o 0 (by omega);have E:F=none:=by simpa [Addr.add] using World.cell?_spot A
   subst E;have j:(jJ k (e.take a)).length=a:=by simp[jJ];omega
   refine⟨e.take a,.sl (jJ k (e.take a)),⟨by simp[oB,jJ],.inr W,λs n=>y s (List.mem_of_mem_take n)⟩,?_⟩;have:=gd.sl (O:= λ_ _=>False) (w:=w) (jJ k (e.take a)) b C i 1 (λc _=> .int k (e.getD c 0)) (by intro g;rw[g]at j;simp at j;omega) (by omega) (by omega)
     (by intro t f;rw[jJ]at f;obtain⟨_,_,rfl⟩:=aqM.1 f;rfl)
     (by
      intro c h p J;obtain rfl:h=0:=by omega
      refine⟨?_,λg=>g⟩;have:=o c (by omega);rcases aqJ c with rfl|B
      ·simpa [dY,Addr.add] using this
      ·simpa [dY,Addr.add,Nat.ne_of_gt B] using this)
     (by intro c h _ _;rfl)
     (by
      intro c h t d f l;have p:c<a:=by
       rcases aqh c a with g|g
       ·exact g
       ·rw[aqj (by omega)]at f;cases f
      have q:c<e.length:=by omega
      simp[jJ,p,q]at f;subst f;cases h with
      |zero=>simp at l;subst l;simp[q];exact .int _ _
      |succ h=>simp at l)
   rw[j]at this;exact this
section
variable{X:bD}{ops:Array Oper}{rest:List Oper}{sl:List (Nat×V)}{bx:List (Nat×List M)}{H:Hp}{post:St->Prop}{d ty:Nat}{pos:String}{af:Array Edge}{st:St}{dst:Option Nat}{g:Option (Nat×Bool)}
theorem DU{P:Program}{w:World}{t e:Nat}(h:P.underlying t=some (.slice e))(a:Option Addr)(l c:Nat):(Op.equal t (.slice a l c) (.slice none 0 0)).run P w= .ok a.isNone w:=by
 have b:(underlying t).run P w= .ok (.slice e) w:=by simp[underlying,program,Sem.run,h]
 simp only[Op.equal,Op.maxDepth];rw[Op.equalIn];cases a<;>simp[b]
theorem HH{f j e:Nat}{x:Operand}[ht:aQ X.P f e](k:st.ev x=some (.m (.d (.sl [])))):
  cE X ⟨dst,.binOp .eql f x (.const (.slice none 0 0)) j,ty,pos,af,g⟩ st (λv s=> ∃b,v= .m (.d (.bool b))/\s=st):=by
 intro c a l h;have d:=h.o9 k;generalize m:c.eval x=u at d;cases d with
 |slnil i=>
  have n:c.eval (.const (.slice none 0 0))= .slice none 0 0:=rfl;have o:=DU (w:=a.w) ht.u i 0 0;refine dv.value (u:= .bool i.isNone) (w':=a.w) (by simp[execOp,m,n,eqGuard,binOp,o]) ⟨_,_,a,l,⟨_,rfl,rfl⟩,rfl,h,.m (.d (.bool _))⟩
 |sl E b q D r val p t y z A B C=>exact absurd W p
theorem Jj{a c e:Nat}{x:Operand}[ht:aQ X.P a e](f:Nat.blt d X.n=true)(g:bj sl x=some (.m (.d (.sl []))))(k: ∀b,TL X ops rest ⟨(d,.m (.d (.bool b)))::sl,bx,H⟩ post):
  TL X ops (⟨some d,.binOp .eql a x (.const (.slice none 0 0)) c,ty,pos,af,none⟩::rest) ⟨sl,bx,H⟩ post:=
 TL.op W W f (HH (by exact g)) (by rintro v h ⟨b,rfl,rfl⟩;exact k b)
end
section
variable{X:bD}{ops:Array Oper}{rest:List Oper}{sl:List (Nat×V)}{bx:List (Nat×List M)}{H:Hp}{post:St->Prop}{d ty:Nat}{pos:String}{af:Array Edge}
end
def fP(b:Nat)(rs:List (List D)):M:=match rs with
 | []=> .d (.sl [])
 |_::r=> .bB b r.length (r.length+1)
def dB(H0:Hp)(n:Nat)(rs:List (List D)):Hp:=match rs with
 | []=>H0
 |q::r=>H0++ [.row true n r.length (aX (q::r))]
theorem iK(H0:Hp)(n:Nat)(rs:List (List D))(d: ∀a∈rs,a.length=n):iI (dB H0 n rs) (fP H0.length rs)=some (.sl rs):=by
 cases rs with
 |nil=>rfl
 |cons b a=>
  have c:=Acc.view (n:=n) (i:=H0.length) (rs:=b::a) (m:=fP H0.length (b::a)) (H:=dB H0 n (b::a)) (.inr ⟨by simp,a.length,by simp[fP],by simp[dB]⟩) d;exact c
theorem l_(b:Nat)(rs:List (List D)):gR (fP b rs)=some [fP b rs]:=by cases rs<;>rfl
theorem vr(H0:Hp)(n:Nat)(rs:List (List D))(j:Nat)(a:j<H0.length):(dB H0 n rs)[j]?=H0[j]?:=by
 cases rs with
 |nil=>rfl
 |cons b c=>simp only[dB];rw[aqf a]
theorem DV(H0:Hp)(n:Nat)(rs:List (List D)):(dB H0 n rs).take H0.length=H0:=by cases rs<;>simp[dB]
theorem F8(H0:Hp)(n:Nat)(rs:List (List D)):H0.length<=(dB H0 n rs).length:=by cases rs<;>simp[dB]
section
variable{X:bD}{ops:Array Oper}{rest:List Oper}{sl:List (Nat×V)}{bx:List (Nat×List M)}{post:St->Prop}{d ty:Nat}{pos:String}{af:Array Edge}
theorem qK{T e n c:Nat}{x y:Operand}{H0:Hp}{rs:List (List D)}{r:List D}{z:D}[ht:aQ X.P T e][q:bU X.P e n][s:js X.P e c][t:gg X.P e z](f:Nat.blt d X.n=true)
  (g:bj sl x=some (.m (fP H0.length rs))) (h:bj sl y=some (.m (.d (.sl [r])))) (m:Nat.blt 0 n=true) (i:(bf z).length=n) (j:r.length=n) (l:(rs.length+1)*c<=140737488355328) (o:rs.length+1<=140737488355328)
  (k:TL X ops rest ⟨(d,.m (fP H0.length (rs++ [r])))::sl,bx,dB H0 n (rs++ [r])⟩ post):
  TL X ops (⟨some d,.call ⟨.builtin .append,#[x,y],#[T,T]⟩,ty,pos,af,none⟩::rest) ⟨sl,bx,dB H0 n rs⟩ post:=by
 cases rs with
 |nil=>exact iB true f g h m i (by simp) (by intro a b;rw[aqp]at b;rw[b];exact j) (by simpa using l) k
 |cons a rs=>
  refine fC (acc:=true) (cs:=aX (a::rs)) f g h (by simp[dB]) i (by intro a b;rw[aqp]at b;rw[b];exact j) (by simpa using l) (by simpa using o) ?_;have e:(dB H0 n (a::rs)).set H0.length (.row true n (rs.length+1) (aX (a::rs)++aX [r]))=dB H0 n (a::rs++ [r]):=by simp[dB,aX]
  have p:M.bB H0.length (rs.length+1) (rs.length+1+1)=fP H0.length (a::rs++ [r]):=by simp[fP]
  rw[<-e,<-p]at k;exact k
theorem eb{H:Hp}{f:Nat}{a:List Operand}{ms:List M}(b:Nat.blt d X.n=true)(c:fG sl a=some ms)(k:TL X ops rest ⟨(d,.m (.fn f ms))::sl,bx,H⟩ post):
  TL X ops (⟨some d,.makeFunc (.func f) #[] a.toArray,ty,pos,af,none⟩::rest) ⟨sl,bx,H⟩ post:=
 No W W b (th (by rw[mP];exact c)) k
theorem F9{H H':Hp}{x:Operand}{f:Nat}{a:List M}{args:List Operand}{O_:Array Nat}{ms:List M}{r:M}[hf:br X.P f](h:CT X.P f (ms++a) H λc b=>c=r/\b=H')(e:Nat.blt d X.n=true)(g:bj sl x=some (.m (.fn f a)))(i:fG sl args=some ms)
  (k:TL X ops rest ⟨(d,.m r)::sl,bx,H'⟩ post):TL X ops (⟨some d,.call ⟨.value x,args.toArray,O_⟩,ty,pos,af,none⟩::rest) ⟨sl,bx,H⟩ post:=
 No W W e (xB (v_ (by exact g) (by rw[mP];exact i)) h) k
end
theorem mQ{x:List D}{n:Nat}(h:x.length=n): ∀r∈ [x],r.length=n:=by intro r a;rw[aqp]at a;rw[a];exact h
theorem po{a b:Nat}(h:Nat.ble a b=true):a<=b:=aq5 h
theorem TC.KJ{X:bD}{st:St}{post:Exit->St->Prop}{x y:Code}(d:St)(f:TC X x st (after post λs=> ∀a b,Inv X s a b->Inv X d a b))(g:TC X y d post):TC X x st (after post λs=>TC X y s post):=
 f.mono λe s c=>by
  cases e with
  |normal=>exactλa b h=>g a b (c a b h)
  |_=>exact c
section ops
variable{X:bD}{st:St}{dst:Option Nat}{ty:Nat}{pos:String}{af:Array Edge}{g:Option (Nat×Bool)}
end ops
section rules
variable{X:bD}{ops:Array Oper}{rest:List Oper}{post:St->Prop}{sl:List (Nat×V)}{bx:List (Nat×List M)}{H:Hp}{d ty:Nat}{pos:String}{af:Array Edge}
end rules
def DT(P:Program)(f:Nat)(ms:List M)(H:Hp)(post:M->Hp->Prop):Prop:= ∃r K,post r K/\CT P f ms H λr' K'=>r'=r/\K'=K
def DC(P:Program)(n B:Nat)(c:Code)(st:St)(post:Exit->St->Prop):Prop:=
 ∃e s,post e s/\ ∀s0 Oo,s0.H.length<=B->TC ⟨P,n,s0,Oo,[]⟩ c st λe' s'=>e'=e/\s'=s
theorem DT.mono{P:Program}{f:Nat}{ms:List M}{H:Hp}{p q:M->Hp->Prop}(h:DT P f ms H p)(k: ∀a b,p a b->q a b):DT P f ms H q:=by
 obtain⟨a,b,c,d⟩:=h;exact⟨a,b,k _ _ c,d⟩
theorem DT.ct{P:Program}{f:Nat}{ms:List M}{H:Hp}{p:M->Hp->Prop}(h:DT P f ms H p):CT P f ms H p:=by
 obtain⟨e,g,c,d⟩:=h;exact d.mono λ_ _ ⟨a,b⟩=>by subst a;subst b;exact c
section
variable{P:Program}{n B:Nat}{st:St}{post:Exit->St->Prop}
theorem DC.mono{c:Code}{q:Exit->St->Prop}(h:DC P n B c st post)(k: ∀e a,post e a->q e a):DC P n B c st q:=by
 obtain⟨e,a,b,d⟩:=h;exact⟨e,a,k _ _ b,d⟩
theorem DC.seq{x y:Code}(h:DC P n B x st (after post λf=>DC P n B y f post)):DC P n B (.seq x y) st post:=by
 obtain⟨e,f,i,j⟩:=h;cases e with
 |normal=>
  obtain⟨k,l,m,o⟩:=i;exact⟨k,l,m,λa c d=>TC.seq ((j a c d).mono λp q ⟨g,b⟩=>by subst g;subst b;exact o a c d)⟩
 |_=>exact⟨_,f,i,λa c d=>TC.seq ((j a c d).mono λp q ⟨g,b⟩=>by subst g;subst b;exact⟨rfl,rfl⟩)⟩
theorem DC.skip(h:post .normal st):DC P n B .skip st post:=⟨_,_,h,λ_ _ _=>TC.skip ⟨rfl,rfl⟩⟩
theorem DC.exit{a:Nat}(h:post (.exit a) st):DC P n B (.exit a) st post:=⟨_,_,h,λ_ _ _=>TC.exit ⟨rfl,rfl⟩⟩
theorem DC.ret(h:post .ret st):DC P n B .ret st post:=⟨_,_,h,λ_ _ _=>TC.ret ⟨rfl,rfl⟩⟩
theorem DC.block{d:Nat}{c:Code}(h:DC P n B c st (rK d post)):DC P n B (.block d c) st post:=by
 obtain⟨e,l,a,o⟩:=h;by_cases g:e= .exit d
 ·subst g;simp only[rK,arR]at a;refine⟨.normal,l,a,λi j k=>TC.block ((o i j k).mono λp q ⟨f,b⟩=> ?_)⟩;subst f;subst b;simp[rK]
 ·refine⟨e,l,?_,λi j k=>TC.block ((o i j k).mono λp q ⟨f,b⟩=> ?_)⟩
  ·cases e with
   |exit m=>simp only[rK]at a;rw[aqo (by rintro rfl;exact g W)]at a;exact a
   |_=>exact a
  ·subst f;subst b;cases p with
   |exit m=>show(if m=d then _ else _);rw[aqo (by rintro rfl;exact g W)];exact⟨rfl,rfl⟩
   |_=>exact⟨rfl,rfl⟩
theorem DC.cond{c:Operand}{x y:Code}{b:Bool}(k:st.ev c=some (.m (.d (.bool b))))(ht:b=true->DC P n B x st post)(hf:b=false->DC P n B y st post):DC P n B (.cond c x y) st post:=by
 cases b with
 |true=>
  obtain⟨e,a,f,g⟩:=ht W;exact⟨e,a,f,λh i j=>TC.cond k (λ_=>g h i j) (λd=>by cases d)⟩
 |false=>
  obtain⟨e,a,f,g⟩:=hf W;exact⟨e,a,f,λh i j=>TC.cond k (λd=>by cases d) (λ_=>g h i j)⟩
theorem DC.region{e:Nat}{ops:List Oper}(h: ∃b,(∀c d,TL ⟨P,n,c,d,[]⟩ ops.toArray ops st λa=>a=b)/\post .normal b):DC P n B (.region e ops.toArray false) st post:=by
 obtain⟨b,f,g⟩:=h;refine⟨.normal,b,g,λc d _=>TC.region ?_⟩;show TL _ _ _ _ (λa=>Exit.normal=Exit.normal/\a=b);rw[show(λa:St=>Exit.normal=Exit.normal/\a=b)=(λa=>a=b)from funext λa=>by simp];exact f c d
theorem DC.draw{f:Nat}{ops:List Oper}(g:P.follows .mixedOrders=true)(h: ∃a,(∀b c,TF ⟨P,n,b,c,[]⟩ ops.toArray ops st λd e=>gj ops st.sl d=true/\e=a)/\post .normal a):DC P n B (.region f ops.toArray true) st post:=by
 obtain⟨a,i,j⟩:=h;refine⟨.normal,a,j,λb c _=>TC.draw g ?_⟩;obtain⟨d,e,k,l,m⟩:=i b c;exact⟨d,e,k,l,rfl,m⟩
theorem Mz{a:Nat}{ops:List Oper}{s:St}(b:P.follows .mixedOrders=true)(c: ∀d e,TF ⟨P,n,d,e,[]⟩ ops.toArray ops st λf g=>gj ops st.sl f=true/\g=s)(h:post .normal s):DC P n B (.region a ops.toArray true) st post:=DC.draw b ⟨s,c,h⟩
theorem Oj{c:Code}(g:St)(j: ∀a f,a.H.length<=B-> ∀b d,Inv ⟨P,n,a,f,[]⟩ st b d->Inv ⟨P,n,a,f,[]⟩ g b d)(k:DC P n B c g post):DC P n B c st post:=by
 obtain⟨e,i,l,m⟩:=k;exact⟨e,i,l,λa f h b d o=>m a f h b d (j a f h b d o)⟩
inductive qL(P:Program)(n B:Nat)(c:Code):Nat->St->Exit->St->Prop where
 |stop {s s1:St} {e:Exit} (he:e≠ .normal) (h: ∀s0 Oo,s0.H.length<=B->TC ⟨P,n,s0,Oo,[]⟩ c s λe' s'=>e'=e/\s'=s1):qL P n B c 0 s e s1
 |more {k:Nat} {s s1 s2 sE:St} {e:Exit} (h: ∀s0 Oo,s0.H.length<=B->TC ⟨P,n,s0,Oo,[]⟩ c s λe' s'=>e'= .normal/\s'=s1)
   (hw: ∀s0 Oo,s0.H.length<=B-> ∀a w,Inv ⟨P,n,s0,Oo,[]⟩ s1 a w->Inv ⟨P,n,s0,Oo,[]⟩ s2 a w) (hk:qL P n B c k s2 e sE):qL P n B c (k+1) s e sE
theorem qL.ne{c:Code}{k:Nat}{s:St}{e:Exit}{a:St}(h:qL P n B c k s e a):e≠ .normal:=by
 induction h with
 |stop b _=>exact b
 |more _ _ _ d=>exact d
theorem qL.run{c:Code}{k:Nat}{s:St}{e:Exit}{i:St}(h:qL P n B c k s e i)(a:Sg)(d:Nat->Nat->Prop)(j:a.H.length<=B):TC ⟨P,n,a,d,[]⟩ (.loop c) s λf l=>f=e/\l=i:=by
 have r:=h.ne;refine TC.Ht (λk s=>qL P n B c k s e i) k s h (λ_ _ m=>m) ?_;intro k s o;cases o with
 |stop p h=>
  refine(h a d j).mono λf l ⟨g,b⟩=> ?_
  subst g;subst b;cases f with
  |normal=>exact absurd W p
  |_=>exact⟨rfl,rfl⟩
 |more h q k=>
  refine(h a d j).mono λf l ⟨g,b⟩=> ?_
  subst g;subst b;exact⟨_,_,Nat.lt_succ_self _,k,q a d j⟩
def xK(P:Program)(n B:Nat)(I:Nat->St->Prop)(k:Nat)(s:St):Prop:=
 ∃k' Tw,k'<k/\I k' Tw/\ ∀s0 Oo,s0.H.length<=B-> ∀a w,Inv ⟨P,n,s0,Oo,[]⟩ s a w->Inv ⟨P,n,s0,Oo,[]⟩ Tw a w
theorem DC.KK{c:Code}(f:Nat->St->Prop)(i:Nat)(j:f i st)(C: ∀a b,f a b->DC P n B c b (after post λk=>xK P n B f a k)):DC P n B (.loop c) st post:=by
 have A: ∀a b,f a b-> ∃m e d,qL P n B c m b e d/\post e d:=by
  intro a
  induction a using Nat.strongRecOn with
  |ind a l=>
   intro b o;obtain⟨e,p,g,h⟩:=C a b o;cases e with
   |normal=>
    obtain⟨q,r,s,t,u⟩:=g;obtain⟨m,e,d,v,w⟩:=l q s r t;exact⟨m+1,e,d,.more h u v,w⟩
   |_=>exact⟨0,_,p,.stop (by simp) h,g⟩
 obtain⟨m,e,d,g,h⟩:=A i st j;exact⟨e,d,h,λx y z=>g.run x y z⟩
theorem DC.loop{c:Code}{sl:List (Nat×V)}{bx:List (Nat×List M)}{H:Hp}(a:Nat->St->Prop)(e:Nat)(Na:List (Nat×V))(f:a e ⟨Na,bx,H⟩)(g:keeps sl Na)
  (j: ∀b d,a b d->DC P n B c d (after post λh=>xK P n B a b h)):DC P n B (.loop c) ⟨sl,bx,H⟩ post:=
 Oj ⟨Na,bx,H⟩ (λ_ _ _ k l i=>i.nK (gJ g) λ_=>rfl) (DC.KK a e f j)
theorem bE{a:Nat->St->Prop}{k k':Nat}{sl Na:List (Nat×V)}{bx:List (Nat×List M)}{H H':Hp}(b:k'<k)(c:a k' ⟨Na,bx,H'⟩)(d:H=H')(e:keeps sl Na):xK P n B a k ⟨sl,bx,H⟩:=
 ⟨k',_,b,c,λ_ _ _ _ _ f=>by subst d;exact f.nK (gJ e) (λ_=>rfl)⟩
theorem MG{c:Code}(Na:List (Nat×V))(H':Hp){sl:List (Nat×V)}{bx:List (Nat×List M)}{H:Hp}(a:keeps sl Na)(b:H=H')(k:DC P n B c ⟨Na,bx,H'⟩ post):DC P n B c ⟨sl,bx,H⟩ post:=by
 subst b;exact Oj _ (λ_ _ _ e f d=>d.nK (gJ a) λ_=>rfl) k
theorem DC.uC{c:Code}(Na:List (Nat×V))(Ns:List (Nat×List M))(H':Hp){sl:List (Nat×V)}{bx:List (Nat×List M)}{H:Hp}(b:keeps sl Na)(f: ∀a,get Ns a=get bx a)(d:H=H')(k:DC P n B c ⟨Na,Ns,H'⟩ post):DC P n B c ⟨sl,bx,H⟩ post:=by
 subst d;exact Oj _ (λ_ _ _ g h e=>e.nK (gJ b) f) k
theorem DC.b9(t:Nat){c:Code}{m:M}{x:D}{sl:List (Nat×V)}{bx:List (Nat×List M)}{H:Hp}(a:get sl t=some (.m m))(b:iI H m=some x)(k:DC P n B c ⟨(t,.m (.d x))::sl,bx,H⟩ post):DC P n B c ⟨sl,bx,H⟩ post:=
 Oj _ (λ_ _ _ e f d=>d.b9 a b) k
theorem DC.jd(t:Nat){c:Code}{cs MY:List M}{sl:List (Nat×V)}{bx:List (Nat×List M)}{H:Hp}(a:get bx t=some cs)(b:h_ H cs=some MY)(k:DC P n B c ⟨sl,(t,MY)::bx,H⟩ post):DC P n B c ⟨sl,bx,H⟩ post:=
 Oj _ (λ_ _ _ e f d=>d.jd a b) k
theorem DC.KJ{x y:Code}(f:St)(h:DC P n B x st (after post λs=> ∀a g,a.H.length<=B-> ∀b c,Inv ⟨P,n,a,g,[]⟩ s b c->Inv ⟨P,n,a,g,[]⟩ f b c))(i:DC P n B y f post):DC P n B x st (after post λs=>DC P n B y s post):=
 h.mono λe s d=>by
  cases e with
  |normal=>exact Oj _ d i
  |_=>exact d
theorem cF{sl Na:List (Nat×V)}{bx:List (Nat×List M)}{H H':Hp}(d:H=H')(e:keeps sl Na): ∀b c,b.H.length<=B-> ∀a w,Inv ⟨P,n,b,c,[]⟩ ⟨sl,bx,H⟩ a w->Inv ⟨P,n,b,c,[]⟩ ⟨Na,bx,H'⟩ a w:=
 λ_ _ _ _ _ f=>by subst d;exact f.nK (gJ e) (λ_=>rfl)
end
theorem DT.uq{P:Program}{f:Nat}{fn:Func}{c:Code}{ms:List M}{H:Hp}{post:M->Hp->Prop}(hf:P.funcs[f]?=some fn)(r:fn.body=some c)
  {n:Nat} (s:fn.ntmps=n) (t:Nat.ble ms.length n=true) (h:DC P n H.length c ⟨qv 0 ms,[],H⟩ (rN P fn post)):DT P f ms H post:=by
 obtain⟨e,a,j,u⟩:=h;have p: ∀m,lj P fn a=some m->(∀g,g=e-> ∀i,i=a->rN P fn (λk l=>k=m/\l=a.H) g i)->CT P f ms H λk l=>k=m/\l=a.H:= λm z v=>
  CT.uq hf r s t λw x=>TC.base λy=>(u w x y).mono λg i ⟨q,b⟩=>v g q i b
 cases e with
 |normal=>
  obtain⟨m,d,o⟩:=j;exact⟨m,a.H,o,p m d (by rintro _ rfl _ rfl;exact⟨m,d,rfl,rfl⟩)⟩
 |ret=>
  obtain⟨m,d,o⟩:=j;exact⟨m,a.H,o,p m d (by rintro _ rfl _ rfl;exact⟨m,d,rfl,rfl⟩)⟩
 |_=>exact j.elim
section
variable{X:bD}{ops:Array Oper}{rest:List Oper}{sl:List (Nat×V)}{bx:List (Nat×List M)}{H:Hp}{post:St->Prop}{d ty:Nat}{pos:String}{af:Array Edge}
theorem ap{f:Nat}{args:List Operand}{O_:Array Nat}{ms:List M}{r:M}{K:Hp}[hf:br X.P f](h:CT X.P f ms H λa b=>a=r/\b=K)(c:Nat.blt d X.n=true)(e:fG sl args=some ms)
  (k:TL X ops rest ⟨(d,.m r)::sl,bx,K⟩ post):TL X ops (⟨some d,.call ⟨.value (.func f),args.toArray,O_⟩,ty,pos,af,none⟩::rest) ⟨sl,bx,H⟩ post:=
 xg h c e (by rintro _ _ ⟨rfl,rfl⟩;exact k)
end
def Kg(P:Program)(t:Nat):Bool:=match P.underlying t with
 |some (.int .u8)=>true
 |_=>false
def HI(P:Program)(t:Nat):Bool:=match P.underlying t with
 |some .string=>true
 |_=>false
def LJ(P:Program)(t:Nat):Bool:=match P.underlying t with
 |some (.struct fs)=>match fs.toList with
  | [f1,f2]=> !decide (f1.name= "_")&& !decide (f2.name= "_")&&Nat.beq f1.offset 0&&Nat.beq f2.offset 1&&Kg P f1.type&&HI P f2.type&& !P.stoodInHeld t&& !P.eqGuardType P.depth t
  |_=>false
 |_=>false
class zK(P:Program)(t:Nat):Prop where
 b:LJ P t=true
theorem zK.u{P:Program}{t:Nat}(h:zK P t):(∃a b:Field,P.underlying t=some (.struct #[a,b])/\(a.name= "_")=False/\(b.name= "_")=False/\a.offset=0/\b.offset=1/\P.underlying a.type=some (.int .u8)/\P.underlying b.type=some .string)/\P.stoodInHeld t=false/\P.eqGuardType P.depth t=false:=by
 have c:=h.b;unfold LJ at c;split at c
 ·rename_i g i;split at c
  ·rename_i a b j;simp only[aqB,arn,asp]at c;obtain⟨⟨⟨⟨⟨⟨⟨k,l⟩,m⟩,n⟩,d⟩,f⟩,o⟩,p⟩:=c;have e:g= #[a,b]:=by rw[<-j]
   refine⟨⟨a,b,by rw[i,e],eq_false k,eq_false l,aqr m,aqr n,?_,?_⟩,o,p⟩
   ·unfold Kg at d;split at d
    ·assumption
    ·cases d
   ·unfold HI at f;split at f
    ·assumption
    ·cases f
  ·cases c
 ·cases c
theorem F_{P:Program}{w:World}{t:Nat}(h:zK P t)(f g:Int)(i j:ByteArray):
  (Op.equal t (.agg #[.int .u8 f,.string i]) (.agg #[.int .u8 g,.string j])).run P w= .ok (decide (f=g)&&decide (i=j)) w:=by
 obtain⟨⟨d,e,s,k,l,u,v,x,y⟩,z,F⟩:=h.u;have A:(underlying t).run P w= .ok (.struct #[d,e]) w:=by simp[underlying,program,Sem.run,s]
 have r:(underlying d.type).run P w= .ok (.int .u8) w:=by simp[underlying,program,Sem.run,x]
 have m:(underlying e.type).run P w= .ok .string w:=by simp[underlying,program,Sem.run,y]
 have B:(program).run P w= .ok P w:=by simp[program,Sem.run]
 have n: ∀a b:Int,(Op.equalIn 9999 d.type (.int .u8 a) (.int .u8 b)).run P w= .ok (decide (a=b)) w:=by
  intro a b;rw[Op.equalIn];simp[r];by_cases C:a=b<;>simp[C]
 have o: ∀a b:ByteArray,(Op.equalIn 9999 e.type (.string a) (.string b)).run P w= .ok (decide (a=b)) w:=by
  intro a b;rw[Op.equalIn];simp[m,Jd]
 have p: ∀a:Int,∀c:ByteArray,(part d.type #[.int .u8 a,.string c] d.offset).run P w= .ok (.int .u8 a) w:=by
  intro a c;simp[part,isAgg,r,u]
 have q: ∀a:Int,∀c:ByteArray,(part e.type #[.int .u8 a,.string c] e.offset).run P w= .ok (.string c) w:=by
  intro a c;simp[part,isAgg,m,v]
 simp only[Op.equal,Op.maxDepth];rw[Op.equalIn];simp[A,B,z,k,l,p,q,n,o];by_cases D:f=g<;>by_cases E:i=j<;>simp[D,E,p,q,n,o,k,l]
theorem E5{O:Nat->Nat->Prop}{w:World}{k:Int}{s:ByteArray}{v:Value}(h:gd O w (.agg [.int .u8 k,.str s]) v):v= .agg #[.int .u8 k,.string s]:=by
 cases h with
 |agg _ e f j a=>
  obtain⟨c⟩:=e
  match c,f with
  | [d,b],_=>
   have g:=a 0 _ d W W;have i:=a 1 _ b W W;cases g;cases i;rfl
section
variable{X:bD}{st:St}{dst:Option Nat}{ty:Nat}{pos:String}{af:Array Edge}{g:Option (Nat×Bool)}
theorem HJ{x y:Operand}{f i:Nat}{b c:Int}{d e:ByteArray}[ht:zK X.P f](j:st.ev x=some (.m (.d (.agg [.int .u8 b,.str d]))))(k:st.ev y=some (.m (.d (.agg [.int .u8 c,.str e])))):
  cE X ⟨dst,.binOp .eql f x y i,ty,pos,af,g⟩ st (c_ (.m (.d (.bool (decide (b=c)&&decide (d=e))))) st):=by
 refine MQ λp a q h=> ?_
 have l:=E5 (h.o9 j);have m:=E5 (h.o9 k);have n:(program).run X.P a.w= .ok X.P a.w:=by simp[program,Sem.run]
 have o:=F_ (w:=a.w) ht b c d e;exact⟨_,by simp[execOp,l,m,eqGuard,n,ht.u.2.2,binOp,o],.m (.d (.bool _))⟩
end
section
variable{X:bD}{ops:Array Oper}{rest:List Oper}{post:St->Prop}{sl:List (Nat×V)}{bx:List (Nat×List M)}{H:Hp}{d ty:Nat}{pos:String}{af:Array Edge}
theorem E6{x y:Operand}{a g:Nat}{b c:Int}{e f:ByteArray}[ht:zK X.P a](h:Nat.blt d X.n=true)(i:bj sl x=some (.m (.d (.agg [.int .u8 b,.str e]))))(j:bj sl y=some (.m (.d (.agg [.int .u8 c,.str f]))))
  (k:TL X ops rest ⟨(d,.m (.d (.bool (decide (b=c)&&decide (e=f)))))::sl,bx,H⟩ post):TL X ops (⟨some d,.binOp .eql a x y g,ty,pos,af,none⟩::rest) ⟨sl,bx,H⟩ post:=
 No W W h (HJ i j) k
end
theorem iT.nil{X:bD}{a:Hp->Prop}{ops:Array Oper}{st:St}{post:List Ef->St->Prop}(h:post [] st):iT X a ops [] st post:=⟨[],st,.nil st,h⟩
theorem iT.cons{X:bD}{a:Hp->Prop}{ops:Array Oper}{o:Oper}{rest:List Oper}{st:St}{e:Ef}{post:List Ef->St->Prop}(h:AY X a ops o e st)(d:e.d=o.dst)
  (k:iT X a ops rest (e.app st) λb c=>post (e::b) c):iT X a ops (o::rest) st post:=by
 obtain⟨b,f,g,i⟩:=k;exact⟨e::b,f,.cons h d g,i⟩
theorem MF{X:bD}{c:Hp->Prop}{ops:Array Oper}{o:Oper}{rest:List Oper}{st d:St}{e:Ef}{post:List Ef->St->Prop}(h:TF X ops [o] st λa b=>a= [e]/\b=d)
  (k:iT X c ops rest d λa b=>post (e::a) b):iT X c ops (o::rest) st post:=by
 obtain⟨a,m,f,rfl,rfl⟩:=h;cases f with
 |cons h g i=>
  cases i;exact iT.cons (λj l _=>h j l) g k
theorem MK{X:bD}{a:Hp->Prop}{ops:Array Oper}{rest:List Oper}{sl:List (Nat×V)}{bx:List (Nat×List M)}{H:Hp}{post:List Ef->St->Prop}{d ty:Nat}{pos:String}{af:Array Edge}{T:Nat}{x:Operand}{i off:Nat}{m:M}[ht:cj X.P T](f:Nat.blt d X.n=true)
  (g:bj sl x=some (.m (.ref i off))) (h: ∀H,a H-> ∃b,H[i]?=some (.box b)/\b[off]?=some m) (k:iT X a ops rest ⟨(d,.m m)::sl,bx,H⟩ λj c=>post (⟨some d,.m m,[],[],none,false,none⟩::j) c):
  iT X a ops (⟨some d,.load T x,ty,pos,af,none⟩::rest) ⟨sl,bx,H⟩ post:=by
 refine iT.cons (e:=⟨some d,.m m,[],[],none,false,none⟩) (λl n o=> ?_) W k;obtain⟨b,p,q⟩:=h _ o;have r:=(n.ev (x:=x) (by simp[Op.operands])).trans g;exact(lk (X:=X) (st:=l) (dst:=some d) r p (by simp[gu,ht.cell,q])).FU W W (bL f)
def xL(I:Hp->Prop):List Ef->Prop
 | []=>True
 |e::r=>(match e.wh with|none=>True|some h=>I h)/\xL I r
theorem xL.mem{b:Hp->Prop} : ∀{es:List Ef},xL b es-> ∀e∈es,∀h,e.wh=some h->b h
 | [],_,e,a,_,_=>by cases a
 |g::i,⟨c,f⟩,e,a,h,d=>by
  rcases aqs.1 a with rfl|a
  ·rw[d]at c;exact c
  ·exact xL.mem f e a h d
theorem TC.DW{X:bD}{d:Nat}{ops:List Oper}{st:St}{post:Exit->St->Prop}(a:Hp->Prop)(f:a st.H)(g:X.P.follows .mixedOrders=true)
  (h:iT X a ops.toArray ops st λb c=>gj ops st.sl b=true/\(∀e∈b,∀h,e.wh=some h->a h)/\post .normal c):TC X (.region d ops.toArray true) st post:=by
 obtain⟨b,c,i,j,k,l⟩:=h;exact TC.DF a f g ⟨b,c,i,j,.all k,l⟩
section
variable{P:Program}{n B:Nat}{st:St}{post:Exit->St->Prop}
theorem DC.DW{f:Nat}{ops:List Oper}{s:St}(a:Hp->Prop)(g:a st.H)(h:P.follows .mixedOrders=true)(i: ∀c d,iT ⟨P,n,c,d,[]⟩ a ops.toArray ops st λb e=>gj ops st.sl b=true/\xL a b/\e=s)(j:post .normal s):DC P n B (.region f ops.toArray true) st post:=by
 refine⟨.normal,s,j,λc d _=>TC.DW a g h ?_⟩;obtain⟨b,e,k,l,m,o⟩:=i c d;exact⟨b,e,k,l,m.mem,rfl,o⟩
end
theorem CT.HK{P:Program}{f:Nat}{m:M}{d:D}{rest:List M}{H:Hp}{post:M->Hp->Prop}(l:iI H m=some d)(h:CT P f (.d d::rest) H post):CT P f (m::rest) H post:=by
 intro j n o e g b;refine h j n o e g ⟨b.1,λa k v c i=> ?_⟩;cases a with
 |zero=>
  simp at c;subst c;exact RM.view e (b.2 0 m v W i) (by rw[g];exact l)
 |succ a=>exact b.2 (a+1) k v c i
def ie(m:M)(H:Hp)(rows:List (List D)):M:=match m with
 | .bB i aG len=> .bB i (aG+1) (len+rows.length)
 |_=>vo H rows
def fW(n:Nat)(m:M)(H:Hp)(rows:List (List D)):Hp:=match m with
 | .bB i aG len=>match H[i]? with
  |some (.row a _ _ cs)=>H.set i (.row a n (aG+1) (cs++aX rows))
  |_=>H
 |_=>kW H n rows
theorem gL(m:M)(H:Hp)(rows:List (List D)):gR (ie m H rows)=some [ie m H rows]:=by
 cases m<;>cases rows<;>rfl
section
variable{X:bD}{ops:Array Oper}{rest:List Oper}{sl:List (Nat×V)}{bx:List (Nat×List M)}{H:Hp}{post:St->Prop}{M6:List Ef->St->Prop}{d ty:Nat}{pos:String}{af:Array Edge}
theorem mg{T e n a i:Nat}{x y:Operand}{m:M}{rs rows:List (List D)}{z:D}[ht:aQ X.P T e][s:bU X.P e n][t:js X.P e a][u:gg X.P e z](p:Acc n i rs m H)(b:Nat.blt d X.n=true)(c:bj sl x=some (.m m))(f:bj sl y=some (.m (.d (.sl rows))))
  (q:Nat.blt 0 n=true) (g:(bf z).length=n) (h: ∀o∈rows,o.length=n) (j:(rs.length+rows.length)*a<=140737488355328) (r:rs.length+rows.length<=140737488355328)
  (k:TL X ops rest ⟨(d,.m (ie m H rows))::sl,bx,fW n m H rows⟩ post):TL X ops (⟨some d,.call ⟨.builtin .append,#[x,y],#[T,T]⟩,ty,pos,af,none⟩::rest) ⟨sl,bx,H⟩ post:=by
 rcases p with⟨rfl,rfl⟩|⟨v,w,rfl,l⟩
 ·exact EZ b c f q g h (by simpa using j) k
 ·refine fC b c f l g h j r ?_;simp only[ie,fW,l]at k;exact k
theorem A9{T e n a i:Nat}{x y:Operand}{m:M}{rs:List (List D)}{r:List D}{z:D}[ht:aQ X.P T e][u:bU X.P e n][v:js X.P e a][w:gg X.P e z](o:Acc n i rs m H)(b:Nat.blt d X.n=true)(c:bj sl x=some (.m m))(f:bj sl y=some (.m (.d (.sl [r]))))
  (p:Nat.blt 0 n=true) (g:(bf z).length=n) (h:r.length=n) (j:(rs.length+1)*a<=140737488355328) (q:rs.length+1<=140737488355328)
  (k:TF X ops rest ⟨(d,.m (ie m H [r]))::sl,bx,fW n m H [r]⟩ λs t=>M6 (⟨some d,.m (ie m H [r]),[],[],none,true,some (fW n m H [r])⟩::s) t):TF X ops (⟨some d,.call ⟨.builtin .append,#[x,y],#[T,T]⟩,ty,pos,af,none⟩::rest) ⟨sl,bx,H⟩ M6:=by
 rcases o with⟨rfl,rfl⟩|⟨A,B,rfl,l⟩
 ·exact xz true b c f p g (by simp) (mQ h) (by simpa using j) k
 ·refine xA b c f l g (mQ h) j q ?_;simp only[ie,fW,l]at k;exact k
theorem ig{T e n len:Nat}{parts:List (Nat×Operand)}{z:D}{ms:List (Nat×M)}{cs:List M}[ht:aQ X.P T e][i:bU X.P e n][j:gg X.P e z](b:Nat.blt d X.n=true)(c:Nat.blt 0 n=true)(f:(bf z).length=n)
  (h:Nat.ble (len*n) 16777216=true) (g:gH sl parts=some ms) (hf:fN (λa=>some (a*n,n)) (d_ n len (bf z)) ms=some cs)
  (k:TL X ops rest ⟨(d,.m (.bB H.length 0 len))::sl,bx,H++ [.row false n 0 cs]⟩ post):TL X ops (⟨some d,.buildSlice T len parts.toArray,ty,pos,af,none⟩::rest) ⟨sl,bx,H⟩ post:=
 No W W b (nt c f h (by rw[hJ];exact g) hf (.inl ⟨rfl,rfl⟩)) k
def A_(rows:List (List D)):D:=match rows with
 | []=> .o8
 |r=> .sl r
theorem Ga(rows:List (List D)):oB (A_ rows)=some rows.length:=by cases rows<;>rfl
theorem DX{t e n h:Nat}{x y:Operand}{rows:List (List D)}{c:IntKind}[ht:aQ X.P t e][s:bU X.P e n](f:Nat.blt d X.n=true)(i:bj sl x=some (.m (.d (.sl rows))))(j:bj sl y=some (.m (.d (.int c ((h:Nat):Int)))))(m:rows≠ [])(q:h<=rows.length)(o: ∀a∈rows,a.length=n)
  (k:TL X ops rest ⟨(d,.m (.d (A_ (rows.drop h))))::sl,bx,H⟩ post):TL X ops (⟨some d,.slice t x (some y) none none,ty,pos,af,none⟩::rest) ⟨sl,bx,H⟩ post:=by
 refine No (v:= .m (.d (A_ (rows.drop h)))) (Na:=sl) (Ns:=bx) (H':=H) W W f ?_ k;have this:=tJ (X:=X) (st:=⟨sl,bx,H⟩) (dst:=some d) (ty:=ty) (pos:=pos) (af:=af) (g:=none) (t:=t) (lo:=some y) (hi:=none) (l:=some h) (h:=none) i (by simp only[tI,St.ev,j]) W m q (aqd _) o;have p:(rows.drop ((some h).getD 0)).take (((none:Option Nat).getD rows.length)-(some h).getD 0)=rows.drop h:=by
  show(rows.drop h).take (rows.length-h)=rows.drop h;exact arj (by simp)
 rw[p]at this;cases b:rows.drop h with
 |nil=>rw[b]at this;exact this
 |cons r a=>rw[b]at this;exact this
theorem xM{t e n h:Nat}{x y:Operand}{rows:List (List D)}{m:IntKind}[ht:aQ X.P t e][C:bU X.P e n](o:Nat.blt d X.n=true)(p:bj sl x=some (.m (.d (.sl rows))))(q:bj sl y=some (.m (.d (.int m ((h:Nat):Int)))))(b:rows≠ [])(E:0<h)(A:h<=rows.length)(r: ∀a∈rows,a.length=n)
  (k:TF X ops rest ⟨(d,.m (.d (.sl (rows.take h))))::sl,bx,H⟩ λs u=>M6 (⟨some d,.m (.d (.sl (rows.take h))),[],[],none,false,none⟩::s) u):TF X ops (⟨some d,.slice t x none (some y) none,ty,pos,af,none⟩::rest) ⟨sl,bx,H⟩ M6:=by
 refine TF.cons (e:=⟨some d,.m (.d (.sl (rows.take h))),[],[],none,false,none⟩) (M2 W W (bL o) λv c=> ?_) W k;have w:=(c.ev (x:=x) (by simp[Op.operands])).trans p;have B:=(c.ev (x:=y) (by simp[Op.operands])).trans q;have this:=tJ (X:=X) (st:=v) (dst:=some d) (ty:=ty) (pos:=pos) (af:=af) (g:=none) (t:=t) (lo:=none) (hi:=some y) (l:=none) (h:=some h) w W (by simp only[tI,B]) b (aqY _) A r;have z:(rows.drop ((none:Option Nat).getD 0)).take (((some h:Option Nat).getD rows.length)-(none:Option Nat).getD 0)=rows.take h:=by simp
 rw[z]at this;cases f:rows.take h with
 |nil=>
  cases rows with
  |nil=>exact absurd W b
  |cons j a=>obtain⟨i,rfl⟩: ∃i,h=i+1:=⟨h-1,by omega⟩;simp at f
 |cons j a=>rw[f]at this;exact this
end
theorem tm{H:Hp}{i:Nat}{ob:Ob}(h:H[i]?=some ob):i<H.length:=by
 rcases aqh i H.length with a|a
 ·exact a
 ·simp[aqj a]at h
theorem Acc.other{n i:Nat}{rs:List (List D)}{m:M}{H H':Hp}(h:Acc n i rs m H)(b: ∀a,H[i]?=some a->H'[i]?=some a):Acc n i rs m H':=by
 rcases h with h|⟨c,d,e,f⟩
 ·exact .inl h
 ·exact .inr ⟨c,d,e,b _ f⟩
theorem Acc.any{n i j:Nat}{m:M}{H H':Hp}(h:Acc n i [] m H):Acc n j [] m H':=by
 rcases h with h|⟨a,_⟩
 ·exact .inl h
 ·exact absurd W a
theorem Acc.lt{n i:Nat}{rs:List (List D)}{m:M}{H:Hp}(h:Acc n i rs m H)(a:rs≠ []):i<H.length:=by
 rcases h with⟨h,_⟩|⟨_,c,_,b⟩
 ·exact absurd h a
 ·exact tm b
namespace dV
def wg(L:Nat):Rh->Rh
 | .no=> .no
 | .ix l=> .ix (l.map (L+ ·))
 | .all=> .all
def sh(L:Nat)(e:Ef):Ef:=⟨e.d,e.v,e.rb,e.wb,e.nw,wg L e.rh,e.wh.map λp=>(L+p.1,p.2),e.tl⟩
theorem E7(L a:Nat)(l:List Nat):has (l.map (L+ ·)) (L+a)=has l a:=by
 rw[asy,fw,fw];simp
theorem Cg(L a b:Nat):Nat.blt (L+a) (L+b)=Nat.blt a b:=by
 rw[asy];simp only[Nat.blt_eq];omega
theorem zL(L:Nat)(e f:Ef):iA (sh L e) (sh L f)=iA e f:=by
 unfold iA sh;cases f.rh with
 |no=>rfl
 |ix a=>
  simp only[wg,List.any_map]
  congr 1
  funext b
  exact E7 L b.1 a
 |all=>
  simp only[wg,List.any_map]
  congr 2
theorem Gb(L:Nat)(ops:Array Oper)(x y:Oper)(e f:Ef):dw ops x y (sh L e) (sh L f)=dw ops x y e f:=by
 unfold dw;rw[zL,zL];rfl
theorem xN(L:Nat)(ops:Array Oper)(x:Oper)(e:Ef)(i:Nat): ∀(a:List Oper) (c:List Ef) (d:List (List Nat)),gY ops x (sh L e) i a (c.map (sh L)) d=gY ops x e i a c d
 | [],_,_=>rfl
 |_::_,[],_=>rfl
 |_::_,_::_,[]=>rfl
 |f::a,g::c,b::d=>by
  simp only[aqN,gY,Gb,xN L ops x e i a c d];rfl
theorem zM(L:Nat)(ops:Array Oper): ∀(i:Nat) (xs:List Oper) (es:List Ef) (a:List (List Nat)),jb ops i xs (es.map (sh L)) a=jb ops i xs es a
 |_,[],_,_=>rfl
 |_,_::_,[],_=>rfl
 |_,_::_,_::_,[]=>rfl
 |i,c::xs,e::es,b::a=>by
  simp only[aqN,jb,xN,zM L ops (i+1) xs es a]
theorem zO(L:Nat)(sl:List (Nat×V)): ∀es:List Ef,jc sl (es.map (sh L))=jc sl es
 | []=>rfl
 |e::es=>by
  simp only[aqN,jc,zO L sl es];rfl
theorem Jk(L m:Nat)(e:Ef):zf (L+m) (sh L e)=zf m e:=by
 unfold zf sh;cases e.rh with
 |no=>
  simp only[wg];cases e.wh<;>rfl
 |ix b=>
  simp only[wg,as7]
  congr 2
  ·congr 1
   funext a
   exact E7 L a.1 b
  ·congr 1
   funext c
   exact Cg L c m
 |all=>
  simp only[wg,as7]
  congr 1
  funext a
  exact Cg L a.1 m
theorem Ch(L m:Nat)(ops:List Oper)(sl:List (Nat×V))(es:List Ef):gj (L+m) ops sl (es.map (sh L))=gj m ops sl es:=by
 unfold gj;rw[zM,zO,as7]
 congr 2
 funext e
 exact Jk L m e
end dV
def TG(L m:Nat)(X:bD)(ops:Array Oper)(l:List Oper)(st:St)(post:List dV.Ef->St->Prop):Prop:=
 ∃es MJ,dV.pf (L+m) X ops l st (es.map (dV.sh L)) MJ/\post es MJ
section
variable{L m:Nat}{X:bD}{ops:Array Oper}
theorem TG.nil{st:St}{post:List dV.Ef->St->Prop}(h:post [] st):TG L m X ops [] st post:=⟨[],st,.nil st,h⟩
theorem TG.cons{o:Oper}{rest:List Oper}{st c:St}{e:dV.Ef}{post:List dV.Ef->St->Prop}(h:dV.kT (L+m) X ops o (dV.sh L e) st)(d:e.d=o.dst)(f:(dV.sh L e).app (L+m) st=c)
  (k:TG L m X ops rest c λb a=>post (e::b) a):TG L m X ops (o::rest) st post:=by
 obtain⟨b,a,g,i⟩:=k;exact⟨e::b,a,.cons h d (f▸g),i⟩
variable{rest:List Oper}{sl:List (Nat×V)}{bx:List (Nat×List M)}{H:Hp}{post:List dV.Ef->St->Prop}{d ty:Nat}{pos:String}{af:Array Edge}
theorem getD_some{H:Hp}{i:Nat}{ob:Ob}(h:H.getD i .dead=ob)(b:ob≠ .dead):H[i]?=some ob:=by
 rw[arJ]at h;cases a:H[i]? with
 |none=>rw[a]at h;exact absurd h.symm b
 |some v=>rw[a]at h;simp at h;rw[h]
theorem xO{H:Hp}{i:Nat}{ob:Ob}(h:H[i]?=some ob):H.getD i .dead=ob:=by
 rw[arJ,h];rfl
theorem TG.quiet{o:Oper}{v:V}{rh:dV.Rh}(l:L+m<=H.length)(f:o.guard=none)(c:o.dst=some d)(g:Nat.blt d X.n=true)
  (h: ∀a,dV.Ag (L+m) ops o ⟨some d,v,[],[],none,dV.wg L rh,[],none⟩ ⟨sl,bx,H⟩ a->cE X o a (c_ v a))
  (k:TG L m X ops rest ⟨(d,v)::sl,bx,H⟩ λi j=>post (⟨some d,v,[],[],none,rh,[],none⟩::i) j):TG L m X ops (o::rest) ⟨sl,bx,H⟩ post:=by
 refine TG.cons (e:=⟨some d,v,[],[],none,rh,[],none⟩) (λa b=> ?_) c.symm (Ce (st:=⟨sl,bx,H⟩) l) k;rw[show dV.sh L ⟨some d,v,[],[],none,rh,[],none⟩=⟨some d,v,[],[],none,dV.wg L rh,[],none⟩from rfl]at b⊢;rw[Ce b.len];exact(h a b).FU f c (bL g)
theorem Jl{x:Operand}{v:V}(g:L+m<=H.length)(a:Nat.blt d X.n=true)(b:bj sl x=some v)(k:TG L m X ops rest ⟨(d,v)::sl,bx,H⟩ λc e=>post (⟨some d,v,[],[],none,.no,[],none⟩::c) e):
  TG L m X ops (⟨some d,.move x,ty,pos,af,none⟩::rest) ⟨sl,bx,H⟩ post:=
 TG.quiet g W W a (λh f=>BV ((Q0 f (x:=x) (by simp[Op.operands,Call.operands])).trans b)) k
theorem Ci{x:Operand}{v:V}(h:L+m<=H.length)(a:Nat.blt d X.n=true)(b:bj sl x=some v)(c:tA v=true)(k:TG L m X ops rest ⟨(d,v)::sl,bx,H⟩ λe f=>post (⟨some d,v,[],[],none,.no,[],none⟩::e) f):
  TG L m X ops (⟨some d,.nilCheck x,ty,pos,af,none⟩::rest) ⟨sl,bx,H⟩ post:=
 TG.quiet h W W a (λi g=>um ((Q0 g (x:=x) (by simp[Op.operands,Call.operands])).trans b) c) k
theorem Gc{s f:Nat}{x:Operand}{i off o:Nat}[hf:i_ X.P s f o](h:L+m<=H.length)(a:Nat.blt d X.n=true)(b:bj sl x=some (.m (.ref i off)))(k:TG L m X ops rest ⟨(d,(.m (.ref i (off+o))))::sl,bx,H⟩ λc e=>post (⟨some d,(.m (.ref i (off+o))),[],[],none,.no,[],none⟩::c) e):
  TG L m X ops (⟨some d,.fieldAddr s x f,ty,pos,af,none⟩::rest) ⟨sl,bx,H⟩ post:=
 TG.quiet h W W a (λj g=>w5 ((Q0 g (x:=x) (by simp[Op.operands,Call.operands])).trans b)) k
theorem Gd{T:Nat}{x:Operand}{i off:Nat}{cs:List M}{a:M}[ht:cj X.P T](l:L+m<=H.length)(c:Nat.blt d X.n=true)(e:bj sl x=some (.m (.ref (L+i) off)))(f:H[L+i]?=some (.box cs))(g:cs[off]?=some a)(k:TG L m X ops rest ⟨(d,(.m a))::sl,bx,H⟩ λh j=>post (⟨some d,(.m a),[],[],none,.ix [i],[],none⟩::h) j):
  TG L m X ops (⟨some d,.load T x,ty,pos,af,none⟩::rest) ⟨sl,bx,H⟩ post:=
 TG.quiet (rh:= .ix [i]) l W W c (λn b=>lk ((Q0 b (x:=x) (by simp[Op.operands,Call.operands])).trans e) (getD_some ((b.ix [L+i] W (L+i) (by simp)).trans (xO f)) (by simp)) (by simp[gu,ht.cell,g])) k
theorem Ba{T e n b len i:Nat}{x y:Operand}{f h:IntKind}{z:D}[ht:aQ X.P T e][C:bU X.P e n][E:js X.P e b][F:gg X.P e z](B:L+m<=H.length)(hi:i<m)(j:Nat.blt d X.n=true)(l:Nat.blt 0 n=true)(o:(bf z).length=n)
  (p:bj sl x=some (.m (.d (.int f len)))) (q:bj sl y=some (.m (.d (.int h len)))) (r:len*b<=140737488355328) (s:len<=140737488355328) (t:H[L+i]?=some .free)
  (k:TG L m X ops rest ⟨(d,.m (.bB (L+i) 0 len))::sl,bx,H.set (L+i) (.row false n 0 (d_ n len (bf z)))⟩ λu v=>post (⟨some d,.m (.bB (L+i) 0 len),[],[],none,.ix [i],[(i,.row false n 0 (d_ n len (bf z)))],none⟩::u) v):
  TG L m X ops (⟨some d,.makeSlice T x y,ty,pos,af,none⟩::rest) ⟨sl,bx,H⟩ post:=by
 refine TG.cons (e:=⟨some d,.m (.bB (L+i) 0 len),[],[],none,.ix [i],[(i,.row false n 0 (d_ n len (bf z)))],none⟩) (λG a=> ?_) W ?_ k
 ·have w:=getD_some ((a.ix [L+i] W (L+i) (by simp)).trans (xO t)) (by simp);have c:=xy (X:=X) (dst:=some d) (ty:=ty) (pos:=pos) (af:=af) (g:=none) (T:=T) l o ((Q0 a (x:=x) (by simp[Op.operands,Call.operands])).trans p) ((Q0 a (x:=y) (by simp[Op.operands,Call.operands])).trans q) r s (.inr ⟨w,rfl⟩);have A:=c.FU (ops:=ops) W W (bL j);simp only[dV.sh,dV.Ef.app,aqN,arf,qI a.len (asb hi L),aqK];exact A
 ·simp only[dV.sh,dV.Ef.app,aqN,arf,qI B (asb hi L),aqK]
theorem Ge{T n i off:Nat}{x y:Operand}{cs d a:List M}{f:M}[w:bU X.P T n](v:L+m<=H.length)(hi:i<m)(j:bj sl x=some (.m (.ref (L+i) off)))(l:bj sl y=some (.m f))(o:H[L+i]?=some (.box cs))(c:gR f=some d)(p:Nat.beq d.length n=true)(q:wr cs off d=some a)
  (k:TG L m X ops rest ⟨sl,bx,H.set (L+i) (Ob.box a)⟩ λr s=>post (⟨none,.m .undef,[],[],none,.ix [i],[(i,.box a)],none⟩::r) s):TG L m X ops (⟨none,.store T x y,ty,pos,af,none⟩::rest) ⟨sl,bx,H⟩ post:=by
 refine TG.cons (e:=⟨none,.m .undef,[],[],none,.ix [i],[(i,.box a)],none⟩) (λz b=> ?_) W ?_ k
 ·have t:=getD_some ((b.ix [L+i] W (L+i) (by simp)).trans (xO o)) (by simp);have h:=tH (X:=X) (dst:=none) (ty:=ty) (pos:=pos) (af:=af) (g:=none) (T:=T) ((Q0 b (x:=x) (by simp[Op.operands,Call.operands])).trans j) ((Q0 b (x:=y) (by simp[Op.operands,Call.operands])).trans l) t (by rw[(cP c).1];exact aqr p) (cP c).2 (by rw[(cP c).1];exact rO q);have u:=h.Hv (ops:=ops) W W;simp only[dV.sh,dV.Ef.app,aqN,arf,qI b.len (asb hi L),aqK];exact u
 ·simp only[dV.sh,dV.Ef.app,aqN,arf,qI v (asb hi L),aqK]
end
section
variable{m:Nat}{X:bD}{ops:Array Oper}{rest:List Oper}{sl:List (Nat×V)}{bx:List (Nat×List M)}{H T:Hp}{post:List dV.Ef->St->Prop}{d ty:Nat}{pos:String}{af:Array Edge}
theorem s6(a:Nat.ble m T.length=true):H.length+m<=(H++T).length:=by
 have:=aq5 a;simp;omega
theorem mR{i:Nat}{ob:Ob}(h:T[i]?=some ob):(H++T)[H.length+i]?=some ob:=by
 rw[aqm (by omega),aro];exact h
theorem Cj(i:Nat)(ob:Ob):(H++T).set (H.length+i) ob=H++T.set i ob:=by
 rw[arq _ _ (by omega),aro]
theorem p8{x:Operand}{v:V}(a:Nat.ble m T.length=true)(b:Nat.blt d X.n=true)(c:bj sl x=some v)(k:TG H.length m X ops rest ⟨(d,v)::sl,bx,H++T⟩ λe f=>post (⟨some d,v,[],[],none,.no,[],none⟩::e) f):
  TG H.length m X ops (⟨some d,.move x,ty,pos,af,none⟩::rest) ⟨sl,bx,H++T⟩ post:=Jl (s6 a) b c k
theorem jX{x:Operand}{v:V}(a:Nat.ble m T.length=true)(b:Nat.blt d X.n=true)(c:bj sl x=some v)(e:tA v=true)(k:TG H.length m X ops rest ⟨(d,v)::sl,bx,H++T⟩ λf g=>post (⟨some d,v,[],[],none,.no,[],none⟩::f) g):
  TG H.length m X ops (⟨some d,.nilCheck x,ty,pos,af,none⟩::rest) ⟨sl,bx,H++T⟩ post:=Ci (s6 a) b c e k
theorem mh{s f:Nat}{x:Operand}{i off o:Nat}[hf:i_ X.P s f o](a:Nat.ble m T.length=true)(b:Nat.blt d X.n=true)(c:bj sl x=some (.m (.ref i off)))(k:TG H.length m X ops rest ⟨(d,(.m (.ref i (off+o))))::sl,bx,H++T⟩ λe g=>post (⟨some d,(.m (.ref i (off+o))),[],[],none,.no,[],none⟩::e) g):
  TG H.length m X ops (⟨some d,.fieldAddr s x f,ty,pos,af,none⟩::rest) ⟨sl,bx,H++T⟩ post:=Gc (s6 a) b c k
theorem tK{t:Nat}{x:Operand}{i off:Nat}{cs:List M}{a:M}[ht:cj X.P t](b:Nat.ble m T.length=true)(c:Nat.blt d X.n=true)(e:bj sl x=some (.m (.ref (H.length+i) off)))(f:T[i]?=some (.box cs))(g:cs[off]?=some a)(k:TG H.length m X ops rest ⟨(d,(.m a))::sl,bx,H++T⟩ λh j=>post (⟨some d,(.m a),[],[],none,.ix [i],[],none⟩::h) j):
  TG H.length m X ops (⟨some d,.load t x,ty,pos,af,none⟩::rest) ⟨sl,bx,H++T⟩ post:=Gd (s6 b) c e (mR f) g k
theorem pH{t e n a len:Nat}(i:Nat){x y:Operand}{b c:IntKind}{z:D}[ht:aQ X.P t e][v:bU X.P e n][w:js X.P e a][A:gg X.P e z](f:Nat.ble m T.length=true)(hi:i<m)(g:Nat.blt d X.n=true)(h:Nat.blt 0 n=true)(j:(bf z).length=n)
  (l:bj sl x=some (.m (.d (.int b len)))) (o:bj sl y=some (.m (.d (.int c len)))) (p:len*a<=140737488355328) (q:len<=140737488355328) (r:T[i]?=some .free)
  (k:TG H.length m X ops rest ⟨(d,.m (.bB (H.length+i) 0 len))::sl,bx,H++T.set i (.row false n 0 (d_ n len (bf z)))⟩ λs u=>post (⟨some d,.m (.bB (H.length+i) 0 len),[],[],none,.ix [i],[(i,.row false n 0 (d_ n len (bf z)))],none⟩::s) u):
  TG H.length m X ops (⟨some d,.makeSlice t x y,ty,pos,af,none⟩::rest) ⟨sl,bx,H++T⟩ post:=
 Ba (s6 f) hi g h j l o p q (mR r) (by rw[Cj];exact k)
theorem tM{t n off:Nat}(i:Nat){x y:Operand}{cs b a:List M}{c:M}[q:bU X.P t n](d:Nat.ble m T.length=true)(hi:i<m)(e:bj sl x=some (.m (.ref (H.length+i) off)))(f:bj sl y=some (.m c))(g:T[i]?=some (.box cs))(h:gR c=some b)(j:Nat.beq b.length n=true)(l:wr cs off b=some a)
  (k:TG H.length m X ops rest ⟨sl,bx,H++T.set i (Ob.box a)⟩ λo p=>post (⟨none,.m .undef,[],[],none,.ix [i],[(i,.box a)],none⟩::o) p):TG H.length m X ops (⟨none,.store t x y,ty,pos,af,none⟩::rest) ⟨sl,bx,H++T⟩ post:=
 Ge (s6 d) hi e f (mR g) h j l (by rw[Cj];exact k)
end
theorem DC.KL{P:Program}{n e:Nat}{post:Exit->St->Prop}{f:Nat}{ops:List Oper}{sl:List (Nat×V)}{bx:List (Nat×List M)}{H:Hp}{s:St}(L m k:Nat)(g:P.follows .mixedOrders=true)(o:L+m<=H.length+k)
  (h: ∀a b,TG L m ⟨P,n,a,b,[]⟩ ops.toArray ops ⟨sl,bx,H++List.replicate k .free⟩ λc d=>dV.gj m ops sl c=true/\d=s) (i:post .normal s):DC P n e (.region f ops.toArray true) ⟨sl,bx,H⟩ post:=by
 refine⟨.normal,s,i,λa b _=> ?_⟩;obtain⟨c,d,j,l,rfl⟩:=h a b;refine TC.pad k ?_;exact dV.draw (N:=L+m) g (by simpa using o) j (by rw[dV.Ch];exact l) ⟨rfl,rfl⟩
section
variable{X:bD}{ops:Array Oper}{rest:List Oper}{post:St->Prop}{sl:List (Nat×V)}{bx:List (Nat×List M)}{H:Hp}{d ty:Nat}{pos:String}{af:Array Edge}
theorem lG{x y:Operand}{a b:Nat}{v u:V}{z:Bool}(c:kX X.P a=1)(e:Nat.blt d X.n=true)(f:bj sl x=some v)(g:bj sl y=some u)(h:gw 1 v=some z)(i:gw 1 u=some true)
  (k:TL X ops rest ⟨(d,.m (.d (.bool z)))::sl,bx,H⟩ post):TL X ops (⟨some d,.binOp .eql a x y b,ty,pos,af,none⟩::rest) ⟨sl,bx,H⟩ post:=
 No W W e (wK (.inl W) c (.inl W) f g h i) k
theorem jY{x y:Operand}{a b:Nat}{v u:V}{z:Bool}(c:kX X.P a=1)(e:Nat.blt d X.n=true)(f:bj sl x=some v)(g:bj sl y=some u)(h:gw 1 v=some z)(i:gw 1 u=some true)
  (k:TL X ops rest ⟨(d,.m (.d (.bool (!z))))::sl,bx,H⟩ post):TL X ops (⟨some d,.binOp .neq a x y b,ty,pos,af,none⟩::rest) ⟨sl,bx,H⟩ post:=
 No W W e (wK (.inr W) c (.inl W) f g h i) k
end
section
variable{X:bD}{ops:Array Oper}{rest:List Oper}{sl:List (Nat×V)}{bx:List (Nat×List M)}{H:Hp}{post:St->Prop}{M6:List Ef->St->Prop}{d ty:Nat}{pos:String}{af:Array Edge}
theorem xQ{T e n b:Nat}{x y:Operand}{c:List M}{a:Nat}{z:D}{f:M}(acc:Bool)[ht:aQ X.P T e][q:bU X.P e n][r:js X.P e b][s:gg X.P e z](g:Nat.blt d X.n=true)
  (h:bj sl x=some (.m (.d (.sl [])))) (i:bj sl y=some (.m f)) (j:oF H n f=some (c,a)) (l:Nat.blt 0 n=true) (m:(bf z).length=n) (o:0<a) (p:a*b<=140737488355328)
  (k:TL X ops rest ⟨(d,.m (.bB H.length 0 a))::sl,bx,H++ [.row acc n 0 c]⟩ post):TL X ops (⟨some d,.call ⟨.builtin .append,#[x,y],#[T,T]⟩,ty,pos,af,none⟩::rest) ⟨sl,bx,H⟩ post:=
 No W W g (qG acc l m h i j o p (.inl ⟨rfl,rfl⟩)) k
theorem xR{T e n b:Nat}{x y:Operand}{c:List M}{a:Nat}{z:D}{f:M}{j aG len:Nat}{acc:Bool}{cs:List M}[ht:aQ X.P T e][r:bU X.P e n][s:js X.P e b][t:gg X.P e z](g:Nat.blt d X.n=true)
  (h:bj sl x=some (.m (.bB j aG len))) (i:bj sl y=some (.m f)) (l:oF H n f=some (c,a)) (m:H[j]?=some (.row acc n aG cs)) (o:(bf z).length=n) (p:(len+a)*b<=140737488355328) (q:len+a<=140737488355328)
  (k:TL X ops rest ⟨(d,.m (.bB j (aG+1) (len+a)))::sl,bx,H.set j (.row acc n (aG+1) (cs++c))⟩ post):TL X ops (⟨some d,.call ⟨.builtin .append,#[x,y],#[T,T]⟩,ty,pos,af,none⟩::rest) ⟨sl,bx,H⟩ post:=
 No W W g (qH o h i l m p q) k
theorem oI{T e a:Nat}{x y:Operand}{i j o:Nat}{es:List (D×M)}{z:D}[n:gg X.P e z](b:Nat.blt d X.n=true)(ht:X.P.underlying T=some (.map a e))(c:jI X.P a=true)(f:bj sl x=some (.m (.mp i)))(g:bj sl y=some (.m (.ref j o)))(h:H[i]?=some (.map es))(l:gm es=true)
  (k:TL X ops rest ⟨(d,.m (match gv j o es with|some m=>m|none=> .d z))::sl,bx,H⟩ post):TL X ops (⟨some d,.lookup T x y false,ty,pos,af,none⟩::rest) ⟨sl,bx,H⟩ post:=
 No W W b (we (ok:=false) ht c f g h l) k
theorem DY{T e b:Nat}{x y:Operand}{i j o:Nat}{es:List (D×M)}{z:D}[r:gg X.P e z](c:Nat.blt d X.n=true)(ht:X.P.underlying T=some (.map b e))(f:jI X.P b=true)(g:bj sl x=some (.m (.mp i)))(h:bj sl y=some (.m (.ref j o)))(l:H[i]?=some (.map es))(n:gm es=true)
  (k:TF X ops rest ⟨(d,.m (match gv j o es with|some m=>m|none=> .d z))::sl,bx,H⟩ λp q=>M6 (⟨some d,.m (match gv j o es with|some m=>m|none=> .d z),[],[],none,true,none⟩::p) q):
  TF X ops (⟨some d,.lookup T x y false,ty,pos,af,none⟩::rest) ⟨sl,bx,H⟩ M6:=
 TF.cons (e:=⟨some d,.m (match gv j o es with|some m=>m|none=> .d z),[],[],none,true,none⟩) (M2 W W (bL c) λs a=>we (ok:=false) ht f ((a.ev (x:=x) (by simp[Op.operands,Call.operands])).trans g) ((a.ev (x:=y) (by simp[Op.operands,Call.operands])).trans h) (by rw[a.H W];exact l) n) W k
theorem pI{T e a:Nat}{x y z:Operand}{i j o:Nat}{es:List (D×M)}{m:M}(ht:X.P.underlying T=some (.map a e))(b:jI X.P a=true)(c:bj sl x=some (.m (.mp i)))(d:bj sl y=some (.m (.ref j o)))(f:bj sl z=some (.m m))(g:H[i]?=some (.map es))(h:gm es=true)
  (k:TL X ops rest ⟨sl,bx,H.set i (.map (iJ j o m es))⟩ post):TL X ops (⟨none,.mapUpdate T x y z,ty,pos,af,none⟩::rest) ⟨sl,bx,H⟩ post:=
 TL.EN W W (xH ht b c d f g h) k
theorem ll{x:Operand}{f:Nat}{a:List M}{args:List Operand}{O_:Array Nat}{ms:List M}{r:M}{K:Hp}[hf:br X.P f](h:CT X.P f (ms++a) H λb c=>b=r/\c=K)(e:Nat.blt d X.n=true)(g:bj sl x=some (.m (.fn f a)))(i:fG sl args=some ms)
  (k:TL X ops rest ⟨(d,.m r)::sl,bx,K⟩ post):TL X ops (⟨some d,.call ⟨.value x,args.toArray,O_⟩,ty,pos,af,none⟩::rest) ⟨sl,bx,H⟩ post:=
 F9 h e g i k
theorem dJ{T e n len:Nat}{parts:List (Nat×Operand)}{z:D}{ms:List (Nat×M)}{cs:List M}[ht:aQ X.P T e][q:bU X.P e n][r:gg X.P e z](f:Nat.blt d X.n=true)(g:Nat.blt 0 n=true)(h:(bf z).length=n)
  (o:Nat.ble (len*n) 16777216=true) (i:gH sl parts=some ms) (hf:fN (λc=>some (c*n,n)) (d_ n len (bf z)) ms=some cs)
  (k:TF X ops rest ⟨(d,.m (.bB H.length 0 len))::sl,bx,H++ [Ob.row false n 0 cs]⟩ λj l=>M6 (⟨some d,.m (.bB H.length 0 len),[],[],none,true,some (H++ [Ob.row false n 0 cs])⟩::j) l):TF X ops (⟨some d,.buildSlice T len parts.toArray,ty,pos,af,none⟩::rest) ⟨sl,bx,H⟩ M6:=by
 refine TF.cons (e:=⟨some d,.m (.bB H.length 0 len),[],[],none,true,some (H++ [Ob.row false n 0 cs])⟩) (Oi W W (bL f) λs b=> ?_) W k;have a:=b.H W;simp only at a;exact nt g h o (by rw[b.dU (λp m=>by simp[Op.operands];exact⟨_,m⟩),hJ];exact i) hf (.inl ⟨by rw[a],by rw[a]⟩)
theorem oJ{T e n g:Nat}{x y:Operand}{b:List M}{a:Nat}{z:D}{h:M}(acc:Bool)[ht:aQ X.P T e][u:bU X.P e n][v:js X.P e g][w:gg X.P e z](i:Nat.blt d X.n=true)
  (j:bj sl x=some (.m (.d (.sl [])))) (l:bj sl y=some (.m h)) (m:oF H n h=some (b,a)) (o:Nat.blt 0 n=true) (p:(bf z).length=n) (q:0<a) (r:a*g<=140737488355328)
  (k:TF X ops rest ⟨(d,.m (.bB H.length 0 a))::sl,bx,H++ [Ob.row acc n 0 b]⟩ λs t=>M6 (⟨some d,.m (.bB H.length 0 a),[],[],none,true,some (H++ [Ob.row acc n 0 b])⟩::s) t):TF X ops (⟨some d,.call ⟨.builtin .append,#[x,y],#[T,T]⟩,ty,pos,af,none⟩::rest) ⟨sl,bx,H⟩ M6:=by
 refine TF.cons (e:=⟨some d,.m (.bB H.length 0 a),[],[],none,true,some (H++ [Ob.row acc n 0 b])⟩) (Oi W W (bL i) λA f=> ?_) W k;have c:=f.H W;simp only at c;exact qG acc o p ((f.ev (x:=x) (by simp[Op.operands,Call.operands])).trans j) ((f.ev (x:=y) (by simp[Op.operands,Call.operands])).trans l) (by rw[c];exact m) q r (.inl ⟨by rw[c],by rw[c]⟩)
theorem oK{T e n h:Nat}{x y:Operand}{b:List M}{a:Nat}{z:D}{i:M}{j aG len:Nat}{acc:Bool}{cs:List M}[ht:aQ X.P T e][A:bU X.P e n][B:js X.P e h][C:gg X.P e z](l:Nat.blt d X.n=true)
  (m:bj sl x=some (.m (.bB j aG len))) (o:bj sl y=some (.m i)) (p:oF H n i=some (b,a)) (q:H[j]?=some (.row acc n aG cs)) (r:(bf z).length=n) (s:(len+a)*h<=140737488355328) (t:len+a<=140737488355328)
  (k:TF X ops rest ⟨(d,.m (.bB j (aG+1) (len+a)))::sl,bx,H.set j (Ob.row acc n (aG+1) (cs++b))⟩ λu v=>M6 (⟨some d,.m (.bB j (aG+1) (len+a)),[],[],none,true,some (H.set j (Ob.row acc n (aG+1) (cs++b)))⟩::u) v):TF X ops (⟨some d,.call ⟨.builtin .append,#[x,y],#[T,T]⟩,ty,pos,af,none⟩::rest) ⟨sl,bx,H⟩ M6:=by
 refine TF.cons (e:=⟨some d,.m (.bB j (aG+1) (len+a)),[],[],none,true,some (H.set j (Ob.row acc n (aG+1) (cs++b)))⟩) (Oi W W (bL l) λw f=> ?_) W k;have c:=f.H W;simp only at c;have:=qH (X:=X) (st:=w) (dst:=some d) (ty:=ty) (pos:=pos) (af:=af) (g:=none) (T:=T) r ((f.ev (x:=x) (by simp[Op.operands,Call.operands])).trans m) ((f.ev (x:=y) (by simp[Op.operands,Call.operands])).trans o) (by rw[c];exact p) (by rw[c];exact q) s t;rw[c]at this;exact this
theorem eD{f:Nat}{a:List Operand}{ms:List M}(b:Nat.blt d X.n=true)(c:fG sl a=some ms)(k:TF X ops rest ⟨(d,.m (.fn f ms))::sl,bx,H⟩ λg h=>M6 (⟨some d,.m (.fn f ms),[],[],none,false,none⟩::g) h):
  TF X ops (⟨some d,.makeFunc (.func f) #[] a.toArray,ty,pos,af,none⟩::rest) ⟨sl,bx,H⟩ M6:=by
 refine TF.cons (e:=⟨some d,.m (.fn f ms),[],[],none,false,none⟩) (M2 W W (bL b) λm i=> ?_) W k;exact th (by rw[i.fG (λl j=>by simp[Op.operands];exact j),mP];exact c)
theorem E8{x y:Operand}{a b i j oi oj:Nat}(c:Nat.blt d X.n=true)(e:jI X.P a=true)(f:bj sl x=some (.m (.ref i oi)))(g:bj sl y=some (.m (.ref j oj)))
  (k:TL X ops rest ⟨(d,.m (.d (.bool (Nat.beq i j&&Nat.beq oi oj))))::sl,bx,H⟩ post):TL X ops (⟨some d,.binOp .eql a x y b,ty,pos,af,none⟩::rest) ⟨sl,bx,H⟩ post:=
 No W W c (F0 (op:= .eql) (.inl W) e f g) k
theorem HL{x:Operand}{a b:Nat}{r:List D}{rows:List (List D)}(c:Nat.blt d X.n=true)(e:kX X.P a=6)(f:bj sl x=some (.m (.d (.sl (r::rows)))))
  (k:TL X ops rest ⟨(d,.m (.d (.bool false)))::sl,bx,H⟩ post):TL X ops (⟨some d,.binOp .eql a x (.const (.slice none 0 0)) b,ty,pos,af,none⟩::rest) ⟨sl,bx,H⟩ post:=
 No W W c (HF (op:= .eql) (.inl W) e λh i j g=>HG g f) k
end
theorem oL(i o j u:Nat)(v:M): ∀{es:List (D×M)},gm es=true->gv j u (iJ i o v es)=if j=i/\u=o then some v else gv j u es
 | [],_=>by
  simp only[iJ,gv];by_cases a:j=i/\u=o
  ·obtain⟨rfl,rfl⟩:=a;simp
  ·rw[aqo a];have:(Nat.beq j i&&Nat.beq u o)=false:=by rw[<-arp];intro e;rw[aqB]at e;exact a ⟨aqr e.1,aqr e.2⟩
   rw[this];rfl
 |(q,r)::p,c=>by
  unfold gm at c;split at c
  ·rename_i f;cases f
  ·rename_i g b m s f;injection f with h k;injection h with l d;subst l;subst d;subst k
   have n:=oL i o j u v c;simp only[iJ];by_cases a:i=g/\o=b
   ·obtain⟨rfl,rfl⟩:=a;simp only[asD,as4,aqX,gv];by_cases a:j=i/\u=o
    ·obtain⟨rfl,rfl⟩:=a;simp
    ·rw[aqo a];have:(Nat.beq j i&&Nat.beq u o)=false:=by rw[<-arp];intro e;rw[aqB]at e;exact a ⟨aqr e.1,aqr e.2⟩
     rw[this];rfl
   ·have:(Nat.beq i g&&Nat.beq o b)=false:=by rw[<-arp];intro e;rw[aqB]at e;exact a ⟨aqr e.1,aqr e.2⟩
    rw[this];simp only[arS,gv];rw[n];by_cases d:j=i/\u=o
    ·obtain⟨rfl,rfl⟩:=d;rw[this];simp
    ·simp only[aqo d]
  ·cases c
theorem nS(i o:Nat)(v:M): ∀{es:List (D×M)},gm es=true->gm (iJ i o v es)=true
 | [],_=>rfl
 |(k,l)::j,a=>by
  unfold gm at a;split at a
  ·rename_i c;cases c
  ·rename_i d b m n c;injection c with e f;injection e with g h;subst g;subst h;subst f
   simp only[iJ];cases (Nat.beq i d&&Nat.beq o b)with
   |true=>exact a
   |false=>exact nS i o v a
  ·cases a
section
variable{P:Program}{n B:Nat}{st:St}{post:Exit->St->Prop}
theorem NT{f:Nat}{ops:List Oper}{s:St}(a:Hp->Prop)(g:a st.H)(h:P.follows .mixedOrders=true)(i: ∀c d,iT ⟨P,n,c,d,[]⟩ a ops.toArray ops st λb e=>gj ops st.sl b=true/\mG a ops 0 b/\e=s)(j:post .normal s):DC P n B (.region f ops.toArray true) st post:=by
 refine⟨.normal,s,j,λc d _=>TC.DF a g h ?_⟩;obtain⟨b,e,k,l,m,o⟩:=i c d;exact⟨b,e,k,l,m,rfl,o⟩
end
end Go.Mt
namespace Go.Proofs
open Go.Mt
instance:bU Tryz.prog 1 1:=⟨by kernel_rfl⟩
instance:cj Tryz.prog 1:=⟨by kernel_rfl⟩
instance:js Tryz.prog 1 8:=⟨by kernel_rfl⟩
instance:gg Tryz.prog 1 (.pT):=⟨by kernel_rfl⟩
instance:bU Tryz.prog 3 1:=⟨by kernel_rfl⟩
instance:cj Tryz.prog 3:=⟨by kernel_rfl⟩
instance:kU Tryz.prog 3 .i64:=⟨by kernel_rfl⟩
instance:gg Tryz.prog 3 (.int .i64 0):=⟨by kernel_rfl⟩
instance:bU Tryz.prog 4 1:=⟨by kernel_rfl⟩
instance:cj Tryz.prog 4:=⟨by kernel_rfl⟩
instance:js Tryz.prog 4 1:=⟨by kernel_rfl⟩
instance:gg Tryz.prog 4 (.bool false):=⟨by kernel_rfl⟩
instance:bU Tryz.prog 5 1:=⟨by kernel_rfl⟩
instance:cj Tryz.prog 5:=⟨by kernel_rfl⟩
instance:kU Tryz.prog 5 .u8:=⟨by kernel_rfl⟩
instance:bU Tryz.prog 9 1:=⟨by kernel_rfl⟩
instance:cj Tryz.prog 9:=⟨by kernel_rfl⟩
instance:AR Tryz.prog 9:=⟨by kernel_rfl⟩
instance:js Tryz.prog 9 16:=⟨by kernel_rfl⟩
instance:gg Tryz.prog 9 (.str ⟨#[]⟩):=⟨by kernel_rfl⟩
instance:bU Tryz.prog 21 1:=⟨by kernel_rfl⟩
instance:cj Tryz.prog 21:=⟨by kernel_rfl⟩
instance:kU Tryz.prog 21 .i32:=⟨by kernel_rfl⟩
instance:js Tryz.prog 21 4:=⟨by kernel_rfl⟩
instance:gg Tryz.prog 21 (.int .i32 0):=⟨by kernel_rfl⟩
instance:aQ Tryz.prog 22 5:=⟨by kernel_rfl⟩
instance:bU Tryz.prog 23 1:=⟨by kernel_rfl⟩
instance:cj Tryz.prog 23:=⟨by kernel_rfl⟩
instance:aQ Tryz.prog 23 21:=⟨by kernel_rfl⟩
instance:js Tryz.prog 23 24:=⟨by kernel_rfl⟩
instance:gg Tryz.prog 23 (.sl []):=⟨by kernel_rfl⟩
instance:cj Tryz.prog 25:=⟨by kernel_rfl⟩
instance:aQ Tryz.prog 25 77:=⟨by kernel_rfl⟩
instance:bU Tryz.prog 26 1:=⟨by kernel_rfl⟩
instance:cj Tryz.prog 26:=⟨by kernel_rfl⟩
instance:aQ Tryz.prog 26 53:=⟨by kernel_rfl⟩
instance:bU Tryz.prog 28 2:=⟨by kernel_rfl⟩
instance:jr Tryz.prog 28 2:=⟨by kernel_rfl,by kernel_rfl⟩
instance:aQ Tryz.prog 37 23:=⟨by kernel_rfl⟩
instance:bU Tryz.prog 46 1:=⟨by kernel_rfl⟩
instance:cj Tryz.prog 46:=⟨by kernel_rfl⟩
instance:aQ Tryz.prog 46 64:=⟨by kernel_rfl⟩
instance:bU Tryz.prog 47 1:=⟨by kernel_rfl⟩
instance:cj Tryz.prog 47:=⟨by kernel_rfl⟩
instance:aQ Tryz.prog 47 68:=⟨by kernel_rfl⟩
instance:bU Tryz.prog 49 2:=⟨by kernel_rfl⟩
instance:jr Tryz.prog 49 2:=⟨by kernel_rfl,by kernel_rfl⟩
instance:bU Tryz.prog 53 7:=⟨by kernel_rfl⟩
instance:jr Tryz.prog 53 7:=⟨by kernel_rfl,by kernel_rfl⟩
instance:js Tryz.prog 53 128:=⟨by kernel_rfl⟩
instance:gg Tryz.prog 53 (.agg [.str ⟨#[]⟩,.sl [],.sl [],.sl [],.sl [],.int .i64 0,.int .i64 0]):=⟨by kernel_rfl⟩
instance:bU Tryz.prog 55 1:=⟨by kernel_rfl⟩
instance:cj Tryz.prog 55:=⟨by kernel_rfl⟩
instance:aQ Tryz.prog 55 4:=⟨by kernel_rfl⟩
instance:jr Tryz.prog 57 2:=⟨by kernel_rfl,by kernel_rfl⟩
instance:cj Tryz.prog 58:=⟨by kernel_rfl⟩
instance:aQ Tryz.prog 58 195:=⟨by kernel_rfl⟩
instance:cj Tryz.prog 59:=⟨by kernel_rfl⟩
instance:aQ Tryz.prog 59 9:=⟨by kernel_rfl⟩
instance:cj Tryz.prog 60:=⟨by kernel_rfl⟩
instance:aQ Tryz.prog 60 62:=⟨by kernel_rfl⟩
instance:bU Tryz.prog 62 8:=⟨by kernel_rfl⟩
instance:jr Tryz.prog 62 8:=⟨by kernel_rfl,by kernel_rfl⟩
instance:js Tryz.prog 62 88:=⟨by kernel_rfl⟩
instance:gg Tryz.prog 62 (.agg [.int .u8 0,.int .u8 0,.int .i32 0,.str ⟨#[]⟩,.sl [],.sl [],.int .i64 0,.int .i64 0]):=⟨by kernel_rfl⟩
instance:bU Tryz.prog 64 15:=⟨by kernel_rfl⟩
instance:js Tryz.prog 64 176:=⟨by kernel_rfl⟩
instance:gg Tryz.prog 64 (.agg [.str ⟨#[]⟩,.int .u8 0,.str ⟨#[]⟩,.sl [],.bool false,.int .u8 0,.int .u8 0,.int .i32 0,.str ⟨#[]⟩,.sl [],.sl [],.int .i64 0,.int .i64 0,.int .i64 0,.int .i64 0]):=⟨by kernel_rfl⟩
instance:bU Tryz.prog 66 1:=⟨by kernel_rfl⟩
instance:cj Tryz.prog 66:=⟨by kernel_rfl⟩
instance:aQ Tryz.prog 66 176:=⟨by kernel_rfl⟩
instance:bU Tryz.prog 68 16:=⟨by kernel_rfl⟩
instance:jr Tryz.prog 68 16:=⟨by kernel_rfl,by kernel_rfl⟩
instance:js Tryz.prog 68 208:=⟨by kernel_rfl⟩
instance:gg Tryz.prog 68 (.agg [.int .u8 0,.sl [],.str ⟨#[]⟩,.sl [],.bool false,.int .u8 0,.int .u8 0,.int .i32 0,.str ⟨#[]⟩,.sl [],.sl [],.int .i64 0,.int .i64 0,.sl [],.int .i64 0,.int .i64 0]):=⟨by kernel_rfl⟩
instance:cj Tryz.prog 73:=⟨by kernel_rfl⟩
instance:bU Tryz.prog 77 4:=⟨by kernel_rfl⟩
instance:jS Tryz.prog 81 [(0,1),(1,1),(2,1),(3,1),(4,1)] [.bQ,.int .i64 0,.int .i64 0,.int .i64 0,.bool false]:=⟨by kernel_rfl,by kernel_rfl⟩
instance:bU Tryz.prog 84 1:=⟨by kernel_rfl⟩
instance:cj Tryz.prog 84:=⟨by kernel_rfl⟩
instance:js Tryz.prog 84 8:=⟨by kernel_rfl⟩
instance:gg Tryz.prog 84 (.bQ):=⟨by kernel_rfl⟩
instance:jS Tryz.prog 87 [(0,1)] [.bQ]:=⟨by kernel_rfl,by kernel_rfl⟩
instance:bU Tryz.prog 91 1:=⟨by kernel_rfl⟩
instance:cj Tryz.prog 91:=⟨by kernel_rfl⟩
instance:aQ Tryz.prog 91 84:=⟨by kernel_rfl⟩
instance:i_ Tryz.prog 93 2 9:=mO (by kernel_rfl)
instance:i_ Tryz.prog 93 3 10:=mO (by kernel_rfl)
instance:i_ Tryz.prog 93 4 11:=mO (by kernel_rfl)
instance:i_ Tryz.prog 93 5 12:=mO (by kernel_rfl)
instance:bU Tryz.prog 102 3:=⟨by kernel_rfl⟩
instance:jr Tryz.prog 102 3:=⟨by kernel_rfl,by kernel_rfl⟩
instance:cj Tryz.prog 108:=⟨by kernel_rfl⟩
instance:bU Tryz.prog 109 1:=⟨by kernel_rfl⟩
instance:cj Tryz.prog 109:=⟨by kernel_rfl⟩
instance:gg Tryz.prog 109 (.bQ):=⟨by kernel_rfl⟩
instance:bU Tryz.prog 110 1:=⟨by kernel_rfl⟩
instance:cj Tryz.prog 110:=⟨by kernel_rfl⟩
instance:aQ Tryz.prog 110 1:=⟨by kernel_rfl⟩
instance:jS Tryz.prog 112 [(0,1),(1,1),(2,1),(3,1),(4,1)] [.bQ,.bQ,.bool false,.sl [],.sl []]:=⟨by kernel_rfl,by kernel_rfl⟩
instance:cj Tryz.prog 114:=⟨by kernel_rfl⟩
instance:cj Tryz.prog 115:=⟨by kernel_rfl⟩
instance:bU Tryz.prog 116 1:=⟨by kernel_rfl⟩
instance:cj Tryz.prog 116:=⟨by kernel_rfl⟩
instance:aQ Tryz.prog 116 120:=⟨by kernel_rfl⟩
instance:bU Tryz.prog 117 1:=⟨by kernel_rfl⟩
instance:cj Tryz.prog 117:=⟨by kernel_rfl⟩
instance:aQ Tryz.prog 117 121:=⟨by kernel_rfl⟩
instance:jS Tryz.prog 119 [(0,1),(1,1),(2,1),(3,1),(4,1)] [.bQ,.sl [],.sl [],.oA,.oA]:=⟨by kernel_rfl,by kernel_rfl⟩
instance:bU Tryz.prog 120 1:=⟨by kernel_rfl⟩
instance:cj Tryz.prog 120:=⟨by kernel_rfl⟩
instance:js Tryz.prog 120 8:=⟨by kernel_rfl⟩
instance:gg Tryz.prog 120 (.bQ):=⟨by kernel_rfl⟩
instance:xh Tryz.prog 120 [.d (.bQ)]:=⟨.bQ,fY (by kernel_rfl),rfl⟩
instance:bU Tryz.prog 121 1:=⟨by kernel_rfl⟩
instance:cj Tryz.prog 121:=⟨by kernel_rfl⟩
instance:js Tryz.prog 121 8:=⟨by kernel_rfl⟩
instance:gg Tryz.prog 121 (.bQ):=⟨by kernel_rfl⟩
instance:jS Tryz.prog 123 [(0,15),(15,1),(16,1),(17,1),(18,1),(19,1)] [.str ⟨#[]⟩,.int .u8 0,.str ⟨#[]⟩,.sl [],.bool false,.int .u8 0,.int .u8 0,.int .i32 0,.str ⟨#[]⟩,.sl [],.sl [],.int .i64 0,.int .i64 0,.int .i64 0,.int .i64 0,.int .i64 0,.bQ,.bQ,.int .u8 0,.int .i32 0]:=⟨by kernel_rfl,by kernel_rfl⟩
instance:aQ Tryz.prog 152 46:=⟨by kernel_rfl⟩
instance:aQ Tryz.prog 174 178:=⟨by kernel_rfl⟩
instance:bU Tryz.prog 176 7:=⟨by kernel_rfl⟩
instance:js Tryz.prog 176 128:=⟨by kernel_rfl⟩
instance:gg Tryz.prog 176 (.agg [.str ⟨#[]⟩,.sl [],.sl [],.sl [],.sl [],.int .i64 0,.int .i64 0]):=⟨by kernel_rfl⟩
instance:bU Tryz.prog 178 12:=⟨by kernel_rfl⟩
instance:js Tryz.prog 178 128:=⟨by kernel_rfl⟩
instance:gg Tryz.prog 178 (.agg [.int .u8 0,.int .u8 0,.int .i32 0,.str ⟨#[]⟩,.sl [],.sl [],.int .i64 0,.int .i64 0,.str ⟨#[]⟩,.bool false,.int .i64 0,.int .i64 0]):=⟨by kernel_rfl⟩
instance:bU Tryz.prog 195 2:=⟨by kernel_rfl⟩
instance:bU Tryz.prog 215 1:=⟨by kernel_rfl⟩
instance:cj Tryz.prog 215:=⟨by kernel_rfl⟩
instance:xh Tryz.prog 215 [.d (.pT)]:=⟨.pT,fY (by kernel_rfl),rfl⟩
instance:cj Tryz.prog 217:=⟨by kernel_rfl⟩
instance:br Tryz.prog 10:=⟨λargs w=>Tryz.call10 args w⟩
instance:br Tryz.prog 11:=⟨λargs w=>Tryz.call11 args w⟩
instance:br Tryz.prog 15:=⟨λargs w=>Tryz.call15 args w⟩
instance:br Tryz.prog 19:=⟨λargs w=>Tryz.call19 args w⟩
instance:br Tryz.prog 25:=⟨λargs w=>Tryz.call25 args w⟩
instance:br Tryz.prog 26:=⟨λargs w=>Tryz.call26 args w⟩
instance:br Tryz.prog 27:=⟨λargs w=>Tryz.call27 args w⟩
instance:br Tryz.prog 31:=⟨λargs w=>Tryz.call31 args w⟩
instance:br Tryz.prog 32:=⟨λargs w=>Tryz.call32 args w⟩
instance:br Tryz.prog 33:=⟨λargs w=>Tryz.call33 args w⟩
instance:br Tryz.prog 38:=⟨λargs w=>Tryz.call38 args w⟩
instance:br Tryz.prog 39:=⟨λargs w=>Tryz.call39 args w⟩
instance:br Tryz.prog 41:=⟨λargs w=>Tryz.call41 args w⟩
instance:br Tryz.prog 42:=⟨λargs w=>Tryz.call42 args w⟩
instance:br Tryz.prog 43:=⟨λargs w=>Tryz.call43 args w⟩
instance:br Tryz.prog 44:=⟨λargs w=>Tryz.call44 args w⟩
instance:br Tryz.prog 45:=⟨λargs w=>Tryz.call45 args w⟩
instance:br Tryz.prog 49:=⟨λargs w=>Tryz.call49 args w⟩
instance:br Tryz.prog 56:=⟨λargs w=>Tryz.call56 args w⟩
instance:br Tryz.prog 57:=⟨λargs w=>Tryz.call57 args w⟩
instance:br Tryz.prog 58:=⟨λargs w=>Tryz.call58 args w⟩
instance:br Tryz.prog 59:=⟨λargs w=>Tryz.call59 args w⟩
instance:br Tryz.prog 60:=⟨λargs w=>Tryz.call60 args w⟩
instance:br Tryz.prog 61:=⟨λargs w=>Tryz.call61 args w⟩
instance:br Tryz.prog 62:=⟨λargs w=>Tryz.call62 args w⟩
instance:br Tryz.prog 63:=⟨λargs w=>Tryz.call63 args w⟩
instance:br Tryz.prog 64:=⟨λargs w=>Tryz.call64 args w⟩
instance:br Tryz.prog 65:=⟨λargs w=>Tryz.call65 args w⟩
instance:br Tryz.prog 66:=⟨λargs w=>Tryz.call66 args w⟩
instance:br Tryz.prog 67:=⟨λargs w=>Tryz.call67 args w⟩
instance:br Tryz.prog 78:=⟨λargs w=>Tryz.call78 args w⟩
instance:br Tryz.prog 79:=⟨λargs w=>Tryz.call79 args w⟩
instance:br Tryz.prog 86:=⟨λargs w=>Tryz.call86 args w⟩
instance:br Tryz.prog 87:=⟨λargs w=>Tryz.call87 args w⟩
instance:br Tryz.prog 88:=⟨λargs w=>Tryz.call88 args w⟩
instance:br Tryz.prog 89:=⟨λargs w=>Tryz.call89 args w⟩
instance:br Tryz.prog 90:=⟨λargs w=>Tryz.call90 args w⟩
instance:br Tryz.prog 91:=⟨λargs w=>Tryz.call91 args w⟩
instance:br Tryz.prog 92:=⟨λargs w=>Tryz.call92 args w⟩
instance:br Tryz.prog 93:=⟨λargs w=>Tryz.call93 args w⟩
instance:br Tryz.prog 94:=⟨λargs w=>Tryz.call94 args w⟩
instance:br Tryz.prog 95:=⟨λargs w=>Tryz.call95 args w⟩
instance:br Tryz.prog 96:=⟨λargs w=>Tryz.call96 args w⟩
instance:br Tryz.prog 97:=⟨λargs w=>Tryz.call97 args w⟩
instance:br Tryz.prog 116:=⟨λargs w=>Tryz.call116 args w⟩
instance:br Tryz.prog 117:=⟨λargs w=>Tryz.call117 args w⟩
instance:br Tryz.prog 118:=⟨λargs w=>Tryz.call118 args w⟩
instance:br Tryz.prog 119:=⟨λargs w=>Tryz.call119 args w⟩
instance:br Tryz.prog 120:=⟨λargs w=>Tryz.call120 args w⟩
instance:br Tryz.prog 121:=⟨λargs w=>Tryz.call121 args w⟩
instance:br Tryz.prog 122:=⟨λargs w=>Tryz.call122 args w⟩
instance:br Tryz.prog 123:=⟨λargs w=>Tryz.call123 args w⟩
instance:br Tryz.prog 124:=⟨λargs w=>Tryz.call124 args w⟩
instance:br Tryz.prog 125:=⟨λargs w=>Tryz.call125 args w⟩
instance:br Tryz.prog 126:=⟨λargs w=>Tryz.call126 args w⟩
instance:br Tryz.prog 127:=⟨λargs w=>Tryz.call127 args w⟩
instance:br Tryz.prog 128:=⟨λargs w=>Tryz.call128 args w⟩
instance:br Tryz.prog 129:=⟨λargs w=>Tryz.call129 args w⟩
instance:br Tryz.prog 130:=⟨λargs w=>Tryz.call130 args w⟩
instance:br Tryz.prog 135:=⟨λargs w=>Tryz.call135 args w⟩
instance:br Tryz.prog 136:=⟨λargs w=>Tryz.call136 args w⟩
instance:br Tryz.prog 137:=⟨λargs w=>Tryz.call137 args w⟩
instance:br Tryz.prog 138:=⟨λargs w=>Tryz.call138 args w⟩
instance:br Tryz.prog 139:=⟨λargs w=>Tryz.call139 args w⟩
instance:br Tryz.prog 140:=⟨λargs w=>Tryz.call140 args w⟩
instance:br Tryz.prog 141:=⟨λargs w=>Tryz.call141 args w⟩
instance:br Tryz.prog 142:=⟨λargs w=>Tryz.call142 args w⟩
instance:br Tryz.prog 143:=⟨λargs w=>Tryz.call143 args w⟩
instance:br Tryz.prog 144:=⟨λargs w=>Tryz.call144 args w⟩
end Go.Proofs
