/- A part of the proof of the last text of this claim, without conditions. -/
import Derived.Test.YtjbigbaipmiihaaGreatB
import Derived.LaidEql
import Derived.Defers
import Derived.Recover
import Derived.ProofKit
import Derived.OpenShut
import Derived.Test.YtjbigbaipmiihaaGreatProg
import Derived.KernelRfl
set_option maxRecDepth 4000
set_option linter.all false
namespace Go.Mt
def CQ(f:M->Option D):List M->Option (List D)
 | []=>some []
 |m::r=>match f m with
  |some d=>match CQ f r with
   |some ds=>some (d::ds)
   |none=>none
  |none=>none
def Ho(ec:Nat):Nat->List D->Option (List (List D))
 |0,l=>match l with
  | []=>some []
  |_=>none
 |n+1,l=>match sub l 0 ec with
  |some r=>match Ho ec n (l.drop ec)with
   |some rs=>some (r::rs)
   |none=>none
  |none=>none
def FR(H:Hp):Nat->M->Option D
 |0,m=>match m with
  | .d x=>some x
  |_=>none
 |n+1,m=>match m with
  | .d x=>some x
  | .bH i aL len=>bif Nat.beq len 0 then some .ov else
   match H[i]? with
   |some (.row true ec v cs)=>bif (Nat.beq v aL&&Nat.blt 0 ec)then
     (match CQ (FR H n) cs with
     |some ds=>match Ho ec len ds with
      |some rows=>some (.sl rows)
      |none=>none
     |none=>none)else none
   |_=>none
  | .agg cs=>match CQ (FR H n) cs with|some ds=>some (.agg ds)|none=>none
  | .fn f cs=>match CQ (FR H n) cs with|some ds=>some (.fn f ds)|none=>none
  |_=>none
def Src(P:Program)(σ:Sg)(n:Nat)(v:Value)(cs:List M)(len:Nat):Prop:=
 (∀w':World,(Builtin.lenOf v).run P w'= .ok len w')/\cs.length=len*n/\len<=140737488355328/\ ∃vs:Array Value,(∀w':World,w'.heap=σ.w.heap->(Builtin.firstCells n len v).run P w'= .ok vs w')/\vs.size=len*n/\
  ∀(k:Nat) (m:M),cs[k]?=some m-> ∃u,vs[k]?=some u/\RM σ m u/\flat u=true
def pM(H:Hp)(n:Nat):M->Option (List M×Nat)
 | .d (.sl rows)=>bif mO n rows then some (bf rows,rows.length)else none
 | .d .ov=>some ([],0)
 | .bH i aL len=>match H[i]? with
  |some (.row _ n' Ql cs)=>bif (Nat.beq n n'&&Nat.beq aL Ql)then some (cs,len)else none
  |_=>none
 |_=>none
theorem CR{P:Program}{σ:Sg}{G:Nat->Nat->Prop}(hi:ln σ G){n:Nat}(x:0<n){m:M}{v:Value}{cs:List M}{len:Nat}(h:RM σ m v)(a:pM σ.H n m=some (cs,len)):Src P σ n v cs len:=by
 unfold pM at a;split at a
 ·rename_i u;cases p:mO n u with
  |false=>simp[p]at a
  |true=>
   simp only[p,avx]at a;injection a with a;injection a with f c
   subst f;subst c;have q:=vl p;cases h with
   |d h=>
    obtain⟨H,I,J,K,L⟩:=h.firstCells (P:=P) x q;have r:u.length<=140737488355328:=by
     cases h with
     |slnil o=>simp
     |sl u b co B ec val h0 R9 r Tp PL Q5 QV=>exact r
    refine⟨I,uV q,r,H,J,K,λe m k=> ?_⟩;obtain⟨j,D,E,d,rfl,c,l,rfl⟩:=zl x q k;obtain⟨F,N,O,Q⟩:=L j D E d c l;exact⟨F,N,.d O,Q⟩
 ·injection a with a;injection a with f c
  subst f;subst c;cases h with
  |d h=>cases h with
   |ov o B=>
    cases o with
    |none=>exact⟨λ_=>by simp[Builtin.lenOf],by simp,by simp,#[],λ_ _=>by simp[Builtin.firstCells],by simp,by simp⟩
    |some o=>exact⟨λ_=>by simp[Builtin.lenOf],by simp,by simp,#[],λ_ _=>by simp[Builtin.firstCells,loadCells,loadCellsFrom],by simp,by simp⟩
 ·rename_i j y ac;split at a
  ·rename_i ah R S s z;cases g:(Nat.beq n R&&Nat.beq y S)with
   |false=>simp[g]at a
   |true=>
    simp only[g,avx]at a;injection a with a;injection a with f c
    subst f;subst c;simp only[avf]at g;have l:=auZ g.1;have A:=auZ g.2;subst l;subst A;cases h with
    |bH j y len ad B d6 T=>
     obtain⟨f,c,d7,T1,l,A⟩:=T ah n s z;subst f;obtain⟨U,i,TT,P_,t,V,X,Y,⟨Z,Tk⟩,h7⟩:=hi.obj j _ z;have Sk:t=ac:=av0 U (by rw[<-Z,<-c]);subst Sk;have WQ:t*n<=i.size:=by rw[X];exact avk _ Y
     refine⟨λ_=>by simp[Builtin.lenOf],c,Tk,i.extract 0 (t*n),λw' Uy=> ?_,by simp;omega,λe m k=> ?_⟩
     ·simp only[Builtin.firstCells];exact wj (w:=w') (by rw[Uy];exact V) WQ
     ·have hk:e<s.length:=by rcases auM e s.length with h|h;exact h;simp[auP h]at k
      have C:e<i.size:=by omega
      refine⟨i[e],?_,h7 e m i[e] k (by simp[C])⟩;rw[awe,au2 (by omega)];simp[C]
  ·cases a
 ·cases a
theorem cE.src{X:bJ}{st:St}{σ:Sg}{Pw:Nat->Nat}{a:Act}(h:cE X σ Pw st a){x:Operand}{m:M}{n:Nat}(c:0<n){cs:List M}{len:Nat}(d:st.ev x=some (.m m))(e:pM st.H n m=some (cs,len)):Src X.P σ n (a.eval x) cs len:=by
 have b:=h.ev d;cases b with
 |m b=>exact CR h.hinv c b (by rw[h.hH];exact e)
section ops
variable{X:bJ}{st:St}{dst:Option Nat}{ty:Nat}{pos:String}{af:Array Edge}{g:Option (Nat×Bool)}{pn:Nat}{H':Hp}
theorem rW{T e n nb:Nat}{x y:Operand}{o:List M}{a:Nat}{z:D}(acc:Bool)[ht:aZ X.P T e][A:bY X.P e n][S:ku X.P e nb][U:g_ X.P e z](V:Nat.blt 0 n=true)(QL:(bu z).length=n)
  (Y:st.ev x=some (.m (.d (.sl [])))) {B:M} (Z:st.ev y=some (.m B)) (f:pM st.H n B=some (o,a)) (hr:0<a) (Qj:a*nb<=140737488355328) (hp:Place st.H (.row acc n 0 o) pn H'):
  cQ X ⟨dst,.call ⟨.builtin .append,#[x,y],#[T,T]⟩,ty,pos,af,g⟩ st (dy (.m (.bH pn 0 a)) ⟨st.sl,st.bx,H'⟩):=by
 intro j c C p;have E:=bO V;have h:=p.qc Y;obtain⟨t,i1,i2,i3⟩:=rS A.size S.bytes;obtain⟨F,Uv,Uw⟩:=(gW U.zero).run;have ac:F.cells.size=n:=by have:=(fC (O:=c.O) (w:=c.w) Uw).cells.1;omega
 obtain⟨G,H,ah,q,I,v3,v4⟩:=p.src E Z f;have ge:=hr;generalize hu:j.eval x=u at h;generalize r:j.eval y=wv at G I;cases h with
 |slnil J=>
  let cap:=a+c.w.tape c.w.drawn (.appendCap a 0 e)%(2^63-a)
  let d:=q++Builtin.zeroCells F.cells (cap-a)
  have K:a<=cap:=avN _ _;have L:d.size=cap*n:=by
   simp only[d,axh,lW,v3,ac];rw[<-awy];congr 1;omega
  have hd:cE X {c with w:=c.w.drew} C st j:=p.ext (gG.drew _);have Xw:dW c {c with w:=c.w.drew} :=dW.ext (gG.drew _);obtain⟨k,N,g2,P,g4,g5⟩:=hd.place hp (.cells d e (0,0)) (by
   intro k hm r;refine⟨E,d,e,cap,a,by rw[r];exact jo _ _,L,K,⟨H,ah⟩,?_⟩;intro i m v RG f;obtain⟨u,Q,u2,u3⟩:=v4 i m RG;have PP:i<q.size:=by rcases auM i q.size with l|l;exact l;simp[avu l]at Q
   have:d[i]?=some u:=by simp only[d];rw[awf PP];exact Q
   rw[this]at f;injection f with f;subst f
   exact⟨(u2.mono Xw).mono hm,u3⟩)
  refine dT.value (u:= .slice (some ⟨c.w.heap.size,0,none⟩) a cap) (w':=k.w) ?_ ⟨_,_,k,C,⟨W,W⟩,W,g5,?_⟩
  ·have c1: ¬a<=0:=by omega
   have c2: ¬(((a:Nat):Int)>IntKind.i64.max/\nb=0):=by
    rintro⟨h,h2⟩;have:((a:Nat):Int)<=140737488355328:=by omega
    have h3:IntKind.i64.max=9223372036854775807:=by decide
    omega
   have c3: ¬(Builtin.nextslicecap a 0*nb>2^48):=by
    have h:=tA (Tu:=a) (cap:=0) (by omega);have:=avk nb h;rw[axB]at this;omega
   have d9:(Builtin.firstCells n 0 (.slice J 0 0)).run X.P c.w.drew= .ok #[] c.w.drew:=by
    cases J<;>simp[Builtin.firstCells,loadCells,loadCellsFrom]
   have VN: ∀w:World,(typeInfo e).run X.P w= .ok t w:= λw=>by simp[typeInfo,program,Sem.run,i1]
   have Q7: ∀w:World,(underlying T).run X.P w= .ok (.slice e) w:= λw=>by simp[underlying,program,Sem.run,ht.u]
   simp only[execOp,resolve,invoke,builtin,Builtin.append_];simp only[Sem.run_bind,Sem.run_pure,Result.andThen_ok,awH,avm,avT,hu,r];simp[Q7,VN,dx A.size];have co:(Question.appendCap a 0 e).cut (c.w.tape c.w.drawn (Question.appendCap a 0 e))=cap:=rfl;have VO:(Question.appendCap a 0 e).forced=false:=rfl;have S4:=I c.w.drew W;have d6: ¬a=0:=by omega
   have d7: ¬(9223372036854775807<((a:Nat):Int)/\t.bytes=0):=by
    rintro⟨h,h2⟩;have h3:IntKind.i64.max=9223372036854775807:=by decide
    exact c2 ⟨by omega,by omega⟩
   have d8: ¬(281474976710656<Builtin.nextslicecap a 0*t.bytes):=by rw[i3];omega
   simp only[G,d6,d7,d8,VO,Result.andThen_ok,awi,avS];rw[d9];simp only[Result.andThen_ok];rw[S4];simp only[Result.andThen_ok,Uv,co];simp[newRow,newObj,Sem.run,N,d]
  ·have R:=g2;refine .m (.bH _ 0 a _ cap (.inr ⟨acc,n,0,o,P,auK _⟩) ?_);intro Sq gc PV s;rw[P]at s;simp at s;obtain⟨e1,e2,e3⟩:=s;subst e1;subst e2;subst e3;exact⟨by rw[R];rfl,H,d,e,by rw[R,N];exact jo _ _,L⟩
 |sl i6 b f9 cap ec val h0 K Qq Tp PL Q5 QV=>exact absurd W h0
theorem zp{T e n nb len:Nat}{x y:Operand}{L M:IntKind}{z:D}[ht:aZ X.P T e][j:bY X.P e n][N:ku X.P e nb][O:g_ X.P e z](P:Nat.blt 0 n=true)(r:(bu z).length=n)
  (Q:st.ev x=some (.m (.d (.int L len)))) (R:st.ev y=some (.m (.d (.int M len)))) (Qj:len*nb<=140737488355328) (S:len<=140737488355328) (U:Place st.H (.row false n 0 (eO n len (bu z))) pn H'):
  cQ X ⟨dst,.makeSlice T x y,ty,pos,af,g⟩ st (dy (.m (.bH pn 0 len)) ⟨st.sl,st.bx,H'⟩):=by
 intro d7 f V k;have s:=bO P;have t:=k.lA Q;have w:=k.lA R;obtain⟨p,Y,i2,A⟩:=rS j.size N.bytes;obtain⟨v,Z,Uw⟩:=(gW O.zero).run;have B:lz f ((bu z).map .d) v.cells:=(RM.d (fC Uw):RM f (.d z) v).cells W;have Sj:v.cells.size=n:=by rw[B.1];simpa using r
 have C:lz f (eO n len (bu z)) ((Array.range (len*n)).map λa=>v.cells[a%v.cells.size]!):=by
  refine⟨by simp[eO],λa m u h c=> ?_⟩;have E:a<len*n:=by
   rcases auM a (len*n)with d|d
   ·exact d
   ·rw[avu (by simpa using d)]at c;cases c
  have Uf:a%n<n:=awu _ s;have Xw:a%n<(bu z).length:=by omega
  simp[eO,E,r]at h;simp[E,Sj]at c;have PP:a%n<v.cells.size:=by omega
  subst h;subst c;refine B.2 (a%n) _ _ ?_ ?_
  ·simp[auO Xw]
  ·simp[PP]
 obtain⟨i,l,g2,F,g4,g5⟩:=k.place U (.cells ((Array.range (len*n)).map λa=>v.cells[a%v.cells.size]!) e (0,0)) (by
  intro i h hw;refine⟨s,_,e,len,len,by rw[hw];exact jo _ _,by simp,auK _,⟨by simp[eO],S⟩,?_⟩;intro q m u G c;exact⟨(C.2 q m u G c).1.mono h,(C.2 q m u G c).2⟩)
 refine dT.value (u:= .slice (some ⟨f.w.heap.size,0,none⟩) len len) (w':=i.w) ?_ ⟨_,_,i,V,⟨W,W⟩,W,g5,?_⟩
 ·have H: ∀b:World,(typeInfo e).run X.P b= .ok p b:= λb=>by simp[typeInfo,program,Sem.run,Y]
  have I: ∀b:World,(underlying T).run X.P b= .ok (.slice e) b:= λb=>by simp[underlying,program,Sem.run,ht.u]
  have ac:IntKind.i64.wrap (len:Int)=len:=IntWalk.i64_in _ ⟨by omega,by omega⟩;have ah: ¬((p.bytes:Int)*(len:Int)>2^48):=by
   rw[A];have:((len*nb:Nat):Int)<=140737488355328:=by omega
   rw[Int.natCast_mul,Int.mul_comm]at this;omega
  have co: ¬((len:Int)<0):=by omega
  have d6: ¬(len*p.bytes>roomBytes):=by rw[A];unfold roomBytes;omega
  by_cases J:len*n=0
  ·have Wq:len=0:=by
    rcases awO.1 J with d|d
    ·exact d
    ·omega
   subst Wq;have e0:Array.range 0=(#[]:Array Nat):=by decide
   have w0:IntKind.i64.wrap 0=0:=by decide
   simp only[execOp,Instr.makeSlice,t,w,asInt,asIntOf];simp[I,H,w0,dx j.size,askRoom,roomBytes,newRow,newObj,Sem.run,l,e0]
  ·simp only[execOp,Instr.makeSlice,t,w,asInt,asIntOf];simp[I,H,ac,dx j.size,askRoom,newRow,newObj,Sem.run,l,ah,co,d6,J,Z]
   first|done|omega|(split<;>first|rfl|omega)
 ·have K:=g2;refine .m (.bH _ 0 len _ len (.inr ⟨false,n,0,eO n len (bu z),F,auK _⟩) ?_);intro Sq d8 PV o;rw[F]at o;simp at o;obtain⟨e1,e2,e3⟩:=o;subst e1;subst e2;subst e3;exact⟨by rw[K],by simp[eO],_,e,by rw[K,l];exact jo _ _,by simp⟩
theorem rX{T e n nb:Nat}{x y:Operand}{r:List M}{k:Nat}{z:D}{j aL len:Nat}{acc:Bool}{cs:List M}[ht:aZ X.P T e][hs:bY X.P e n][hb:ku X.P e nb][hz:g_ X.P e z](QL:(bu z).length=n)
  (hx:st.ev x=some (.m (.bH j aL len))) {my:M} (hy:st.ev y=some (.m my)) (h:pM st.H n my=some (r,k)) (E:st.H[j]?=some (.row acc n aL cs)) (Qj:(len+k)*nb<=140737488355328) (Qq:len+k<=140737488355328):
  cQ X ⟨dst,.call ⟨.builtin .append,#[x,y],#[T,T]⟩,ty,pos,af,g⟩ st (dy (.m (.bH j (aL+1) (len+k))) ⟨st.sl,st.bx,st.H.set j (.row acc n (aL+1) (cs++r))⟩):=by
 intro ah b Pw G;have H:=G.ev hx;have TP:b.H[j]?=some (.row acc n aL cs):=by rw[G.hH];exact E
 obtain⟨ac,i1,i2,i3⟩:=rS hs.size hb.bytes;obtain⟨zv,Uv,Uw⟩:=(gW hz.zero).run;have d9:zv.cells.size=n:=by have:=(fC (O:=b.O) (w:=b.w) Uw).cells.1;omega
 obtain⟨K,s,TT,q,d,I,L,h5,⟨h6,Tk⟩,U⟩:=G.hinv.obj j _ TP;obtain⟨v1,Wo,rt,i,v2,v3,v4⟩:=G.src K hy h;generalize hu:ah.eval x=u at H;generalize hw:ah.eval y=wv at v1 v2;have VN: ∀w:World,(typeInfo e).run X.P w= .ok ac w:= λw=>by simp[typeInfo,program,Sem.run,i1]
 have Q7: ∀w:World,(underlying T).run X.P w= .ok (.slice e) w:= λw=>by simp[underlying,program,Sem.run,ht.u]
 cases H with
 |m H=>cases H with
  |bH j aL len ad cap rx Rb=>
   obtain⟨e1,V,t3,T1,Y,e4⟩:=Rb acc n cs TP;subst e1;rw[I]at Y;injection Y with Y;injection Y with e5 e6
   subst e5;subst e6;have R9:q=cap:=av0 K (by rw[<-L,<-e4]);subst R9;have Sk:d=len:=av0 K (by rw[<-h6,<-V]);subst Sk;have S:(cs++r).length=(d+k)*n:=by rw[auN,V,Wo,awy]
   have d6: ∀(a:Nat) (m:M),(cs++r)[a]?=some m->(a<cs.length/\cs[a]?=some m)\/(cs.length<=a/\ ∃u,i[a-cs.length]?=some u/\RM b m u/\flat u=true):=by
    intro a m t;rcases auM a cs.length with o|o
    ·rw[auL o]at t;exact .inl ⟨o,t⟩
    ·rw[auR o]at t;obtain⟨u,B,J,F⟩:=v4 _ m t;exact .inr ⟨o,u,B,J,F⟩
   have f9: ∀v∈i.toList,flat v=true:=by
    intro v h;obtain⟨a,o⟩:=ave.1 h;have S1:a<i.size:=by rcases auM a i.size with f|f;exact f;simp[avu f]at o
    have P7:a<r.length:=by omega
    obtain⟨u,B,J,F⟩:=v4 a r[a] (by simp[P7]);have:i[a]?=some v:=by simpa using o
    rw[B]at this;injection this with this;subst this;exact F
   by_cases Z:d+k<=q
   ·
    have Wg:d*n+i.toList.length<=s.size:=by
     rw[L];simp[v3];rw[<-awy];exact avk _ Z
    have Qp:=oP (P:=X.P) (off:=d*n) i.toList 0 b.w s I (by simpa using Wg) f9;simp only[av9]at Qp;have PP:=gH I;have Pv: ∀a,(eM s (d*n) i.toList)[a]?=if d*n<=a/\a<d*n+i.toList.length then i.toList[a-d*n]? else s[a]?:= λa=>n_ _ _ _ _ Wg
    obtain⟨C,N,Q,R,g4,g5⟩:=G.rR (j:=j) (b':=b.l j) (ob:= .row acc n aL cs) (QK:= .row acc n (aL+1) (cs++r)) (w':=db b.w (b.l j) (.cells (eM s (d*n) i.toList) TT (0,0))) E trivial W W W (by rw[kZ];exact auK _)
     (λc _ p=>jN p) (.inl W) (by
      intro co v ho p;have gc:acc=true/\co<cs.length:=by
       simp only[Ob.kE,not_or,Nat.not_le]at ho;refine⟨?_,ho.2⟩;cases acc
       ·exact absurd W ho.1
       ·rfl
      refine⟨?_,λ_ l=> ?_⟩
      ·simp only[dI,World.cell?,gI PP];simp only[dI,World.cell?,I]at p;simp at p⊢;rw[Pv,auU (by omega)];exact p
      ·simp only[Ob.kE]at l;rcases l with l|l
       ·rw[gc.1]at l;cases l
       ·rw[S,awy]at l;omega) ⟨rfl,.inl (by omega)⟩ (by
      intro C t Uy _ _;refine⟨K,_,TT,q,d+k,by rw[Uy];exact gI PP,by rw[gJ];exact L,Z,⟨S,Qq⟩,?_⟩;intro a m v RG h;rw[Pv]at h;rcases d6 a m RG with⟨o,p⟩|⟨o,u,B,J,F⟩
      ·rw[auU (by omega)]at h;exact⟨(U a m v p h).1.mono t,(U a m v p h).2⟩
      ·have S1:a-cs.length<i.size:=by rcases auM (a-cs.length) i.size with f|f;exact f;simp[avu f]at B
       rw[au2 (by simp;omega)]at h;have:i.toList[a-d*n]?=some u:=by rw[<-V];simpa using B
       rw[this]at h;injection h with h;subst h
       exact⟨J.mono t,F⟩)
    refine dT.value (u:= .slice (some ⟨b.l j,0,none⟩) (d+k) q) (w':=C.w) ?_ ⟨_,_,C,Pw,⟨W,W⟩,W,g5,?_⟩
    ·simp only[execOp,resolve,invoke,builtin,Builtin.append_];simp only[Sem.run_bind,Sem.run_pure,Result.andThen_ok,awH,avm,avT,hu,hw];simp[Q7,VN,dx hs.size,v1,Z,v2 b.w W,mC,Qp,N]
    ·refine .m (.bH j (aL+1) (d+k) _ q (.inr ⟨acc,n,aL+1,cs++r,by rw[R];exact wg E,auK _⟩) ?_);intro Sq ge i6 l;rw[R]at l;have RN:j<st.H.length:=by rcases auM j st.H.length with f|f;exact f;simp[auP f]at E
     simp[RN]at l;obtain⟨f1,f2,f3⟩:=l;subst f1;subst f2;subst f3;exact⟨by rw[Q],S,_,TT,by rw[Q,N];exact gI PP,by rw[gJ];exact L⟩
   ·
    let Tu:=d+k
    let cap:=Tu+b.w.tape b.w.drawn (.appendCap Tu q e)%(2^63-Tu)
    let A:=s.extract 0 (d*n)++i++Builtin.zeroCells zv.cells (cap-Tu)
    have i7:Tu<=cap:=avN _ _;have WQ:d*n<=s.size:=by rw[L];exact avk _ h5
    have d7:(s.extract 0 (d*n)).size=d*n:=by simp;omega
    have d8:A.size=cap*n:=by
     simp only[A,axh,lW,v3,d9,d7];rw[<-awy,<-awy];congr 1;omega
    have hd:cE X {b with w:=b.w.drew} Pw st ah:=G.ext (gG.drew _);have Xw:dW b {b with w:=b.w.drew} :=dW.ext (gG.drew _)
    let w':World:= {b.w.drew with heap:=b.w.drew.heap.push (.cells A e (0,0))}
    have RK:gG b.w.drew w':=gG.alloc _ _;have Zu: ∀a,a<cs.length->A[a]?=s[a]?:=by
     intro a o;simp only[A];rw[Array.append_assoc,awf (by omega),awe,au2 (by omega)];simp
    have i8: ∀a,cs.length<=a->a-cs.length<i.size->A[a]?=i[a-cs.length]?:=by
     intro a o P7;simp only[A];rw[Array.append_assoc,awE (by omega),awf (by omega),d7,V]
    obtain⟨C,N,Q,R,g4,g5⟩:=hd.rR (j:=j) (b':=b.w.heap.size) (ob:= .row acc n aL cs) (QK:= .row acc n (aL+1) (cs++r)) (w':=w') E trivial W W W RK.size
     (λc p _=>RK.cy c p) (.inr (auK _)) (by
      intro co v ho p;exact⟨RK.cell p,λl=>by have:=gH I;exact absurd l (by show ¬b.w.heap.size=b.l j;omega)⟩) ⟨rfl,.inl (by omega)⟩ (by
      intro C t i9 _ _;refine⟨K,A,e,cap,Tu,by rw[i9];exact jo _ _,d8,i7,⟨S,Qq⟩,?_⟩;intro a m v RG h;rcases d6 a m RG with⟨o,p⟩|⟨o,u,B,J,F⟩
      ·rw[Zu a o]at h;exact⟨((U a m v p h).1.mono Xw).mono t,(U a m v p h).2⟩
      ·have S1:a-cs.length<i.size:=by rcases auM (a-cs.length) i.size with f|f;exact f;simp[avu f]at B
       rw[i8 a o S1,B]at h;injection h with h;subst h
       exact⟨(J.mono Xw).mono t,F⟩)
    refine dT.value (u:= .slice (some ⟨b.w.heap.size,0,none⟩) Tu cap) (w':=C.w) ?_ ⟨_,_,C,Pw,⟨W,W⟩,W,g5,?_⟩
    ·have t4: ¬(9223372036854775807<(((d+k:Nat):Nat):Int)/\ac.bytes=0):=by rintro⟨f,_⟩;omega
     have mt: ¬(281474976710656<Builtin.nextslicecap (d+k) q*ac.bytes):=by
      rw[i3];have H:=tA (Tu:=d+k) (cap:=q) (by omega);have:=avk nb H;rw[axB]at this;omega
     have pm:(Question.appendCap (d+k) q e).cut (b.w.tape b.w.drawn (Question.appendCap (d+k) q e))=cap:=rfl;have VO:(Question.appendCap (d+k) q e).forced=false:=rfl;have S4:=v2 b.w.drew W;have rg:(Builtin.firstCells n d (.slice (some ⟨b.l j,0,none⟩) d q)).run X.P b.w.drew= .ok (s.extract 0 (d*n)) b.w.drew:=by
      simp only[Builtin.firstCells];exact wj (w:=b.w.drew) I WQ
     simp only[execOp,resolve,invoke,builtin,Builtin.append_];simp only[Sem.run_bind,Sem.run_pure,Result.andThen_ok,awH,avm,avT,hu,hw];simp[Q7,VN,dx hs.size];simp only[v1,Result.andThen_ok];rw[auU Z];have qr: ¬(9223372036854775807<(d:Int)+(k:Int)/\ac.bytes=0):=by rintro⟨f,_⟩;omega
     simp only[qr,mt,VO,awi,avS];rw[rg];simp only[Result.andThen_ok];rw[S4];simp only[Result.andThen_ok,Uv,pm];simp[newRow,newObj,Sem.run,N,A,w',Tu];rfl
    ·refine .m (.bH j (aL+1) Tu _ cap (.inr ⟨acc,n,aL+1,cs++r,by rw[R];exact wg E,auK _⟩) ?_);intro Sq ge i6 l;rw[R]at l;have RN:j<st.H.length:=by rcases auM j st.H.length with f|f;exact f;simp[auP f]at E
     simp[RN]at l;obtain⟨f1,f2,f3⟩:=l;subst f1;subst f2;subst f3;exact⟨by rw[Q],S,A,e,by rw[Q,N];exact jo _ _,d8⟩
end ops
theorem Hq{H:Hp}{n:Nat} : ∀{rows:List (List D)},(∀r∈rows,r.length=n)->pM H n (.d (.sl rows))=some (bf rows,rows.length):=by
 intro rows a;have:mO n rows=true:=by
  induction rows with
  |nil=>rfl
  |cons r e c=>simp only[mO,avf];exact⟨by rw[a r avj];exact aw9 n,c λb d=>a b (au7 _ d)⟩
 show(bif mO n rows then some (bf rows,rows.length)else none)=_;rw[this];rfl
section ops
variable{X:bJ}{st:St}{dst:Option Nat}{ty:Nat}{pos:String}{af:Array Edge}{g:Option (Nat×Bool)}
theorem xU{T e n nb:Nat}{x y:Operand}{rows:List (List D)}{z:D}(acc:Bool)[ht:aZ X.P T e][k:bY X.P e n][l:ku X.P e nb][m:g_ X.P e z](b:Nat.blt 0 n=true)(c:(bu z).length=n)
  (d:st.ev x=some (.m (.d (.sl [])))) (f:st.ev y=some (.m (.d (.sl rows)))) (h:rows≠ []) (i: ∀a∈rows,a.length=n) (j:rows.length*nb<=140737488355328):
  cQ X ⟨dst,.call ⟨.builtin .append,#[x,y],#[T,T]⟩,ty,pos,af,g⟩ st (dy (.m (.bH st.H.length 0 rows.length)) ⟨st.sl,st.bx,st.H++ [.row acc n 0 (bf rows)]⟩):=
 rW acc b c d f (Hq i) (aw6.2 h) j (.inl ⟨rfl,rfl⟩)
theorem xV{T e n nb:Nat}{x y:Operand}{rows:List (List D)}{z:D}{j aL len:Nat}{acc:Bool}{cs:List M}[ht:aZ X.P T e][l:bY X.P e n][m:ku X.P e nb][o:g_ X.P e z](b:(bu z).length=n)
  (c:st.ev x=some (.m (.bH j aL len))) (d:st.ev y=some (.m (.d (.sl rows)))) (f:st.H[j]?=some (.row acc n aL cs)) (h: ∀a∈rows,a.length=n) (i:(len+rows.length)*nb<=140737488355328) (k:len+rows.length<=140737488355328):
  cQ X ⟨dst,.call ⟨.builtin .append,#[x,y],#[T,T]⟩,ty,pos,af,g⟩ st (dy (.m (.bH j (aL+1) (len+rows.length))) ⟨st.sl,st.bx,st.H.set j (.row acc n (aL+1) (cs++bf rows))⟩):=
 rX b c d (Hq h) f i k
end ops
section rules
variable{X:bJ}{ops:Array Oper}{rest:List Oper}{post:St->Prop}{P3:List Ef->St->Prop}{sl:List (Nat×V)}{bx:List (Nat×List M)}{H:Hp}{d ty:Nat}{pos:String}{af:Array Edge}
theorem iL{T e n nb:Nat}{x y:Operand}{rows:List (List D)}{z:D}(acc:Bool)[ht:aZ X.P T e][m:bY X.P e n][o:ku X.P e nb][p:g_ X.P e z](b:Nat.blt d X.n=true)(c:bw sl x=some (.m (.d (.sl []))))(f:bw sl y=some (.m (.d (.sl rows))))(g:Nat.blt 0 n=true)(h:(bu z).length=n)(i:rows≠ [])(j: ∀a∈rows,a.length=n)(l:rows.length*nb<=140737488355328)(k:TL X ops rest ⟨(d,(.m (.bH H.length 0 rows.length)))::sl,bx,H++ [Ob.row acc n 0 (bf rows)]⟩ post):TL X ops (⟨some d,.call ⟨.builtin .append,#[x,y],#[T,T]⟩,ty,pos,af,none⟩::rest) ⟨sl,bx,H⟩ post:=
 Qi W W b (xU acc g h c f i j l) k
theorem zq{T e n nb:Nat}{x y:Operand}{rows:List (List D)}{z:D}(acc:Bool)[ht:aZ X.P T e][t:bY X.P e n][u:ku X.P e nb][v:g_ X.P e z](f:Nat.blt d X.n=true)(h:bw sl x=some (.m (.d (.sl []))))(i:bw sl y=some (.m (.d (.sl rows))))(j:Nat.blt 0 n=true)(l:(bu z).length=n)(m:rows≠ [])(o: ∀c∈rows,c.length=n)(p:rows.length*nb<=140737488355328)(k:TF X ops rest ⟨(d,(.m (.bH H.length 0 rows.length)))::sl,bx,H++ [Ob.row acc n 0 (bf rows)]⟩ λq r=>P3 (⟨some d,(.m (.bH H.length 0 rows.length)),[],[],none,true,some (H++ [Ob.row acc n 0 (bf rows)])⟩::q) r):TF X ops (⟨some d,.call ⟨.builtin .append,#[x,y],#[T,T]⟩,ty,pos,af,none⟩::rest) ⟨sl,bx,H⟩ P3:=
 TF.cons (e:=⟨some d,(.m (.bH H.length 0 rows.length)),[],[],none,true,some (H++ [Ob.row acc n 0 (bf rows)])⟩) (Rw W W (bO f) λs a=>(by have b:=a.H W;simp only at b;have:=(xU (X:=X) (st:=s) (dst:=some d) (ty:=ty) (pos:=pos) (af:=af) (g:=none) (T:=T) acc j l ((a.ev (x:=x) (by simp[Op.operands,Call.operands])).trans h) ((a.ev (x:=y) (by simp[Op.operands,Call.operands])).trans i) m o p);rw[b]at this;exact this)) W k
theorem fU{T e n nb:Nat}{x y:Operand}{rows:List (List D)}{z:D}{j aL len:Nat}{acc:Bool}{cs:List M}[ht:aZ X.P T e][o:bY X.P e n][p:ku X.P e nb][q:g_ X.P e z](b:Nat.blt d X.n=true)(c:bw sl x=some (.m (.bH j aL len)))(f:bw sl y=some (.m (.d (.sl rows))))(g:H[j]?=some (.row acc n aL cs))(h:(bu z).length=n)(i: ∀a∈rows,a.length=n)(l:(len+rows.length)*nb<=140737488355328)(m:len+rows.length<=140737488355328)(k:TL X ops rest ⟨(d,(.m (.bH j (aL+1) (len+rows.length))))::sl,bx,H.set j (Ob.row acc n (aL+1) (cs++bf rows))⟩ post):TL X ops (⟨some d,.call ⟨.builtin .append,#[x,y],#[T,T]⟩,ty,pos,af,none⟩::rest) ⟨sl,bx,H⟩ post:=
 Qi W W b (xV h c f g i l m) k
theorem zt{T e n nb:Nat}{x y:Operand}{rows:List (List D)}{z:D}{j aL len:Nat}{acc:Bool}{cs:List M}[ht:aZ X.P T e][u:bY X.P e n][v:ku X.P e nb][w:g_ X.P e z](f:Nat.blt d X.n=true)(h:bw sl x=some (.m (.bH j aL len)))(i:bw sl y=some (.m (.d (.sl rows))))(l:H[j]?=some (.row acc n aL cs))(m:(bu z).length=n)(o: ∀c∈rows,c.length=n)(p:(len+rows.length)*nb<=140737488355328)(q:len+rows.length<=140737488355328)(k:TF X ops rest ⟨(d,(.m (.bH j (aL+1) (len+rows.length))))::sl,bx,H.set j (Ob.row acc n (aL+1) (cs++bf rows))⟩ λr s=>P3 (⟨some d,(.m (.bH j (aL+1) (len+rows.length))),[],[],none,true,some (H.set j (Ob.row acc n (aL+1) (cs++bf rows)))⟩::r) s):TF X ops (⟨some d,.call ⟨.builtin .append,#[x,y],#[T,T]⟩,ty,pos,af,none⟩::rest) ⟨sl,bx,H⟩ P3:=
 TF.cons (e:=⟨some d,(.m (.bH j (aL+1) (len+rows.length))),[],[],none,true,some (H.set j (Ob.row acc n (aL+1) (cs++bf rows)))⟩) (Rw W W (bO f) λt a=>(by have b:=a.H W;simp only at b;have:=(xV (X:=X) (st:=t) (dst:=some d) (ty:=ty) (pos:=pos) (af:=af) (g:=none) (T:=T) m ((a.ev (x:=x) (by simp[Op.operands,Call.operands])).trans h) ((a.ev (x:=y) (by simp[Op.operands,Call.operands])).trans i) (by rw[a.H W];exact l) o p q);rw[b]at this;exact this)) W k
end rules
section walk
variable{X:bJ}{ops:Array Oper}{rest:List Oper}{post:St->Prop}{sl:List (Nat×V)}{bx:List (Nat×List M)}{H:Hp}{d:Nat}{ty:Nat}{pos:String}{af:Array Edge}
theorem Hr{T e n nb:Nat}{x y:Operand}{rows:List (List D)}{z:D}[ht:aZ X.P T e][m:bY X.P e n][o:ku X.P e nb][p:g_ X.P e z](b:Nat.blt d X.n=true)(c:bw sl x=some (.m (.d (.sl []))))(f:bw sl y=some (.m (.d (.sl rows))))(g:Nat.blt 0 n=true)(h:(bu z).length=n)
  (i: ∀a∈rows,a.length=n) (j:rows.length*nb<=140737488355328) (k:TL X ops rest ⟨(d,.m (vo H rows))::sl,bx,kz H n rows⟩ post):
  TL X ops (⟨some d,.call ⟨.builtin .append,#[x,y],#[T,T]⟩,ty,pos,af,none⟩::rest) ⟨sl,bx,H⟩ post:=by
 cases rows with
 |nil=>exact qj b c f k
 |cons l a=>exact iL true b c f g h (by simp) i j k
theorem LX{T e n nb:Nat}{x y:Operand}{r1 r2:List (List D)}{z:D}[ht:aZ X.P T e][F:bY X.P e n][G:ku X.P e nb][I:g_ X.P e z](h:Nat.blt d X.n=true)(b:bw sl x=some (.m (vo H r1)))(j:bw sl y=some (.m (.d (.sl r2))))(w:Nat.blt 0 n=true)(o:(bu z).length=n)
  (A: ∀a∈r1,a.length=n) (g: ∀a∈r2,a.length=n) (p:(r1.length+r2.length)*nb<=140737488355328) (B:r1.length+r2.length<=140737488355328) (k:TL X ops rest ⟨(d,.m (.d (.sl (r1++r2))))::sl,bx,CN H n r1 r2⟩ post):
  TL X ops (⟨some d,.call ⟨.builtin .append,#[x,y],#[T,T]⟩,ty,pos,af,none⟩::rest) ⟨sl,bx,kz H n r1⟩ post:=by
 have r: ∀(m v:V) (l:Hp),TL X ops rest ⟨(d,v)::sl,bx,l⟩ post->TL X ops rest ⟨(d,v)::(d,m)::sl,bx,l⟩ post:=by
  intro m v l f s t C;refine f s t (C.o5 ?_ (λ_=>rfl));intro u x b;rw[bQ]at b⊢;by_cases e:d=u
  ·rw[au2 e]at b⊢;exact b
  ·rw[auU e]at b⊢;rw[bQ,auU e];exact b
 cases r1 with
 |nil=>
  cases r2 with
  |nil=>exact qj h b j k
  |cons c a=>
   refine iL true h b j w o (by simp) g (by simpa using p) ?_;refine TL.cw d (by rw[bQ,au2 W];rfl) (Acc.view (n:=n) (i:=H.length) (rs:=c::a) (.inr ⟨by simp,0,rfl,by simp[kz]⟩) g) ?_;exact r _ _ _ k
 |cons c a=>
  refine fU (acc:=true) (cs:=bf (c::a)) h b j (by simp[kz]) o g p B ?_;have e:(kz H n (c::a)).set H.length (.row true n (0+1) (bf (c::a)++bf r2))=CN H n (c::a) r2:=by simp[kz,CN]
  rw[e];refine TL.cw d (by rw[bQ,au2 W]) (Acc.view (n:=n) (i:=H.length) (rs:=c::a++r2) (.inr ⟨by simp,1,by simp;omega,by simp[CN,bf]⟩) (by
   intro q E;rcases auS.1 E with f|f
   ·exact A q f
   ·exact g q f)) ?_
  exact r _ _ _ k
end walk
namespace eH
end eH
inductive R(α:Type)where
 |ok (a:α)
 |no (why:List Nat)
 deriving Inhabited
inductive Dn where
 |val (v:V)
 |ld (t:Nat) (k:List M->R V)
 |st (t:Nat) (k:List M->R (List M))
 |nw (cs:List M)
 |rd (i:Nat) (k:Ob->R V)
 |O8 (k:Hp->R V)
 |up (all:Bool) (i:Nat) (k:Hp->Ob->R (V×Ob))
 |al (all:Bool) (k:Hp->R Ob) (mk:Nat->V)
 |cl (k:Hp->R (V×Hp×List Nat))
structure FT where
 P:Program
 call:Nat->List M->Hp->R (M×Hp×List Nat)
 pure:Nat->List D->R (List D)
 O9:Nat->Bool
 Ow:Nat->Nat
 sum:Nat->List D->Option (List D)
def O_{α:Type}(w:Nat):Option α->R α
 |some a=> .ok a
 |none=> .no [w]
def DZ:List UInt8->List UInt8->Bool
 | [],[]=>true
 |a::r,b::s=>bif Nat.beq a.toNat b.toNat then DZ r s else false
 |_,_=>false
def CS(s u:ByteArray):Bool:=DZ s.data.toList u.data.toList
def Ox(s u:ByteArray):ByteArray:=⟨⟨s.data.toList++u.data.toList⟩⟩
def JV(k:ByteArray):List (D×M)->Option M
 | []=>none
 |(.str s,m)::r=>bif CS s k then some m else JV k r
 |_::r=>JV k r
def hJ:List (D×M)->Bool
 | []=>true
 |(.bX,.dq [.ref _ _,_])::r=>hJ r
 |_=>false
def ij(i o:Nat):List (D×M)->Option M
 | []=>none
 |(.bX,.dq [.ref j u,m])::r=>bif Nat.beq i j&&Nat.beq o u then some m else ij i o r
 |_::r=>ij i o r
def jz(i o:Nat)(v:M):List (D×M)->List (D×M)
 | []=>[(.bX,.dq [.ref i o,v])]
 |(.bX,.dq [.ref j u,m])::r=>bif Nat.beq i j&&Nat.beq o u then(.bX,.dq [.ref i o,v])::r else(.bX,.dq [.ref j u,m])::jz i o v r
 |x::r=>x::jz i o v r
def pN(a b:IntKind):Bool:=decide (a=b)
def Oy(op:BinOp):D->D->R D
 | .int k m,.int k' n=>
  match op with
  | .shl=>bif decide (n<0)then .no [101]else .ok (.int k (k.wrap (m*2^(min n.toNat k.bits))))
  | .shr=>bif decide (n<0)then .no [102]else .ok (.int k (m.fdiv (2^(min n.toNat k.bits))))
  | .quo=>bif pN k k' then(bif n==0 then .no [103]else .ok (.int k (k.wrap (m.tdiv n))))else .no [104]
  | .rem=>bif pN k k' then(bif n==0 then .no [105]else .ok (.int k (m.tmod n)))else .no [106]
  | .and=>bif pN k k' then .ok (.int k (k.wrap (BitVec.ofInt k.bits m&&&BitVec.ofInt k.bits n).toNat))else .no [107]
  | .or=>bif pN k k' then .ok (.int k (k.wrap (BitVec.ofInt k.bits m|||BitVec.ofInt k.bits n).toNat))else .no [107]
  | .xor=>bif pN k k' then .ok (.int k (k.wrap (BitVec.ofInt k.bits m^^^BitVec.ofInt k.bits n).toNat))else .no [107]
  |op=>bif pN k k' then O_ 108 (mM op k m n)else .no [109]
 | .str s,.str u=>
  match op with
  | .eql=> .ok (.bool (CS s u))
  | .neq=> .ok (.bool (!CS s u))
  | .add=>bif Nat.ble (s.size+u.size) 9223372036854775807 then .ok (.str (Ox s u))else .no [110]
  | .lss=> .ok (.bool (Op.bytesLess s.toList u.toList))
  |_=> .no [111]
 |_,_=> .no [113]
def mj(P:Program)(t:Nat):Nat:=match P.underlying t with
 |some (.pointer _)=>1
 |some (.map _ _)=>2
 |some (.func _ _ _)=>3
 |some .bool=>4
 |some (.interface _)=>5
 |some (.slice _)=>6
 |_=>0
def kP(P:Program)(t:Nat):Bool:=match P.underlying t with
 |some (.pointer e)=>(match gm P e with
  |some n=>Nat.blt 0 n
  |none=>false)
 |_=>false
def il:Nat->V->Option Bool
 |1,.loc _ _=>some false
 |1,.m (.ref _ _)=>some false
 |1,.m (.eI _ _ _)=>some false
 |1,.m (.d (.bm _ _))=>some false
 |1,.m (.d .bX)=>some true
 |2,.m (.mp _)=>some false
 |2,.m (.d .pG)=>some true
 |3,.m (.d (.fn _ _))=>some false
 |3,.m (.fn _ _)=>some false
 |3,.m (.d .qW)=>some true
 |5,.m (.d .yO)=>some true
 |5,.m (.d (.Ig _ _))=>some false
 |_,_=>none
def O5(P:Program)(op:BinOp)(xt:Nat)(yc ys:Bool)(v u:V):R Dn:=
 match mj P xt with
 |0=>(match v,u with
  | .m (.d a),.m (.d b)=>(match a,b with
   | .bool _,_=> .no [118]
   |_,_=>(match Oy op a b with| .ok r=> .ok (.val (.m (.d r)))| .no w=> .no w))
  |_,_=> .no [117])
 |4=>(match v,u with
  | .m (.d (.bool a)),.m (.d (.bool b))=>(match op with
   | .eql=> .ok (.val (.m (.d (.bool (a==b)))))
   | .neq=> .ok (.val (.m (.d (.bool (!(a==b))))))
   |_=> .no [119])
  |_,_=> .no [116])
 |5=>bif yc then(match il 5 v with
  |some z=>(match op with
   | .eql=> .ok (.val (.m (.d (.bool z))))
   | .neq=> .ok (.val (.m (.d (.bool (!z)))))
   |_=> .no [120])
  |none=> .no [121])else .no [122]
 |6=>bif ys then(match v with
  | .m (.d (.sl (_::_)))=>(match op with
   | .eql=> .ok (.val (.m (.d (.bool false))))
   | .neq=> .ok (.val (.m (.d (.bool true))))
   |_=> .no [123])
  | .m (.bH j aL _)=> .ok (.rd j λob=>match ob with
   | .row _ _ Ql _=>bif Nat.beq aL Ql then(match op with
    | .eql=> .ok (.m (.d (.bool false)))
    | .neq=> .ok (.m (.d (.bool true)))
    |_=> .no [123])else .no [124]
   |_=> .no [125])
  |_=> .no [126])else .no [127]
 |k=>(match il k v,il k u with
  |some z,some true=>(match op with
   | .eql=> .ok (.val (.m (.d (.bool z))))
   | .neq=> .ok (.val (.m (.d (.bool (!z)))))
   |_=> .no [114])
  |_,_=>(match v,u with
   | .m (.ref i a),.m (.ref j b)=>bif kP P xt then(match op with
    | .eql=> .ok (.val (.m (.d (.bool (Nat.beq i j&&Nat.beq a b)))))
    | .neq=> .ok (.val (.m (.d (.bool (!(Nat.beq i j&&Nat.beq a b))))))
    |_=> .no [128])else .no [129]
   |_,_=> .no [115]))
def JW(P:Program)(f:Nat):Bool:=match P.funcs[f]? with
 |some fn=> !(fn.name== "runtime.NumGoroutine")&&fn.body.isSome
 |none=>false
def Ir(P:Program)(t:Nat):Option Nat:=match P.underlying t with
 |some (.slice e)=>some e
 |_=>none
def LY(P:Program)(t:Nat):Option IntKind:=match P.underlying t with
 |some (.int k)=>some k
 |_=>none
def Oz:M->Bool
 | .d _=>true
 |_=>false
def LZ:M->Option Nat
 | .d (.sl rows)=>some rows.length
 | .d .ov=>some 0
 | .bH _ _ len=>some len
 |_=>none
def NB(P:Program)(C:FT)(d:Nat)(T U:Nat)(x y:M):R Dn:=
 match Ir P T with
 |none=> .no [301]
 |some e=>match gm P e,vW P e,uz P e with
  |some n,some nb,some z=>
   bif (Nat.blt 0 n&&Nat.beq (bu z).length n&&Nat.ble nb 1000000)then
    (bif Nat.beq T U then
     (match x,LZ y with
     | .d (.sl []),some 0=> .ok (.O8 λH=>match pM H n y with
       |some (_,0)=> .ok (.m (.d (.sl [])))
       |_=> .no [302])
     | .d (.sl []),some (len+1)=> .ok (.al (!Oz y) (λH=>match pM H n y with
       |some (cs,k)=>bif (Nat.beq k (len+1)&&Nat.ble k 100000000)then .ok (.row (!Nat.beq (C.Ow d) 1) n 0 cs)else .no [303]
       |none=> .no [304]) λi=> .m (.bH i 0 (len+1)))
     | .bH j aL len,some k2=> .ok (.up (!Oz y) j λH ob=>match pM H n y,ob with
       |some (Qb,k),.row acc n' Ql cs=>bif (Nat.beq n n'&&Nat.beq aL Ql&&Nat.ble (len+k) 100000000)then .ok (.m (.bH j (aL+1) (len+k)),.row acc n (aL+1) (cs++Qb))else .no [306]
       |_,_=> .no [307])
     |_,_=> .no [308,d])
    else match LY P U,x,y with
     |some k0,.d (.sl []),.d (.int k1 (.ofNat len))=>bif (pN k0 k1&&Nat.blt 0 len&&Nat.ble len 100000000)then
       .ok (.al false (λ_=> .ok (.row false n 0 (List.replicate (len*n) .undef))) λi=> .m (.bH i 0 len))else .no [309]
     |_,_,_=> .no [310])
   else .no [311]
  |_,_,_=> .no [312]
def vq(ev:Operand->Option V):Option Operand->Option (Option Nat)
 |none=>some none
 |some y=>match ev y with
  |some (.m (.d (.int _ (.ofNat i))))=>some (some i)
  |_=>none
section ops
variable{X:bJ}{st:St}{dst:Option Nat}{ty:Nat}{pos:String}{af:Array Edge}{g:Option (Nat×Bool)}{pn:Nat}{H':Hp}
def JX(σ:Sg)(a:Act)(xs:List (Nat×Operand))(ms:List (Nat×M)):Prop:=
 ms.length=(xs.map λp=>(p.1,a.eval p.2)).length/\ ∀(k:Nat) p q,ms[k]?=some p->(xs.map λp=>(p.1,a.eval p.2))[k]?=some q->p.1=q.1/\RM σ p.2 q.2
theorem JF{T e n len:Nat}{parts:List (Nat×Operand)}{z:D}{ms:List (Nat×M)}{cs:List M}{rows:List (List D)}[ht:aZ X.P T e][w:bY X.P e n][K:g_ X.P e z]
  (L:Nat.blt 0 n=true) (x:(bu z).length=n) (ac:Nat.ble (len*n) 16777216=true) (ah: ∀f h p,cE X h p st f->JX h f parts ms)
  (hf:gK (λa=>some (a*n,n)) (eO n len (bu z)) ms=some cs) (co:chunk n len cs=some rows):
  cQ X ⟨dst,.buildSlice T len parts.toArray,ty,pos,af,g⟩ st (dy (.m (.d (.sl rows))) st):=by
 refine cQ.grow λf h p y=> ?_
 have q:=bO L;have d7:=avG ac;obtain⟨N,O⟩:=ah f h p y;obtain⟨v,P,Q⟩:=(gW K.zero).run;have A:lz h ((bu z).map .d) v.cells:=(RM.d (fC Q):RM h (.d z) v).cells W;have R:v.cells.size=n:=by rw[A.1];simpa using x
 have S:lz h (eO n len (bu z)) ((Array.range (len*n)).map λa=>v.cells[a%v.cells.size]!):=by
  refine⟨by simp[eO],λa m u B i=> ?_⟩;have C:a<len*n:=by
   rcases auM a (len*n)with c|c
   ·exact c
   ·rw[avu (by simpa using c)]at i;cases i
  have Uf:a%n<n:=awu _ q;have U:a%n<(bu z).length:=by omega
  simp[eO,C,x]at B;simp[C,R]at i;have V:a%n<v.cells.size:=by omega
  subst B;subst i;refine A.2 (a%n) _ _ ?_ ?_
  ·simp[auO U]
  ·simp[V]
 obtain⟨E,r,F⟩:=qY S N O hf;have H:cs.length=len*n:=by
  have Y: ∀{k:List (Nat×M)} {f b:List M},gK (λa=>some (a*n,n)) f k=some b->b.length=f.length:=by
   intro k
   induction k with
   |nil=>intro f b c;simp[gK]at c;subst c;rfl
   |cons j k Z=>
    intro f b c;obtain⟨a,m⟩:=j;unfold gK at c;simp only at c;cases G:(Nat.beq (cellsOf m).length n&&m.i_)with
    |false=>simp[G]at c
    |true=>
     simp only[G,avx]at c;split at c
     ·rename_i a1 l;rw[Z c];unfold ep at l;cases s:Nat.ble (a*n+(cellsOf m).length) f.length with
      |false=>simp[s]at l
      |true=>
       simp only[s,avx,av2]at l;subst l;have:=avG s;simp;omega
     ·cases c
  rw[Y hf];simp[eO]
 obtain⟨h5,h6,h7⟩:=qg co H;have ZR:E.size=len*n:=by rw[F.1,H]
 refine⟨.slice (some ⟨h.w.heap.size,0,none⟩) len len,{h.w with heap:=h.w.heap.push (.cells E e (0,0))},?_,gG.alloc _ _,.m (.d (gv.JL q y.hinv.DK h5 h6 ZR (by have:=avr len q;omega) ?_))⟩
 ·have:(Array.map (λo:Nat×Operand=>match o with|(a,o)=>(a,f.eval o)) parts.toArray).toList=parts.map λj=>(j.1,f.eval j.2):=by simp
  have d6: ¬(len*n>2^24):=by omega
  by_cases t:len*n=0
  ·have WQ:len=0:=by
    rcases awO.1 t with c|c
    ·exact c
    ·omega
   subst WQ;have UM:((Array.range (0*n)).map λa=>v.cells[a%v.cells.size]!)= #[]:=by simp
   rw[UM]at r;simp only[execOp,Instr.buildSlice,Sem.run_bind,underlying,program,Sem.run,ht.u,Sem.run_pure,Result.andThen_ok,dx w.size,Sem.run_ite,t,awr,this];have e0:Array.range 0=(#[]:Array Nat):=by decide
   simp only[e0,axs];rw[r];simp[newRow,newObj,Sem.run]
  ·simp only[execOp,Instr.buildSlice,Sem.run_bind,underlying,program,Sem.run,ht.u,Sem.run_pure,Result.andThen_ok,dx w.size,Sem.run_ite,d6,awi,t,P,this];rw[r];simp[newRow,newObj,Sem.run]
 ·intro a I J d u hr hd i;have:=F.2 _ _ u (h7 a I J d hr hd) i;refine⟨?_,this.2⟩;cases this.1 with
  |d c=>exact c
theorem oQ{T e n len:Nat}{parts:List (Nat×Operand)}{z:D}{ms:List (Nat×M)}{cs:List M}[ht:aZ X.P T e][E:bY X.P e n][P:g_ X.P e z]
  (Q:Nat.blt 0 n=true) (F:(bu z).length=n) (ac:Nat.ble (len*n) 16777216=true) (R:eG st parts=some ms)
  (hf:gK (λa=>some (a*n,n)) (eO n len (bu z)) ms=some cs) (S:Place st.H (.row false n 0 cs) pn H'):
  cQ X ⟨dst,.buildSlice T len parts.toArray,ty,pos,af,g⟩ st (dy (.m (.bH pn 0 len)) ⟨st.sl,st.bx,H'⟩):=by
 intro d i U G;have q:=bO Q;have d6:=avG ac;obtain⟨V,Y⟩:=G.eG R;obtain⟨v,Z,Uw⟩:=(gW P.zero).run;have H:lz i ((bu z).map .d) v.cells:=(RM.d (fC Uw):RM i (.d z) v).cells W;have Sj:v.cells.size=n:=by rw[H.1];simpa using F
 have hc:lz i (eO n len (bu z)) ((Array.range (len*n)).map λa=>v.cells[a%v.cells.size]!):=by
  refine⟨by simp[eO],λa m u k f=> ?_⟩;have I:a<len*n:=by
   rcases auM a (len*n)with c|c
   ·exact c
   ·rw[avu (by simpa using c)]at f;cases f
  have Uf:a%n<n:=awu _ q;have Xw:a%n<(bu z).length:=by omega
  simp[eO,I,F]at k;simp[I,Sj]at f;have PP:a%n<v.cells.size:=by omega
  subst k;subst f;refine H.2 (a%n) _ _ ?_ ?_
  ·simp[auO Xw]
  ·simp[PP]
 obtain⟨r,s,t⟩:=qY hc V Y hf;have B:cs.length=len*n:=by
  have Wo: ∀{l:List (Nat×M)} {d b:List M},gK (λa=>some (a*n,n)) d l=some b->b.length=d.length:=by
   intro l
   induction l with
   |nil=>intro d b c;simp[gK]at c;subst c;rfl
   |cons j l ih=>
    intro d b c;obtain⟨a,m⟩:=j;unfold gK at c;simp only at c;cases J:(Nat.beq (cellsOf m).length n&&m.i_)with
    |false=>simp[J]at c
    |true=>
     simp only[J,avx]at c;split at c
     ·rename_i a1 h;rw[ih c];unfold ep at h;cases w:Nat.ble (a*n+(cellsOf m).length) d.length with
      |false=>simp[w]at h
      |true=>
       simp only[w,avx,av2]at h;subst h;have:=avG w;simp;omega
     ·cases c
  rw[Wo hf];simp[eO]
 have K:r.size=len*n:=by rw[t.1,B]
 have ah:len<=140737488355328:=by have:=avr len q;omega
 obtain⟨o,x,L,N,g4,g5⟩:=G.place S (.cells r e (0,0)) (by
  intro o k h;refine⟨q,r,e,len,len,by rw[h];exact jo _ _,K,auK _,⟨B,ah⟩,?_⟩;intro C m u O f;exact⟨(t.2 C m u O f).1.mono k,(t.2 C m u O f).2⟩)
 refine dT.value (u:= .slice (some ⟨i.w.heap.size,0,none⟩) len len) (w':=o.w) ?_ ⟨_,_,o,U,⟨W,W⟩,W,g5,?_⟩
 ·have:(Array.map (λp:Nat×Operand=>match p with|(a,p)=>(a,d.eval p)) parts.toArray).toList=parts.map λj=>(j.1,d.eval j.2):=by simp
  have co: ¬(len*n>2^24):=by omega
  by_cases y:len*n=0
  ·have WQ:len=0:=by
    rcases awO.1 y with c|c
    ·exact c
    ·omega
   subst WQ;have UM:((Array.range (0*n)).map λa=>v.cells[a%v.cells.size]!)= #[]:=by simp
   rw[UM]at s;simp only[execOp,Instr.buildSlice,Sem.run_bind,underlying,program,Sem.run,ht.u,Sem.run_pure,Result.andThen_ok,dx E.size,Sem.run_ite,y,awr,this];have e0:Array.range 0=(#[]:Array Nat):=by decide
   simp only[e0,axs];rw[s];simp[newRow,newObj,Sem.run,x]
  ·simp only[execOp,Instr.buildSlice,Sem.run_bind,underlying,program,Sem.run,ht.u,Sem.run_pure,Result.andThen_ok,dx E.size,Sem.run_ite,co,awi,y,Z,this];rw[s];simp[newRow,newObj,Sem.run,x]
 ·refine .m (.bH _ 0 len _ len (.inr ⟨false,n,0,cs,N,auK _⟩) ?_);intro Sq d7 PV A;rw[N]at A;simp at A;obtain⟨e1,e2,e3⟩:=A;subst e1;subst e2;subst e3;exact⟨by rw[L],B,_,e,by rw[L,x];exact jo _ _,K⟩
theorem uW{f:Nat}{a:List Operand}{ms:List M}(d:st.gD a=some ms):
  cQ X ⟨dst,.makeFunc (.func f) #[] a.toArray,ty,pos,af,g⟩ st (dy (.m (.fn f ms)) st):=by
 refine PN λc h i e=> ?_
 have b:=e.gD d;exact⟨.func (.func f) #[] (a.map c.eval).toArray,by simp[execOp,Instr.makeFunc],.m (.fn f ms _ b.1 b.2)⟩
theorem D0{σ:Sg}{ms d:List M}{e us:Array Value}(h:vX σ ms e)(k:vX σ d us):vX σ (ms++d) (e++us):=by
 refine⟨by simp[h.1,k.1],λc m v a b=> ?_⟩;have f:=h.1;rcases auM c ms.length with g|i
 ·rw[auL g]at a;rw[awf (by omega)]at b;exact h.2 c m v a b
 ·rw[auR i]at a;rw[awE (by omega),f]at b;exact k.2 _ m v a b
def Hs(X:bJ)(st:St)(c:Call)(f:Nat)(ms:List M):Prop:=
 ∀(dst:Option Nat) (ty:Nat) (pos:String) (af:Array Edge) (g:Option (Nat×Bool)) (a:Act) (σ:Sg) (Pw:Nat->Nat),cE X σ Pw st a-> ∃vs,(execOp a.eval ⟨dst,.call c,ty,pos,af,g⟩).run X.P σ.w= .ok (.enter f vs) σ.w/\vX σ ms vs
theorem xW{x:Operand}{f:Nat}{c:List M}{args:List Operand}{Sr:Array Nat}{ms:List M}[hf:bz X.P f](e:st.ev x=some (.m (.fn f c)))(g:st.gD args=some ms):Hs X st ⟨.value x,args.toArray,Sr⟩ f (ms++c):=by
 intro t q u af n b o r d;have a:=d.ev e;have h:=d.gD g;generalize i:b.eval x=p at a;cases a with
 |m a=>cases a with
  |fn f s j k l=>
   refine⟨(args.map b.eval).toArray++j,?_,D0 h ⟨k,l⟩⟩;simp only[execOp,resolve,i,Deferred.ofValue,invoke];simp[hf.run]
theorem cQ.weaken{o:Oper}{p q:V->St->Prop}(h:cQ X o st p)(k: ∀v a,p v a->q v a):cQ X o st q:=by
 intro g i n r;have:=h g i n r;unfold dT at this⊢;generalize (execOp g.eval o).run X.P i.w=l at*;cases l with
 |ok j s=>
  cases j<;>simp only at this⊢ <;>first
   |(obtain⟨v,a,b,c,d,f⟩:=this;exact⟨v,a,b,c,k _ _ d,f⟩)
   |exact this.mono λe u ⟨m,t,v,a,b,c,d,f⟩=>⟨m,t,v,a,b,c,k _ _ d,f⟩
   |exact this
 |halt j s=>exact this
theorem zu{c:Call}{f:Nat}{ms:List M}{r:M}{a:Hp}(e:Hs X st c f ms)(h:CT X.P f ms st.H λd b=>d=r/\b=a):
  cQ X ⟨dst,.call c,ty,pos,af,g⟩ st (dy (.m r) ⟨st.sl,st.bx,a⟩):=
 (cQ.JJ h (e dst ty pos af g)).weaken (by rintro v i ⟨j,k,rfl,⟨rfl,rfl⟩,rfl⟩;exact⟨W,W⟩)
end ops
section ops
variable{X:bJ}{st:St}{dst:Option Nat}{ty:Nat}{pos:String}{af:Array Edge}{g:Option (Nat×Bool)}{pn:Nat}{H':Hp}
theorem D1{σ:Sg}{Pw:Nat->Nat}{v:V}{u:Value}{z:Bool}(h:RV σ Pw v u)(a:il 1 v=some z): ∃p,u= .pointer p/\p.isNone=z:=by
 unfold il at a;cases h with
 |loc j c=>simp at a;subst a;exact⟨_,W,W⟩
 |tl _ _ _ _ _ _ _ _=>simp at a
 |m h=>cases h with
  |ref e c f h=>simp at a;subst a;exact⟨_,W,W⟩
  |eI e l c b g i=>simp at a;subst a;exact⟨_,W,W⟩
  |d h=>cases h with
   |bm f c b k val g i n=>simp at a;subst a;exact⟨_,W,W⟩
   |bX=>simp at a;subst a;exact⟨_,W,W⟩
   |_=>simp at a
  |_=>simp at a
theorem D2{σ:Sg}{Pw:Nat->Nat}{v:V}{u:Value}{z:Bool}(h:RV σ Pw v u)(a:il 2 v=some z): ∃p,u= .map p/\p.isNone=z:=by
 unfold il at a;cases h with
 |loc b f=>simp at a
 |tl _ _ _ _ _ _ _ _=>simp at a
 |m h=>cases h with
  |mp c e h=>simp at a;subst a;exact⟨_,W,W⟩
  |d h=>cases h with
   |pG=>simp at a;subst a;exact⟨_,W,W⟩
   |_=>simp at a
  |_=>simp at a
theorem D3{σ:Sg}{Pw:Nat->Nat}{v:V}{u:Value}{z:Bool}(h:RV σ Pw v u)(c:il 3 v=some z):(z=true/\u= .nilFunc)\/(z=false/\ ∃f a b,u= .func f a b):=by
 unfold il at c;cases h with
 |loc k l=>simp at c
 |tl _ _ _ _ _ _ _ _=>simp at c
 |m h=>cases h with
  |fn f e g i j=>simp at c;subst c;exact .inr ⟨W,_,_,_,W⟩
  |d h=>cases h with
   |qW=>simp at c;subst c;exact .inl ⟨W,W⟩
   |fn f e g i j=>simp at c;subst c;exact .inr ⟨W,_,_,_,W⟩
   |_=>simp at c
  |_=>simp at c
theorem FU{P:Program}{w:World}{t e:Nat}(h:P.underlying t=some (.pointer e))(p:Option Addr):(Op.equal t (.pointer p) (.pointer none)).run P w= .ok p.isNone w:=by
 have a:(underlying t).run P w= .ok (.pointer e) w:=by simp[underlying,program,Sem.run,h]
 simp only[Op.equal,Op.maxDepth];rw[Op.equalIn];cases p<;>simp[a]
theorem FV{P:Program}{w:World}{t e a:Nat}(h:P.underlying t=some (.map e a))(p:Option Nat):(Op.equal t (.map p) (.map none)).run P w= .ok p.isNone w:=by
 have b:(underlying t).run P w= .ok (.map e a) w:=by simp[underlying,program,Sem.run,h]
 simp only[Op.equal,Op.maxDepth];rw[Op.equalIn];cases p<;>simp[b]
theorem zw{P:Program}{w:World}{t:Nat}{e1 e2 e3}(h:P.underlying t=some (.func e1 e2 e3))(x:Value)(b:x= .nilFunc\/ ∃a c d,x= .func a c d):(Op.equal t x .nilFunc).run P w= .ok (match x with| .nilFunc=>true|_=>false) w:=by
 have e:(underlying t).run P w= .ok (.func e1 e2 e3) w:=by simp[underlying,program,Sem.run,h]
 simp only[Op.equal,Op.maxDepth];rw[Op.equalIn];rcases b with rfl|⟨a,c,d,rfl⟩<;>simp[e]
theorem eq_nil{P:Program}{w:World}{f k:Nat}{σ:Sg}{Pw:Nat->Nat}{v u:V}{a b:Value}{z:Bool}(j:mj P f=k)(D:k=1\/k=2\/k=3)(o:RV σ Pw v a)(p:RV σ Pw u b)(q:il k v=some z)(r:il k u=some true):
  (Op.equal f a b).run P w= .ok z w/\(∀op x y,(eqGuard op f x y a b).run P w= .ok () w)/\(binOp .eql f a b).run P w= .ok (.bool z) w/\(binOp .neq f a b).run P w= .ok (.bool (!z)) w:=by
 have n:(Op.equal f a b).run P w= .ok z w->(∃i h,a= .pointer i/\b= .pointer h)\/(∃i h,a= .map i/\b= .map h)\/((a= .nilFunc\/ ∃l c d,a= .func l c d)/\b= .nilFunc)->
   (Op.equal f a b).run P w= .ok z w/\(∀op x y,(eqGuard op f x y a b).run P w= .ok () w)/\(binOp .eql f a b).run P w= .ok (.bool z) w/\(binOp .neq f a b).run P w= .ok (.bool (!z)) w:=by
  rintro s (⟨i,h,rfl,rfl⟩|⟨i,h,rfl,rfl⟩|⟨rfl|⟨l,c,d,rfl⟩,rfl⟩)<;>
   exact⟨s,λop x y=>by cases op<;>simp[eqGuard],by simp[binOp,s],by simp[binOp,s]⟩
 rcases D with rfl|rfl|rfl
 ·obtain⟨i,rfl,t⟩:=D1 o q;obtain⟨h,rfl,A⟩:=D1 p r;have g: ∃e,P.underlying f=some (.pointer e):=by
   unfold mj at j;split at j<;>first|exact⟨_,by assumption⟩|cases j
  obtain⟨e,g⟩:=g;refine n ?_ (.inl ⟨i,h,W,W⟩);have:h=none:=by simpa using A
  subst this;rw[FU g,t]
 ·obtain⟨i,rfl,t⟩:=D2 o q;obtain⟨h,rfl,A⟩:=D2 p r;have g: ∃e m,P.underlying f=some (.map e m):=by
   unfold mj at j;split at j<;>first|exact⟨_,_,by assumption⟩|cases j
  obtain⟨e,m,g⟩:=g;refine n ?_ (.inr (.inl ⟨i,h,W,W⟩));have:h=none:=by simpa using A
  subst this;rw[FV g,t]
 ·have g: ∃e m B,P.underlying f=some (.func e m B):=by
   unfold mj at j;split at j<;>first|exact⟨_,_,_,by assumption⟩|cases j
  obtain⟨E,m,B,g⟩:=g;rcases D3 p r with⟨_,rfl⟩|⟨C,_⟩
  ·rcases D3 o q with⟨rfl,rfl⟩|⟨rfl,l,c,d,rfl⟩
   ·exact n (by rw[zw g _ (.inl W)]) (.inr (.inr ⟨.inl W,rfl⟩))
   ·exact n (by rw[zw g _ (.inr ⟨l,c,d,rfl⟩)]) (.inr (.inr ⟨.inr ⟨l,c,d,rfl⟩,rfl⟩))
  ·cases C
theorem JY{σ:Sg}{Pw:Nat->Nat}{v:V}{u:Value}{z:Bool}(h:RV σ Pw v u)(a:il 5 v=some z):(z=true/\u= .nilIface)\/(z=false/\ ∃t x,u= .iface t x):=by
 unfold il at a;cases h with
 |loc t b=>simp at a
 |tl _ _ _ _ _ _ _ _=>simp at a
 |m h=>cases h with
  |d h=>cases h with
   |yO=>simp at a;subst a;exact .inl ⟨W,W⟩
   |Ig t d v h=>simp at a;subst a;exact .inr ⟨W,_,_,W⟩
   |_=>simp at a
  |_=>simp at a
theorem zx{P:Program}{w:World}{t:Nat}{ms}(h:P.underlying t=some (.interface ms))(x:Value)(b:x= .nilIface\/ ∃a c,x= .iface a c):(Op.equal t x .nilIface).run P w= .ok (match x with| .nilIface=>true|_=>false) w:=by
 have d:(underlying t).run P w= .ok (.interface ms) w:=by simp[underlying,program,Sem.run,h]
 simp only[Op.equal,Op.maxDepth];rw[Op.equalIn];rcases b with rfl|⟨a,c,rfl⟩<;>simp[d]
theorem OA{f n:Nat}{x:Operand}{v:V}{z:Bool}{op:BinOp}(k:op= .eql\/op= .neq)(h:mj X.P f=5)(o:st.ev x=some v)(p:il 5 v=some z):
  cQ X ⟨dst,.binOp op f x (.const .nilIface) n,ty,pos,af,g⟩ st (dy (.m (.d (.bool (match op with| .eql=>z|_=> !z)))) st):=by
 refine PN λm i r q=> ?_
 have d: ∃l,X.P.underlying f=some (.interface l):=by
  unfold mj at h;split at h<;>first|exact⟨_,by assumption⟩|cases h
 obtain⟨l,d⟩:=d;have e:m.eval (.const .nilIface)= .nilIface:=rfl;rcases JY (q.ev o) p with⟨rfl,a⟩|⟨rfl,j,c,a⟩
 ·have b:=zx (w:=i.w) d .nilIface (.inl W);rcases k with rfl|rfl
  ·exact⟨.bool true,by simp[execOp,a,e,eqGuard,binOp,b],.m (.d (.bool _))⟩
  ·exact⟨.bool false,by simp[execOp,a,e,eqGuard,binOp,b],.m (.d (.bool _))⟩
 ·have b:=zx (w:=i.w) d (.iface j c) (.inr ⟨j,c,rfl⟩);rcases k with rfl|rfl
  ·exact⟨.bool false,by simp[execOp,a,e,eqGuard,binOp,b],.m (.d (.bool _))⟩
  ·exact⟨.bool true,by simp[execOp,a,e,eqGuard,binOp,b],.m (.d (.bool _))⟩
theorem Is{P:Program}{w:World}{t e:Nat}(h:P.underlying t=some (.slice e))(a:Addr)(l c:Nat):(Op.equal t (.slice (some a) l c) (.slice none 0 0)).run P w= .ok false w:=by
 have b:(underlying t).run P w= .ok (.slice e) w:=by simp[underlying,program,Sem.run,h]
 simp only[Op.equal,Op.maxDepth];rw[Op.equalIn];simp[b]
theorem JZ{f o:Nat}{x:Operand}{op:BinOp}(p:op= .eql\/op= .neq)(h:mj X.P f=6)(q: ∀a b i,cE X b i st a-> ∃j d c,a.eval x= .slice (some j) d c):
  cQ X ⟨dst,.binOp op f x (.const (.slice none 0 0)) o,ty,pos,af,g⟩ st (dy (.m (.d (.bool (match op with| .eql=>false|_=>true)))) st):=by
 refine PN λa b i r=> ?_
 have k: ∃e,X.P.underlying f=some (.slice e):=by
  unfold mj at h;split at h<;>first|exact⟨_,by assumption⟩|cases h
 obtain⟨e,k⟩:=k;obtain⟨j,d,c,l⟩:=q a b i r;have m:a.eval (.const (.slice none 0 0))= .slice none 0 0:=rfl;have n:=Is (w:=b.w) k j d c;rcases p with rfl|rfl
 ·exact⟨.bool false,by simp[execOp,l,m,eqGuard,binOp,n],.m (.d (.bool _))⟩
 ·exact⟨.bool true,by simp[execOp,l,m,eqGuard,binOp,n],.m (.d (.bool _))⟩
theorem J0{σ:Sg}{Pw:Nat->Nat}{a:Act}(hi:cE X σ Pw st a){x:Operand}{r:List D}{rs:List (List D)}(e:st.ev x=some (.m (.d (.sl (r::rs))))): ∃ad l c,a.eval x= .slice (some ad) l c:=by
 have d:=hi.qc e;generalize a.eval x=f at d;cases d with
 |sl s b g q h val i j k m n o p=>exact⟨_,_,_,W⟩
theorem zy{P:Program}{w:World}{t e n:Nat}(h:P.underlying t=some (.pointer e))(c:gm P e=some n)(i:0<n)(a b:Addr){z:Bool}(d:(sameAddr a b).run P w= .ok z w):(Op.equal t (.pointer (some a)) (.pointer (some b))).run P w= .ok z w:=by
 have f:(underlying t).run P w= .ok (.pointer e) w:=by simp[underlying,program,Sem.run,h]
 have g: ¬n=0:=by omega
 simp only[Op.equal,Op.maxDepth];rw[Op.equalIn];simp[f,dx c,g,d]
theorem Iu{o w i j oi oj:Nat}{x y:Operand}{op:BinOp}(z:op= .eql\/op= .neq)(b:kP X.P o=true)(A:st.ev x=some (.m (.ref i oi)))(B:st.ev y=some (.m (.ref j oj))):
  cQ X ⟨dst,.binOp op o x y w,ty,pos,af,g⟩ st (dy (.m (.d (.bool (match op with| .eql=>(Nat.beq i j&&Nat.beq oi oj)|_=> !(Nat.beq i j&&Nat.beq oi oj))))) st):=by
 refine PN λr a N d=> ?_
 have f: ∃e c,X.P.underlying o=some (.pointer e)/\gm X.P e=some c/\0<c:=by
  unfold kP at b;split at b
  ·rename_i e f;split at b
   ·rename_i c p;exact⟨e,c,f,p,bO b⟩
   ·cases b
  ·cases b
 obtain⟨e,c,f,C,p⟩:=f;have h:=d.ev A;have k:=d.ev B;generalize s:r.eval x=K at h;generalize t:r.eval y=L at k;cases h with
 |m h=>cases h with
  |ref i oi O v=>cases k with
   |m k=>cases k with
    |ref j oj Q u=>
     obtain⟨R,M,D,_⟩:=d.hinv.obj i _ v;obtain⟨S,T,E,_⟩:=d.hinv.obj j _ u;have F:(sameAddr ⟨a.l i,oi,none⟩ ⟨a.l j,oj,none⟩).run X.P a.w= .ok (Nat.beq i j&&Nat.beq oi oj) a.w:=by
      by_cases q:i=j/\oi=oj
      ·obtain⟨rfl,rfl⟩:=q;have:=run_sameAddr_same (P:=X.P) a.w ⟨a.l i,oi,none⟩;simpa using this
      ·have G:(⟨a.l i,oi,none⟩:Addr)≠⟨a.l j,oj,none⟩:=by
        intro l;injection l with H I
        exact q ⟨d.hinv.inj i j _ _ v u trivial trivial H,I⟩
       have J:(Nat.beq i j&&Nat.beq oi oj)=false:=by
        rw[<-avX];intro n;rw[avf]at n;exact q ⟨auZ n.1,auZ n.2⟩
       rw[J];exact run_sameAddr_other (P:=X.P) a.w G D E
     have l:=zy f C p _ _ F;rcases z with rfl|rfl
     ·exact⟨.bool (Nat.beq i j&&Nat.beq oi oj),by simp[execOp,s,t,eqGuard,binOp,l],.m (.d (.bool _))⟩
     ·exact⟨.bool (!(Nat.beq i j&&Nat.beq oi oj)),by simp[execOp,s,t,eqGuard,binOp,l],.m (.d (.bool _))⟩
theorem yz{a e k:Nat}{x y:Operand}{v u:V}{z:Bool}{op:BinOp}(f:op= .eql\/op= .neq)(h:mj X.P a=k)(i:k=1\/k=2\/k=3)(j:st.ev x=some v)(l:st.ev y=some u)(m:il k v=some z)(n:il k u=some true):
  cQ X ⟨dst,.binOp op a x y e,ty,pos,af,g⟩ st (dy (.m (.d (.bool (match op with| .eql=>z|_=> !z)))) st):=by
 refine PN λq d r b=> ?_
 obtain⟨s,c,o,p⟩:=eq_nil (w:=d.w) h i (b.ev j) (b.ev l) m n;rcases f with rfl|rfl
 ·exact⟨.bool z,by simp[execOp,c,o],.m (.d (.bool z))⟩
 ·exact⟨.bool (!z),by simp[execOp,c,p],.m (.d (.bool (!z)))⟩
theorem zA{σ:Sg}{Pw:Nat->Nat}{a:Act}(hi:cE X σ Pw st a){o:Option Operand}{l:Option Nat}(h:vq st.ev o=some l):(l=none/\o.map a.eval=none)\/ ∃n k,l=some n/\o.map a.eval=some (.int k (n:Int)):=by
 unfold vq at h;cases o with
 |none=>simp at h;subst h;exact .inl ⟨W,W⟩
 |some d=>
  simp only at h;split at h
  ·rename_i k b c;injection h with h;subst h
   right;exact⟨b,k,W,by simp[hi.lA c]⟩
  ·cases h
theorem vr{t e n:Nat}{x:Operand}{lo hi:Option Operand}{l h:Option Nat}{rows:List (List D)}[ht:aZ X.P t e][M:bY X.P e n](N:st.ev x=some (.m (.d (.sl rows))))(ac:vq st.ev lo=some l)(ah:vq st.ev hi=some h)
  (f:rows≠ []) (E:l.getD 0<=h.getD rows.length) (h2:h.getD rows.length<=rows.length) (O: ∀r∈rows,r.length=n):
  cQ X ⟨dst,.slice t x lo hi none,ty,pos,af,g⟩ st (dy (.m (.d (match(rows.drop (l.getD 0)).take (h.getD rows.length-l.getD 0)with| []=> .ov|r=> .sl r))) st):=by
 refine PN λu C Pw w=> ?_
 have F:=w.qc N;have P:=zA w ac;have Q:=zA w ah;generalize R:u.eval x=d7 at F;have S: ∀v:World,(underlying t).run X.P v= .ok (.slice e) v:= λv=>by simp[underlying,program,Sem.run,ht.u]
 cases F with
 |slnil ad=>exact absurd W f
 |sl rows b q k o val T R9 Qq G U V Y=>
  have co:o=n:=by
   cases rows with
   |nil=>exact absurd W T
   |cons r rs=>rw[<-G r (by simp)];exact O r (by simp)
  subst co;generalize y:l.getD 0=a at*;generalize z:h.getD rows.length=i at*;refine⟨.slice (if k=a then some ⟨b,q,none⟩else some ⟨b,q+a*o,none⟩) (i-a) (k-a),?_,?_⟩
  ·have c2:((i:Nat):Int)<=k:=by omega
   have d6: ∀lv s:Option Value,(lv=none/\a=0\/ ∃m,lv=some (.int m (a:Int)))->(s=none/\i=rows.length\/ ∃m,s=some (.int m (i:Int)))->
     (Instr.sliceBounds true rows.length k lv s none).run X.P C.w= .ok (a,i,k) C.w:=by
    rintro lv s (⟨rfl,rfl⟩|⟨m,rfl⟩) (⟨rfl,rfl⟩|⟨k',rfl⟩)
    ·simp[Instr.sliceBounds]
    ·simp[Instr.sliceBounds,Instr.sliceBound,asIntOf,show i<=k by omega]
    ·simp[Instr.sliceBounds,Instr.sliceBound,asIntOf,E]
    ·simp[Instr.sliceBounds,Instr.sliceBound,asIntOf,show i<=k by omega,E]
   have f:=d6 (lo.map u.eval) (hi.map u.eval)
    (by
      rcases P with⟨rfl,e⟩|⟨n,m,rfl,e⟩
      ·left;exact⟨e,by simpa using y.symm⟩
      ·right;exact⟨m,by rw[e];simp at y;subst y;rfl⟩)
    (by
      rcases Q with⟨rfl,e⟩|⟨n,m,rfl,e⟩
      ·left;exact⟨e,by simpa using z.symm⟩
      ·right;exact⟨m,by rw[e];simp at z;subst z;rfl⟩)
   simp only[execOp,Instr.sliceAt,Instr.slice,R,Option.map_none];simp only[Sem.run_bind,S,Result.andThen_ok,f,dx M.size,Sem.run_pure];by_cases H:k=a
   ·simp[H]
   ·simp[H,mC]
  ·generalize I:(rows.drop a).take (i-a)=p;have A:p.length=i-a:=by rw[<-I];simp;omega
   cases p with
   |nil=>
    simp at A;rw[show i-a=0 by omega];exact .m (.d (.ov _ _))
   |cons Z rf=>
    simp only;generalize J:Z::rf=p at*;have WW:0<i-a:=by rw[<-A,<-J];simp
    rw[auU (by omega),<-A];have K: ∀c r,p[c]?=some r->rows[a+c]?=some r:=by
     intro c r f;rw[<-I,awB]at f;split at f
     ·rw[awA]at f;exact f
     ·cases f
    have L: ∀c,c<p.length->a+c<rows.length:=by intro c hi;omega
    refine .m (.d (gv.sl p b (q+a*o) (k-a) o (λc j=>val (a+c) j) (by rw[<-J];simp) (by omega) (by omega) ?_ ?_ ?_ ?_))
    ·intro r f;obtain⟨c,hi⟩:=ave.1 f;exact G r (auQ (K c r hi))
    ·intro c j hi B;have:=U (a+c) j (L c hi) B;rw[show q+a*o+(c*o+j)=q+((a+c)*o+j) by rw[awy];omega];exact this
    ·intro c j hi B;exact V (a+c) j (L c hi) B
    ·intro c j r d f hd;exact Y (a+c) j r d (K c r f) hd
end ops
theorem xX{P:Program}{t:Nat}(h:kP P t=true): ∃e n,P.underlying t=some (.pointer e)/\gm P e=some n/\0<n:=by
 unfold kP at h;split at h
 ·rename_i e a;split at h
  ·rename_i n b;exact⟨e,n,a,b,bO h⟩
  ·cases h
 ·cases h
theorem RM.OB{σ:Sg}{a b:M}{x y:Value}(h:RM σ (.dq [a,b]) (.tuple #[x,y])):RM σ a x/\RM σ b y:=by
 cases h with
 |dq c d e h=>exact⟨h 0 a x W W,h 1 b y W W⟩
theorem RM.Ht{σ:Sg}{a b:M}{x y:Value}(f:RM σ a x)(g:RM σ b y):RM σ (.dq [a,b]) (.tuple #[x,y]):=by
 refine .dq _ _ W λe m v c d=> ?_
 match e with
 |0=>simp at c d;subst c;subst d;exact f
 |1=>simp at c d;subst c;subst d;exact g
 |e+2=>simp at c
theorem Ba{P:Program}{σ:Sg}{e:Nat->Nat->Prop}(hi:ln σ e){i j oi oj:Nat}{cs ds:List M}(d:σ.H[i]?=some (.box cs))(c:σ.H[j]?=some (.box ds)):
  (sameAddr ⟨σ.l i,oi,none⟩ ⟨σ.l j,oj,none⟩).run P σ.w= .ok (Nat.beq i j&&Nat.beq oi oj) σ.w:=by
 obtain⟨p,o,f,_⟩:=hi.obj i _ d;obtain⟨q,r,g,_⟩:=hi.obj j _ c;by_cases b:i=j/\oi=oj
 ·obtain⟨rfl,rfl⟩:=b;have:=run_sameAddr_same (P:=P) σ.w ⟨σ.l i,oi,none⟩;simpa using this
 ·have h:(⟨σ.l i,oi,none⟩:Addr)≠⟨σ.l j,oj,none⟩:=by
   intro k;injection k with l m
   exact b ⟨hi.inj i j _ _ d c trivial trivial l,m⟩
  have n:(Nat.beq i j&&Nat.beq oi oj)=false:=by
   rw[<-avX];intro a;rw[avf]at a;exact b ⟨auZ a.1,auZ a.2⟩
  rw[n];exact run_sameAddr_other (P:=P) σ.w h f g
theorem nA{P:Program}{σ:Sg}{O:Nat->Nat->Prop}(hi:ln σ O){d B C:Nat}(E:P.underlying d=some (.pointer B))(F:gm P B=some C)(G:0<C){i o:Nat}{cs:List M}(K:σ.H[i]?=some (.box cs)):
  ∀{es:List (D×M)} {us:List MapEntry} {n:Nat},hJ es=true->us.length=es.length->(∀(k:Nat) e u,es[k]?=some e->us[k]?=some u->w7 σ e u)->
  (ij i o es=none/\(Instr.findAsking d (.pointer (some ⟨σ.l i,o,none⟩)) us n).run P σ.w= .ok none σ.w/\(∀v,jz i o v es=es++ [(.bX,.dq [.ref i o,v])]))\/
  ∃k m u,ij i o es=some m/\us[k]?=some u/\es[k]?=some (.bX,.dq [.ref i o,m])/\(Instr.findAsking d (.pointer (some ⟨σ.l i,o,none⟩)) us n).run P σ.w= .ok (some (n+k,u.val)) σ.w/\
   u.key= .pointer (some ⟨σ.l i,o,none⟩)/\RM σ m u.val/\(∀v,jz i o v es=es.set k (.bX,.dq [.ref i o,v]))
 | [],us,n,_,h,_=>by
  have:us= []:=by simpa using h
  subst this;exact .inl ⟨W,by simp[Instr.findAsking,Sem.run],λv=>rfl⟩
 |(dk,mm)::c,us,n,j,h,A=>by
  unfold hJ at j;split at j
  ·rename_i q;cases q
  ·rename_i a u m r' q;injection q with f ac;injection f with Q R;subst Q;subst R;subst ac
   cases us with
   |nil=>simp at h
   |cons w us=>
    obtain⟨L,S⟩:RM σ (.ref a u) w.key/\RM σ m w.val:=by
     rcases A 0 _ _ rfl rfl with⟨f,_⟩|⟨_,f⟩
     ·simp[He]at f
     ·exact f.OB
    obtain⟨l,r,s⟩: ∃l,σ.H[a]?=some (.box l)/\w.key= .pointer (some ⟨σ.l a,u,none⟩):=by
     generalize w.key=ah at L;cases L with
     |ref a u l r=>exact⟨l,r,W⟩
    have p:=zy (w:=σ.w) E F G ⟨σ.l i,o,none⟩ ⟨σ.l a,u,none⟩ (Ba (P:=P) hi (oi:=o) (oj:=u) K r);cases g:(Nat.beq i a&&Nat.beq o u)with
    |true=>
     have t:=g;rw[avf]at t;have T:=auZ t.1;have U:=auZ t.2;subst T;subst U;refine .inr ⟨0,m,w,by simp[ij],rfl,rfl,?_,s,S,λv=>by simp[jz]⟩;rw[g]at p;simp only[Instr.findAsking,s];simp[p]
    |false=>
     rw[g]at p;have H:(Instr.findAsking d (.pointer (some ⟨σ.l i,o,none⟩)) (w::us) n).run P σ.w=(Instr.findAsking d (.pointer (some ⟨σ.l i,o,none⟩)) us (n+1)).run P σ.w:=by
      simp only[Instr.findAsking,s];simp[p]
     have I:ij i o ((.bX,.dq [.ref a u,m])::c)=ij i o c:=by simp only[ij,g,aws]
     have J: ∀v,jz i o v ((.bX,.dq [.ref a u,m])::c)=(.bX,.dq [.ref a u,m])::jz i o v c:= λv=>by simp only[jz,g,aws]
     rcases nA hi E F G (o:=o) K (n:=n+1) (es:=c) (us:=us) j (by simpa using h) (λk e u N b=>A (k+1) e u (by simpa using N) (by simpa using b))with⟨x,y,z⟩|⟨k,V,X,x,y,z,Y,Z,h8,h9⟩
     ·exact .inl ⟨by rw[I];exact x,by rw[H];exact y,λv=>by rw[J,z];rfl⟩
     ·exact .inr ⟨k+1,V,X,by rw[I];exact x,by simpa using y,by simpa using z,by rw[H,Y];congr 3;omega,Z,h8,λv=>by rw[J,h9];rfl⟩
  ·cases j
theorem wl{P:Program}{w:World}{a b:Nat}(d:P.underlying a=some (.pointer b))(p:Option Addr)(us:List MapEntry):
  (Instr.findKey a (.pointer p) us).run P w=(Instr.findAsking a (.pointer p) us).run P w:=by
 have c:(underlying a).run P w= .ok (.pointer b) w:=by simp[underlying,program,Sem.run,d]
 cases us with
 |nil=>simp[Instr.findKey,Instr.findNow,Instr.findAsking,c]
 |cons e us=>simp[Instr.findKey,Instr.findNow,Instr.sameNow,c]
theorem uX{P:Program}{b:Bool}{n a c:Nat}{v:Value}{w:World}(h:P.underlying a=some (.pointer c)):(Instr.checkKey b (n+1) a v).run P w= .ok () w:=by
 simp[Instr.checkKey,underlying,program,Sem.run,h]
section ops
variable{X:bJ}{st:St}{dst:Option Nat}{ty:Nat}{pos:String}{af:Array Edge}{g:Option (Nat×Bool)}
theorem xY{T e A:Nat}{x y:Operand}{i j o:Nat}{es:List (D×M)}{z:D}(ht:X.P.underlying T=some (.map A e))(J:kP X.P A=true)[K:g_ X.P e z]{ok:Bool}(L:st.ev x=some (.m (.mp i)))(N:st.ev y=some (.m (.ref j o)))(O:st.H[i]?=some (.map es))(P:hJ es=true):
  cQ X ⟨dst,.lookup T x y ok,ty,pos,af,g⟩ st (dy (bif ok then .m (match ij j o es with|some m=> .dq [m,.d (.bool true)]|none=> .dq [.d z,.d (.bool false)])else .m (match ij j o es with|some m=>m|none=> .d z)) st):=by
 refine PN λk l Pw h=> ?_
 have p:=h.ev L;have q:=h.ev N;obtain⟨e0,n0,B,Q,R⟩:=xX J;obtain⟨E,r,F⟩:=(gW K.zero).run;generalize s:k.eval x=f at p;generalize a:k.eval y=Z at q;cases q with
 |m q=>cases q with
  |ref j o cs S=>
   cases p with
   |m p=>cases p with
    |mp i ac hh=>
     obtain⟨G,ah,t,U,V⟩:=h.hinv.obj i (.map es) (by rw[h.hH];exact O);have u: ∀b v,(Instr.checkKey b 10000 A v).run X.P l.w= .ok () l.w:= λb v=>uX (n:=9999) B
     have d:=wl (w:=l.w) B (some ⟨l.l j,o,none⟩) G.toList;rcases nA h.hinv B Q R (o:=o) S (n:=0) (es:=es) (us:=G.toList) P (by simpa using U) (λi e f k b=>V i e f k (by simpa using b))with⟨C,H,_⟩|⟨n,m,f,C,H,h8,Y,SK,I,_⟩
     ·rw[C];rw[H]at d;cases ok with
      |true=>
       refine⟨.tuple #[E,.bool false],?_,.m (.dq _ _ W ?_)⟩
       ·simp only[execOp,s,a,Instr.lookup];simp[underlying,program,Sem.run,ht,getObj,t,u,r];simp[d,r]
       ·intro n m v c a
        match n with
        |0=>simp at c a;subst c;subst a;exact .d (fC F)
        |1=>simp at c a;subst c;subst a;exact .d (.bool _)
        |n+2=>simp at c
      |false=>
       refine⟨E,?_,.m (.d (fC F))⟩;simp only[execOp,s,a,Instr.lookup];simp[underlying,program,Sem.run,ht,getObj,t,u,r];simp[d,r]
     ·rw[C];rw[Y]at d;cases ok with
      |true=>
       refine⟨.tuple #[f.val,.bool true],?_,.m (.dq _ _ W ?_)⟩
       ·simp only[execOp,s,a,Instr.lookup];simp[underlying,program,Sem.run,ht,getObj,t,u];simp[d]
       ·intro n m' v c a
        match n with
        |0=>simp at c a;subst c;subst a;exact I
        |1=>simp at c a;subst c;subst a;exact .d (.bool _)
        |n+2=>simp at c
      |false=>
       refine⟨f.val,?_,.m I⟩;simp only[execOp,s,a,Instr.lookup];simp[underlying,program,Sem.run,ht,getObj,t,u];simp[d]
theorem zC{T e K:Nat}{x y z:Operand}{i j o:Nat}{es:List (D×M)}{m:M}(ht:X.P.underlying T=some (.map K e))(hp:kP X.P K=true)(hx:st.ev x=some (.m (.mp i)))(hy:st.ev y=some (.m (.ref j o)))(hz:st.ev z=some (.m m))(S:st.H[i]?=some (.map es))(hk:hJ es=true):
  cQ X ⟨dst,.mapUpdate T x y z,ty,pos,af,g⟩ st (dy (.m .undef) ⟨st.sl,st.bx,st.H.set i (.map (jz j o m es))⟩):=by
 intro l a L r;have h:=r.ev hx;have B:=r.ev hy;have C:=r.ev hz;obtain⟨e0,n0,N,hs,t⟩:=xX hp;generalize f:l.eval x=k at h;generalize E:l.eval y=co at B;cases C with
 |m C=>
 cases B with
 |m B=>cases B with
  |ref j o cs U=>
  have ac:RM a (.ref j o) (.pointer (some ⟨a.l j,o,none⟩)):= .ref j o cs U;cases h with
  |m h=>cases h with
   |mp i d6 hh=>
    have TP:a.H[i]?=some (.map es):=by rw[r.hH];exact S
    obtain⟨q,R,u,O,P⟩:=r.hinv.obj i (.map es) TP;have PP:=gH u;have V: ∀b v,(Instr.checkKey b 10000 K v).run X.P a.w= .ok () a.w:= λb v=>uX (n:=9999) N
    have F:=wl (w:=a.w) N (some ⟨a.l j,o,none⟩) q.toList;have Y: ∀(s:Array MapEntry) (G:Nat),s.size=(jz j o m es).length->(∀(n:Nat) e k,(jz j o m es)[n]?=some e->s[n]?=some k->w7 a e k)->
      ∃p:Sg,p.w=db a.w (a.l i) (.map s G)/\cE X p L ⟨st.sl,st.bx,st.H.set i (.map (jz j o m es))⟩ l:=by
     intro s G g1 g2;obtain⟨p,A,H,k3,k4,k5⟩:=r.rR (j:=i) (b':=a.l i) (ob:= .map es) (QK:= .map (jz j o m es)) (w':=db a.w (a.l i) (.map s G)) S trivial W W W (by rw[kZ];exact auK _)
      (λc _ hc=>jN hc) (.inl W) (λo v ho=>(ho trivial).elim) W (by
       intro p VP hw _ _;exact⟨s,G,by rw[hw];exact gI PP,g1,λn e k l b=>(g2 n e k l b).up λv E=>E.mono VP⟩)
     exact⟨p,A,k5⟩
    rcases nA r.hinv N hs t (o:=o) U (n:=0) (es:=es) (us:=q.toList) hk (by simpa using O) (λi e k l b=>P i e k l (by simpa using b))with⟨h6,I,J⟩|⟨n,m',k,h6,I,J,h9,SK,Vh,Z⟩
    ·rw[I]at F;obtain⟨p,A,H⟩:=Y (q.push {key:= .pointer (some ⟨a.l j,o,none⟩),val:=l.eval z,born:=R}) (R+1) (by rw[J];simp[O]) (by
      intro n e k d f;rw[J]at d;rcases auM n es.length with t|t
      ·rw[auL t]at d;rw[awI,auU (by omega)]at f;exact P n e k d f
      ·rw[auR t]at d;have TR:n-es.length=0:=by
        rcases avl (n-es.length)with h|h
        ·exact h
        ·rw[auP (by simp;omega)]at d;cases d
       rw[TR]at d;simp at d;subst d;rw[awI,au2 (by omega)]at f;injection f with f;subst f
       exact .inr ⟨W,RM.Ht ac C⟩)
     refine dT.skip ?_ ⟨.m .undef,_,p,L,⟨W,W⟩,A,H,.m (.undef _)⟩;simp only[execOp,f,E,Instr.mapUpdate];simp[underlying,program,Sem.run,ht,getObj,u,V];simp[F];simp[Sem.run,setObj,db,u]
    ·rw[h9]at F;have Sk:n<q.size:=by
      have:=I;simp at this;rcases auM n q.size with h|h
      ·exact h
      ·simp[avu h]at this
     obtain⟨p,A,H⟩:=Y (q.modify n λe=> {e with key:= .pointer (some ⟨a.l j,o,none⟩),val:=l.eval z}) R (by rw[Z];simp[O]) (by
      intro n' e u' d f;rw[Z]at d;rw[awZ]at f;by_cases Q:n=n'
      ·subst Q;rw[wg J]at d;injection d with d;subst d
       simp[Sk]at f;subst f;exact .inr ⟨W,RM.Ht ac C⟩
      ·rw[auT Q]at d;rw[auU Q]at f;exact P n' e u' d f)
     refine dT.skip ?_ ⟨.m .undef,_,p,L,⟨W,W⟩,A,H,.m (.undef _)⟩;have ah:q[n]?.map (·.key)=some (.pointer (some ⟨a.l j,o,none⟩)):=by
      have:q[n]?=some k:=by simpa using I
      rw[this];simp[SK]
     have Qp:(Instr.keyThatStays (.pointer (some ⟨a.l j,o,none⟩)) (.pointer (some ⟨a.l j,o,none⟩))).run X.P a.w= .ok (.pointer (some ⟨a.l j,o,none⟩)) a.w:=by simp[Instr.keyThatStays,Instr.sameBits]
     simp only[execOp,f,E,Instr.mapUpdate];simp[underlying,program,Sem.run,ht,getObj,u,V];simp[F,ah,Qp];simp[Sem.run,setObj,db,u]
end ops
section
variable{X:bJ}{st:St}{dst:Option Nat}{ty:Nat}{pos:String}{af:Array Edge}{g:Option (Nat×Bool)}{pn:Nat}{H':Hp}
end
theorem cN{P:Program}{f:Nat}(h:JW P f=true):bz P f:=by
 unfold JW at h;split at h
 ·rename_i fn c;simp only[avf,avW]at h;refine⟨λj i=> ?_⟩;unfold callFunc;have a:fn.body.isNone=false:=by cases a:fn.body with
   |none=>rw[a]at h;simp at h
   |some b=>rfl
  have d: ¬fn.name= "runtime.NumGoroutine" :=by simpa using h.1
  have g: ¬fn.body=none:=by intro e;rw[e]at a;cases a
  simp[program,Sem.run,c,d,g]
 ·cases h
section
variable{X:bJ}{st:St}{dst:Option Nat}{ty:Nat}{pos:String}{af:Array Edge}{g:Option (Nat×Bool)}{C:FT}
end
section
variable{X:bJ}{st:St}{dst:Option Nat}{ty:Nat}{pos:String}{af:Array Edge}{g:Option (Nat×Bool)}{C:FT}
end
section
variable{X:bJ}{ops:Array Oper}{C:FT}
def M'(d:Option Nat)(v:V)(s:St):St:=match d with
 |some t=>⟨(t,v)::s.sl,s.bx,s.H⟩
 |none=>s
theorem cE.pad{σ:Sg}{Pw:Nat->Nat}{st:St}{a:Act}(hi:cE X σ Pw st a)(k:Nat): ∃τ:Sg,τ.w=σ.w/\cE X τ Pw ⟨st.sl,st.bx,st.H++List.replicate k .free⟩ a:=by
 let q:=σ.H++List.replicate k Ob.free
 let τ:Sg:=⟨σ.w,σ.O,σ.l,q⟩
 have m: ∀(c:Nat) e,σ.H[c]?=some e->q[c]?=some e:=by
  intro c e d;have r:c<σ.H.length:=fy d;show(σ.H++List.replicate k Ob.free)[c]?=_;rw[auL r];exact d
 have o: ∀(c:Nat) e,q[c]?=some e->e.live->σ.H[c]?=some e:=by
  intro c e d n;have j:(σ.H++List.replicate k Ob.free)[c]?=some e:=d;rcases auM c σ.H.length with r|x
  ·rw[auL r]at j;exact j
  ·rw[auR x,axk]at j;split at j
   ·injection j with j;subst j;exact n.elim
   ·cases j
 have u:dW σ τ:=⟨λb p v h f=>⟨h,f⟩,λc l d=>⟨⟨l,m c _ d⟩,rfl⟩,λc l d=>⟨⟨l,m c _ d⟩,rfl⟩,λc l d=>⟨⟨l,m c _ d⟩,rfl⟩,λc d=>m c _ d,
  λc F J y l d=> .inr ⟨F,y,l,m c _ d,auK _,λ_=>⟨rfl,rfl,λz H A=>⟨z,A,rfl⟩⟩⟩,λc d=>⟨_,m c _ d⟩⟩
 have G:ln τ (o8 X.kL Pw st.bx):=by
  refine⟨?_,?_,?_,?_,hi.hinv.nt⟩
  ·intro c e d;by_cases n:e.live
   ·exact(hi.hinv.obj c e (o c e d n)).cK u λg B=>B
   ·cases e<;>first|trivial|exact absurd trivial n
  ·intro c s g t h f i w C;exact hi.hinv.inj c s g t (o c g h i) (o s t f w) i w C
  ·intro b p;show σ.O b p↔_;rw[hi.hinv.own];constructor
   ·rintro(d|⟨c,g,h,f,i⟩)
    ·exact .inl d
    ·exact .inr ⟨c,g,m c g h,f,i⟩
   ·rintro(d|⟨c,g,h,f,i⟩)
    ·exact .inl d
    ·exact .inr ⟨c,g,o c g h (Ob.j7 i),f,i⟩
  ·intro c e h f p i;exact hi.hinv.sep c e (o c e h f) f p i
 have D:bj σ τ:=⟨rfl,rfl,rfl,auK _,λ_ _ _=>rfl,λc e d n=> .inr ⟨e,o c e d n,n,rfl⟩⟩;have:=hi.heap u G (λI l d=>rfl) D;refine⟨τ,W,?_⟩;have E:τ.H=st.H++List.replicate k .free:=by show σ.H++_=_;rw[hi.hH]
 rw[E]at this;exact this
theorem TC.pad{c:Code}{st:St}{post:Exit->St->Prop}(k:Nat)(h:TC X c ⟨st.sl,st.bx,st.H++List.replicate k .free⟩ post):TC X c st post:=by
 rintro a i ⟨j,d,rfl,e⟩;obtain⟨b,f,g⟩:=e.pad k;rw[<-f];exact h a _ ⟨b,d,W,g⟩
theorem FW{N:Nat}{H:Hp}(h:N<=H.length):eH.front N H []++H.drop N=H:=by
 refine eH.CP (N:=N) (by simp[eH.kg]) h ?_ (eH.qm _ _ _ _);intro b a;rw[eH.rV _ _ _ _ _ a];rfl
theorem rY{N i:Nat}{H:Hp}{ob:Ob}(h:N<=H.length)(hi:i<N):eH.front N H [(i,ob)]++H.drop N=H.set i ob:=by
 refine eH.CP (N:=N) (by simp[eH.kg]) (by simp;exact h) ?_ ?_
 ·intro a b;rw[eH.rV _ _ _ _ _ b];by_cases e:i=a
  ·subst e;simp[bQ,awg,show i<H.length by omega]
  ·have c:get [(i,ob)] a=none:=by rw[bQ,auU e];rfl
   rw[c];simp[awg,auT e]
 ·rw[eH.qm,List.drop_set_of_lt hi]
end
section
variable{X:bJ}{ops:Array Oper}{C:FT}
theorem Iw{o:Oper}{x:Operand}{t:Nat}(a:x∈o.op.operands.toList)(ht:x= .tmp t):t∈o.looksAt ops:=by
 unfold Oper.looksAt;refine auS.2 (.inl ?_);rw[List.mem_filterMap];exact⟨x,a,by subst ht;rfl⟩
theorem UN{N:Nat}{o:Oper}{e:eH.Ef}{st a:St}(h:eH.Ag N ops o e st a){x:Operand}(c:x∈o.op.operands.toList):a.ev x=bw st.sl x:=by
 cases x with
 |tmp b=>exact h.sl b (Iw c W)
 |_=>rfl
theorem D4{N:Nat}{d:Option Nat}{v:V}{a:List Nat}{rh:eH.Rh}{st:St}(h:N<=st.H.length):eH.Ef.app N ⟨d,v,a,[],none,rh,[],none⟩ st=M' d v st:=by
 unfold eH.Ef.app M';simp only[avn,FW h];cases d<;>rfl
end
section
variable{X:bJ}{C:FT}
end
section
variable{X:bJ}{C:FT}
end
theorem again{X:bJ}{b:Nat->St->Prop}{k k':Nat}{sl P9:List (Nat×V)}{bx:List (Nat×List M)}{H H':Hp}(d:k'<k)(e:b k' ⟨P9,bx,H'⟩)(f:H=H')(g:keeps sl P9):
  ∃k' c,k'<k/\b k' c/\ ∀a w,Inv X ⟨sl,bx,H⟩ a w->Inv X c a w:=
 ⟨k',_,d,e,λ_ _ h=>by subst f;exact h.o5 (iI g) (λ_=>rfl)⟩
theorem Rn{X:bJ}{c:Code}{q:Exit->St->Prop}(P9:List (Nat×V))(H':Hp){sl:List (Nat×V)}{bx:List (Nat×List M)}{H:Hp}(a:keeps sl P9)(b:H=H')(k:TC X c ⟨P9,bx,H'⟩ q):TC X c ⟨sl,bx,H⟩ q:=by
 subst b;exact TC.o5 k a
theorem down{X:bJ}{sl P9:List (Nat×V)}{bx:List (Nat×List M)}{H H':Hp}(b:H=H')(c:keeps sl P9): ∀a w,Inv X ⟨sl,bx,H⟩ a w->Inv X ⟨P9,bx,H'⟩ a w:=
 λ_ _ d=>by subst b;exact d.o5 (iI c) (λ_=>rfl)
def lb(bs:List Bool):List (List D):=bs.map λb=>[.bool b]
def OC(bs:List Bool)(v:D):Prop:=lB v=some bs.length/\(bs= []\/v= .sl (lb bs))
theorem xZ{a:List Bool}{i:Nat}{b:Bool}(h:a[i]?=some b):(lb a)[((i:Nat):Int).toNat]?=some [.bool b]:=by simp[lb,h]
def kQ(k:IntKind)(zs:List Int):List (List D):=zs.map λz=>[.int k z]
def kJ(k:IntKind)(zs:List Int)(v:D):Prop:=lB v=some zs.length/\(zs= []\/v= .sl (kQ k zs))/\ ∀z∈zs,(Lit.int k z).wf=true
theorem zD{k:IntKind}{a:List Int}{i:Nat}{z:Int}(h:a[i]?=some z):(kQ k a)[((i:Nat):Int).toNat]?=some [.int k z]:=by simp[kQ,h]
def zE(w:World)(a:Option Addr)(len cap:Nat)(B:Nat->Bool):Prop:=
 (a=none/\len=0/\cap=0)\/ ∃x,a=some x/\len<=cap/\cap<=maxLen/\ ∀i,i<cap->w.cell? (x.add i)=some (.bool (B i))
theorem J1(l:Option Addr)(a i:Nat)(f:Nat->Bool)(w:World)(q:zE w l a i f)(A:a<=140737488355328):
  ∃(r:List Bool) (v:D),OC r v/\gv (λ_ _=>False) w v (.slice l a i):=by
 rcases q with⟨rfl,rfl,rfl⟩|⟨o,rfl,B,C,m⟩
 ·exact⟨[],.sl [],⟨W,.inl W⟩,.slnil none⟩
 ·by_cases s:a=0
  ·subst s;exact⟨[],.ov,⟨W,.inl W⟩,.ov _ _⟩
  ·obtain⟨b,y,z⟩:=o;have t:=m 0 (by omega);have u:z=none:=by simpa [Addr.add] using World.cell?_spot t
   subst u;have j:(lb ((List.range a).map f)).length=a:=by simp[lb]
   refine⟨(List.range a).map f,.sl (lb ((List.range a).map f)),⟨by simp[lB,lb],.inr W⟩,?_⟩;have:=gv.sl (O:= λ_ _=>False) (w:=w) (lb ((List.range a).map f)) b y i 1 (λc _=> .bool (f c)) (by intro g;rw[g]at j;simp at j;omega) (by omega) (by omega)
     (by intro p e;rw[lb]at e;obtain⟨_,_,rfl⟩:=ava.1 e;rfl)
     (by
      intro c h n E;obtain rfl:h=0:=by omega
      refine⟨?_,λg=>g⟩;have:=m c (by omega);rcases avl c with rfl|x
      ·simpa [dI,Addr.add] using this
      ·simpa [dI,Addr.add,axD x] using this)
     (by intro c h _ _;rfl)
     (by
      intro c h p d e k;have n:c<a:=by
       rcases auM c a with g|g
       ·exact g
       ·rw[auP (by omega)]at e;cases e
      simp[lb,n]at e;subst e;cases h with
      |zero=>simp at k;subst k;exact .bool _
      |succ h=>simp at k)
   rw[j]at this;exact this
def fe(k:IntKind)(w:World)(a:Option Addr)(len cap:Nat)(zs:List Int):Prop:=
 (a=none/\len=0/\cap=0/\zs= [])\/
 ∃x,a=some x/\len<=cap/\cap<=maxLen/\zs.length=cap/\(∀i,i<zs.length->w.cell? (x.add i)=some (.int k (zs.getD i 0)))/\ ∀n∈zs,(Lit.int k n).wf=true
theorem jA(k:IntKind)(m:Option Addr)(a i:Nat)(e:List Int)(w:World)(u:fe k w m a i e)(G:a<=140737488355328):
  ∃(x:List Int) (v:D),kJ k x v/\gv (λ_ _=>False) w v (.slice m a i):=by
 rcases u with⟨rfl,rfl,rfl,rfl⟩|⟨r,rfl,H,I,n,o,y⟩
 ·exact⟨[],.sl [],⟨W,.inl W,by simp⟩,.slnil none⟩
 ·by_cases z:a=0
  ·subst z;exact⟨[],.ov,⟨W,.inl W,by simp⟩,.ov _ _⟩
  ·obtain⟨b,E,F⟩:=r;have A:=o 0 (by omega);have B:F=none:=by simpa [Addr.add] using World.cell?_spot A
   subst B;have j:(kQ k (e.take a)).length=a:=by simp[kQ];omega
   refine⟨e.take a,.sl (kQ k (e.take a)),⟨by simp[lB,kQ],.inr W,λs n=>y s (av8 n)⟩,?_⟩;have:=gv.sl (O:= λ_ _=>False) (w:=w) (kQ k (e.take a)) b E i 1 (λc _=> .int k (e.getD c 0)) (by intro g;rw[g]at j;simp at j;omega) (by omega) (by omega)
     (by intro t f;rw[kQ]at f;obtain⟨_,_,rfl⟩:=ava.1 f;rfl)
     (by
      intro c h p J;obtain rfl:h=0:=by omega
      refine⟨?_,λg=>g⟩;have:=o c (by omega);rcases avl c with rfl|C
      ·simpa [dI,Addr.add] using this
      ·simpa [dI,Addr.add,axD C] using this)
     (by intro c h _ _;rfl)
     (by
      intro c h t d f l;have p:c<a:=by
       rcases auM c a with g|g
       ·exact g
       ·rw[auP (by omega)]at f;cases f
      have q:c<e.length:=by omega
      simp[kQ,p,q]at f;subst f;cases h with
      |zero=>simp at l;subst l;simp[q];exact .int _ _
      |succ h=>simp at l)
   rw[j]at this;exact this
section
variable{X:bJ}{ops:Array Oper}{rest:List Oper}{sl:List (Nat×V)}{bx:List (Nat×List M)}{H:Hp}{post:St->Prop}{d ty:Nat}{pos:String}{af:Array Edge}{st:St}{dst:Option Nat}{g:Option (Nat×Bool)}
theorem FX{P:Program}{w:World}{t e:Nat}(h:P.underlying t=some (.slice e))(a:Option Addr)(l c:Nat):(Op.equal t (.slice a l c) (.slice none 0 0)).run P w= .ok a.isNone w:=by
 have b:(underlying t).run P w= .ok (.slice e) w:=by simp[underlying,program,Sem.run,h]
 simp only[Op.equal,Op.maxDepth];rw[Op.equalIn];cases a<;>simp[b]
theorem J2{f j e:Nat}{x:Operand}[ht:aZ X.P f e](k:st.ev x=some (.m (.d (.sl [])))):
  cQ X ⟨dst,.binOp .eql f x (.const (.slice none 0 0)) j,ty,pos,af,g⟩ st (λv s=> ∃b,v= .m (.d (.bool b))/\s=st):=by
 intro c a l h;have d:=h.qc k;generalize m:c.eval x=u at d;cases d with
 |slnil i=>
  have n:c.eval (.const (.slice none 0 0))= .slice none 0 0:=rfl;have o:=FX (w:=a.w) ht.u i 0 0;refine dT.value (u:= .bool i.isNone) (w':=a.w) (by simp[execOp,m,n,eqGuard,binOp,o]) ⟨_,_,a,l,⟨_,rfl,rfl⟩,rfl,h,.m (.d (.bool _))⟩
 |sl E b q D r val p t y z A B C=>exact absurd W p
theorem L0{a c e:Nat}{x:Operand}[ht:aZ X.P a e](f:Nat.blt d X.n=true)(g:bw sl x=some (.m (.d (.sl []))))(k: ∀b,TL X ops rest ⟨(d,.m (.d (.bool b)))::sl,bx,H⟩ post):
  TL X ops (⟨some d,.binOp .eql a x (.const (.slice none 0 0)) c,ty,pos,af,none⟩::rest) ⟨sl,bx,H⟩ post:=
 TL.op W W f (J2 (by exact g)) (by rintro v h ⟨b,rfl,rfl⟩;exact k b)
end
section
variable{X:bJ}{ops:Array Oper}{rest:List Oper}{sl:List (Nat×V)}{bx:List (Nat×List M)}{H:Hp}{post:St->Prop}{d ty:Nat}{pos:String}{af:Array Edge}
end
def gN(b:Nat)(rs:List (List D)):M:=match rs with
 | []=> .d (.sl [])
 |_::r=> .bH b r.length (r.length+1)
def dZ(H0:Hp)(n:Nat)(rs:List (List D)):Hp:=match rs with
 | []=>H0
 |q::r=>H0++ [.row true n r.length (bf (q::r))]
theorem jB(H0:Hp)(n:Nat)(rs:List (List D))(d: ∀a∈rs,a.length=n):jy (dZ H0 n rs) (gN H0.length rs)=some (.sl rs):=by
 cases rs with
 |nil=>rfl
 |cons b a=>
  have c:=Acc.view (n:=n) (i:=H0.length) (rs:=b::a) (m:=gN H0.length (b::a)) (H:=dZ H0 n (b::a)) (.inr ⟨by simp,a.length,by simp[gN],by simp[dZ]⟩) d;exact c
theorem nB(b:Nat)(rs:List (List D)):iW (gN b rs)=some [gN b rs]:=by cases rs<;>rfl
theorem xg(H0:Hp)(n:Nat)(rs:List (List D))(j:Nat)(a:j<H0.length):(dZ H0 n rs)[j]?=H0[j]?:=by
 cases rs with
 |nil=>rfl
 |cons b c=>simp only[dZ];rw[auL a]
theorem FY(H0:Hp)(n:Nat)(rs:List (List D)):(dZ H0 n rs).take H0.length=H0:=by cases rs<;>simp[dZ]
theorem Ix(H0:Hp)(n:Nat)(rs:List (List D)):H0.length<=(dZ H0 n rs).length:=by cases rs<;>simp[dZ]
section
variable{X:bJ}{ops:Array Oper}{rest:List Oper}{sl:List (Nat×V)}{bx:List (Nat×List M)}{post:St->Prop}{d ty:Nat}{pos:String}{af:Array Edge}
theorem rZ{T e n nb:Nat}{x y:Operand}{H0:Hp}{rs:List (List D)}{r:List D}{z:D}[ht:aZ X.P T e][p:bY X.P e n][q:ku X.P e nb][s:g_ X.P e z](c:Nat.blt d X.n=true)
  (f:bw sl x=some (.m (gN H0.length rs))) (g:bw sl y=some (.m (.d (.sl [r])))) (l:Nat.blt 0 n=true) (h:(bu z).length=n) (i:r.length=n) (j:(rs.length+1)*nb<=140737488355328) (m:rs.length+1<=140737488355328)
  (k:TL X ops rest ⟨(d,.m (gN H0.length (rs++ [r])))::sl,bx,dZ H0 n (rs++ [r])⟩ post):
  TL X ops (⟨some d,.call ⟨.builtin .append,#[x,y],#[T,T]⟩,ty,pos,af,none⟩::rest) ⟨sl,bx,dZ H0 n rs⟩ post:=by
 cases rs with
 |nil=>exact iL true c f g l h (by simp) (by intro a b;rw[auW]at b;rw[b];exact i) (by simpa using j) k
 |cons a rs=>
  refine fU (acc:=true) (cs:=bf (a::rs)) c f g (by simp[dZ]) h (by intro a b;rw[auW]at b;rw[b];exact i) (by simpa using j) (by simpa using m) ?_;have e:(dZ H0 n (a::rs)).set H0.length (.row true n (rs.length+1) (bf (a::rs)++bf [r]))=dZ H0 n (a::rs++ [r]):=by simp[dZ,bf]
  have o:M.bH H0.length (rs.length+1) (rs.length+1+1)=gN H0.length (a::rs++ [r]):=by simp[gN]
  rw[<-e,<-o]at k;exact k
theorem eT{H:Hp}{f:Nat}{a:List Operand}{ms:List M}(b:Nat.blt d X.n=true)(c:gD sl a=some ms)(k:TL X ops rest ⟨(d,.m (.fn f ms))::sl,bx,H⟩ post):
  TL X ops (⟨some d,.makeFunc (.func f) #[] a.toArray,ty,pos,af,none⟩::rest) ⟨sl,bx,H⟩ post:=
 Qi W W b (uW (by rw[oA];exact c)) k
theorem Iy{H H':Hp}{x:Operand}{f:Nat}{a:List M}{args:List Operand}{Sr:Array Nat}{ms:List M}{r:M}[hf:bz X.P f](h:CT X.P f (ms++a) H λc b=>c=r/\b=H')(e:Nat.blt d X.n=true)(g:bw sl x=some (.m (.fn f a)))(i:gD sl args=some ms)
  (k:TL X ops rest ⟨(d,.m r)::sl,bx,H'⟩ post):TL X ops (⟨some d,.call ⟨.value x,args.toArray,Sr⟩,ty,pos,af,none⟩::rest) ⟨sl,bx,H⟩ post:=
 Qi W W e (zu (xW (by exact g) (by rw[oA];exact i)) h) k
end
theorem mR{x:List D}{n:Nat}(h:x.length=n): ∀r∈ [x],r.length=n:=by intro r a;rw[auW]at a;rw[a];exact h
theorem qn{a b:Nat}(h:Nat.ble a b=true):a<=b:=avG h
theorem TC.NC{X:bJ}{st:St}{post:Exit->St->Prop}{x y:Code}(d:St)(f:TC X x st (after post λs=> ∀a b,Inv X s a b->Inv X d a b))(g:TC X y d post):TC X x st (after post λs=>TC X y s post):=
 f.mono λe s c=>by
  cases e with
  |normal=>exactλa b h=>g a b (c a b h)
  |_=>exact c
section ops
variable{X:bJ}{st:St}{dst:Option Nat}{ty:Nat}{pos:String}{af:Array Edge}{g:Option (Nat×Bool)}
end ops
section rules
variable{X:bJ}{ops:Array Oper}{rest:List Oper}{post:St->Prop}{sl:List (Nat×V)}{bx:List (Nat×List M)}{H:Hp}{d ty:Nat}{pos:String}{af:Array Edge}
end rules
def DT(P:Program)(f:Nat)(ms:List M)(H:Hp)(post:M->Hp->Prop):Prop:= ∃r K,post r K/\CT P f ms H λr' K'=>r'=r/\K'=K
def DC(P:Program)(n B:Nat)(c:Code)(st:St)(post:Exit->St->Prop):Prop:=
 ∃e s,post e s/\ ∀s0 Oo,s0.H.length<=B->TC ⟨P,n,s0,Oo,[]⟩ c st λe' s'=>e'=e/\s'=s
theorem DT.mono{P:Program}{f:Nat}{ms:List M}{H:Hp}{p q:M->Hp->Prop}(h:DT P f ms H p)(k: ∀a b,p a b->q a b):DT P f ms H q:=by
 obtain⟨a,b,c,d⟩:=h;exact⟨a,b,k _ _ c,d⟩
theorem DT.ct{P:Program}{f:Nat}{ms:List M}{H:Hp}{p:M->Hp->Prop}(h:DT P f ms H p):CT P f ms H p:=by
 obtain⟨e,g,c,d⟩:=h;exact d.mono λ_ _ ⟨a,b⟩=>by subst a;subst b;exact c
section
variable{P:Program}{n B:Nat}{st:St}{post:Exit->St->Prop}
theorem DC.mono{c:Code}{q:Exit->St->Prop}(h:DC P n B c st post)(k: ∀e a,post e a->q e a):DC P n B c st q:=by
 obtain⟨e,a,b,d⟩:=h;exact⟨e,a,k _ _ b,d⟩
theorem DC.seq{x y:Code}(h:DC P n B x st (after post λf=>DC P n B y f post)):DC P n B (.seq x y) st post:=by
 obtain⟨e,f,i,j⟩:=h;cases e with
 |normal=>
  obtain⟨k,l,m,o⟩:=i;exact⟨k,l,m,λa c d=>TC.seq ((j a c d).mono λp q ⟨g,b⟩=>by subst g;subst b;exact o a c d)⟩
 |_=>exact⟨_,f,i,λa c d=>TC.seq ((j a c d).mono λp q ⟨g,b⟩=>by subst g;subst b;exact⟨W,W⟩)⟩
theorem DC.skip(h:post .normal st):DC P n B .skip st post:=⟨_,_,h,λ_ _ _=>TC.skip ⟨rfl,rfl⟩⟩
theorem DC.exit{a:Nat}(h:post (.exit a) st):DC P n B (.exit a) st post:=⟨_,_,h,λ_ _ _=>TC.exit ⟨rfl,rfl⟩⟩
theorem DC.ret(h:post .ret st):DC P n B .ret st post:=⟨_,_,h,λ_ _ _=>TC.ret ⟨rfl,rfl⟩⟩
theorem DC.block{d:Nat}{c:Code}(h:DC P n B c st (tm d post)):DC P n B (.block d c) st post:=by
 obtain⟨e,l,a,o⟩:=h;by_cases g:e= .exit d
 ·subst g;simp only[tm,awr]at a;refine⟨.normal,l,a,λi j k=>TC.block ((o i j k).mono λp q ⟨f,b⟩=> ?_)⟩;subst f;subst b;simp[tm]
 ·refine⟨e,l,?_,λi j k=>TC.block ((o i j k).mono λp q ⟨f,b⟩=> ?_)⟩
  ·cases e with
   |exit m=>simp only[tm]at a;rw[auU (by rintro rfl;exact g W)]at a;exact a
   |_=>exact a
  ·subst f;subst b;cases p with
   |exit m=>show(if m=d then _ else _);rw[auU (by rintro rfl;exact g W)];exact⟨W,W⟩
   |_=>exact⟨W,W⟩
theorem DC.cond{c:Operand}{x y:Code}{b:Bool}(k:st.ev c=some (.m (.d (.bool b))))(ht:b=true->DC P n B x st post)(hf:b=false->DC P n B y st post):DC P n B (.cond c x y) st post:=by
 cases b with
 |true=>
  obtain⟨e,a,f,g⟩:=ht W;exact⟨e,a,f,λh i j=>TC.cond k (λ_=>g h i j) (λd=>by cases d)⟩
 |false=>
  obtain⟨e,a,f,g⟩:=hf W;exact⟨e,a,f,λh i j=>TC.cond k (λd=>by cases d) (λ_=>g h i j)⟩
theorem DC.region{e:Nat}{ops:List Oper}(h: ∃b,(∀c d,TL ⟨P,n,c,d,[]⟩ ops.toArray ops st λa=>a=b)/\post .normal b):DC P n B (.region e ops.toArray false) st post:=by
 obtain⟨b,f,g⟩:=h;refine⟨.normal,b,g,λc d _=>TC.region ?_⟩;show TL _ _ _ _ (λa=>Exit.normal=Exit.normal/\a=b);rw[show(λa:St=>Exit.normal=Exit.normal/\a=b)=(λa=>a=b)from funext λa=>by simp];exact f c d
theorem DC.draw{f:Nat}{ops:List Oper}(g:P.follows .mixedOrders=true)(h: ∃a,(∀b c,TF ⟨P,n,b,c,[]⟩ ops.toArray ops st λd e=>gL ops st.sl d=true/\e=a)/\post .normal a):DC P n B (.region f ops.toArray true) st post:=by
 obtain⟨a,i,j⟩:=h;refine⟨.normal,a,j,λb c _=>TC.draw g ?_⟩;obtain⟨d,e,k,l,m⟩:=i b c;exact⟨d,e,k,l,W,m⟩
theorem Ps{a:Nat}{ops:List Oper}{s:St}(b:P.follows .mixedOrders=true)(c: ∀d e,TF ⟨P,n,d,e,[]⟩ ops.toArray ops st λf g=>gL ops st.sl f=true/\g=s)(h:post .normal s):DC P n B (.region a ops.toArray true) st post:=DC.draw b ⟨s,c,h⟩
theorem Ry{c:Code}(g:St)(j: ∀a f,a.H.length<=B-> ∀b d,Inv ⟨P,n,a,f,[]⟩ st b d->Inv ⟨P,n,a,f,[]⟩ g b d)(k:DC P n B c g post):DC P n B c st post:=by
 obtain⟨e,i,l,m⟩:=k;exact⟨e,i,l,λa f h b d o=>m a f h b d (j a f h b d o)⟩
inductive r_(P:Program)(n B:Nat)(c:Code):Nat->St->Exit->St->Prop where
 |stop {s s1:St} {e:Exit} (he:e≠ .normal) (h: ∀s0 Oo,s0.H.length<=B->TC ⟨P,n,s0,Oo,[]⟩ c s λe' s'=>e'=e/\s'=s1):r_ P n B c 0 s e s1
 |more {k:Nat} {s s1 s2 sE:St} {e:Exit} (h: ∀s0 Oo,s0.H.length<=B->TC ⟨P,n,s0,Oo,[]⟩ c s λe' s'=>e'= .normal/\s'=s1)
   (hw: ∀s0 Oo,s0.H.length<=B-> ∀a w,Inv ⟨P,n,s0,Oo,[]⟩ s1 a w->Inv ⟨P,n,s0,Oo,[]⟩ s2 a w) (hk:r_ P n B c k s2 e sE):r_ P n B c (k+1) s e sE
theorem r_.ne{c:Code}{k:Nat}{s:St}{e:Exit}{a:St}(h:r_ P n B c k s e a):e≠ .normal:=by
 induction h with
 |stop b _=>exact b
 |more _ _ _ d=>exact d
theorem r_.run{c:Code}{k:Nat}{s:St}{e:Exit}{i:St}(h:r_ P n B c k s e i)(a:Sg)(d:Nat->Nat->Prop)(j:a.H.length<=B):TC ⟨P,n,a,d,[]⟩ (.loop c) s λf l=>f=e/\l=i:=by
 have r:=h.ne;refine TC.JN (λk s=>r_ P n B c k s e i) k s h (λ_ _ m=>m) ?_;intro k s o;cases o with
 |stop p h=>
  refine(h a d j).mono λf l ⟨g,b⟩=> ?_
  subst g;subst b;cases f with
  |normal=>exact absurd W p
  |_=>exact⟨W,W⟩
 |more h q k=>
  refine(h a d j).mono λf l ⟨g,b⟩=> ?_
  subst g;subst b;exact⟨_,_,Nat.lt_succ_self _,k,q a d j⟩
def zG(P:Program)(n B:Nat)(I:Nat->St->Prop)(k:Nat)(s:St):Prop:=
 ∃k' Xy,k'<k/\I k' Xy/\ ∀s0 Oo,s0.H.length<=B-> ∀a w,Inv ⟨P,n,s0,Oo,[]⟩ s a w->Inv ⟨P,n,s0,Oo,[]⟩ Xy a w
theorem DC.ND{c:Code}(f:Nat->St->Prop)(i:Nat)(j:f i st)(C: ∀a b,f a b->DC P n B c b (after post λk=>zG P n B f a k)):DC P n B (.loop c) st post:=by
 have A: ∀a b,f a b-> ∃m e d,r_ P n B c m b e d/\post e d:=by
  intro a
  induction a using Nat.strongRecOn with
  |ind a l=>
   intro b o;obtain⟨e,p,g,h⟩:=C a b o;cases e with
   |normal=>
    obtain⟨q,r,s,t,u⟩:=g;obtain⟨m,e,d,v,w⟩:=l q s r t;exact⟨m+1,e,d,.more h u v,w⟩
   |_=>exact⟨0,_,p,.stop (by simp) h,g⟩
 obtain⟨m,e,d,g,h⟩:=A i st j;exact⟨e,d,h,λx y z=>g.run x y z⟩
theorem DC.loop{c:Code}{sl:List (Nat×V)}{bx:List (Nat×List M)}{H:Hp}(a:Nat->St->Prop)(e:Nat)(P9:List (Nat×V))(f:a e ⟨P9,bx,H⟩)(g:keeps sl P9)
  (j: ∀b d,a b d->DC P n B c d (after post λh=>zG P n B a b h)):DC P n B (.loop c) ⟨sl,bx,H⟩ post:=
 Ry ⟨P9,bx,H⟩ (λ_ _ _ k l i=>i.o5 (iI g) λ_=>rfl) (DC.ND a e f j)
theorem bK{a:Nat->St->Prop}{k k':Nat}{sl P9:List (Nat×V)}{bx:List (Nat×List M)}{H H':Hp}(b:k'<k)(c:a k' ⟨P9,bx,H'⟩)(d:H=H')(e:keeps sl P9):zG P n B a k ⟨sl,bx,H⟩:=
 ⟨k',_,b,c,λ_ _ _ _ _ f=>by subst d;exact f.o5 (iI e) (λ_=>rfl)⟩
theorem Pz{c:Code}(P9:List (Nat×V))(H':Hp){sl:List (Nat×V)}{bx:List (Nat×List M)}{H:Hp}(a:keeps sl P9)(b:H=H')(k:DC P n B c ⟨P9,bx,H'⟩ post):DC P n B c ⟨sl,bx,H⟩ post:=by
 subst b;exact Ry _ (λ_ _ _ e f d=>d.o5 (iI a) λ_=>rfl) k
theorem DC.wm{c:Code}(P9:List (Nat×V))(Qr:List (Nat×List M))(H':Hp){sl:List (Nat×V)}{bx:List (Nat×List M)}{H:Hp}(b:keeps sl P9)(f: ∀a,get Qr a=get bx a)(d:H=H')(k:DC P n B c ⟨P9,Qr,H'⟩ post):DC P n B c ⟨sl,bx,H⟩ post:=by
 subst d;exact Ry _ (λ_ _ _ g h e=>e.o5 (iI b) f) k
theorem DC.cw(t:Nat){c:Code}{m:M}{x:D}{sl:List (Nat×V)}{bx:List (Nat×List M)}{H:Hp}(a:get sl t=some (.m m))(b:jy H m=some x)(k:DC P n B c ⟨(t,.m (.d x))::sl,bx,H⟩ post):DC P n B c ⟨sl,bx,H⟩ post:=
 Ry _ (λ_ _ _ e f d=>d.cw a b) k
theorem DC.gM(t:Nat){c:Code}{cs PV:List M}{sl:List (Nat×V)}{bx:List (Nat×List M)}{H:Hp}(a:get bx t=some cs)(b:iJ H cs=some PV)(k:DC P n B c ⟨sl,(t,PV)::bx,H⟩ post):DC P n B c ⟨sl,bx,H⟩ post:=
 Ry _ (λ_ _ _ e f d=>d.gM a b) k
theorem DC.NC{x y:Code}(f:St)(h:DC P n B x st (after post λs=> ∀a g,a.H.length<=B-> ∀b c,Inv ⟨P,n,a,g,[]⟩ s b c->Inv ⟨P,n,a,g,[]⟩ f b c))(i:DC P n B y f post):DC P n B x st (after post λs=>DC P n B y s post):=
 h.mono λe s d=>by
  cases e with
  |normal=>exact Ry _ d i
  |_=>exact d
theorem cR{sl P9:List (Nat×V)}{bx:List (Nat×List M)}{H H':Hp}(d:H=H')(e:keeps sl P9): ∀b c,b.H.length<=B-> ∀a w,Inv ⟨P,n,b,c,[]⟩ ⟨sl,bx,H⟩ a w->Inv ⟨P,n,b,c,[]⟩ ⟨P9,bx,H'⟩ a w:=
 λ_ _ _ _ _ f=>by subst d;exact f.o5 (iI e) (λ_=>rfl)
end
theorem DT.v8{P:Program}{f:Nat}{fn:Func}{c:Code}{ms:List M}{H:Hp}{post:M->Hp->Prop}(hf:P.funcs[f]?=some fn)(r:fn.body=some c)
  {n:Nat} (s:fn.ntmps=n) (t:Nat.ble ms.length n=true) (h:DC P n H.length c ⟨rM 0 ms,[],H⟩ (ts P fn post)):DT P f ms H post:=by
 obtain⟨e,a,j,u⟩:=h;have p: ∀m,mD P fn a=some m->(∀g,g=e-> ∀i,i=a->ts P fn (λk l=>k=m/\l=a.H) g i)->CT P f ms H λk l=>k=m/\l=a.H:= λm z v=>
  CT.v8 hf r s t λw x=>TC.base λy=>(u w x y).mono λg i ⟨q,b⟩=>v g q i b
 cases e with
 |normal=>
  obtain⟨m,d,o⟩:=j;exact⟨m,a.H,o,p m d (by rintro _ rfl _ rfl;exact⟨m,d,W,W⟩)⟩
 |ret=>
  obtain⟨m,d,o⟩:=j;exact⟨m,a.H,o,p m d (by rintro _ rfl _ rfl;exact⟨m,d,W,W⟩)⟩
 |_=>exact j.elim
section
variable{X:bJ}{ops:Array Oper}{rest:List Oper}{sl:List (Nat×V)}{bx:List (Nat×List M)}{H:Hp}{post:St->Prop}{d ty:Nat}{pos:String}{af:Array Edge}
theorem aq{f:Nat}{args:List Operand}{Sr:Array Nat}{ms:List M}{r:M}{K:Hp}[hf:bz X.P f](h:CT X.P f ms H λa b=>a=r/\b=K)(c:Nat.blt d X.n=true)(e:gD sl args=some ms)
  (k:TL X ops rest ⟨(d,.m r)::sl,bx,K⟩ post):TL X ops (⟨some d,.call ⟨.value (.func f),args.toArray,Sr⟩,ty,pos,af,none⟩::rest) ⟨sl,bx,H⟩ post:=
 pK h c e (by rintro _ _ ⟨rfl,rfl⟩;exact k)
end
def Na(P:Program)(t:Nat):Bool:=match P.underlying t with
 |some (.int .u8)=>true
 |_=>false
def J3(P:Program)(t:Nat):Bool:=match P.underlying t with
 |some .string=>true
 |_=>false
def OD(P:Program)(t:Nat):Bool:=match P.underlying t with
 |some (.struct fs)=>match fs.toList with
  | [f1,f2]=> !decide (f1.name= "_")&& !decide (f2.name= "_")&&Nat.beq f1.offset 0&&Nat.beq f2.offset 1&&Na P f1.type&&J3 P f2.type&& !P.stoodInHeld t&& !P.eqGuardType P.depth t
  |_=>false
 |_=>false
class Bx(P:Program)(t:Nat):Prop where
 b:OD P t=true
theorem Bx.u{P:Program}{t:Nat}(h:Bx P t):(∃a b:Field,P.underlying t=some (.struct #[a,b])/\(a.name= "_")=False/\(b.name= "_")=False/\a.offset=0/\b.offset=1/\P.underlying a.type=some (.int .u8)/\P.underlying b.type=some .string)/\P.stoodInHeld t=false/\P.eqGuardType P.depth t=false:=by
 have c:=h.b;unfold OD at c;split at c
 ·rename_i g i;split at c
  ·rename_i a b j;simp only[avf,avW,awS]at c;obtain⟨⟨⟨⟨⟨⟨⟨k,l⟩,m⟩,n⟩,d⟩,f⟩,o⟩,p⟩:=c;have e:g= #[a,b]:=by rw[<-j]
   refine⟨⟨a,b,by rw[i,e],eq_false k,eq_false l,auZ m,auZ n,?_,?_⟩,o,p⟩
   ·unfold Na at d;split at d
    ·assumption
    ·cases d
   ·unfold J3 at f;split at f
    ·assumption
    ·cases f
  ·cases c
 ·cases c
theorem Iz{P:Program}{w:World}{t:Nat}(h:Bx P t)(f g:Int)(i j:ByteArray):
  (Op.equal t (.agg #[.int .u8 f,.string i]) (.agg #[.int .u8 g,.string j])).run P w= .ok (decide (f=g)&&decide (i=j)) w:=by
 obtain⟨⟨d,e,s,k,l,u,v,x,y⟩,z,F⟩:=h.u;have A:(underlying t).run P w= .ok (.struct #[d,e]) w:=by simp[underlying,program,Sem.run,s]
 have r:(underlying d.type).run P w= .ok (.int .u8) w:=by simp[underlying,program,Sem.run,x]
 have m:(underlying e.type).run P w= .ok .string w:=by simp[underlying,program,Sem.run,y]
 have B:(program).run P w= .ok P w:=by simp[program,Sem.run]
 have n: ∀a b:Int,(Op.equalIn 9999 d.type (.int .u8 a) (.int .u8 b)).run P w= .ok (decide (a=b)) w:=by
  intro a b;rw[Op.equalIn];simp[r];by_cases E:a=b<;>simp[E]
 have o: ∀a b:ByteArray,(Op.equalIn 9999 e.type (.string a) (.string b)).run P w= .ok (decide (a=b)) w:=by
  intro a b;rw[Op.equalIn];simp[m,LR]
 have p: ∀a:Int,∀c:ByteArray,(part d.type #[.int .u8 a,.string c] d.offset).run P w= .ok (.int .u8 a) w:=by
  intro a c;simp[part,isAgg,r,u]
 have q: ∀a:Int,∀c:ByteArray,(part e.type #[.int .u8 a,.string c] e.offset).run P w= .ok (.string c) w:=by
  intro a c;simp[part,isAgg,m,v]
 simp only[Op.equal,Op.maxDepth];rw[Op.equalIn];simp[A,B,z,k,l,p,q,n,o];by_cases C:f=g<;>by_cases D:i=j<;>simp[C,D,p,q,n,o,k,l]
theorem Hu{O:Nat->Nat->Prop}{w:World}{k:Int}{s:ByteArray}{v:Value}(h:gv O w (.agg [.int .u8 k,.str s]) v):v= .agg #[.int .u8 k,.string s]:=by
 cases h with
 |agg _ e f j a=>
  obtain⟨c⟩:=e
  match c,f with
  | [d,b],_=>
   have g:=a 0 _ d W W;have i:=a 1 _ b W W;cases g;cases i;rfl
section
variable{X:bJ}{st:St}{dst:Option Nat}{ty:Nat}{pos:String}{af:Array Edge}{g:Option (Nat×Bool)}
theorem J4{x y:Operand}{f i:Nat}{b c:Int}{d e:ByteArray}[ht:Bx X.P f](j:st.ev x=some (.m (.d (.agg [.int .u8 b,.str d]))))(k:st.ev y=some (.m (.d (.agg [.int .u8 c,.str e])))):
  cQ X ⟨dst,.binOp .eql f x y i,ty,pos,af,g⟩ st (dy (.m (.d (.bool (decide (b=c)&&decide (d=e))))) st):=by
 refine PN λp a q h=> ?_
 have l:=Hu (h.qc j);have m:=Hu (h.qc k);have n:(program).run X.P a.w= .ok X.P a.w:=by simp[program,Sem.run]
 have o:=Iz (w:=a.w) ht b c d e;exact⟨_,by simp[execOp,l,m,eqGuard,n,ht.u.2.2,binOp,o],.m (.d (.bool _))⟩
end
section
variable{X:bJ}{ops:Array Oper}{rest:List Oper}{post:St->Prop}{sl:List (Nat×V)}{bx:List (Nat×List M)}{H:Hp}{d ty:Nat}{pos:String}{af:Array Edge}
theorem Hv{x y:Operand}{a g:Nat}{b c:Int}{e f:ByteArray}[ht:Bx X.P a](h:Nat.blt d X.n=true)(i:bw sl x=some (.m (.d (.agg [.int .u8 b,.str e]))))(j:bw sl y=some (.m (.d (.agg [.int .u8 c,.str f]))))
  (k:TL X ops rest ⟨(d,.m (.d (.bool (decide (b=c)&&decide (e=f)))))::sl,bx,H⟩ post):TL X ops (⟨some d,.binOp .eql a x y g,ty,pos,af,none⟩::rest) ⟨sl,bx,H⟩ post:=
 Qi W W h (J4 i j) k
end
theorem jJ.nil{X:bJ}{a:Hp->Prop}{ops:Array Oper}{st:St}{post:List Ef->St->Prop}(h:post [] st):jJ X a ops [] st post:=⟨[],st,.nil st,h⟩
theorem jJ.cons{X:bJ}{a:Hp->Prop}{ops:Array Oper}{o:Oper}{rest:List Oper}{st:St}{e:Ef}{post:List Ef->St->Prop}(h:CI X a ops o e st)(d:e.d=o.dst)
  (k:jJ X a ops rest (e.app st) λb c=>post (e::b) c):jJ X a ops (o::rest) st post:=by
 obtain⟨b,f,g,i⟩:=k;exact⟨e::b,f,.cons h d g,i⟩
theorem Py{X:bJ}{c:Hp->Prop}{ops:Array Oper}{o:Oper}{rest:List Oper}{st d:St}{e:Ef}{post:List Ef->St->Prop}(h:TF X ops [o] st λa b=>a= [e]/\b=d)
  (k:jJ X c ops rest d λa b=>post (e::a) b):jJ X c ops (o::rest) st post:=by
 obtain⟨a,m,f,rfl,rfl⟩:=h;cases f with
 |cons h g i=>
  cases i;exact jJ.cons (λj l _=>h j l) g k
theorem PF{X:bJ}{a:Hp->Prop}{ops:Array Oper}{rest:List Oper}{sl:List (Nat×V)}{bx:List (Nat×List M)}{H:Hp}{post:List Ef->St->Prop}{d ty:Nat}{pos:String}{af:Array Edge}{T:Nat}{x:Operand}{i off:Nat}{m:M}[ht:cB X.P T](f:Nat.blt d X.n=true)
  (g:bw sl x=some (.m (.ref i off))) (h: ∀H,a H-> ∃b,H[i]?=some (.box b)/\b[off]?=some m) (k:jJ X a ops rest ⟨(d,.m m)::sl,bx,H⟩ λj c=>post (⟨some d,.m m,[],[],none,false,none⟩::j) c):
  jJ X a ops (⟨some d,.load T x,ty,pos,af,none⟩::rest) ⟨sl,bx,H⟩ post:=by
 refine jJ.cons (e:=⟨some d,.m m,[],[],none,false,none⟩) (λl n o=> ?_) W k;obtain⟨b,p,q⟩:=h _ o;have r:=(n.ev (x:=x) (by simp[Op.operands])).trans g;exact(mE (X:=X) (st:=l) (dst:=some d) r p (by simp[ie,ht.cell,q])).Im W W (bO f)
def zH(I:Hp->Prop):List Ef->Prop
 | []=>True
 |e::r=>(match e.wh with|none=>True|some h=>I h)/\zH I r
theorem zH.mem{b:Hp->Prop} : ∀{es:List Ef},zH b es-> ∀e∈es,∀h,e.wh=some h->b h
 | [],_,e,a,_,_=>by cases a
 |g::i,⟨c,f⟩,e,a,h,d=>by
  rcases auX.1 a with rfl|a
  ·rw[d]at c;exact c
  ·exact zH.mem f e a h d
theorem TC.FZ{X:bJ}{d:Nat}{ops:List Oper}{st:St}{post:Exit->St->Prop}(a:Hp->Prop)(l:a st.H)(f:X.P.follows .mixedOrders=true)
  (h:jJ X a ops.toArray ops st λb c=>gL ops st.sl b=true/\(∀e∈b,∀h,e.wh=some h->a h)/\post .normal c):TC X (.region d ops.toArray true) st post:=by
 obtain⟨b,c,g,i,j,k⟩:=h;exact TC.FJ a l f ⟨b,c,g,i,.all j,k⟩
section
variable{P:Program}{n B:Nat}{st:St}{post:Exit->St->Prop}
theorem DC.FZ{f:Nat}{ops:List Oper}{s:St}(a:Hp->Prop)(o:a st.H)(g:P.follows .mixedOrders=true)(h: ∀c d,jJ ⟨P,n,c,d,[]⟩ a ops.toArray ops st λb e=>gL ops st.sl b=true/\zH a b/\e=s)(i:post .normal s):DC P n B (.region f ops.toArray true) st post:=by
 refine⟨.normal,s,i,λc d _=>TC.FZ a o g ?_⟩;obtain⟨b,e,j,k,l,m⟩:=h c d;exact⟨b,e,j,k,l.mem,W,m⟩
end
theorem CT.J5{P:Program}{f:Nat}{m:M}{d:D}{rest:List M}{H:Hp}{post:M->Hp->Prop}(l:jy H m=some d)(h:CT P f (.d d::rest) H post):CT P f (m::rest) H post:=by
 intro j n o e g b;refine h j n o e g ⟨b.1,λa k v c i=> ?_⟩;cases a with
 |zero=>
  simp at c;subst c;exact RM.view e (b.2 0 m v W i) (by rw[g];exact l)
 |succ a=>exact b.2 (a+1) k v c i
def iA(m:M)(H:Hp)(rows:List (List D)):M:=match m with
 | .bH i aL len=> .bH i (aL+1) (len+rows.length)
 |_=>vo H rows
def fm(n:Nat)(m:M)(H:Hp)(rows:List (List D)):Hp:=match m with
 | .bH i aL len=>match H[i]? with
  |some (.row a _ _ cs)=>H.set i (.row a n (aL+1) (cs++bf rows))
  |_=>H
 |_=>kz H n rows
theorem gw(m:M)(H:Hp)(rows:List (List D)):iW (iA m H rows)=some [iA m H rows]:=by
 cases m<;>cases rows<;>rfl
section
variable{X:bJ}{ops:Array Oper}{rest:List Oper}{sl:List (Nat×V)}{bx:List (Nat×List M)}{H:Hp}{post:St->Prop}{P3:List Ef->St->Prop}{d ty:Nat}{pos:String}{af:Array Edge}
theorem mS{T e n nb i:Nat}{x y:Operand}{m:M}{rs rows:List (List D)}{z:D}[ht:aZ X.P T e][r:bY X.P e n][s:ku X.P e nb][t:g_ X.P e z](o:Acc n i rs m H)(a:Nat.blt d X.n=true)(b:bw sl x=some (.m m))(c:bw sl y=some (.m (.d (.sl rows))))
  (p:Nat.blt 0 n=true) (f:(bu z).length=n) (g: ∀l∈rows,l.length=n) (h:(rs.length+rows.length)*nb<=140737488355328) (q:rs.length+rows.length<=140737488355328)
  (k:TL X ops rest ⟨(d,.m (iA m H rows))::sl,bx,fm n m H rows⟩ post):TL X ops (⟨some d,.call ⟨.builtin .append,#[x,y],#[T,T]⟩,ty,pos,af,none⟩::rest) ⟨sl,bx,H⟩ post:=by
 rcases o with⟨rfl,rfl⟩|⟨u,v,rfl,j⟩
 ·exact Hr a b c p f g (by simpa using h) k
 ·refine fU a b c j f g h q ?_;simp only[iA,fm,j]at k;exact k
theorem yA{T e n nb i:Nat}{x y:Operand}{m:M}{rs:List (List D)}{r:List D}{z:D}[ht:aZ X.P T e][t:bY X.P e n][u:ku X.P e nb][v:g_ X.P e z](l:Acc n i rs m H)(a:Nat.blt d X.n=true)(b:bw sl x=some (.m m))(c:bw sl y=some (.m (.d (.sl [r]))))
  (o:Nat.blt 0 n=true) (f:(bu z).length=n) (g:r.length=n) (h:(rs.length+1)*nb<=140737488355328) (p:rs.length+1<=140737488355328)
  (k:TF X ops rest ⟨(d,.m (iA m H [r]))::sl,bx,fm n m H [r]⟩ λq s=>P3 (⟨some d,.m (iA m H [r]),[],[],none,true,some (fm n m H [r])⟩::q) s):TF X ops (⟨some d,.call ⟨.builtin .append,#[x,y],#[T,T]⟩,ty,pos,af,none⟩::rest) ⟨sl,bx,H⟩ P3:=by
 rcases l with⟨rfl,rfl⟩|⟨w,A,rfl,j⟩
 ·exact zq true a b c o f (by simp) (mR g) (by simpa using h) k
 ·refine zt a b c j f (mR g) h p ?_;simp only[iA,fm,j]at k;exact k
theorem jf{T e n len:Nat}{parts:List (Nat×Operand)}{z:D}{ms:List (Nat×M)}{cs:List M}[ht:aZ X.P T e][i:bY X.P e n][j:g_ X.P e z](b:Nat.blt d X.n=true)(c:Nat.blt 0 n=true)(f:(bu z).length=n)
  (h:Nat.ble (len*n) 16777216=true) (g:iE sl parts=some ms) (hf:gK (λa=>some (a*n,n)) (eO n len (bu z)) ms=some cs)
  (k:TL X ops rest ⟨(d,.m (.bH H.length 0 len))::sl,bx,H++ [.row false n 0 cs]⟩ post):TL X ops (⟨some d,.buildSlice T len parts.toArray,ty,pos,af,none⟩::rest) ⟨sl,bx,H⟩ post:=
 Qi W W b (oQ c f h (by rw[je];exact g) hf (.inl ⟨W,W⟩)) k
def CU(rows:List (List D)):D:=match rows with
 | []=> .ov
 |r=> .sl r
theorem IA(rows:List (List D)):lB (CU rows)=some rows.length:=by cases rows<;>rfl
theorem F0{t e n h:Nat}{x y:Operand}{rows:List (List D)}{c:IntKind}[ht:aZ X.P t e][s:bY X.P e n](f:Nat.blt d X.n=true)(i:bw sl x=some (.m (.d (.sl rows))))(j:bw sl y=some (.m (.d (.int c ((h:Nat):Int)))))(m:rows≠ [])(q:h<=rows.length)(o: ∀a∈rows,a.length=n)
  (k:TL X ops rest ⟨(d,.m (.d (CU (rows.drop h))))::sl,bx,H⟩ post):TL X ops (⟨some d,.slice t x (some y) none none,ty,pos,af,none⟩::rest) ⟨sl,bx,H⟩ post:=by
 refine Qi (v:= .m (.d (CU (rows.drop h)))) (P9:=sl) (Qr:=bx) (H':=H) W W f ?_ k;have this:=vr (X:=X) (st:=⟨sl,bx,H⟩) (dst:=some d) (ty:=ty) (pos:=pos) (af:=af) (g:=none) (t:=t) (lo:=some y) (hi:=none) (l:=some h) (h:=none) i (by simp only[vq,St.ev,j]) W m q (auK _) o;have p:(rows.drop ((some h).getD 0)).take (((none:Option Nat).getD rows.length)-(some h).getD 0)=rows.drop h:=by
  show(rows.drop h).take (rows.length-h)=rows.drop h;exact avK (by simp)
 rw[p]at this;cases b:rows.drop h with
 |nil=>rw[b]at this;exact this
 |cons r a=>rw[b]at this;exact this
theorem zI{t e n h:Nat}{x y:Operand}{rows:List (List D)}{m:IntKind}[ht:aZ X.P t e][C:bY X.P e n](o:Nat.blt d X.n=true)(p:bw sl x=some (.m (.d (.sl rows))))(q:bw sl y=some (.m (.d (.int m ((h:Nat):Int)))))(b:rows≠ [])(E:0<h)(z:h<=rows.length)(r: ∀a∈rows,a.length=n)
  (k:TF X ops rest ⟨(d,.m (.d (.sl (rows.take h))))::sl,bx,H⟩ λs u=>P3 (⟨some d,.m (.d (.sl (rows.take h))),[],[],none,false,none⟩::s) u):TF X ops (⟨some d,.slice t x none (some y) none,ty,pos,af,none⟩::rest) ⟨sl,bx,H⟩ P3:=by
 refine TF.cons (e:=⟨some d,.m (.d (.sl (rows.take h))),[],[],none,false,none⟩) (P1 W W (bO o) λv c=> ?_) W k;have A:=(c.ev (x:=x) (by simp[Op.operands])).trans p;have B:=(c.ev (x:=y) (by simp[Op.operands])).trans q;have this:=vr (X:=X) (st:=v) (dst:=some d) (ty:=ty) (pos:=pos) (af:=af) (g:=none) (t:=t) (lo:=none) (hi:=some y) (l:=none) (h:=some h) A W (by simp only[vq,B]) b (avp _) z r;have w:(rows.drop ((none:Option Nat).getD 0)).take (((some h:Option Nat).getD rows.length)-(none:Option Nat).getD 0)=rows.take h:=by simp
 rw[w]at this;cases f:rows.take h with
 |nil=>
  cases rows with
  |nil=>exact absurd W b
  |cons j a=>obtain⟨i,rfl⟩: ∃i,h=i+1:=⟨h-1,by omega⟩;simp at f
 |cons j a=>rw[f]at this;exact this
end
theorem sQ{H:Hp}{i:Nat}{ob:Ob}(h:H[i]?=some ob):i<H.length:=by
 rcases auM i H.length with a|a
 ·exact a
 ·simp[auP a]at h
theorem Acc.other{n i:Nat}{rs:List (List D)}{m:M}{H H':Hp}(h:Acc n i rs m H)(b: ∀a,H[i]?=some a->H'[i]?=some a):Acc n i rs m H':=by
 rcases h with h|⟨c,d,e,f⟩
 ·exact .inl h
 ·exact .inr ⟨c,d,e,b _ f⟩
theorem Acc.any{n i j:Nat}{m:M}{H H':Hp}(h:Acc n i [] m H):Acc n j [] m H':=by
 rcases h with h|⟨a,_⟩
 ·exact .inl h
 ·exact absurd W a
theorem Acc.lt{n i:Nat}{rs:List (List D)}{m:M}{H:Hp}(h:Acc n i rs m H)(a:rs≠ []):i<H.length:=by
 rcases h with⟨h,_⟩|⟨_,c,_,b⟩
 ·exact absurd h a
 ·exact sQ b
namespace eH
def x8(L:Nat):Rh->Rh
 | .no=> .no
 | .ix l=> .ix (l.map (L+ ·))
 | .all=> .all
def sh(L:Nat)(e:Ef):Ef:=⟨e.d,e.v,e.rb,e.wb,e.nw,x8 L e.rh,e.wh.map λp=>(L+p.1,p.2),e.tl⟩
theorem Hw(L a:Nat)(l:List Nat):has (l.map (L+ ·)) (L+a)=has l a:=by
 rw[aw4,gr,gr];simp
theorem D5(L a b:Nat):Nat.blt (L+a) (L+b)=Nat.blt a b:=by
 rw[aw4];simp only[Nat.blt_eq];omega
theorem By(L:Nat)(e f:Ef):jq (sh L e) (sh L f)=jq e f:=by
 unfold jq sh;cases f.rh with
 |no=>rfl
 |ix a=>
  simp only[x8,List.any_map]
  congr 1
  funext b
  exact Hw L b.1 a
 |all=>
  simp only[x8,List.any_map]
  congr 2
theorem IB(L:Nat)(ops:Array Oper)(x y:Oper)(e f:Ef):dU ops x y (sh L e) (sh L f)=dU ops x y e f:=by
 unfold dU;rw[By,By];rfl
theorem zJ(L:Nat)(ops:Array Oper)(x:Oper)(e:Ef)(i:Nat): ∀(a:List Oper) (c:List Ef) (d:List (List Nat)),jb ops x (sh L e) i a (c.map (sh L)) d=jb ops x e i a c d
 | [],_,_=>rfl
 |_::_,[],_=>rfl
 |_::_,_::_,[]=>rfl
 |f::a,g::c,b::d=>by
  simp only[avm,jb,IB,zJ L ops x e i a c d];rfl
theorem Bz(L:Nat)(ops:Array Oper): ∀(i:Nat) (xs:List Oper) (es:List Ef) (a:List (List Nat)),jV ops i xs (es.map (sh L)) a=jV ops i xs es a
 |_,[],_,_=>rfl
 |_,_::_,[],_=>rfl
 |_,_::_,_::_,[]=>rfl
 |i,c::xs,e::es,b::a=>by
  simp only[avm,jV,zJ,Bz L ops (i+1) xs es a]
theorem BA(L:Nat)(sl:List (Nat×V)): ∀es:List Ef,jW sl (es.map (sh L))=jW sl es
 | []=>rfl
 |e::es=>by
  simp only[avm,jW,BA L sl es];rfl
theorem L3(L m:Nat)(e:Ef):A_ (L+m) (sh L e)=A_ m e:=by
 unfold A_ sh;cases e.rh with
 |no=>
  simp only[x8];cases e.wh<;>rfl
 |ix b=>
  simp only[x8,axE]
  congr 2
  ·congr 1
   funext a
   exact Hw L a.1 b
  ·congr 1
   funext c
   exact D5 L c m
 |all=>
  simp only[x8,axE]
  congr 1
  funext a
  exact D5 L a.1 m
theorem D6(L m:Nat)(ops:List Oper)(sl:List (Nat×V))(es:List Ef):gL (L+m) ops sl (es.map (sh L))=gL m ops sl es:=by
 unfold gL;rw[Bz,BA,axE]
 congr 2
 funext e
 exact L3 L m e
end eH
def TG(L m:Nat)(X:bJ)(ops:Array Oper)(l:List Oper)(st:St)(post:List eH.Ef->St->Prop):Prop:=
 ∃es PD,eH.qh (L+m) X ops l st (es.map (eH.sh L)) PD/\post es PD
section
variable{L m:Nat}{X:bJ}{ops:Array Oper}
theorem TG.nil{st:St}{post:List eH.Ef->St->Prop}(h:post [] st):TG L m X ops [] st post:=⟨[],st,.nil st,h⟩
theorem TG.cons{o:Oper}{rest:List Oper}{st c:St}{e:eH.Ef}{post:List eH.Ef->St->Prop}(h:eH.mg (L+m) X ops o (eH.sh L e) st)(d:e.d=o.dst)(f:(eH.sh L e).app (L+m) st=c)
  (k:TG L m X ops rest c λb a=>post (e::b) a):TG L m X ops (o::rest) st post:=by
 obtain⟨b,a,g,i⟩:=k;exact⟨e::b,a,.cons h d (f▸g),i⟩
variable{rest:List Oper}{sl:List (Nat×V)}{bx:List (Nat×List M)}{H:Hp}{post:List eH.Ef->St->Prop}{d ty:Nat}{pos:String}{af:Array Edge}
theorem getD_some{H:Hp}{i:Nat}{ob:Ob}(h:H.getD i .dead=ob)(b:ob≠ .dead):H[i]?=some ob:=by
 rw[awg]at h;cases a:H[i]? with
 |none=>rw[a]at h;exact absurd h.symm b
 |some v=>rw[a]at h;simp at h;rw[h]
theorem zK{H:Hp}{i:Nat}{ob:Ob}(h:H[i]?=some ob):H.getD i .dead=ob:=by
 rw[awg,h];rfl
theorem TG.quiet{o:Oper}{v:V}{rh:eH.Rh}(l:L+m<=H.length)(f:o.guard=none)(c:o.dst=some d)(g:Nat.blt d X.n=true)
  (h: ∀a,eH.Ag (L+m) ops o ⟨some d,v,[],[],none,eH.x8 L rh,[],none⟩ ⟨sl,bx,H⟩ a->cQ X o a (dy v a))
  (k:TG L m X ops rest ⟨(d,v)::sl,bx,H⟩ λi j=>post (⟨some d,v,[],[],none,rh,[],none⟩::i) j):TG L m X ops (o::rest) ⟨sl,bx,H⟩ post:=by
 refine TG.cons (e:=⟨some d,v,[],[],none,rh,[],none⟩) (λa b=> ?_) c.symm (D4 (st:=⟨sl,bx,H⟩) l) k;rw[show eH.sh L ⟨some d,v,[],[],none,rh,[],none⟩=⟨some d,v,[],[],none,eH.x8 L rh,[],none⟩from rfl]at b⊢;rw[D4 b.len];exact(h a b).Im f c (bO g)
theorem L4{x:Operand}{v:V}(g:L+m<=H.length)(a:Nat.blt d X.n=true)(b:bw sl x=some v)(k:TG L m X ops rest ⟨(d,v)::sl,bx,H⟩ λc e=>post (⟨some d,v,[],[],none,.no,[],none⟩::c) e):
  TG L m X ops (⟨some d,.move x,ty,pos,af,none⟩::rest) ⟨sl,bx,H⟩ post:=
 TG.quiet g W W a (λh f=>DM ((UN f (x:=x) (by simp[Op.operands,Call.operands])).trans b)) k
theorem D7{x:Operand}{v:V}(h:L+m<=H.length)(a:Nat.blt d X.n=true)(b:bw sl x=some v)(c:vg v=true)(k:TG L m X ops rest ⟨(d,v)::sl,bx,H⟩ λe f=>post (⟨some d,v,[],[],none,.no,[],none⟩::e) f):
  TG L m X ops (⟨some d,.nilCheck x,ty,pos,af,none⟩::rest) ⟨sl,bx,H⟩ post:=
 TG.quiet h W W a (λi g=>v5 ((UN g (x:=x) (by simp[Op.operands,Call.operands])).trans b) c) k
theorem IC{s f:Nat}{x:Operand}{i off o:Nat}[hf:jT X.P s f o](h:L+m<=H.length)(a:Nat.blt d X.n=true)(b:bw sl x=some (.m (.ref i off)))(k:TG L m X ops rest ⟨(d,(.m (.ref i (off+o))))::sl,bx,H⟩ λc e=>post (⟨some d,(.m (.ref i (off+o))),[],[],none,.no,[],none⟩::c) e):
  TG L m X ops (⟨some d,.fieldAddr s x f,ty,pos,af,none⟩::rest) ⟨sl,bx,H⟩ post:=
 TG.quiet h W W a (λj g=>yU ((UN g (x:=x) (by simp[Op.operands,Call.operands])).trans b)) k
theorem ID{T:Nat}{x:Operand}{i off:Nat}{cs:List M}{a:M}[ht:cB X.P T](l:L+m<=H.length)(c:Nat.blt d X.n=true)(e:bw sl x=some (.m (.ref (L+i) off)))(f:H[L+i]?=some (.box cs))(g:cs[off]?=some a)(k:TG L m X ops rest ⟨(d,(.m a))::sl,bx,H⟩ λh j=>post (⟨some d,(.m a),[],[],none,.ix [i],[],none⟩::h) j):
  TG L m X ops (⟨some d,.load T x,ty,pos,af,none⟩::rest) ⟨sl,bx,H⟩ post:=
 TG.quiet (rh:= .ix [i]) l W W c (λn b=>mE ((UN b (x:=x) (by simp[Op.operands,Call.operands])).trans e) (getD_some ((b.ix [L+i] W (L+i) (by simp)).trans (zK f)) (by simp)) (by simp[ie,ht.cell,g])) k
theorem CV{T e n nb len i:Nat}{x y:Operand}{c f:IntKind}{z:D}[ht:aZ X.P T e][B:bY X.P e n][C:ku X.P e nb][E:g_ X.P e z](A:L+m<=H.length)(hi:i<m)(h:Nat.blt d X.n=true)(j:Nat.blt 0 n=true)(l:(bu z).length=n)
  (o:bw sl x=some (.m (.d (.int c len)))) (p:bw sl y=some (.m (.d (.int f len)))) (q:len*nb<=140737488355328) (r:len<=140737488355328) (s:H[L+i]?=some .free)
  (k:TG L m X ops rest ⟨(d,.m (.bH (L+i) 0 len))::sl,bx,H.set (L+i) (.row false n 0 (eO n len (bu z)))⟩ λt u=>post (⟨some d,.m (.bH (L+i) 0 len),[],[],none,.ix [i],[(i,.row false n 0 (eO n len (bu z)))],none⟩::t) u):
  TG L m X ops (⟨some d,.makeSlice T x y,ty,pos,af,none⟩::rest) ⟨sl,bx,H⟩ post:=by
 refine TG.cons (e:=⟨some d,.m (.bH (L+i) 0 len),[],[],none,.ix [i],[(i,.row false n 0 (eO n len (bu z)))],none⟩) (λF a=> ?_) W ?_ k
 ·have v:=getD_some ((a.ix [L+i] W (L+i) (by simp)).trans (zK s)) (by simp);have b:=zp (X:=X) (dst:=some d) (ty:=ty) (pos:=pos) (af:=af) (g:=none) (T:=T) j l ((UN a (x:=x) (by simp[Op.operands,Call.operands])).trans o) ((UN a (x:=y) (by simp[Op.operands,Call.operands])).trans p) q r (.inr ⟨v,rfl⟩);have w:=b.Im (ops:=ops) W W (bO h);simp only[eH.sh,eH.Ef.app,avm,avT,rY a.len (awJ hi L),avn];exact w
 ·simp only[eH.sh,eH.Ef.app,avm,avT,rY A (awJ hi L),avn]
theorem IE{T n i off:Nat}{x y:Operand}{cs d a:List M}{f:M}[w:bY X.P T n](v:L+m<=H.length)(hi:i<m)(j:bw sl x=some (.m (.ref (L+i) off)))(l:bw sl y=some (.m f))(o:H[L+i]?=some (.box cs))(c:iW f=some d)(p:Nat.beq d.length n=true)(q:wr cs off d=some a)
  (k:TG L m X ops rest ⟨sl,bx,H.set (L+i) (Ob.box a)⟩ λr s=>post (⟨none,.m .undef,[],[],none,.ix [i],[(i,.box a)],none⟩::r) s):TG L m X ops (⟨none,.store T x y,ty,pos,af,none⟩::rest) ⟨sl,bx,H⟩ post:=by
 refine TG.cons (e:=⟨none,.m .undef,[],[],none,.ix [i],[(i,.box a)],none⟩) (λz b=> ?_) W ?_ k
 ·have t:=getD_some ((b.ix [L+i] W (L+i) (by simp)).trans (zK o)) (by simp);have h:=vn (X:=X) (dst:=none) (ty:=ty) (pos:=pos) (af:=af) (g:=none) (T:=T) ((UN b (x:=x) (by simp[Op.operands,Call.operands])).trans j) ((UN b (x:=y) (by simp[Op.operands,Call.operands])).trans l) t (by rw[(c7 c).1];exact auZ p) (c7 c).2 (by rw[(c7 c).1];exact tt q);have u:=h.JP (ops:=ops) W W;simp only[eH.sh,eH.Ef.app,avm,avT,rY b.len (awJ hi L),avn];exact u
 ·simp only[eH.sh,eH.Ef.app,avm,avT,rY v (awJ hi L),avn]
end
section
variable{m:Nat}{X:bJ}{ops:Array Oper}{rest:List Oper}{sl:List (Nat×V)}{bx:List (Nat×List M)}{H T:Hp}{post:List eH.Ef->St->Prop}{d ty:Nat}{pos:String}{af:Array Edge}
theorem uH(a:Nat.ble m T.length=true):H.length+m<=(H++T).length:=by
 have:=avG a;simp;omega
theorem oB{i:Nat}{ob:Ob}(h:T[i]?=some ob):(H++T)[H.length+i]?=some ob:=by
 rw[auR (by omega),avP];exact h
theorem D8(i:Nat)(ob:Ob):(H++T).set (H.length+i) ob=H++T.set i ob:=by
 rw[avY _ _ (by omega),avP]
theorem ri{x:Operand}{v:V}(a:Nat.ble m T.length=true)(b:Nat.blt d X.n=true)(c:bw sl x=some v)(k:TG H.length m X ops rest ⟨(d,v)::sl,bx,H++T⟩ λe f=>post (⟨some d,v,[],[],none,.no,[],none⟩::e) f):
  TG H.length m X ops (⟨some d,.move x,ty,pos,af,none⟩::rest) ⟨sl,bx,H++T⟩ post:=L4 (uH a) b c k
theorem lc{x:Operand}{v:V}(a:Nat.ble m T.length=true)(b:Nat.blt d X.n=true)(c:bw sl x=some v)(e:vg v=true)(k:TG H.length m X ops rest ⟨(d,v)::sl,bx,H++T⟩ λf g=>post (⟨some d,v,[],[],none,.no,[],none⟩::f) g):
  TG H.length m X ops (⟨some d,.nilCheck x,ty,pos,af,none⟩::rest) ⟨sl,bx,H++T⟩ post:=D7 (uH a) b c e k
theorem nC{s f:Nat}{x:Operand}{i off o:Nat}[hf:jT X.P s f o](a:Nat.ble m T.length=true)(b:Nat.blt d X.n=true)(c:bw sl x=some (.m (.ref i off)))(k:TG H.length m X ops rest ⟨(d,(.m (.ref i (off+o))))::sl,bx,H++T⟩ λe g=>post (⟨some d,(.m (.ref i (off+o))),[],[],none,.no,[],none⟩::e) g):
  TG H.length m X ops (⟨some d,.fieldAddr s x f,ty,pos,af,none⟩::rest) ⟨sl,bx,H++T⟩ post:=IC (uH a) b c k
theorem vt{t:Nat}{x:Operand}{i off:Nat}{cs:List M}{a:M}[ht:cB X.P t](b:Nat.ble m T.length=true)(c:Nat.blt d X.n=true)(e:bw sl x=some (.m (.ref (H.length+i) off)))(f:T[i]?=some (.box cs))(g:cs[off]?=some a)(k:TG H.length m X ops rest ⟨(d,(.m a))::sl,bx,H++T⟩ λh j=>post (⟨some d,(.m a),[],[],none,.ix [i],[],none⟩::h) j):
  TG H.length m X ops (⟨some d,.load t x,ty,pos,af,none⟩::rest) ⟨sl,bx,H++T⟩ post:=ID (uH b) c e (oB f) g k
theorem qI{t e n nb len:Nat}(i:Nat){x y:Operand}{a b:IntKind}{z:D}[ht:aZ X.P t e][u:bY X.P e n][v:ku X.P e nb][w:g_ X.P e z](c:Nat.ble m T.length=true)(hi:i<m)(f:Nat.blt d X.n=true)(g:Nat.blt 0 n=true)(h:(bu z).length=n)
  (j:bw sl x=some (.m (.d (.int a len)))) (l:bw sl y=some (.m (.d (.int b len)))) (o:len*nb<=140737488355328) (p:len<=140737488355328) (q:T[i]?=some .free)
  (k:TG H.length m X ops rest ⟨(d,.m (.bH (H.length+i) 0 len))::sl,bx,H++T.set i (.row false n 0 (eO n len (bu z)))⟩ λr s=>post (⟨some d,.m (.bH (H.length+i) 0 len),[],[],none,.ix [i],[(i,.row false n 0 (eO n len (bu z)))],none⟩::r) s):
  TG H.length m X ops (⟨some d,.makeSlice t x y,ty,pos,af,none⟩::rest) ⟨sl,bx,H++T⟩ post:=
 CV (uH c) hi f g h j l o p (oB q) (by rw[D8];exact k)
theorem vu{t n off:Nat}(i:Nat){x y:Operand}{cs b a:List M}{c:M}[q:bY X.P t n](d:Nat.ble m T.length=true)(hi:i<m)(e:bw sl x=some (.m (.ref (H.length+i) off)))(f:bw sl y=some (.m c))(g:T[i]?=some (.box cs))(h:iW c=some b)(j:Nat.beq b.length n=true)(l:wr cs off b=some a)
  (k:TG H.length m X ops rest ⟨sl,bx,H++T.set i (Ob.box a)⟩ λo p=>post (⟨none,.m .undef,[],[],none,.ix [i],[(i,.box a)],none⟩::o) p):TG H.length m X ops (⟨none,.store t x y,ty,pos,af,none⟩::rest) ⟨sl,bx,H++T⟩ post:=
 IE (uH d) hi e f (oB g) h j l (by rw[D8];exact k)
end
theorem DC.NE{P:Program}{n e:Nat}{post:Exit->St->Prop}{f:Nat}{ops:List Oper}{sl:List (Nat×V)}{bx:List (Nat×List M)}{H:Hp}{s:St}(L m k:Nat)(g:P.follows .mixedOrders=true)(o:L+m<=H.length+k)
  (h: ∀a b,TG L m ⟨P,n,a,b,[]⟩ ops.toArray ops ⟨sl,bx,H++List.replicate k .free⟩ λc d=>eH.gL m ops sl c=true/\d=s) (i:post .normal s):DC P n e (.region f ops.toArray true) ⟨sl,bx,H⟩ post:=by
 refine⟨.normal,s,i,λa b _=> ?_⟩;obtain⟨c,d,j,l,rfl⟩:=h a b;refine TC.pad k ?_;exact eH.draw (N:=L+m) g (by simpa using o) j (by rw[eH.D6];exact l) ⟨W,W⟩
section
variable{X:bJ}{ops:Array Oper}{rest:List Oper}{post:St->Prop}{sl:List (Nat×V)}{bx:List (Nat×List M)}{H:Hp}{d ty:Nat}{pos:String}{af:Array Edge}
theorem kS{x y:Operand}{a b:Nat}{v u:V}{z:Bool}(c:mj X.P a=1)(e:Nat.blt d X.n=true)(f:bw sl x=some v)(g:bw sl y=some u)(h:il 1 v=some z)(i:il 1 u=some true)
  (k:TL X ops rest ⟨(d,.m (.d (.bool z)))::sl,bx,H⟩ post):TL X ops (⟨some d,.binOp .eql a x y b,ty,pos,af,none⟩::rest) ⟨sl,bx,H⟩ post:=
 Qi W W e (yz (.inl W) c (.inl W) f g h i) k
theorem jC{x y:Operand}{a b:Nat}{v u:V}{z:Bool}(c:mj X.P a=1)(e:Nat.blt d X.n=true)(f:bw sl x=some v)(g:bw sl y=some u)(h:il 1 v=some z)(i:il 1 u=some true)
  (k:TL X ops rest ⟨(d,.m (.d (.bool (!z))))::sl,bx,H⟩ post):TL X ops (⟨some d,.binOp .neq a x y b,ty,pos,af,none⟩::rest) ⟨sl,bx,H⟩ post:=
 Qi W W e (yz (.inr W) c (.inl W) f g h i) k
end
section
variable{X:bJ}{ops:Array Oper}{rest:List Oper}{sl:List (Nat×V)}{bx:List (Nat×List M)}{H:Hp}{post:St->Prop}{P3:List Ef->St->Prop}{d ty:Nat}{pos:String}{af:Array Edge}
theorem zL{T e n nb:Nat}{x y:Operand}{b:List M}{a:Nat}{z:D}{c:M}(acc:Bool)[ht:aZ X.P T e][p:bY X.P e n][q:ku X.P e nb][r:g_ X.P e z](f:Nat.blt d X.n=true)
  (g:bw sl x=some (.m (.d (.sl [])))) (h:bw sl y=some (.m c)) (i:pM H n c=some (b,a)) (j:Nat.blt 0 n=true) (l:(bu z).length=n) (m:0<a) (o:a*nb<=140737488355328)
  (k:TL X ops rest ⟨(d,.m (.bH H.length 0 a))::sl,bx,H++ [.row acc n 0 b]⟩ post):TL X ops (⟨some d,.call ⟨.builtin .append,#[x,y],#[T,T]⟩,ty,pos,af,none⟩::rest) ⟨sl,bx,H⟩ post:=
 Qi W W f (rW acc j l g h i m o (.inl ⟨rfl,rfl⟩)) k
theorem zM{T e n nb:Nat}{x y:Operand}{b:List M}{a:Nat}{z:D}{c:M}{j aL len:Nat}{acc:Bool}{cs:List M}[ht:aZ X.P T e][q:bY X.P e n][r:ku X.P e nb][s:g_ X.P e z](f:Nat.blt d X.n=true)
  (g:bw sl x=some (.m (.bH j aL len))) (h:bw sl y=some (.m c)) (i:pM H n c=some (b,a)) (l:H[j]?=some (.row acc n aL cs)) (m:(bu z).length=n) (o:(len+a)*nb<=140737488355328) (p:len+a<=140737488355328)
  (k:TL X ops rest ⟨(d,.m (.bH j (aL+1) (len+a)))::sl,bx,H.set j (.row acc n (aL+1) (cs++b))⟩ post):TL X ops (⟨some d,.call ⟨.builtin .append,#[x,y],#[T,T]⟩,ty,pos,af,none⟩::rest) ⟨sl,bx,H⟩ post:=
 Qi W W f (rX m g h i l o p) k
theorem pO{T e a:Nat}{x y:Operand}{i j o:Nat}{es:List (D×M)}{z:D}[n:g_ X.P e z](b:Nat.blt d X.n=true)(ht:X.P.underlying T=some (.map a e))(c:kP X.P a=true)(f:bw sl x=some (.m (.mp i)))(g:bw sl y=some (.m (.ref j o)))(h:H[i]?=some (.map es))(l:hJ es=true)
  (k:TL X ops rest ⟨(d,.m (match ij j o es with|some m=>m|none=> .d z))::sl,bx,H⟩ post):TL X ops (⟨some d,.lookup T x y false,ty,pos,af,none⟩::rest) ⟨sl,bx,H⟩ post:=
 Qi W W b (xY (ok:=false) ht c f g h l) k
theorem F7{T e b:Nat}{x y:Operand}{i j o:Nat}{es:List (D×M)}{z:D}[r:g_ X.P e z](c:Nat.blt d X.n=true)(ht:X.P.underlying T=some (.map b e))(f:kP X.P b=true)(g:bw sl x=some (.m (.mp i)))(h:bw sl y=some (.m (.ref j o)))(l:H[i]?=some (.map es))(n:hJ es=true)
  (k:TF X ops rest ⟨(d,.m (match ij j o es with|some m=>m|none=> .d z))::sl,bx,H⟩ λp q=>P3 (⟨some d,.m (match ij j o es with|some m=>m|none=> .d z),[],[],none,true,none⟩::p) q):
  TF X ops (⟨some d,.lookup T x y false,ty,pos,af,none⟩::rest) ⟨sl,bx,H⟩ P3:=
 TF.cons (e:=⟨some d,.m (match ij j o es with|some m=>m|none=> .d z),[],[],none,true,none⟩) (P1 W W (bO c) λs a=>xY (ok:=false) ht f ((a.ev (x:=x) (by simp[Op.operands,Call.operands])).trans g) ((a.ev (x:=y) (by simp[Op.operands,Call.operands])).trans h) (by rw[a.H W];exact l) n) W k
theorem qJ{T e a:Nat}{x y z:Operand}{i j o:Nat}{es:List (D×M)}{m:M}(ht:X.P.underlying T=some (.map a e))(b:kP X.P a=true)(c:bw sl x=some (.m (.mp i)))(d:bw sl y=some (.m (.ref j o)))(f:bw sl z=some (.m m))(g:H[i]?=some (.map es))(h:hJ es=true)
  (k:TL X ops rest ⟨sl,bx,H.set i (.map (jz j o m es))⟩ post):TL X ops (⟨none,.mapUpdate T x y z,ty,pos,af,none⟩::rest) ⟨sl,bx,H⟩ post:=
 TL.Hf W W (zC ht b c d f g h) k
theorem mF{x:Operand}{f:Nat}{a:List M}{args:List Operand}{Sr:Array Nat}{ms:List M}{r:M}{K:Hp}[hf:bz X.P f](h:CT X.P f (ms++a) H λb c=>b=r/\c=K)(e:Nat.blt d X.n=true)(g:bw sl x=some (.m (.fn f a)))(i:gD sl args=some ms)
  (k:TL X ops rest ⟨(d,.m r)::sl,bx,K⟩ post):TL X ops (⟨some d,.call ⟨.value x,args.toArray,Sr⟩,ty,pos,af,none⟩::rest) ⟨sl,bx,H⟩ post:=
 Iy h e g i k
theorem et{T e n len:Nat}{parts:List (Nat×Operand)}{z:D}{ms:List (Nat×M)}{cs:List M}[ht:aZ X.P T e][q:bY X.P e n][r:g_ X.P e z](f:Nat.blt d X.n=true)(g:Nat.blt 0 n=true)(h:(bu z).length=n)
  (o:Nat.ble (len*n) 16777216=true) (i:iE sl parts=some ms) (hf:gK (λc=>some (c*n,n)) (eO n len (bu z)) ms=some cs)
  (k:TF X ops rest ⟨(d,.m (.bH H.length 0 len))::sl,bx,H++ [Ob.row false n 0 cs]⟩ λj l=>P3 (⟨some d,.m (.bH H.length 0 len),[],[],none,true,some (H++ [Ob.row false n 0 cs])⟩::j) l):TF X ops (⟨some d,.buildSlice T len parts.toArray,ty,pos,af,none⟩::rest) ⟨sl,bx,H⟩ P3:=by
 refine TF.cons (e:=⟨some d,.m (.bH H.length 0 len),[],[],none,true,some (H++ [Ob.row false n 0 cs])⟩) (Rw W W (bO f) λs b=> ?_) W k;have a:=b.H W;simp only at a;exact oQ g h o (by rw[b.eG (λp m=>by simp[Op.operands];exact⟨_,m⟩),je];exact i) hf (.inl ⟨by rw[a],by rw[a]⟩)
theorem pP{T e n nb:Nat}{x y:Operand}{b:List M}{a:Nat}{z:D}{g:M}(acc:Bool)[ht:aZ X.P T e][t:bY X.P e n][u:ku X.P e nb][v:g_ X.P e z](h:Nat.blt d X.n=true)
  (i:bw sl x=some (.m (.d (.sl [])))) (j:bw sl y=some (.m g)) (l:pM H n g=some (b,a)) (m:Nat.blt 0 n=true) (o:(bu z).length=n) (p:0<a) (q:a*nb<=140737488355328)
  (k:TF X ops rest ⟨(d,.m (.bH H.length 0 a))::sl,bx,H++ [Ob.row acc n 0 b]⟩ λr s=>P3 (⟨some d,.m (.bH H.length 0 a),[],[],none,true,some (H++ [Ob.row acc n 0 b])⟩::r) s):TF X ops (⟨some d,.call ⟨.builtin .append,#[x,y],#[T,T]⟩,ty,pos,af,none⟩::rest) ⟨sl,bx,H⟩ P3:=by
 refine TF.cons (e:=⟨some d,.m (.bH H.length 0 a),[],[],none,true,some (H++ [Ob.row acc n 0 b])⟩) (Rw W W (bO h) λw f=> ?_) W k;have c:=f.H W;simp only at c;exact rW acc m o ((f.ev (x:=x) (by simp[Op.operands,Call.operands])).trans i) ((f.ev (x:=y) (by simp[Op.operands,Call.operands])).trans j) (by rw[c];exact l) p q (.inl ⟨by rw[c],by rw[c]⟩)
theorem pQ{T e n nb:Nat}{x y:Operand}{b:List M}{a:Nat}{z:D}{h:M}{j aL len:Nat}{acc:Bool}{cs:List M}[ht:aZ X.P T e][w:bY X.P e n][A:ku X.P e nb][B:g_ X.P e z](i:Nat.blt d X.n=true)
  (l:bw sl x=some (.m (.bH j aL len))) (m:bw sl y=some (.m h)) (o:pM H n h=some (b,a)) (p:H[j]?=some (.row acc n aL cs)) (q:(bu z).length=n) (r:(len+a)*nb<=140737488355328) (s:len+a<=140737488355328)
  (k:TF X ops rest ⟨(d,.m (.bH j (aL+1) (len+a)))::sl,bx,H.set j (Ob.row acc n (aL+1) (cs++b))⟩ λt u=>P3 (⟨some d,.m (.bH j (aL+1) (len+a)),[],[],none,true,some (H.set j (Ob.row acc n (aL+1) (cs++b)))⟩::t) u):TF X ops (⟨some d,.call ⟨.builtin .append,#[x,y],#[T,T]⟩,ty,pos,af,none⟩::rest) ⟨sl,bx,H⟩ P3:=by
 refine TF.cons (e:=⟨some d,.m (.bH j (aL+1) (len+a)),[],[],none,true,some (H.set j (Ob.row acc n (aL+1) (cs++b)))⟩) (Rw W W (bO i) λv f=> ?_) W k;have c:=f.H W;simp only at c;have:=rX (X:=X) (st:=v) (dst:=some d) (ty:=ty) (pos:=pos) (af:=af) (g:=none) (T:=T) q ((f.ev (x:=x) (by simp[Op.operands,Call.operands])).trans l) ((f.ev (x:=y) (by simp[Op.operands,Call.operands])).trans m) (by rw[c];exact o) (by rw[c];exact p) r s;rw[c]at this;exact this
theorem ft{f:Nat}{a:List Operand}{ms:List M}(b:Nat.blt d X.n=true)(c:gD sl a=some ms)(k:TF X ops rest ⟨(d,.m (.fn f ms))::sl,bx,H⟩ λg h=>P3 (⟨some d,.m (.fn f ms),[],[],none,false,none⟩::g) h):
  TF X ops (⟨some d,.makeFunc (.func f) #[] a.toArray,ty,pos,af,none⟩::rest) ⟨sl,bx,H⟩ P3:=by
 refine TF.cons (e:=⟨some d,.m (.fn f ms),[],[],none,false,none⟩) (P1 W W (bO b) λm i=> ?_) W k;exact uW (by rw[i.gD (λl j=>by simp[Op.operands];exact j),oA];exact c)
theorem Hx{x y:Operand}{a b i j oi oj:Nat}(c:Nat.blt d X.n=true)(e:kP X.P a=true)(f:bw sl x=some (.m (.ref i oi)))(g:bw sl y=some (.m (.ref j oj)))
  (k:TL X ops rest ⟨(d,.m (.d (.bool (Nat.beq i j&&Nat.beq oi oj))))::sl,bx,H⟩ post):TL X ops (⟨some d,.binOp .eql a x y b,ty,pos,af,none⟩::rest) ⟨sl,bx,H⟩ post:=
 Qi W W c (Iu (op:= .eql) (.inl W) e f g) k
theorem J6{x:Operand}{a b:Nat}{r:List D}{rows:List (List D)}(c:Nat.blt d X.n=true)(e:mj X.P a=6)(f:bw sl x=some (.m (.d (.sl (r::rows)))))
  (k:TL X ops rest ⟨(d,.m (.d (.bool false)))::sl,bx,H⟩ post):TL X ops (⟨some d,.binOp .eql a x (.const (.slice none 0 0)) b,ty,pos,af,none⟩::rest) ⟨sl,bx,H⟩ post:=
 Qi W W c (JZ (op:= .eql) (.inl W) e λh i j g=>J0 g f) k
end
theorem pR(i o j u:Nat)(v:M): ∀{es:List (D×M)},hJ es=true->ij j u (jz i o v es)=if j=i/\u=o then some v else ij j u es
 | [],_=>by
  simp only[jz,ij];by_cases a:j=i/\u=o
  ·obtain⟨rfl,rfl⟩:=a;simp
  ·rw[auU a];have:(Nat.beq j i&&Nat.beq u o)=false:=by rw[<-avX];intro e;rw[avf]at e;exact a ⟨auZ e.1,auZ e.2⟩
   rw[this];rfl
 |(q,r)::p,c=>by
  unfold hJ at c;split at c
  ·rename_i f;cases f
  ·rename_i g b m s f;injection f with h n;injection h with k d;subst k;subst d;subst n
   have l:=pR i o j u v c;simp only[jz];by_cases a:i=g/\o=b
   ·obtain⟨rfl,rfl⟩:=a;simp only[aw9,axA,avx,ij];by_cases a:j=i/\u=o
    ·obtain⟨rfl,rfl⟩:=a;simp
    ·rw[auU a];have:(Nat.beq j i&&Nat.beq u o)=false:=by rw[<-avX];intro e;rw[avf]at e;exact a ⟨auZ e.1,auZ e.2⟩
     rw[this];rfl
   ·have:(Nat.beq i g&&Nat.beq o b)=false:=by rw[<-avX];intro e;rw[avf]at e;exact a ⟨auZ e.1,auZ e.2⟩
    rw[this];simp only[aws,ij];rw[l];by_cases d:j=i/\u=o
    ·obtain⟨rfl,rfl⟩:=d;rw[this];simp
    ·simp only[auU d]
  ·cases c
theorem o_(i o:Nat)(v:M): ∀{es:List (D×M)},hJ es=true->hJ (jz i o v es)=true
 | [],_=>rfl
 |(k,l)::j,a=>by
  unfold hJ at a;split at a
  ·rename_i c;cases c
  ·rename_i d b m n c;injection c with e h;injection e with f g;subst f;subst g;subst h
   simp only[jz];cases (Nat.beq i d&&Nat.beq o b)with
   |true=>exact a
   |false=>exact o_ i o v a
  ·cases a
section
variable{P:Program}{n B:Nat}{st:St}{post:Exit->St->Prop}
theorem QZ{f:Nat}{ops:List Oper}{s:St}(a:Hp->Prop)(o:a st.H)(g:P.follows .mixedOrders=true)(h: ∀c d,jJ ⟨P,n,c,d,[]⟩ a ops.toArray ops st λb e=>gL ops st.sl b=true/\oa a ops 0 b/\e=s)(i:post .normal s):DC P n B (.region f ops.toArray true) st post:=by
 refine⟨.normal,s,i,λc d _=>TC.FJ a o g ?_⟩;obtain⟨b,e,j,k,l,m⟩:=h c d;exact⟨b,e,j,k,l,W,m⟩
end
end Go.Mt
namespace Go.Proofs
open Go.Mt
open Tryz
instance:bY prog 1 1:=⟨by kernel_rfl⟩
instance:cB prog 1:=⟨by kernel_rfl⟩
instance:ku prog 1 8:=⟨by kernel_rfl⟩
instance:g_ prog 1 (.qW):=⟨by kernel_rfl⟩
instance:bY prog 3 1:=⟨by kernel_rfl⟩
instance:cB prog 3:=⟨by kernel_rfl⟩
instance:mh prog 3 .i64:=⟨by kernel_rfl⟩
instance:g_ prog 3 (.int .i64 0):=⟨by kernel_rfl⟩
instance:bY prog 4 1:=⟨by kernel_rfl⟩
instance:cB prog 4:=⟨by kernel_rfl⟩
instance:ku prog 4 1:=⟨by kernel_rfl⟩
instance:FM prog 4:=⟨by kernel_rfl⟩
instance:g_ prog 4 (.bool false):=⟨by kernel_rfl⟩
instance:bY prog 5 1:=⟨by kernel_rfl⟩
instance:cB prog 5:=⟨by kernel_rfl⟩
instance:mh prog 5 .u8:=⟨by kernel_rfl⟩
instance:bY prog 9 1:=⟨by kernel_rfl⟩
instance:cB prog 9:=⟨by kernel_rfl⟩
instance:CB prog 9:=⟨by kernel_rfl⟩
instance:ku prog 9 16:=⟨by kernel_rfl⟩
instance:g_ prog 9 (.str ⟨#[]⟩):=⟨by kernel_rfl⟩
instance:bY prog 21 1:=⟨by kernel_rfl⟩
instance:cB prog 21:=⟨by kernel_rfl⟩
instance:mh prog 21 .i32:=⟨by kernel_rfl⟩
instance:ku prog 21 4:=⟨by kernel_rfl⟩
instance:g_ prog 21 (.int .i32 0):=⟨by kernel_rfl⟩
instance:aZ prog 22 5:=⟨by kernel_rfl⟩
instance:bY prog 23 1:=⟨by kernel_rfl⟩
instance:cB prog 23:=⟨by kernel_rfl⟩
instance:aZ prog 23 21:=⟨by kernel_rfl⟩
instance:ku prog 23 24:=⟨by kernel_rfl⟩
instance:g_ prog 23 (.sl []):=⟨by kernel_rfl⟩
instance:cB prog 25:=⟨by kernel_rfl⟩
instance:aZ prog 25 77:=⟨by kernel_rfl⟩
instance:bY prog 26 1:=⟨by kernel_rfl⟩
instance:cB prog 26:=⟨by kernel_rfl⟩
instance:aZ prog 26 53:=⟨by kernel_rfl⟩
instance:bY prog 28 2:=⟨by kernel_rfl⟩
instance:jM prog 28 2:=⟨by kernel_rfl,by kernel_rfl⟩
instance:aZ prog 37 23:=⟨by kernel_rfl⟩
instance:bY prog 46 1:=⟨by kernel_rfl⟩
instance:cB prog 46:=⟨by kernel_rfl⟩
instance:aZ prog 46 64:=⟨by kernel_rfl⟩
instance:bY prog 47 1:=⟨by kernel_rfl⟩
instance:cB prog 47:=⟨by kernel_rfl⟩
instance:aZ prog 47 68:=⟨by kernel_rfl⟩
instance:bY prog 49 2:=⟨by kernel_rfl⟩
instance:jM prog 49 2:=⟨by kernel_rfl,by kernel_rfl⟩
instance:bY prog 53 7:=⟨by kernel_rfl⟩
instance:jM prog 53 7:=⟨by kernel_rfl,by kernel_rfl⟩
instance:ku prog 53 128:=⟨by kernel_rfl⟩
instance:g_ prog 53 (.agg [.str ⟨#[]⟩,.sl [],.sl [],.sl [],.sl [],.int .i64 0,.int .i64 0]):=⟨by kernel_rfl⟩
instance:bY prog 55 1:=⟨by kernel_rfl⟩
instance:cB prog 55:=⟨by kernel_rfl⟩
instance:aZ prog 55 4:=⟨by kernel_rfl⟩
instance:jM prog 57 2:=⟨by kernel_rfl,by kernel_rfl⟩
instance:cB prog 58:=⟨by kernel_rfl⟩
instance:aZ prog 58 195:=⟨by kernel_rfl⟩
instance:cB prog 59:=⟨by kernel_rfl⟩
instance:aZ prog 59 9:=⟨by kernel_rfl⟩
instance:cB prog 60:=⟨by kernel_rfl⟩
instance:aZ prog 60 62:=⟨by kernel_rfl⟩
instance:bY prog 62 8:=⟨by kernel_rfl⟩
instance:jM prog 62 8:=⟨by kernel_rfl,by kernel_rfl⟩
instance:ku prog 62 88:=⟨by kernel_rfl⟩
instance:g_ prog 62 (.agg [.int .u8 0,.int .u8 0,.int .i32 0,.str ⟨#[]⟩,.sl [],.sl [],.int .i64 0,.int .i64 0]):=⟨by kernel_rfl⟩
instance:bY prog 64 15:=⟨by kernel_rfl⟩
instance:ku prog 64 176:=⟨by kernel_rfl⟩
instance:g_ prog 64 (.agg [.str ⟨#[]⟩,.int .u8 0,.str ⟨#[]⟩,.sl [],.bool false,.int .u8 0,.int .u8 0,.int .i32 0,.str ⟨#[]⟩,.sl [],.sl [],.int .i64 0,.int .i64 0,.int .i64 0,.int .i64 0]):=⟨by kernel_rfl⟩
instance:bY prog 66 1:=⟨by kernel_rfl⟩
instance:cB prog 66:=⟨by kernel_rfl⟩
instance:aZ prog 66 176:=⟨by kernel_rfl⟩
instance:bY prog 68 16:=⟨by kernel_rfl⟩
instance:jM prog 68 16:=⟨by kernel_rfl,by kernel_rfl⟩
instance:ku prog 68 208:=⟨by kernel_rfl⟩
instance:g_ prog 68 (.agg [.int .u8 0,.sl [],.str ⟨#[]⟩,.sl [],.bool false,.int .u8 0,.int .u8 0,.int .i32 0,.str ⟨#[]⟩,.sl [],.sl [],.int .i64 0,.int .i64 0,.sl [],.int .i64 0,.int .i64 0]):=⟨by kernel_rfl⟩
instance:cB prog 73:=⟨by kernel_rfl⟩
instance:bY prog 77 4:=⟨by kernel_rfl⟩
instance:k7 prog 81 [(0,1),(1,1),(2,1),(3,1),(4,1)] [.bX,.int .i64 0,.int .i64 0,.int .i64 0,.bool false]:=⟨by kernel_rfl,by kernel_rfl⟩
instance:bY prog 84 1:=⟨by kernel_rfl⟩
instance:cB prog 84:=⟨by kernel_rfl⟩
instance:ku prog 84 8:=⟨by kernel_rfl⟩
instance:g_ prog 84 (.bX):=⟨by kernel_rfl⟩
instance:k7 prog 87 [(0,1)] [.bX]:=⟨by kernel_rfl,by kernel_rfl⟩
instance:bY prog 91 1:=⟨by kernel_rfl⟩
instance:cB prog 91:=⟨by kernel_rfl⟩
instance:aZ prog 91 84:=⟨by kernel_rfl⟩
instance:jT prog 93 2 9:=oz (by kernel_rfl)
instance:jT prog 93 3 10:=oz (by kernel_rfl)
instance:jT prog 93 4 11:=oz (by kernel_rfl)
instance:jT prog 93 5 12:=oz (by kernel_rfl)
instance:bY prog 102 3:=⟨by kernel_rfl⟩
instance:jM prog 102 3:=⟨by kernel_rfl,by kernel_rfl⟩
instance:cB prog 108:=⟨by kernel_rfl⟩
instance:bY prog 109 1:=⟨by kernel_rfl⟩
instance:cB prog 109:=⟨by kernel_rfl⟩
instance:g_ prog 109 (.bX):=⟨by kernel_rfl⟩
instance:bY prog 110 1:=⟨by kernel_rfl⟩
instance:cB prog 110:=⟨by kernel_rfl⟩
instance:aZ prog 110 1:=⟨by kernel_rfl⟩
instance:k7 prog 112 [(0,1),(1,1),(2,1),(3,1),(4,1)] [.bX,.bX,.bool false,.sl [],.sl []]:=⟨by kernel_rfl,by kernel_rfl⟩
instance:cB prog 114:=⟨by kernel_rfl⟩
instance:cB prog 115:=⟨by kernel_rfl⟩
instance:bY prog 116 1:=⟨by kernel_rfl⟩
instance:cB prog 116:=⟨by kernel_rfl⟩
instance:aZ prog 116 120:=⟨by kernel_rfl⟩
instance:bY prog 117 1:=⟨by kernel_rfl⟩
instance:cB prog 117:=⟨by kernel_rfl⟩
instance:aZ prog 117 121:=⟨by kernel_rfl⟩
instance:k7 prog 119 [(0,1),(1,1),(2,1),(3,1),(4,1)] [.bX,.sl [],.sl [],.pG,.pG]:=⟨by kernel_rfl,by kernel_rfl⟩
instance:bY prog 120 1:=⟨by kernel_rfl⟩
instance:cB prog 120:=⟨by kernel_rfl⟩
instance:ku prog 120 8:=⟨by kernel_rfl⟩
instance:g_ prog 120 (.bX):=⟨by kernel_rfl⟩
instance:zd prog 120 [.d (.bX)]:=⟨.bX,gW (by kernel_rfl),rfl⟩
instance:bY prog 121 1:=⟨by kernel_rfl⟩
instance:cB prog 121:=⟨by kernel_rfl⟩
instance:ku prog 121 8:=⟨by kernel_rfl⟩
instance:g_ prog 121 (.bX):=⟨by kernel_rfl⟩
instance:k7 prog 123 [(0,15),(15,1),(16,1),(17,1),(18,1),(19,1)] [.str ⟨#[]⟩,.int .u8 0,.str ⟨#[]⟩,.sl [],.bool false,.int .u8 0,.int .u8 0,.int .i32 0,.str ⟨#[]⟩,.sl [],.sl [],.int .i64 0,.int .i64 0,.int .i64 0,.int .i64 0,.int .i64 0,.bX,.bX,.int .u8 0,.int .i32 0]:=⟨by kernel_rfl,by kernel_rfl⟩
instance:aZ prog 152 46:=⟨by kernel_rfl⟩
instance:aZ prog 174 178:=⟨by kernel_rfl⟩
instance:bY prog 176 7:=⟨by kernel_rfl⟩
instance:ku prog 176 128:=⟨by kernel_rfl⟩
instance:g_ prog 176 (.agg [.str ⟨#[]⟩,.sl [],.sl [],.sl [],.sl [],.int .i64 0,.int .i64 0]):=⟨by kernel_rfl⟩
instance:bY prog 178 12:=⟨by kernel_rfl⟩
instance:ku prog 178 128:=⟨by kernel_rfl⟩
instance:g_ prog 178 (.agg [.int .u8 0,.int .u8 0,.int .i32 0,.str ⟨#[]⟩,.sl [],.sl [],.int .i64 0,.int .i64 0,.str ⟨#[]⟩,.bool false,.int .i64 0,.int .i64 0]):=⟨by kernel_rfl⟩
instance:bY prog 195 2:=⟨by kernel_rfl⟩
instance:bY prog 215 1:=⟨by kernel_rfl⟩
instance:cB prog 215:=⟨by kernel_rfl⟩
instance:zd prog 215 [.d (.qW)]:=⟨.qW,gW (by kernel_rfl),rfl⟩
instance:cB prog 217:=⟨by kernel_rfl⟩
instance:bz prog 10:=⟨λargs w=>call10 args w⟩
instance:bz prog 11:=⟨λargs w=>call11 args w⟩
instance:bz prog 15:=⟨λargs w=>call15 args w⟩
instance:bz prog 19:=⟨λargs w=>call19 args w⟩
instance:bz prog 21:=⟨λargs w=>call21 args w⟩
instance:bz prog 25:=⟨λargs w=>call25 args w⟩
instance:bz prog 26:=⟨λargs w=>call26 args w⟩
instance:bz prog 27:=⟨λargs w=>call27 args w⟩
instance:bz prog 31:=⟨λargs w=>call31 args w⟩
instance:bz prog 32:=⟨λargs w=>call32 args w⟩
instance:bz prog 33:=⟨λargs w=>call33 args w⟩
instance:bz prog 38:=⟨λargs w=>call38 args w⟩
instance:bz prog 39:=⟨λargs w=>call39 args w⟩
instance:bz prog 41:=⟨λargs w=>call41 args w⟩
instance:bz prog 42:=⟨λargs w=>call42 args w⟩
instance:bz prog 43:=⟨λargs w=>call43 args w⟩
instance:bz prog 44:=⟨λargs w=>call44 args w⟩
instance:bz prog 45:=⟨λargs w=>call45 args w⟩
instance:bz prog 49:=⟨λargs w=>call49 args w⟩
instance:bz prog 56:=⟨λargs w=>call56 args w⟩
instance:bz prog 57:=⟨λargs w=>call57 args w⟩
instance:bz prog 58:=⟨λargs w=>call58 args w⟩
instance:bz prog 59:=⟨λargs w=>call59 args w⟩
instance:bz prog 60:=⟨λargs w=>call60 args w⟩
instance:bz prog 61:=⟨λargs w=>call61 args w⟩
instance:bz prog 62:=⟨λargs w=>call62 args w⟩
instance:bz prog 63:=⟨λargs w=>call63 args w⟩
instance:bz prog 64:=⟨λargs w=>call64 args w⟩
instance:bz prog 65:=⟨λargs w=>call65 args w⟩
instance:bz prog 66:=⟨λargs w=>call66 args w⟩
instance:bz prog 67:=⟨λargs w=>call67 args w⟩
instance:bz prog 78:=⟨λargs w=>call78 args w⟩
instance:bz prog 79:=⟨λargs w=>call79 args w⟩
instance:bz prog 86:=⟨λargs w=>call86 args w⟩
instance:bz prog 87:=⟨λargs w=>call87 args w⟩
instance:bz prog 88:=⟨λargs w=>call88 args w⟩
instance:bz prog 89:=⟨λargs w=>call89 args w⟩
instance:bz prog 90:=⟨λargs w=>call90 args w⟩
instance:bz prog 91:=⟨λargs w=>call91 args w⟩
instance:bz prog 92:=⟨λargs w=>call92 args w⟩
instance:bz prog 93:=⟨λargs w=>call93 args w⟩
instance:bz prog 94:=⟨λargs w=>call94 args w⟩
instance:bz prog 95:=⟨λargs w=>call95 args w⟩
instance:bz prog 96:=⟨λargs w=>call96 args w⟩
instance:bz prog 97:=⟨λargs w=>call97 args w⟩
instance:bz prog 116:=⟨λargs w=>call116 args w⟩
instance:bz prog 117:=⟨λargs w=>call117 args w⟩
instance:bz prog 118:=⟨λargs w=>call118 args w⟩
instance:bz prog 119:=⟨λargs w=>call119 args w⟩
instance:bz prog 120:=⟨λargs w=>call120 args w⟩
instance:bz prog 121:=⟨λargs w=>call121 args w⟩
instance:bz prog 122:=⟨λargs w=>call122 args w⟩
instance:bz prog 123:=⟨λargs w=>call123 args w⟩
instance:bz prog 124:=⟨λargs w=>call124 args w⟩
instance:bz prog 125:=⟨λargs w=>call125 args w⟩
instance:bz prog 126:=⟨λargs w=>call126 args w⟩
instance:bz prog 127:=⟨λargs w=>call127 args w⟩
instance:bz prog 128:=⟨λargs w=>call128 args w⟩
instance:bz prog 129:=⟨λargs w=>call129 args w⟩
instance:bz prog 130:=⟨λargs w=>call130 args w⟩
instance:bz prog 135:=⟨λargs w=>call135 args w⟩
instance:bz prog 136:=⟨λargs w=>call136 args w⟩
instance:bz prog 137:=⟨λargs w=>call137 args w⟩
instance:bz prog 138:=⟨λargs w=>call138 args w⟩
instance:bz prog 139:=⟨λargs w=>call139 args w⟩
instance:bz prog 140:=⟨λargs w=>call140 args w⟩
instance:bz prog 141:=⟨λargs w=>call141 args w⟩
instance:bz prog 142:=⟨λargs w=>call142 args w⟩
instance:bz prog 143:=⟨λargs w=>call143 args w⟩
instance:bz prog 144:=⟨λargs w=>call144 args w⟩
end Go.Proofs
