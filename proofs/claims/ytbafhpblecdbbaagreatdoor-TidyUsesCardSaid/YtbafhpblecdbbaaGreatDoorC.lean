/- A part of the proof of the last text of this claim, without conditions. -/
import Derived.Test.YtbafhpblecdbbaaGreatDoorB
import Derived.LaidEql
import Derived.Defers
import Derived.Recover
import Derived.ProofKit
import Derived.OpenShut
import Derived.Deep.Matrix
import Derived.SizedLaws
set_option maxRecDepth 4000
set_option linter.all false
namespace Go.Mt
variable{n T e len j MF k2:Nat}{x y:Operand}{z:D}{rows:List (List D)}{cs Nf:List M}{acc:Bool}{σ:Sg}{m my:M}
def Src(P:Program)(σ:Sg)(n:Nat)(v:Value)(cs:List M)(len:Nat):Prop:=
 (∀a:World,(Builtin.lenOf v).run P a=.ok len a)/\cs.length=len*n/\len<=140737488355328/\∃b:Array Value,(∀a:World,a.heap=σ.w.heap->(Builtin.firstCells n len v).run P a=.ok b a)/\b.size=len*n/\
  ∀(k:Nat) (m:M),cs[k]?=some m->∃u,b[k]?=some u/\RM σ m u/\flat u=true
def Am(H:Hp)(n:Nat):M->Option (List M×Nat)
 |.d (.sl rows)=>bif jK n rows then some (aM rows,rows.length)else none
 |.d .oD=>some ([],0)
 |.bZ i MF len=>match H[i]? with
  |some (.row _ a b cs)=>bif (Nat.beq n a&&Nat.beq MF b)then some (cs,len)else none
  |_=>none
 |_=>none
def JD{P:Program}{x:Nat->Nat->Prop}(hi:iH σ x)(o:0<n){v:Value}(h:RM σ m v)(a:Am σ.H n m=some (cs,len)):Src P σ n v cs len:=by
 unfold Am at a;split at a
 .rename_i i;cases c:jK n i with
  |false=>simp[c]at a
  |true=>
   simp only[c,aiP]at a;injection a with a;injection a with l e
   subst l;subst e;have f:=sZ c;cases h with
   |d h=>
    obtain⟨p,q,s,t,y⟩:=h.firstCells (P:=P) o f;have g:i.length<=140737488355328:=by
     cases h with
     |slnil E=>simp
     |sl i b E N G O H I g J K L M=>exact g
    refine⟨q,oH f,g,p,s,t,λF m z=>?_⟩;obtain⟨j,k,r,d,rfl,e,A,rfl⟩:=yc o f z;obtain⟨u,B,C,D⟩:=y j k r d e A;exact⟨u,B,.d C,D⟩
 .injection a with a;injection a with e f
  subst e;subst f;cases h with
  |d h=>cases h with
   |oD c g=>
    cases c with
    |none=>exact⟨λ_=>by simp[Builtin.lenOf],by simp,by simp,#[],λ_ _=>by simp[Builtin.firstCells],by simp,by simp⟩
    |some c=>exact⟨λ_=>by simp[Builtin.lenOf],by simp,by simp,#[],λ_ _=>by simp[Builtin.firstCells,loadCells,loadCellsFrom],by simp,by simp⟩
 .rename_i l r M;split at a
  .rename_i N y z i s;cases c:(Nat.beq n y&&Nat.beq r z)with
   |false=>simp[c]at a
   |true=>
    simp only[c,aiP]at a;injection a with a;injection a with g f
    subst g;subst f;simp only[aiI]at c;have q:=aiw c.1;have t:=aiw c.2;subst q;subst t;cases h with
    |bZ l r len O V X A=>
     obtain⟨g,f,Q,R,q,t⟩:=A N n i s;subst g;obtain⟨B,e,S,T,j,C,D,E,⟨F,G⟩,H⟩:=hi.obj l _ s;have I:j=M:=ai9 B (by rw[<-F,<-f]);subst I;have J:j*n<=e.size:=by rw[D];exact aiB _ E
     refine⟨λ_=>by simp[Builtin.lenOf],f,G,e.extract 0 (j*n),λK L=>?_,by simp;omega,λk m p=>?_⟩
     .simp only[Builtin.firstCells];exact tX (w:=K) (by rw[L];exact C) J
     .have U:k<i.length:=by rcases ais k i.length with h|h;exact h;simp[ail h]at p
      have u:k<e.size:=by omega
      refine⟨e[k],?_,H k m e[k] p (by simp[u])⟩;rw[ajl,air (by omega)];simp[u]
  .cases a
 .cases a
def bU.src{X:cQ}{st:St}{MH:Nat->Nat}{a:Act}(h:bU X σ MH st a)(c:0<n)(d:st.ev x=some (.m m))(e:Am st.H n m=some (cs,len)):Src X.P σ n (a.eval x) cs len:=by
 have b:=h.ev d;cases b with
 |m b=>exact JD h.hinv c b (by rw[h.hH];exact e)
section ops
variable{X:cQ}{st:St}{dst:Option Nat}{ty:Nat}{pos:String}{af:Array Edge}{g:Option (Nat×Bool)}{pn:Nat}{H':Hp}
def Bx{h:Nat}(acc:Bool)[ht:aU X.P T e][s:bQ X.P e n][K:jD X.P e h][L:fk X.P e z](M:Nat.blt 0 n=true)(Nv:(bz z).length=n)
  (N:st.ev x=some (.m (.d (.sl [])))) (P:st.ev y=some (.m my)) (d:Am st.H n my=some (Nf,k2)) (Q:0<k2) (No:k2*h<=140737488355328) (R:Place st.H (.row acc n 0 Nf) pn H'):
  cD X ⟨dst,.call ⟨.builtin .append,#[x,y],#[T,T]⟩,ty,pos,af,g⟩ st (dq (.m (.bZ pn 0 k2)) ⟨st.sl,st.bx,H'⟩):=by
 intro i a t o;have A:=bj M;have f:=o.mN N;obtain⟨r,S,i2,U⟩:=pD s.size K.bytes;obtain⟨B,V,Y⟩:=(ci L.zero).run;have Z:B.cells.size=n:=by have:=(e9 (O:=a.O) (w:=a.w) Y).cells.1;omega
 obtain⟨C,D,VO,p,E,v3,v4⟩:=o.src A P d;have co:=Q;generalize hu:i.eval x=u at f;generalize q:i.eval y=wv at C E;cases f with
 |slnil F=>
  let cap:=k2+a.w.tape a.w.drawn (.appendCap k2 0 e)%(2^63-k2)
  let c:=p++Builtin.zeroCells B.cells (cap-k2)
  have OA:k2<=cap:=akk _ _;have G:c.size=cap*n:=by
   simp only[c,akI,j_,v3,Z];rw[<-aiY];congr 1;omega
  have hd:bU X {a with w:=a.w.drew} t st i:=o.ext (fW.drew _);have Rt:db a {a with w:=a.w.drew} :=db.ext (fW.drew _);obtain⟨j,H,g2,I,g4,g5⟩:=hd.place R (.cells c e (0,0)) (by
   intro j hm q;refine⟨A,c,e,cap,k2,by rw[q];exact iD _ _,G,OA,⟨D,VO⟩,?_⟩;intro k m v PZ d;obtain⟨u,J,u2,u3⟩:=v4 k m PZ;have MY:k<p.size:=by rcases ais k p.size with l|l;exact l;simp[aiG l]at J
   have:c[k]?=some u:=by simp only[c];rw[aiH MY];exact J
   rw[this]at d;injection d with d;subst d
   exact⟨(u2.mono Rt).mono hm,u3⟩)
  refine dy.value (u:=.slice (some ⟨a.w.heap.size,0,none⟩) k2 cap) (w':=j.w) ?_ ⟨_,_,j,t,⟨W,W⟩,W,g5,?_⟩
  .have c1:¬k2<=0:=by omega
   have k:¬(((k2:Nat):Int)>IntKind.i64.max/\h=0):=by
    rintro⟨f,h2⟩;have:((k2:Nat):Int)<=140737488355328:=by omega
    have h3:IntKind.i64.max=9223372036854775807:=by decide
    omega
   have c3:¬(Builtin.nextslicecap k2 0*h>2^48):=by
    have f:=qD (fZ:=k2) (cap:=0) (by omega);have:=aiB h f;rw[akq]at this;omega
   have ce:(Builtin.firstCells n 0 (.slice F 0 0)).run X.P a.w.drew=.ok #[] a.w.drew:=by
    cases F<;>simp[Builtin.firstCells,loadCells,loadCellsFrom]
   have l:∀w:World,(typeInfo e).run X.P w=.ok r w:= λw=>by simp[typeInfo,program,Sem.run,S]
   have J:∀w:World,(underlying T).run X.P w=.ok (.slice e) w:= λw=>by simp[underlying,program,Sem.run,ht.u]
   simp only[execOp,resolve,invoke,builtin,Builtin.append_];simp only[Sem.run_bind,Sem.run_pure,Result.andThen_ok,aj3,aiq,aiL,hu,q];simp[J,l,du s.size];have TR:(Question.appendCap k2 0 e).cut (a.w.tape a.w.drawn (Question.appendCap k2 0 e))=cap:=rfl;have QX:(Question.appendCap k2 0 e).forced=false:=rfl;have Ri:=E a.w.drew W;have ac:¬k2=0:=by omega
   have am:¬(9223372036854775807<((k2:Nat):Int)/\r.bytes=0):=by
    rintro⟨f,h2⟩;have h3:IntKind.i64.max=9223372036854775807:=by decide
    exact k ⟨by omega,by omega⟩
   have YW:¬(281474976710656<Builtin.nextslicecap k2 0*r.bytes):=by rw[U];omega
   simp only[C,ac,am,YW,QX,Result.andThen_ok,aju,ai2];rw[ce];simp only[Result.andThen_ok];rw[Ri];simp only[Result.andThen_ok,V,TR];simp[newRow,newObj,Sem.run,H,c]
  .have l:=g2;refine .m (.bZ _ 0 k2 _ cap (.inr ⟨acc,n,0,Nf,I,ah9 _⟩) ?_);intro OO Tm MP k;rw[I]at k;simp at k;obtain⟨J,e2,e3⟩:=k;subst J;subst e2;subst e3;exact⟨by rw[l];rfl,D,c,e,by rw[l,H];exact iD _ _,G⟩
 |sl am b j cap l ac c k F G H I J=>exact absurd W c
def By{K:Nat}[ht:aU X.P T e][L:bQ X.P e n][hb:jD X.P e K][hz:fk X.P e z](Nv:(bz z).length=n)
  (hx:st.ev x=some (.m (.bZ j MF len))) (hy:st.ev y=some (.m my)) (d:Am st.H n my=some (Nf,k2)) (o:st.H[j]?=some (.row acc n MF cs)) (No:(len+k2)*K<=140737488355328) (Y:len+k2<=140737488355328):
  cD X ⟨dst,.call ⟨.builtin .append,#[x,y],#[T,T]⟩,ty,pos,af,g⟩ st (dq (.m (.bZ j (MF+1) (len+k2))) ⟨st.sl,st.bx,st.H.set j (.row acc n (MF+1) (cs++Nf))⟩):=by
 intro H a N p;have q:=p.ev hx;have Z:a.H[j]?=some (.row acc n MF cs):=by rw[p.hH];exact o
 obtain⟨G,i1,i2,i3⟩:=pD L.size hb.bytes;obtain⟨zv,Pf,Pl⟩:=(ci hz.zero).run;have TQ:zv.cells.size=n:=by have:=(e9 (O:=a.O) (w:=a.w) Pl).cells.1;omega
 obtain⟨t,k,Q,h,b,r,A,h5,⟨h6,Sn⟩,C⟩:=p.hinv.obj j _ Z;obtain⟨R,Qk,VO,f,S,v3,v4⟩:=p.src t hy d;generalize hu:H.eval x=u at q;generalize hw:H.eval y=wv at R S;have Tq:∀w:World,(typeInfo e).run X.P w=.ok G w:= λw=>by simp[typeInfo,program,Sem.run,i1]
 have Oi:∀w:World,(underlying T).run X.P w=.ok (.slice e) w:= λw=>by simp[underlying,program,Sem.run,ht.u]
 cases q with
 |m q=>cases q with
  |bZ j MF len ad cap d5 ND=>
   obtain⟨e1,D,TD,T1,E,e4⟩:=ND acc n cs Z;subst e1;rw[r]at E;injection E with E;injection E with e5 e6
   subst e5;subst e6;have OA:h=cap:=ai9 t (by rw[<-A,<-e4]);subst OA;have P2:b=len:=ai9 t (by rw[<-h6,<-D]);subst P2;have B:(cs++Nf).length=(b+k2)*n:=by rw[ah6,D,Qk,aiY]
   have TV:∀(k:Nat) (m:M),(cs++Nf)[k]?=some m->(k<cs.length/\cs[k]?=some m)\/(cs.length<=k/\∃u,f[k-cs.length]?=some u/\RM a m u/\flat u=true):=by
    intro s m l;rcases ais s cs.length with i|i
    .rw[aim i]at l;exact .inl ⟨i,l⟩
    .rw[aix i]at l;obtain⟨u,I,J,U⟩:=v4 _ m l;exact .inr ⟨i,u,I,J,U⟩
   have am:∀v∈f.toList,flat v=true:=by
    intro v d;obtain⟨i,s⟩:=akh.1 d;have OX:i<f.size:=by rcases ais i f.size with l|l;exact l;simp[aiG l]at s
    have U:i<Nf.length:=by omega
    obtain⟨u,I,V,J⟩:=v4 i Nf[i] (by simp[U]);have:f[i]?=some v:=by simpa using s
    rw[I]at this;injection this with this;subst this;exact J
   by_cases F:b+k2<=h
   .
    have XY:b*n+f.toList.length<=k.size:=by
     rw[A];simp[v3];rw[<-aiY];exact aiB _ F
    have MO:=mB (P:=X.P) (off:=b*n) f.toList 0 a.w k r (by simpa using XY) am;simp only[ajO]at MO;have U:=fH r;have MA:∀a,(eF k (b*n) f.toList)[a]?=if b*n<=a/\a<b*n+f.toList.length then f.toList[a-b*n]? else k[a]?:= λk=>lW _ _ _ _ XY
    obtain⟨J,g1,g2,g3,g4,g5⟩:=p.jx (j:=j) (b':=a.l j) (ob:=.row acc n MF cs) (NX:=.row acc n (MF+1) (cs++Nf)) (w':=cZ a.w (a.l j) (.cells (eF k (b*n) f.toList) Q (0,0))) o trivial W W W (by rw[jb];exact ah9 _)
     (λc _ a=>iC a) (.inl W) (by
      intro ac v V s;have ce:acc=true/\ac<cs.length:=by
       simp only[Ob.ji,alh,Nat.not_le]at V;refine⟨?_,V.2⟩;cases acc
       .exact absurd W V.1
       .rfl
      refine⟨?_,λ_ i=>?_⟩
      .simp only[ea,World.cell?,fI U];simp only[ea,World.cell?,r]at s;simp at s⊢;rw[MA,aid (by omega)];exact s
      .simp only[Ob.ji]at i;rcases i with i|i
       .rw[ce.1]at i;cases i
       .rw[B,aiY]at i;omega) ⟨rfl,.inl (by omega)⟩ (by
      intro J hm QW _ _;refine⟨t,_,Q,h,b+k2,by rw[QW];exact fI U,by rw[gh];exact A,F,⟨B,Y⟩,?_⟩;intro l m v PZ d;rw[MA]at d;rcases TV l m PZ with⟨hk,s⟩|⟨hk,u,u1,u2,u3⟩
      .rw[aid (by omega)]at d;exact⟨(C l m v s d).1.mono hm,(C l m v s d).2⟩
      .have OX:l-cs.length<f.size:=by rcases ais (l-cs.length) f.size with I|I;exact I;simp[aiG I]at u1
       rw[air (by simp;omega)]at d;have:f.toList[l-b*n]?=some u:=by rw[<-D];simpa using u1
       rw[this]at d;injection d with d;subst d
       exact⟨u2.mono hm,u3⟩)
    refine dy.value (u:=.slice (some ⟨a.l j,0,none⟩) (b+k2) h) (w':=J.w) ?_ ⟨_,_,J,N,⟨W,W⟩,W,g5,?_⟩
    .simp only[execOp,resolve,invoke,builtin,Builtin.append_];simp only[Sem.run_bind,Sem.run_pure,Result.andThen_ok,aj3,aiq,aiL,hu,hw];simp[Oi,Tq,du L.size,R,F,S a.w W,kx,MO,g1]
    .refine .m (.bZ j (MF+1) (b+k2) _ h (.inr ⟨acc,n,MF+1,cs++Nf,by rw[g3];exact tW o,ah9 _⟩) ?_);intro OO Tm ac l;rw[g3]at l;have s:j<st.H.length:=by rcases ais j st.H.length with i|i;exact i;simp[ail i]at o
     simp[s]at l;obtain⟨I,V,f3⟩:=l;subst I;subst V;subst f3;exact⟨by rw[g2],B,_,Q,by rw[g2,g1];exact fI U,by rw[gh];exact A⟩
   .
    let fZ:=b+k2
    let cap:=fZ+a.w.tape a.w.drawn (.appendCap fZ h e)%(2^63-fZ)
    let i:=k.extract 0 (b*n)++f++Builtin.zeroCells zv.cells (cap-fZ)
    have YX:fZ<=cap:=akk _ _;have Si:b*n<=k.size:=by rw[A];exact aiB _ h5
    have XZ:(k.extract 0 (b*n)).size=b*n:=by simp;omega
    have VP:i.size=cap*n:=by
     simp only[i,akI,j_,v3,TQ,XZ];rw[<-aiY,<-aiY];congr 1;omega
    have hd:bU X {a with w:=a.w.drew} N st H:=p.ext (fW.drew _);have Rt:db a {a with w:=a.w.drew} :=db.ext (fW.drew _)
    let w':World:={a.w.drew with heap:=a.w.drew.heap.push (.cells i e (0,0))}
    have V:fW a.w.drew w':=fW.alloc _ _;have Tl:∀a,a<cs.length->i[a]?=k[a]?:=by
     intro l s;simp only[i];rw[Array.append_assoc,aiH (by omega),ajl,air (by omega)];simp
    have ac:∀k,cs.length<=k->k-cs.length<f.size->i[k]?=f[k-cs.length]?:=by
     intro l s I;simp only[i];rw[Array.append_assoc,ai7 (by omega),aiH (by omega),XZ,D]
    obtain⟨J,g1,g2,g3,g4,g5⟩:=hd.jx (j:=j) (b':=a.w.heap.size) (ob:=.row acc n MF cs) (NX:=.row acc n (MF+1) (cs++Nf)) (w':=w') o trivial W W W V.size
     (λc a _=>V.aT c a) (.inr (ah9 _)) (by
      intro ce v ho s;exact⟨V.cell s,λb=>by have:=fH r;exact absurd b (by show ¬a.w.heap.size=a.l j;omega)⟩) ⟨rfl,.inl (by omega)⟩ (by
      intro J hm RL _ _;refine⟨t,i,e,cap,fZ,by rw[RL];exact iD _ _,VP,YX,⟨B,Y⟩,?_⟩;intro l m v PZ d;rcases TV l m PZ with⟨U,s⟩|⟨U,u,u1,u2,u3⟩
      .rw[Tl l U]at d;exact⟨((C l m v s d).1.mono Rt).mono hm,(C l m v s d).2⟩
      .have OX:l-cs.length<f.size:=by rcases ais (l-cs.length) f.size with I|I;exact I;simp[aiG I]at u1
       rw[ac l U OX,u1]at d;injection d with d;subst d
       exact⟨(u2.mono Rt).mono hm,u3⟩)
    refine dy.value (u:=.slice (some ⟨a.w.heap.size,0,none⟩) fZ cap) (w':=J.w) ?_ ⟨_,_,J,N,⟨W,W⟩,W,g5,?_⟩
    .have d6:¬(9223372036854775807<(((b+k2:Nat):Nat):Int)/\G.bytes=0):=by rintro⟨l,_⟩;omega
     have s:¬(281474976710656<Builtin.nextslicecap (b+k2) h*G.bytes):=by
      rw[i3];have q:=qD (fZ:=b+k2) (cap:=h) (by omega);have:=aiB K q;rw[akq]at this;omega
     have I:(Question.appendCap (b+k2) h e).cut (a.w.tape a.w.drawn (Question.appendCap (b+k2) h e))=cap:=rfl;have U:(Question.appendCap (b+k2) h e).forced=false:=rfl;have Ri:=S a.w.drew W;have co:(Builtin.firstCells n b (.slice (some ⟨a.l j,0,none⟩) b h)).run X.P a.w.drew=.ok (k.extract 0 (b*n)) a.w.drew:=by
      simp only[Builtin.firstCells];exact tX (w:=a.w.drew) r Si
     simp only[execOp,resolve,invoke,builtin,Builtin.append_];simp only[Sem.run_bind,Sem.run_pure,Result.andThen_ok,aj3,aiq,aiL,hu,hw];simp[Oi,Tq,du L.size];simp only[R,Result.andThen_ok];rw[aid F];have ce:¬(9223372036854775807<(b:Int)+(k2:Int)/\G.bytes=0):=by rintro⟨l,_⟩;omega
     simp only[ce,s,U,aju,ai2];rw[co];simp only[Result.andThen_ok];rw[Ri];simp only[Result.andThen_ok,Pf,I];simp[newRow,newObj,Sem.run,g1,i,w',fZ];rfl
    .refine .m (.bZ j (MF+1) fZ _ cap (.inr ⟨acc,n,MF+1,cs++Nf,by rw[g3];exact tW o,ah9 _⟩) ?_);intro OO Tm ce s;rw[g3]at s;have I:j<st.H.length:=by rcases ais j st.H.length with l|l;exact l;simp[ail l]at o
     simp[I]at s;obtain⟨U,f2,f3⟩:=s;subst U;subst f2;subst f3;exact⟨by rw[g2],B,i,e,by rw[g2,g1];exact iD _ _,VP⟩
end ops
def Fs{H:Hp} :∀{rows:List (List D)},(∀r∈rows,r.length=n)->Am H n (.d (.sl rows))=some (aM rows,rows.length):=by
 intro rows h;have:jK n rows=true:=by
  induction rows with
  |nil=>rfl
  |cons r b a=>simp only[jK,aiI];exact⟨by rw[h r ajf];exact ald n,a λq a=>h q (ajb _ a)⟩
 show(bif jK n rows then some (aM rows,rows.length)else none)=_;rw[this];rfl
section ops
variable{X:cQ}{st:St}{dst:Option Nat}{ty:Nat}{pos:String}{af:Array Edge}{g:Option (Nat×Bool)}
def wu{a:Nat}(acc:Bool)[ht:aU X.P T e][d:bQ X.P e n][f:jD X.P e a][h:fk X.P e z](b:Nat.blt 0 n=true)(c:(bz z).length=n)
  (d:st.ev x=some (.m (.d (.sl [])))) (f:st.ev y=some (.m (.d (.sl rows)))) (h:rows≠[]) (i:∀r∈rows,r.length=n) (j:rows.length*a<=140737488355328):
  cD X ⟨dst,.call ⟨.builtin .append,#[x,y],#[T,T]⟩,ty,pos,af,g⟩ st (dq (.m (.bZ st.H.length 0 rows.length)) ⟨st.sl,st.bx,st.H++[.row acc n 0 (aM rows)]⟩):=
 Bx acc b c d f (Fs i) (List.length_pos_iff.2 h) j (.inl ⟨rfl,rfl⟩)
def ww{a:Nat}[ht:aU X.P T e][c:bQ X.P e n][d:jD X.P e a][f:fk X.P e z](b:(bz z).length=n)
  (c:st.ev x=some (.m (.bZ j MF len))) (d:st.ev y=some (.m (.d (.sl rows)))) (f:st.H[j]?=some (.row acc n MF cs)) (h:∀r∈rows,r.length=n) (i:(len+rows.length)*a<=140737488355328) (a:len+rows.length<=140737488355328):
  cD X ⟨dst,.call ⟨.builtin .append,#[x,y],#[T,T]⟩,ty,pos,af,g⟩ st (dq (.m (.bZ j (MF+1) (len+rows.length))) ⟨st.sl,st.bx,st.H.set j (.row acc n (MF+1) (cs++aM rows))⟩):=
 By b c d (Fs h) f i a
end ops
section rules
variable{X:cQ}{ops:Array Oper}{rest:List Oper}{post:St->Prop}{MU:List Ef->St->Prop}{sl:List (Nat×V)}{bx:List (Nat×List M)}{H:Hp}{d ty:Nat}{pos:String}{af:Array Edge}
def dB{a:Nat}(acc:Bool)[ht:aU X.P T e][m:bQ X.P e n][o:jD X.P e a][p:fk X.P e z](b:Nat.blt d X.n=true)(c:aS sl x=some (.m (.d (.sl []))))(f:aS sl y=some (.m (.d (.sl rows))))(g:Nat.blt 0 n=true)(h:(bz z).length=n)(i:rows≠[])(j:∀r∈rows,r.length=n)(l:rows.length*a<=140737488355328)(k:TL X ops rest ⟨(d,(.m (.bZ H.length 0 rows.length)))::sl,bx,H++[Ob.row acc n 0 (aM rows)]⟩ post):TL X ops (⟨some d,.call ⟨.builtin .append,#[x,y],#[T,T]⟩,ty,pos,af,none⟩::rest) ⟨sl,bx,H⟩ post:=
 M3 W W b (wu acc g h c f i j l) k
def nI{a:Nat}(acc:Bool)[ht:aU X.P T e][o:bQ X.P e n][p:jD X.P e a][q:fk X.P e z](b:Nat.blt d X.n=true)(c:aS sl x=some (.m (.d (.sl []))))(f:aS sl y=some (.m (.d (.sl rows))))(h:Nat.blt 0 n=true)(i:(bz z).length=n)(j:rows≠[])(l:∀r∈rows,r.length=n)(m:rows.length*a<=140737488355328)(k:TF X ops rest ⟨(d,(.m (.bZ H.length 0 rows.length)))::sl,bx,H++[Ob.row acc n 0 (aM rows)]⟩ λa b=>MU (⟨some d,(.m (.bZ H.length 0 rows.length)),[],[],none,true,some (H++[Ob.row acc n 0 (aM rows)])⟩::a) b):TF X ops (⟨some d,.call ⟨.builtin .append,#[x,y],#[T,T]⟩,ty,pos,af,none⟩::rest) ⟨sl,bx,H⟩ MU:=
 TF.cons (e:=⟨some d,(.m (.bZ H.length 0 rows.length)),[],[],none,true,some (H++[Ob.row acc n 0 (aM rows)])⟩) (js.ye W W (bj b) λo a=>(by have b:=a.H W;simp only at b;have:=(wu (X:=X) (st:=o) (dst:=some d) (ty:=ty) (pos:=pos) (af:=af) (g:=none) (T:=T) acc h i ((a.ev (x:=x) (by simp[Op.operands,Call.operands])).trans c) ((a.ev (x:=y) (by simp[Op.operands,Call.operands])).trans f) j l m);rw[b]at this;exact this)) W k
def dr{a:Nat}[ht:aU X.P T e][o:bQ X.P e n][p:jD X.P e a][q:fk X.P e z](b:Nat.blt d X.n=true)(c:aS sl x=some (.m (.bZ j MF len)))(f:aS sl y=some (.m (.d (.sl rows))))(g:H[j]?=some (.row acc n MF cs))(h:(bz z).length=n)(i:∀r∈rows,r.length=n)(l:(len+rows.length)*a<=140737488355328)(m:len+rows.length<=140737488355328)(k:TL X ops rest ⟨(d,(.m (.bZ j (MF+1) (len+rows.length))))::sl,bx,H.set j (Ob.row acc n (MF+1) (cs++aM rows))⟩ post):TL X ops (⟨some d,.call ⟨.builtin .append,#[x,y],#[T,T]⟩,ty,pos,af,none⟩::rest) ⟨sl,bx,H⟩ post:=
 M3 W W b (ww h c f g i l m) k
def lD{a:Nat}[ht:aU X.P T e][p:bQ X.P e n][q:jD X.P e a][r:fk X.P e z](b:Nat.blt d X.n=true)(c:aS sl x=some (.m (.bZ j MF len)))(f:aS sl y=some (.m (.d (.sl rows))))(h:H[j]?=some (.row acc n MF cs))(i:(bz z).length=n)(l:∀r∈rows,r.length=n)(m:(len+rows.length)*a<=140737488355328)(o:len+rows.length<=140737488355328)(k:TF X ops rest ⟨(d,(.m (.bZ j (MF+1) (len+rows.length))))::sl,bx,H.set j (Ob.row acc n (MF+1) (cs++aM rows))⟩ λa b=>MU (⟨some d,(.m (.bZ j (MF+1) (len+rows.length))),[],[],none,true,some (H.set j (Ob.row acc n (MF+1) (cs++aM rows)))⟩::a) b):TF X ops (⟨some d,.call ⟨.builtin .append,#[x,y],#[T,T]⟩,ty,pos,af,none⟩::rest) ⟨sl,bx,H⟩ MU:=
 TF.cons (e:=⟨some d,(.m (.bZ j (MF+1) (len+rows.length))),[],[],none,true,some (H.set j (Ob.row acc n (MF+1) (cs++aM rows)))⟩) (js.ye W W (bj b) λp a=>(by have b:=a.H W;simp only at b;have:=(ww (X:=X) (st:=p) (dst:=some d) (ty:=ty) (pos:=pos) (af:=af) (g:=none) (T:=T) i ((a.ev (x:=x) (by simp[Op.operands,Call.operands])).trans c) ((a.ev (x:=y) (by simp[Op.operands,Call.operands])).trans f) (by rw[a.H W];exact h) l m o);rw[b]at this;exact this)) W k
end rules
section walk
variable{X:cQ}{ops:Array Oper}{rest:List Oper}{post:St->Prop}{sl:List (Nat×V)}{bx:List (Nat×List M)}{H:Hp}{d:Nat}{ty:Nat}{pos:String}{af:Array Edge}
def Ft{a:Nat}[ht:aU X.P T e][l:bQ X.P e n][m:jD X.P e a][o:fk X.P e z](b:Nat.blt d X.n=true)(c:aS sl x=some (.m (.d (.sl []))))(f:aS sl y=some (.m (.d (.sl rows))))(g:Nat.blt 0 n=true)(h:(bz z).length=n)
  (i:∀r∈rows,r.length=n) (j:rows.length*a<=140737488355328) (k:TL X ops rest ⟨(d,.m (s5 H rows))::sl,bx,jt H n rows⟩ post):
  TL X ops (⟨some d,.call ⟨.builtin .append,#[x,y],#[T,T]⟩,ty,pos,af,none⟩::rest) ⟨sl,bx,H⟩ post:=by
 cases rows with
 |nil=>exact oj b c f k
 |cons q r=>exact dB true b c f g h (by simp) i j k
def JE{g:Nat}{r1 r2:List (List D)}[ht:aU X.P T e][A:bQ X.P e n][B:jD X.P e g][C:fk X.P e z](c:Nat.blt d X.n=true)(a:aS sl x=some (.m (s5 H r1)))(f:aS sl y=some (.m (.d (.sl r2))))(p:Nat.blt 0 n=true)(j:(bz z).length=n)
  (s:∀r∈r1,r.length=n) (b:∀r∈r2,r.length=n) (l:(r1.length+r2.length)*g<=140737488355328) (u:r1.length+r2.length<=140737488355328) (k:TL X ops rest ⟨(d,.m (.d (.sl (r1++r2))))::sl,bx,Bw H n r1 r2⟩ post):
  TL X ops (⟨some d,.call ⟨.builtin .append,#[x,y],#[T,T]⟩,ty,pos,af,none⟩::rest) ⟨sl,bx,jt H n r1⟩ post:=by
 have m:∀(u v:V) (a:Hp),TL X ops rest ⟨(d,v)::sl,bx,a⟩ post->TL X ops rest ⟨(d,v)::(d,u)::sl,bx,a⟩ post:=by
  intro r v E h o w q;refine h o w (q.gL ?_ (λ_=>rfl));intro t x a;rw[bP]at a⊢;by_cases e:d=t
  .rw[air e]at a⊢;exact a
  .rw[aid e]at a⊢;rw[bP,aid e];exact a
 cases r1 with
 |nil=>
  cases r2 with
  |nil=>exact oj c a f k
  |cons q r=>
   refine dB true c a f p j (by simp) b (by simpa using l) ?_;refine TL.aR d (by rw[bP,air W];rfl) (Acc.view (n:=n) (i:=H.length) (rs:=q::r) (.inr ⟨by simp,0,rfl,by simp[jt]⟩) b) ?_;exact m _ _ _ k
 |cons q r=>
  refine dr (acc:=true) (cs:=aM (q::r)) c a f (by simp[jt]) j b l u ?_;have e:(jt H n (q::r)).set H.length (.row true n (0+1) (aM (q::r)++aM r2))=Bw H n (q::r) r2:=by simp[jt,Bw]
  rw[e];refine TL.aR d (by rw[bP,air W]) (Acc.view (n:=n) (i:=H.length) (rs:=q::r++r2) (.inr ⟨by simp,1,by simp;omega,by simp[Bw,aM]⟩) (by
   intro o t;rcases ain.1 t with h|h
   .exact s o h
   .exact b o h)) ?_
  exact m _ _ _ k
end walk
end Go.Mt
namespace Go.Mt
namespace Co
end Co
variable{k:IntKind}{σ:Sg}{P:Program}{t xt yt:Nat}{w:World}{v:Value}{x y:Operand}{k1 k2:Int}{s1 s2:ByteArray}
def KB(P:Program)(t:Nat):Bool:=match P.underlying t with
 |some (.int .u8)=>true
 |_=>false
def HP(P:Program)(t:Nat):Bool:=match P.underlying t with
 |some .string=>true
 |_=>false
def LF(P:Program)(t:Nat):Bool:=match P.underlying t with
 |some (.struct a)=>match a.toList with
  |[a,b]=> !decide (a.name= "_")&& !decide (b.name= "_")&&Nat.beq a.offset 0&&Nat.beq b.offset 1&&KB P a.type&&HP P b.type&& !P.stoodInHeld t&& !P.eqGuardType P.depth t
  |_=>false
 |_=>false
class t_(P:Program)(t:Nat):Prop where
 b:LF P t=true
def t_.u(h:t_ P t):(∃a b:Field,P.underlying t=some (.struct #[a,b])/\(a.name= "_")=False/\(b.name= "_")=False/\a.offset=0/\b.offset=1/\P.underlying a.type=some (.int .u8)/\P.underlying b.type=some .string)/\P.stoodInHeld t=false/\P.eqGuardType P.depth t=false:=by
 have a:=h.b;unfold LF at a;split at a
 .rename_i g i;split at a
  .rename_i d f j;simp only[aiI,ajp,decide_eq_false_iff_not]at a;obtain⟨⟨⟨⟨⟨⟨⟨k,l⟩,m⟩,n⟩,b⟩,c⟩,o⟩,p⟩:=a;have e:g= #[d,f]:=by rw[<-j]
   refine⟨⟨d,f,by rw[i,e],eq_false k,eq_false l,aiw m,aiw n,?_,?_⟩,o,p⟩
   .unfold KB at b;split at b
    .assumption
    .cases b
   .unfold HP at c;split at c
    .assumption
    .cases c
  .cases a
 .cases a
def An(h:t_ P t)(d e:Int)(f g:ByteArray):
  (Op.equal t (.agg #[.int .u8 d,.string f]) (.agg #[.int .u8 e,.string g])).run P w=.ok (decide (d=e)&&decide (f=g)) w:=by
 obtain⟨⟨a,c,r,i,j,s,u,v,x⟩,y,E⟩:=h.u;have z:(underlying t).run P w=.ok (.struct #[a,c]) w:=by simp[underlying,program,Sem.run,r]
 have o:(underlying a.type).run P w=.ok (.int .u8) w:=by simp[underlying,program,Sem.run,v]
 have p:(underlying c.type).run P w=.ok .string w:=by simp[underlying,program,Sem.run,x]
 have A:(program).run P w=.ok P w:=by simp[program,Sem.run]
 have k:∀c b:Int,(Op.equalIn 9999 a.type (.int .u8 c) (.int .u8 b)).run P w=.ok (decide (c=b)) w:=by
  intro q b;rw[Op.equalIn];simp[o];by_cases B:q=b<;>simp[B]
 have l:∀a b:ByteArray,(Op.equalIn 9999 c.type (.string a) (.string b)).run P w=.ok (decide (a=b)) w:=by
  intro q b;rw[Op.equalIn];simp[p,xo]
 have m:∀c:Int,∀s:ByteArray,(part a.type #[.int .u8 c,.string s] a.offset).run P w=.ok (.int .u8 c) w:=by
  intro q B;simp[part,isAgg,o,s]
 have n:∀a:Int,∀s:ByteArray,(part c.type #[.int .u8 a,.string s] c.offset).run P w=.ok (.string s) w:=by
  intro q B;simp[part,isAgg,p,u]
 simp only[Op.equal,Op.maxDepth];rw[Op.equalIn];simp[z,A,y,i,j,m,n,k,l];by_cases C:d=e<;>by_cases D:f=g<;>simp[C,D,m,n,k,l,i,j]
def xp{O:Nat->Nat->Prop}{k:Int}{s:ByteArray}(h:gO O w (.agg [.int .u8 k,.str s]) v):v=.agg #[.int .u8 k,.string s]:=by
 cases h with
 |agg _ d e i a=>
  obtain⟨l⟩:=d
  match l,e with
  |[c,b],_=>
   have f:=a 0 _ c W W;have g:=a 1 _ b W W;cases f;cases g;rfl
section
variable{X:cQ}{st:St}{dst:Option Nat}{ty:Nat}{pos:String}{af:Array Edge}{g:Option (Nat×Bool)}
def HQ[ht:t_ X.P xt](c:st.ev x=some (.m (.d (.agg [.int .u8 k1,.str s1]))))(d:st.ev y=some (.m (.d (.agg [.int .u8 k2,.str s2])))):
  cD X ⟨dst,.binOp .eql xt x y yt,ty,pos,af,g⟩ st (dq (.m (.d (.bool (decide (k1=k2)&&decide (s1=s2))))) st):=by
 refine MN λe a f b=>?_
 have e:=xp (b.mN c);have c:=xp (b.mN d);have b:(program).run X.P a.w=.ok X.P a.w:=by simp[program,Sem.run]
 have d:=An (w:=a.w) ht k1 k2 s1 s2;exact⟨_,by simp[execOp,e,c,eqGuard,b,ht.u.2.2,binOp,d],.m (.d (.bool _))⟩
end
section
variable{X:cQ}{st:St}{dst:Option Nat}{ty:Nat}{pos:String}{af:Array Edge}{g:Option (Nat×Bool)}
def HR[ht:t_ X.P xt](c:st.ev x=some (.m (.d (.agg [.int .u8 k1,.str s1]))))(d:st.ev y=some (.m (.d (.agg [.int .u8 k2,.str s2])))):
  cD X ⟨dst,.binOp .neq xt x y yt,ty,pos,af,g⟩ st (dq (.m (.d (.bool (!(decide (k1=k2)&&decide (s1=s2)))))) st):=by
 refine MN λe a f b=>?_
 have e:=xp (b.mN c);have c:=xp (b.mN d);have b:(program).run X.P a.w=.ok X.P a.w:=by simp[program,Sem.run]
 have d:=An (w:=a.w) ht k1 k2 s1 s2;exact⟨_,by simp[execOp,e,c,eqGuard,b,ht.u.2.2,binOp,d],.m (.d (.bool _))⟩
def yh(g T:Nat)(k:IntKind)(ms:List Int):M:=.c_ (.d (.int .i64 g):: .d (.int .i64 T)::ms.map λz=>.d (.int k z))
def RM.t'{n:Int}(h:RM σ (.d (.int k n)) v):v=.int k n:=by
 cases h with
 |d h=>cases h;rfl
def RM.ua{n m:Nat}(h:RM σ (.d (.int k n)) (.int k (m:Int))):m=n:=by
 have:=h.t';injection this with _ h
 omega
def wx{b c e:Nat}{ms:List Int}(h:fN σ b (.iter (yh c e k ms))):b=c/\σ.w.heap[c]?=some (.cells (ms.map λz=>Value.int k z).toArray e (0,0)):=by
 rcases h with⟨f,x,w,last,l,a⟩|⟨j,m,l,a⟩
 .exfalso;rcases a with⟨_,a⟩|⟨a,_⟩
  .cases a
  .unfold yh mg at a;cases a with
   |c_ n o p h=>
    have i:(#[Value.map f,.int .i64 x]++w.map λb=>.int .i64 b)[0]?=some (.map f):=by rw[aiH (by simp)];rfl
    have g:=h 0 (.d (.int .i64 c)) (.map f) W i;cases g with
    |d g=>cases g
 .unfold yh at a;cases a with
  |c_ y A g h=>
   have n:=h 0 (.d (.int .i64 c)) (.int .i64 b) W (by rw[aiH (by simp)];rfl);have o:=h 1 (.d (.int .i64 e)) (.int .i64 (m:Nat)) W (by rw[aiH (by simp)];rfl);have p:b=c:=n.ua;have q:m=e:=o.ua;subst p;subst q;refine⟨W,?_⟩;have r:j=(ms.map λz=>Value.int k z).toArray:=by
    have s:j.size=ms.length:=by simp at g;omega
    apply Array.ext
    .simpa using s
    .intro i t B;have u:i<ms.length:=by omega
     have v:=h (i+2) (.d (.int k ms[i])) j[i] (by simp[u]) (by rw[ai7 (by simp)];simp[t]);rw[v.t'];simp
   rw[l,r]
end
end Go.Mt
namespace Go.Mt
def lE(P:Program)(t:Nat):Nat:=match P.underlying t with
 |some (.pointer _)=>1
 |some (.map _ _)=>2
 |some (.func _ _ _)=>3
 |some .bool=>4
 |some (.interface _)=>5
 |some (.slice _)=>6
 |_=>0
def D2:Nat->V->Option Bool
 |1,.loc _ _=>some false
 |1,.m (.ref _ _)=>some false
 |1,.m (.cz _ _ _)=>some false
 |1,.m (.d (.bM _ _))=>some false
 |1,.m (.d .oe)=>some true
 |2,.m (.mp _)=>some false
 |2,.m (.d .jA)=>some true
 |3,.m (.d (.fn _ _))=>some false
 |3,.m (.fn _ _)=>some false
 |3,.m (.d .xH)=>some true
 |5,.m (.d .mH)=>some true
 |5,.m (.d (.Gg _ _))=>some false
 |_,_=>none
def D3(P:Program)(f:Nat):Bool:=match P.funcs[f]? with
 |some fn=> !(fn.name== "runtime.NumGoroutine")&&fn.body.isSome
 |none=>false
def s6(P:Program)(s f:Nat):Option (Nat×Nat):=
 match P.underlying s with
 |some (.struct a)=>match a[f]? with
  |some a=>some (a.type,a.offset)
  |none=>none
 |_=>none
def jM:M->Option (List M)
 |.d (.agg a)=>some (a.map .d)
 |.agg a=>some a
 |_=>none
def s7(a:Operand->Option V):Option Operand->Option (Option Nat)
 |none=>some none
 |some y=>match a y with
  |some (.m (.d (.int _ (.ofNat i))))=>some (some i)
  |_=>none
variable{ms:List M}{f:Nat}
section ops
variable{X:cQ}{st:St}{dst:Option Nat}{ty:Nat}{pos:String}{af:Array Edge}{g:Option (Nat×Bool)}{pn:Nat}{H':Hp}
def qa{T e n len:Nat}{parts:List (Nat×Operand)}{z:D}{ms:List (Nat×M)}{cs:List M}[ht:aU X.P T e][r:bQ X.P e n][H:fk X.P e z]
  (I:Nat.blt 0 n=true) (s:(bz z).length=n) (ac:Nat.ble (len*n) 16777216=true) (J:dI st parts=some ms)
  (t:gQ (λi=>some (i*n,n)) (fQ n len (bz z)) ms=some cs) (K:Place st.H (.row false n 0 cs) pn H'):
  cD X ⟨dst,.buildSlice T len parts.toArray,ty,pos,af,g⟩ st (dq (.m (.bZ pn 0 len)) ⟨st.sl,st.bx,H'⟩):=by
 intro a c L w;have j:=bj I;have XR:=aiy ac;obtain⟨N,O⟩:=w.dI J;obtain⟨v,P,Q⟩:=(ci H.zero).run;have x:jy c ((bz z).map .d) v.cells:=(RM.d (e9 Q):RM c (.d z) v).cells W;have R:v.cells.size=n:=by rw[x.1];simpa using s
 have S:jy c (fQ n len (bz z)) ((Array.range (len*n)).map λi=>v.cells[i%v.cells.size]!):=by
  refine⟨by simp[fQ],λi m u y d=>?_⟩;have A:i<len*n:=by
   rcases ais i (len*n)with h|h
   .exact h
   .rw[aiG (by simpa using h)]at d;cases d
  have U:i%n<n:=aj1 _ j;have F:i%n<(bz z).length:=by omega
  simp[fQ,A,s]at y;simp[A,R]at d;have G:i%n<v.cells.size:=by omega
  subst y;subst d;refine x.2 (i%n) _ _ ?_ ?_
  .simp[aiM F]
  .simp[G]
 obtain⟨k,l,o⟩:=oT S N O t;have q:cs.length=len*n:=by
  have U:∀{c:List (Nat×M)} {a b:List M},gQ (λi=>some (i*n,n)) a c=some b->b.length=a.length:=by
   intro y
   induction y with
   |nil=>intro a b h;simp[gQ]at h;subst h;rfl
   |cons G y V=>
    intro a b h;obtain⟨F,m⟩:=G;unfold gQ at h;simp only at h;cases A:(Nat.beq (cellsOf m).length n&&m.tK)with
    |false=>simp[A]at h
    |true=>
     simp only[A,aiP]at h;split at h
     .rename_i a1 d;rw[V h];unfold dH at d;cases i:Nat.ble (F*n+(cellsOf m).length) a.length with
      |false=>simp[i]at d
      |true=>
       simp only[i,aiP,ai5]at d;subst d;have:=aiy i;simp;omega
     .cases h
  rw[U t];simp[fQ]
 have B:k.size=len*n:=by rw[o.1,q]
 have Y:len<=140737488355328:=by have:=akc len j;omega
 obtain⟨f,p,C,E,g4,Z⟩:=w.place K (.cells k e (0,0)) (by
  intro f y A;refine⟨j,k,e,len,len,by rw[A];exact iD _ _,B,ah9 _,⟨q,Y⟩,?_⟩;intro d m u i h;exact⟨(o.2 d m u i h).1.mono y,(o.2 d m u i h).2⟩)
 refine dy.value (u:=.slice (some ⟨c.w.heap.size,0,none⟩) len len) (w':=f.w) ?_ ⟨_,_,f,L,⟨W,W⟩,W,Z,?_⟩
 .have:(Array.map (λx:Nat×Operand=>match x with|(y,x)=>(y,a.eval x)) parts.toArray).toList=parts.map λi=>(i.1,a.eval i.2):=by simp
  have A:¬(len*n>2^24):=by omega
  by_cases d:len*n=0
  .have F:len=0:=by
    rcases aku.1 d with h|h
    .exact h
    .omega
   subst F;have h:((Array.range (0*n)).map λi=>v.cells[i%v.cells.size]!)= #[]:=by simp
   rw[h]at l;simp only[execOp,Instr.buildSlice,Sem.run_bind,underlying,program,Sem.run,ht.u,Sem.run_pure,Result.andThen_ok,du r.size,Sem.run_ite,d,ajL,this];have G:Array.range 0=(#[]:Array Nat):=by decide
   simp only[G,Array.map_empty];rw[l];simp[newRow,newObj,Sem.run,p]
  .simp only[execOp,Instr.buildSlice,Sem.run_bind,underlying,program,Sem.run,ht.u,Sem.run_pure,Result.andThen_ok,du r.size,Sem.run_ite,A,aju,d,P,this];rw[l];simp[newRow,newObj,Sem.run,p]
 .refine .m (.bZ _ 0 len _ len (.inr ⟨false,n,0,cs,E,ah9 _⟩) ?_);intro A F G d;rw[E]at d;simp at d;obtain⟨h,i,y⟩:=d;subst h;subst i;subst y;exact⟨by rw[C],q,_,e,by rw[C,p];exact iD _ _,B⟩
def zM{Nh:List Operand}(b:st.gu Nh=some ms)(c:f<1024:=by decide):
  cD X ⟨dst,.makeFunc (.func f) #[] Nh.toArray,ty,pos,af,g⟩ st (dq (.m (.fn f ms)) st):=by
 refine MN λa e h d=>?_
 have h:=d.gu b;exact⟨.func (.func f) #[] (Nh.map a.eval).toArray,by simp[execOp,Instr.makeFunc],.m (.fn f ms _ c h.1 h.2)⟩
def Cp{σ:Sg}{ns:List M}{c us:Array Value}(h:n6 σ ms c)(k:n6 σ ns us):n6 σ (ms++ns) (c++us):=by
 refine⟨by simp[h.1,k.1],λi m v a b=>?_⟩;have d:=h.1;rcases ais i ms.length with e|f
 .rw[aim e]at a;rw[aiH (by omega)]at b;exact h.2 i m v a b
 .rw[aix f]at a;rw[ai7 (by omega),d]at b;exact k.2 _ m v a b
def Enters(X:cQ)(st:St)(c:Call)(f:Nat)(ms:List M):Prop:=
 ∀(i:Option Nat) (e:Nat) (j:String) (h:Array Edge) (g:Option (Nat×Bool)) (b:Act) (a:Sg) (d:Nat->Nat),bU X a d st b->∃d,(execOp b.eval ⟨i,.call c,e,j,h,g⟩).run X.P a.w=.ok (.enter f d) a.w/\n6 a ms d
def Cq{x:Operand}{Nh:List M}{args:List Operand}{OU:Array Nat}[d:aW X.P f](e:st.ev x=some (.m (.fn f Nh)))(h:st.gu args=some ms)(i:f<1024:=by decide):Enters X st ⟨.value x,args.toArray,OU⟩ f (ms++Nh):=by
 intro w q y r g b p s c;have a:=c.ev e;have j:=c.gu h;generalize k:b.eval x=u at a;cases a with
 |m a=>cases a with
  |xe f g l n o t v=>omega
  |fn f t l i n o=>
   refine⟨(args.map b.eval).toArray++l,?_,Cp j ⟨n,o⟩⟩;simp only[execOp,resolve,k,Deferred.ofValue,invoke];simp[d.run]
def cD.weaken{o:Oper}{p q:V->St->Prop}(h:cD X o st p)(c:∀v s,p v s->q v s):cD X o st q:=by
 intro a b d f;have:=h a b d f;unfold dy at this⊢;generalize (execOp a.eval o).run X.P b.w=z at*;cases z with
 |ok x m=>
  cases x<;>simp only at this⊢ <;>first
   |(obtain⟨v,s,g,i,j,k⟩:=this;exact⟨v,s,g,i,c _ _ j,k⟩)
   |exact this.mono λe n ⟨u,l,v,s,g,i,j,k⟩=>⟨u,l,v,s,g,i,c _ _ j,k⟩
   |exact this
 |halt x g=>exact this
def D4{c:Call}{r:M}{a:Hp}(d:Enters X st c f ms)(h:CT X.P f ms st.H λd b=>d=r/\b=a):
  cD X ⟨dst,.call c,ty,pos,af,g⟩ st (dq (.m r) ⟨st.sl,st.bx,a⟩):=
 (cD.HF h (d dst ty pos af g)).weaken (by rintro v s ⟨e,i,rfl,⟨rfl,rfl⟩,rfl⟩;exact⟨W,W⟩)
end ops
end Go.Mt
namespace Go.Mt
variable{x:Operand}{σ:Sg}{cs:List M}{MH:Nat->Nat}{t e n xt yt off T len:Nat}{m r:M}{P:Program}{w:World}{v:V}{u:Value}{z:Bool}{op:BinOp}{a:Act}{l:Option Nat}
section ops
variable{X:cQ}{st:St}{dst:Option Nat}{ty:Nat}{pos:String}{af:Array Edge}{g:Option (Nat×Bool)}{pn:Nat}{H':Hp}
def HS(h:RV σ MH v u)(a:D2 5 v=some z):(z=true/\u=.nilIface)\/(z=false/\∃t x,u=.iface t x):=by
 unfold D2 at a;cases h with
 |loc t b=>simp at a
 |tl _ _ _ _ _ _ _ _=>simp at a
 |m h=>cases h with
  |d h=>cases h with
   |mH=>simp at a;subst a;exact .inl ⟨W,W⟩
   |Gg t d v h=>simp at a;subst a;exact .inr ⟨W,_,_,W⟩
   |_=>simp at a
  |_=>simp at a
def yi{ms}(h:P.underlying t=some (.interface ms))(x:Value)(a:x=.nilIface\/∃f c,x=.iface f c):(Op.equal t x .nilIface).run P w=.ok (match x with|.nilIface=>true|_=>false) w:=by
 have b:(underlying t).run P w=.ok (.interface ms) w:=by simp[underlying,program,Sem.run,h]
 simp only[Op.equal,Op.maxDepth];rw[Op.equalIn];rcases a with rfl|⟨f,c,rfl⟩<;>simp[b]
def HT(h:op=.eql\/op=.neq)(e:lE X.P xt=5)(k:st.ev x=some v)(l:D2 5 v=some z):
  cD X ⟨dst,.binOp op xt x (.const .nilIface) yt,ty,pos,af,g⟩ st (dq (.m (.d (.bool (match op with|.eql=>z|_=> !z)))) st):=by
 refine MN λj f n m=>?_
 have b:∃a,X.P.underlying xt=some (.interface a):=by
  unfold lE at e;split at e<;>first|exact⟨_,by assumption⟩|cases e
 obtain⟨o,b⟩:=b;have d:j.eval (.const .nilIface)=.nilIface:=rfl;rcases HS (m.ev k) l with⟨rfl,a⟩|⟨rfl,t,c,a⟩
 .have i:=yi (w:=f.w) b .nilIface (.inl W);rcases h with rfl|rfl
  .exact⟨.bool true,by simp[execOp,a,d,eqGuard,binOp,i],.m (.d (.bool _))⟩
  .exact⟨.bool false,by simp[execOp,a,d,eqGuard,binOp,i],.m (.d (.bool _))⟩
 .have i:=yi (w:=f.w) b (.iface t c) (.inr ⟨t,c,rfl⟩);rcases h with rfl|rfl
  .exact⟨.bool false,by simp[execOp,a,d,eqGuard,binOp,i],.m (.d (.bool _))⟩
  .exact⟨.bool true,by simp[execOp,a,d,eqGuard,binOp,i],.m (.d (.bool _))⟩
def Gl(h:P.underlying t=some (.slice e))(a:Addr)(l c:Nat):(Op.equal t (.slice (some a) l c) (.slice none 0 0)).run P w=.ok false w:=by
 have b:(underlying t).run P w=.ok (.slice e) w:=by simp[underlying,program,Sem.run,h]
 simp only[Op.equal,Op.maxDepth];rw[Op.equalIn];simp[b]
def HU(k:op=.eql\/op=.neq)(a:lE X.P xt=6)(m:∀a b d,bU X b d st a->∃b l c,a.eval x=.slice (some b) l c):
  cD X ⟨dst,.binOp op xt x (.const (.slice none 0 0)) yt,ty,pos,af,g⟩ st (dq (.m (.d (.bool (match op with|.eql=>false|_=>true)))) st):=by
 refine MN λd f n p=>?_
 have b:∃e,X.P.underlying xt=some (.slice e):=by
  unfold lE at a;split at a<;>first|exact⟨_,by assumption⟩|cases a
 obtain⟨e,b⟩:=b;obtain⟨o,l,c,h⟩:=m d f n p;have i:d.eval (.const (.slice none 0 0))=.slice none 0 0:=rfl;have j:=Gl (w:=f.w) b o l c;rcases k with rfl|rfl
 .exact⟨.bool false,by simp[execOp,h,i,eqGuard,binOp,j],.m (.d (.bool _))⟩
 .exact⟨.bool true,by simp[execOp,h,i,eqGuard,binOp,j],.m (.d (.bool _))⟩
def HV(hi:bU X σ MH st a){r:List D}{rs:List (List D)}(d:st.ev x=some (.m (.d (.sl (r::rs))))):∃d l c,a.eval x=.slice (some d) l c:=by
 have h:=hi.mN d;generalize a.eval x=u at h;cases h with
 |sl s b o p e q f g i j k m n=>exact⟨_,_,_,W⟩
def Ao{c:Array Value}(h:jy σ cs c)(a:dX P t cs off=some m):∃u,(part t c off).run P w=.ok u w/\RM σ m u:=by
 unfold dX at a;split at a
 .rename_i n k g;have l:dz P t n:=⟨k,g⟩;cases f:Nat.ble (off+n) cs.length with
  |false=>simp[f]at a
  |true=>
   simp only[f,aiP]at a;injection a with a
   have r:=aiy f;have q:=h.1;refine⟨.agg (c.extract off (off+n)),?_,?_⟩
   .unfold part;simp[l.run,du g]
   .have d:jy σ ((cs.drop off).take n) (c.extract off (off+n)):=by
     refine⟨by simp;omega,λi o v e j=>?_⟩;have p:i<n:=by
      rcases ais i n with h|h
      .exact h
      .rw[ail (by simp;omega)]at e;cases e
     rw[jV _ _ _ _ p]at e;rw[ajl,air (by omega)]at j;exact h.2 (off+i) o v e j
    rw[<-a];unfold pack;split
    .rename_i e i;have:=n6.gg ⟨d.1,λi m v a b=>(d.2 i m v a b).1⟩ i;exact .d (.agg e _ this.1 d.flat this.2)
    .exact .agg _ _ d.1 d.flat (λi m v a b=>(d.2 i m v a b).1)
 .rename_i n e;have f:cI P t:=⟨e⟩;have g:off<cs.length:=by rcases ais off cs.length with h|h;exact h;simp[ail h]at a
  have d:off<c.size:=by rw[h.1];exact g
  refine⟨c[off],?_,(h.2 off m c[off] a (by simp[d])).1⟩;unfold part;simp[f.run,d]
 .cases a
def Bz{parts:List (Nat×Operand)}{z:List D}{ms:List (Nat×M)}(f:X.P.underlying T=some (.array len e))[h:bQ X.P e n](j:pu X.P T=some (.agg z))(k:dI st parts=some ms)
  (l:gQ (λi=>some (i*n,n)) (z.map .d) ms=some cs):cD X ⟨dst,.build T parts.toArray,ty,pos,af,g⟩ st (dq (.m (pack cs)) st):=by
 refine MN λc d A o=>?_
 obtain⟨q,r⟩:=o.dI k;obtain⟨v,s,t⟩:=(ci j).run;have u:jy d (z.map .d) v.cells:=(RM.d (e9 t):RM d (.d (.agg z)) v).cells W;obtain⟨w,x,a⟩:=oT u q r l;refine⟨.agg w,?_,.m ?_⟩
 .simp only[execOp,Instr.build];simp only[Sem.run_bind,s,Result.andThen_ok,underlying,program,Sem.run,f,Sem.run_pure,du h.size];have:(Array.map (λx:Nat×Operand=>match x with|(i,x)=>(i,c.eval x)) parts.toArray).toList=parts.map λp=>(p.1,c.eval p.2):=by simp
  simp only[this];rw[x];simp
 .unfold pack;split
  .rename_i i y;have:=n6.gg ⟨a.1,λi m v c b=>(a.2 i m v c b).1⟩ y;exact .d (.agg i _ this.1 a.flat this.2)
  .exact .agg _ _ a.1 a.flat (λi m v c b=>(a.2 i m v c b).1)
def D5(b:RV σ MH (.m m) u)(a:jM m=some cs):∃a,u=.agg a/\jy σ cs a:=by
 unfold jM at a;cases b with
 |m b=>cases b with
  |d b=>cases b with
   |agg l f g h j=>
    simp at a;subst a;refine⟨f,W,by simp[g],λi m v c e=>?_⟩;simp only[aiZ,aiE]at c;obtain⟨d,k,rfl⟩:=c;exact⟨.d (j i d v k e),h i v e⟩
   |_=>simp at a
  |agg h c e f g=>
   simp at a;subst a;exact⟨c,W,e,λi m v b a=>⟨g i m v b a,f i v a⟩⟩
  |_=>simp at a
def BA{i:Nat}{y:Operand}{k:IntKind}(f:X.P.underlying T=some (.array len e))[h:bQ X.P e n](j:st.ev x=some (.m m))(l:st.ev y=some (.m (.d (.int k (.ofNat i)))))(o:jM m=some cs)(hi:i<len)
  (p:dX X.P e cs (i*n)=some r):cD X ⟨dst,.index T x y,ty,pos,af,g⟩ st (dq (.m r) st):=by
 refine MN λd a E c=>?_
 have b:=c.ev j;have q:=c.jU l;generalize s:d.eval x=D at b;obtain⟨F,rfl,t⟩:=D5 b o;obtain⟨z,u,v⟩:=Ao (w:=a.w) t p;refine⟨z,?_,.m v⟩;have A:(underlying T).run X.P a.w=.ok (.array len e) a.w:=by simp[underlying,program,Sem.run,f]
 have B:(0:Int)<=Int.ofNat i/\Int.ofNat i<(len:Int):=⟨ah7 i,by exact Int.ofNat_lt.2 hi⟩;simp only[execOp,s,q,Instr.index,asIntOf,Sem.run_bind,Sem.run_pure,Result.andThen_ok,A,air B,du h.size];have C:(Int.ofNat i).toNat=i:=rfl;rw[C,u];rfl
def vm{s f h:Nat}(t:st.ev x=some (.m m))(a:s6 X.P s f=some (h,off))(b:jM m=some cs)(y:dX X.P h cs off=some r):
  cD X ⟨dst,.field s x f,ty,pos,af,g⟩ st (dq (.m r) st):=by
 refine MN λq j O A=>?_
 have c:=A.ev t;generalize i:q.eval x=u at c;have B:∃b a,X.P.underlying s=some (.struct b)/\b[f]?=some a/\a.type=h/\a.offset=off:=by
  unfold s6 at a;split at a
  .rename_i p i;split at a
   .rename_i l k;injection a with a;injection a with n o
    exact⟨p,l,i,k,n,o⟩
   .cases a
  .cases a
 obtain⟨p,l,C,D,E,F⟩:=B;have G:∃a,u=.agg a/\jy j cs a:=by
  unfold jM at b;cases c with
  |m c=>cases c with
   |d c=>cases c with
    |agg P e H I J=>
     simp at b;subst b;refine⟨e,W,by simp[H],λk m v n o=>?_⟩;simp only[aiZ,aiE]at n;obtain⟨d,K,rfl⟩:=n;exact⟨.d (J k d v K o),I k v o⟩
    |_=>simp at b
   |agg H e k n o=>
    simp at b;subst b;exact⟨e,W,k,λi m v b a=>⟨o i m v b a,n i v a⟩⟩
   |_=>simp at b
 obtain⟨e,rfl,L⟩:=G;obtain⟨z,M,N⟩:=Ao (w:=j.w) L y;refine⟨z,?_,.m N⟩;simp[execOp,Instr.field,i,underlying,program,Sem.run,C,D,asAgg,E,F,M]
def yj(hi:bU X σ MH st a){o:Option Operand}(h:s7 st.ev o=some l):(l=none/\o.map a.eval=none)\/∃n k,l=some n/\o.map a.eval=some (.int k (n:Int)):=by
 unfold s7 at h;cases o with
 |none=>simp at h;subst h;exact .inl ⟨W,W⟩
 |some y=>
  simp only at h;split at h
  .rename_i k i b;injection h with h;subst h
   right;exact⟨i,k,W,by simp[hi.jU b]⟩
  .cases h
def s8{lo hi:Option Operand}{h:Option Nat}{rows:List (List D)}[ht:aU X.P t e][F:bQ X.P e n](H:st.ev x=some (.m (.d (.sl rows))))(I:s7 st.ev lo=some l)(J:s7 st.ev hi=some h)
  (a:rows≠[]) (w:l.getD 0<=h.getD rows.length) (h2:h.getD rows.length<=rows.length) (K:∀r∈rows,r.length=n):
  cD X ⟨dst,.slice t x lo hi none,ty,pos,af,g⟩ st (dq (.m (.d (match(rows.drop (l.getD 0)).take (h.getD rows.length-l.getD 0)with|[]=>.oD|r=>.sl r))) st):=by
 refine MN λj v MH m=>?_
 have y:=m.mN H;have M:=yj m I;have N:=yj m J;generalize O:j.eval x=am at y;have P:∀w:World,(underlying t).run X.P w=.ok (.slice e) w:= λce=>by simp[underlying,program,Sem.run,ht.u]
 cases y with
 |slnil c=>exact absurd W a
 |sl rows b o c f Y Q OA Nk z R S T=>
  have Z:f=n:=by
   cases rows with
   |nil=>exact absurd W Q
   |cons r i=>rw[<-z r (by simp)];exact K r (by simp)
  subst Z;generalize p:l.getD 0=L at*;generalize s:h.getD rows.length=G at*;refine⟨.slice (if c=L then some ⟨b,o,none⟩else some ⟨b,o+L*f,none⟩) (G-L) (c-L),?_,?_⟩
  .have u:((G:Nat):Int)<=c:=by omega
   have q:∀a f:Option Value,(a=none/\L=0\/∃k,a=some (.int k (L:Int)))->(f=none/\G=rows.length\/∃k,f=some (.int k (G:Int)))->
     (Instr.sliceBounds true rows.length c a f none).run X.P v.w=.ok (L,G,c) v.w:=by
    rintro A B (⟨rfl,rfl⟩|⟨k,rfl⟩) (⟨rfl,rfl⟩|⟨C,rfl⟩)
    .simp[Instr.sliceBounds]
    .simp[Instr.sliceBounds,Instr.sliceBound,asIntOf,show G<=c by omega]
    .simp[Instr.sliceBounds,Instr.sliceBound,asIntOf,w]
    .simp[Instr.sliceBounds,Instr.sliceBound,asIntOf,show G<=c by omega,w]
   have a:=q (lo.map j.eval) (hi.map j.eval)
    (by
      rcases M with⟨rfl,e⟩|⟨n,k,rfl,e⟩
      .left;exact⟨e,by simpa using p.symm⟩
      .right;exact⟨k,by rw[e];simp at p;subst p;rfl⟩)
    (by
      rcases N with⟨rfl,e⟩|⟨n,k,rfl,e⟩
      .left;exact⟨e,by simpa using s.symm⟩
      .right;exact⟨k,by rw[e];simp at s;subst s;rfl⟩)
   simp only[execOp,Instr.sliceAt,Instr.slice,O,Option.map_none];simp only[Sem.run_bind,P,Result.andThen_ok,a,du F.size,Sem.run_pure];by_cases i:c=L
   .simp[i]
   .simp[i,kx]
  .generalize A:(rows.drop L).take (G-L)=q;have u:q.length=G-L:=by rw[<-A];simp;omega
   cases q with
   |nil=>
    simp at u;rw[show G-L=0 by omega];exact .m (.d (.oD _ _))
   |cons U ac=>
    simp only;generalize B:U::ac=q at*;have UZ:0<G-L:=by rw[<-u,<-B];simp
    rw[aid (by omega),<-u];have C:∀i r,q[i]?=some r->rows[L+i]?=some r:=by
     intro i r a;rw[<-A,ajz]at a;split at a
     .rw[ajy]at a;exact a
     .cases a
    have E:∀i,i<q.length->L+i<rows.length:=by intro i hi;omega
    refine .m (.d (gO.sl q b (o+L*f) (c-L) f (λi j=>Y (L+i) j) (by rw[<-B];simp) (by omega) (by omega) ?_ ?_ ?_ ?_))
    .intro r a;obtain⟨i,hi⟩:=akh.1 a;exact z r (aiv (C i r hi))
    .intro i k hi V;have:=R (L+i) k (E i hi) V;rw[show o+L*f+(i*f+k)=o+((L+i)*f+k) by rw[aiY];omega];exact this
    .intro i k hi V;exact S (L+i) k (E i hi) V
    .intro i k r d a V;exact T (L+i) k r d (C i r a) V
end ops
end Go.Mt
namespace Go.Mt
section ops
variable{X:cQ}{st:St}{dst:Option Nat}{ty:Nat}{pos:String}{af:Array Edge}{g:Option (Nat×Bool)}
def HW{t:Nat}{x:Operand}{i:Nat}{es:List (D×M)}(ht:lE X.P t=2)(f:st.ev x=some (.m (.mp i)))(j:st.H[i]?=some (.map es)):
  cD X ⟨dst,.call ⟨.builtin .len,#[x],#[t]⟩,ty,pos,af,g⟩ st (dq (.m (.d (.int .i64 (es.length:Nat)))) st):=by
 refine MN λc d v a=>?_
 have h:=a.ev f;have b:∃k e,X.P.underlying t=some (.map k e):=by
  unfold lE at ht;split at ht<;>first|exact⟨_,_,by assumption⟩|cases ht
 obtain⟨w,e,b⟩:=b;generalize k:c.eval x=u at h;cases h with
 |m h=>cases h with
  |mp i y z=>
   have l:d.H[i]?=some (.map es):=by rw[a.hH];exact j
   obtain⟨C,n,o,E,p,q,A,B⟩:=a.hinv.obj i (.map es) l;have r:=n.len;refine⟨.int .i64 (es.length:Nat),?_,.m (.d (.int _ _))⟩;have s:o.size=es.length:=by rw[<-r];exact q
   simp[execOp,resolve,invoke,builtin,Builtin.len_,underlying,program,Sem.run,b,k,getObj,p,goInt,s]
end ops
section
variable{X:cQ}{st:St}{dst:Option Nat}{ty:Nat}{pos:String}{af:Array Edge}{g:Option (Nat×Bool)}{pn:Nat}{H':Hp}
def JF{P:Program}{T:Nat}(ht:lE P T=2):∃k e,P.underlying T=some (.map k e):=by
 unfold lE at ht;split at ht<;>first|exact⟨_,_,by assumption⟩|cases ht
end
theorem dM{P:Program}{f:Nat}(h:D3 P f=true):aW P f:=by
 unfold D3 at h;split at h
 .rename_i fn c;simp only[aiI,ajp]at h;refine⟨λi w=>?_⟩;unfold callFunc;have a:fn.body.isNone=false:=by cases a:fn.body with
   |none=>rw[a]at h;simp at h
   |some b=>rfl
  have d:¬fn.name= "runtime.NumGoroutine" :=by simpa using h.1
  have g:¬fn.body=none:=by intro e;rw[e]at a;cases a
  simp[program,Sem.run,c,d,g]
 .cases h
variable{σ:Sg}{P:Program}{Oo:Nat->Nat->Prop}
section
variable{X:cQ}
def K_(d:Deferred)(g:Nat)(a:Array Value):Prop:=d=⟨.fn (.func g) a,#[]⟩\/d=⟨.fn (.func g) #[],a⟩
def Cr{fn:Func}{tmps:Array Value}{R:Ending->World->Prop}{d:Deferred}{g:Nat}{ds:Array Value}{u:FrameMode}{w:World}(i:K_ d g ds)(c:aW P g)(e:u≠.run)
  (h:CallsD P g ds u w λ
   |.returned _,b,a=>Leaves P fn tmps R [] (settle b) a
   |.panicked j,b,a=>Leaves P fn tmps R [] (raised b j) a
   |.outgrown,_,a=>R .outgrown a):Leaves P fn tmps R [d] u w:=by
 rcases i with rfl|rfl
 .exact leaves_cons (f:=g) (args:=ds) e (by simp[invoke,c.run]) h
 .exact leaves_cons (f:=g) (args:=ds) e (by simp[invoke,c.run]) h
def bU.enter{n:Nat}{ms:List M}{a:Array Value}(c:iH σ Oo)(d:n6 σ ms a)(i:ms.length<=n):
  bU ⟨P,n,σ,Oo,[]⟩ σ (λ_=>0) ⟨mA 0 ms,[],σ.H⟩ {tmps:=a++Array.replicate (n-a.size) undef,defers:=[]} :=by
 refine⟨W,W,?_,?_,by simp[get],by simp[get],by simp[get],by simp[get],?_,db.refl _,bF.refl _⟩
 .have:=d.1;simp;omega
 .intro t v g;obtain⟨_,m,e,rfl⟩:=sU ms 0 t v g;simp at e;have f:t<a.size:=by
   rw[d.1];rcases ais t ms.length with h|h;exact h;simp[ail h]at e
  exact⟨a[t],by simp[akg,f],.m (d.2 t m _ e (by simp[f]))⟩
 .exact⟨c.obj,c.inj,λb o=>by rw[c.own];simp[mx,get],λi d e a o f=>c.sep i d e a o (by simpa [mx,get] using f),λb o a=>c.iW b o (by simpa [mx,get] using a)⟩
def bU.HX{MH:Nat->Nat}{st:St}{a:Act}(hi:bU X σ MH st a):∃τ:Sg,τ.w=σ.w/\τ.H=st.H/\iH τ X.jB/\db X.s0 τ/\bF X.s0 τ/\∀m v,RM σ m v->RM τ m v:=by
 let τ:Sg:={σ with O:= λb o=>X.jB b o\/∃(i:Nat) (c:Ob),σ.H[i]?=some c/\σ.l i=b/\c.ji o}
 have d:db σ τ:=by
  refine⟨λb o v e f=>⟨e,λc=>f ?_⟩,λi d c=>⟨⟨d,c⟩,rfl⟩,λi d c=>⟨⟨d,c⟩,rfl⟩,λi d c=>⟨⟨d,c⟩,rfl⟩,λi c=>c,λi f c e d c=>.inr ⟨f,e,d,c,ah9 _,λ_=>⟨rfl,rfl,λd T c=>⟨d,c,rfl⟩⟩⟩,λ_ h=>⟨_,h⟩⟩;rw[hi.hinv.own];rcases c with c|c
  .exact .inl (.inl c)
  .exact .inr c
 refine⟨τ,W,hi.hH,?_,hi.mono.trans d,⟨hi.aT.os,hi.aT.output,hi.aT.tape,hi.aT.size,hi.aT.aT,hi.aT.loc⟩,λm v h=>h.mono d⟩;exact⟨λi c e=>(hi.hinv.obj i c e).fY d (λx c=>c),hi.hinv.inj,λb o=>aj2,λi c d e o f=>hi.hinv.sep i c d e o (.inl f),λb o c=>hi.hinv.iW b o (.inl c)⟩
end
def RM.mb{m:M}{v:Value}(h:RM σ m v):MB σ.H.length m:=by
 have row:∀(i c:Nat),(σ.H[i]?=some .dead\/∃g e a f,σ.H[i]?=some (.row g e a f)/\c<=a)->i<σ.H.length:=by
  rintro i c (h|⟨_,_,_,_,h,_⟩)<;>exact eX h
 have a:∀(a:List M) (c:Array Value),c.size=a.length->(∀(i:Nat) (m:M) (v:Value),a[i]?=some m->c[i]?=some v->MB σ.H.length m)->∀m∈a,MB σ.H.length m:=by
  intro g c j h m e;obtain⟨i,f,rfl⟩:=ai4 e;exact h i _ c[i] (by simp[f]) (by simp[show i<c.size by omega])
 induction h with
 |d h=>exact .d _
 |ref i c e h=>exact .ref i c (eX h)
 |bZ i c e g k f j=>exact .bZ i c e (row i c f)
 |cz i c e b f g=>exact .cz i c e (row i c f)
 |mp i c h=>exact .mp i (eX h)
 |it i x h=>exact .it i (eX h)
 |agg c e f i h g=>exact .agg c (a c e f g)
 |fn f c e j g h i=>exact .fn f c (a c e g i)
 |xe j g c e k f h i=>exact .fn g c (a c e f i)
 |c_ c e f h g=>exact .c_ c (a c e f g)
 |undef v=>exact .undef
def iH.hb(hi:iH σ Oo):HB σ.H.length σ.H:=by
 intro b f;obtain⟨i,g,rfl⟩:=ai4 f;have h:=hi.obj i _ (aiM g);generalize σ.H[i]=b at h;cases b with
 |box n=>
  obtain⟨a,T,_,o,d⟩:=h;intro m k;obtain⟨j,l,rfl⟩:=ai4 k;exact(d j _ a[j] (by simp[l]) (by simp[show j<a.size by omega])).1.mb
 |row w a t r=>
  obtain⟨u,d,T,q,n,_,s,k,⟨v,_⟩,p⟩:=h;intro m l;obtain⟨j,o,rfl⟩:=ai4 l;have:n*a<=q*a:=aiB _ k;exact(p j _ d[j] (by simp[o]) (by simp[show j<d.size by omega])).1.mb
 |map r=>
  obtain⟨n,o,d,c,_,q,k,_⟩:=h;intro e p;obtain⟨j,l,rfl⟩:=ai4 (o.mem.2 p);rcases k j n[j] d[j] (by simp[l]) (by simp[show j<d.size by omega])with⟨_,a⟩|⟨_,a⟩|⟨_,a⟩<;>exact a.mb
 |iter x=>
  rcases h with⟨_,_,_,_,_,a⟩|⟨_,_,_,a⟩
  .rcases a with⟨_,a⟩|⟨a,_⟩<;>exact a.mb
  .exact a.mb
 |dead=>trivial
 |free=>trivial
end Go.Mt
namespace Go.Mt
variable{X:cQ}{sl:List (Nat×V)}{bx:List (Nat×List M)}{H:Hp}{c:Code}
def again{I:Nat->St->Prop}{k k':Nat}{M8:List (Nat×V)}{H':Hp}(b:k'<k)(c:I k' ⟨M8,bx,H'⟩)(d:H=H')(e:keeps sl M8):
  ∃k' b,k'<k/\I k' b/\∀a w,Inv X ⟨sl,bx,H⟩ a w->Inv X b a w:=
 ⟨k',_,b,c,λ_ _ f=>by subst d;exact f.gL (fS e) (λ_=>rfl)⟩
def M9{post:Exit->St->Prop}(I:Nat->St->Prop)(a:Nat)(M8:List (Nat×V))(b:I a ⟨M8,bx,H⟩)(d:keeps sl M8)
  (e:∀k s,I k s->TC X c s (after post λd=>∃a b,a<k/\I a b/\∀a w,Inv X d a w->Inv X b a w)):TC X (.loop c) ⟨sl,bx,H⟩ post:=
 TC.DQ I a _ b (λa w a=>a.gL (fS d) λ_=>rfl) e
def Pa{q:Exit->St->Prop}(M8:List (Nat×V))(H':Hp)(a:keeps sl M8)(b:H=H')(k:TC X c ⟨M8,bx,H'⟩ q):TC X c ⟨sl,bx,H⟩ q:=by
 subst b;exact TC.gL k a
def kW(k:IntKind)(a:List Int):List (List D):=a.map λz=>[.int k z]
def La(k:IntKind)(a:List Int)(v:D):Prop:=mz v=some a.length/\(a=[]\/v=.sl (kW k a))/\∀z∈a,(Lit.int k z).wf=true
def yk{k:IntKind}{a:List Int}{i:Nat}{z:Int}(h:a[i]?=some z):(kW k a)[((i:Nat):Int).toNat]?=some [.int k z]:=by simp[kW,h]
def BB(k:IntKind)(w:World)(a:Option Addr)(len cap:Nat)(b:List Int):Prop:=
 (a=none/\len=0/\cap=0/\b=[])\/
 ∃x,a=some x/\len<=cap/\cap<=maxLen/\b.length=cap/\(∀i,i<b.length->w.cell? (x.add i)=some (.int k (b.getD i 0)))/\∀n∈b,(Lit.int k n).wf=true
end Go.Mt
namespace Go.Mt
variable{e xt yt:Nat}{x:Operand}
section
variable{X:cQ}{ops:Array Oper}{rest:List Oper}{sl:List (Nat×V)}{bx:List (Nat×List M)}{H:Hp}{post:St->Prop}{d ty:Nat}{pos:String}{af:Array Edge}{st:St}{dst:Option Nat}{g:Option (Nat×Bool)}
def D6{P:Program}{w:World}{t:Nat}(h:P.underlying t=some (.slice e))(a:Option Addr)(l c:Nat):(Op.equal t (.slice a l c) (.slice none 0 0)).run P w=.ok a.isNone w:=by
 have b:(underlying t).run P w=.ok (.slice e) w:=by simp[underlying,program,Sem.run,h]
 simp only[Op.equal,Op.maxDepth];rw[Op.equalIn];cases a<;>simp[b]
def HY[ht:aU X.P xt e](i:st.ev x=some (.m (.d (.sl [])))):
  cD X ⟨dst,.binOp .eql xt x (.const (.slice none 0 0)) yt,ty,pos,af,g⟩ st (λv s=>∃b,v=.m (.d (.bool b))/\s=st):=by
 intro c a j d;have h:=d.mN i;generalize k:c.eval x=u at h;cases h with
 |slnil f=>
  have l:c.eval (.const (.slice none 0 0))=.slice none 0 0:=rfl;have m:=D6 (w:=a.w) ht.u f 0 0;refine dy.value (u:=.bool f.isNone) (w':=a.w) (by simp[execOp,k,l,eqGuard,binOp,m]) ⟨_,_,a,j,⟨_,rfl,rfl⟩,rfl,d,.m (.d (.bool _))⟩
 |sl A b o y l z f m n p q r t=>exact absurd W f
def ub[ht:aU X.P xt e](a:Nat.blt d X.n=true)(c:aS sl x=some (.m (.d (.sl []))))(k:∀b,TL X ops rest ⟨(d,.m (.d (.bool b)))::sl,bx,H⟩ post):
  TL X ops (⟨some d,.binOp .eql xt x (.const (.slice none 0 0)) yt,ty,pos,af,none⟩::rest) ⟨sl,bx,H⟩ post:=
 TL.op W W a (HY (by exact c)) (by rintro v s ⟨b,rfl,rfl⟩;exact k b)
end
end Go.Mt
namespace Go.Mt
section
variable{X:cQ}{ops:Array Oper}{rest:List Oper}{sl:List (Nat×V)}{bx:List (Nat×List M)}{H:Hp}{post:St->Prop}{d ty:Nat}{pos:String}{af:Array Edge}
def Cs{T len e n:Nat}{parts:List (Nat×Operand)}{z:List D}{ms:List (Nat×M)}{cs:List M}{ds:List D}[a:bQ X.P e n](b:Nat.blt d X.n=true)(c:X.P.underlying T=some (.array len e))(f:pu X.P T=some (.agg z))(h:eG sl parts=some ms)
  (i:gQ (λi=>some (i*n,n)) (z.map .d) ms=some cs) (j:gg cs=some ds) (k:TL X ops rest ⟨(d,.m (.d (.agg ds)))::sl,bx,H⟩ post):TL X ops (⟨some d,.build T parts.toArray,ty,pos,af,none⟩::rest) ⟨sl,bx,H⟩ post:=by
 have a:=Bz (X:=X) (dst:=some d) (ty:=ty) (pos:=pos) (af:=af) (g:=none) (st:=⟨sl,bx,H⟩) (T:=T) c f (by rw[eH];exact h) i;have:pack cs=.d (.agg ds):=by simp[pack,j]
 rw[this]at a;exact M3 W W b a k
end
variable{n f:Nat}{x:Operand}{H:Hp}{ms:List M}
def gB(b:Nat)(rs:List (List D)):M:=match rs with
 |[]=>.d (.sl [])
 |_::r=>.bZ b r.length (r.length+1)
def d_(H0:Hp)(n:Nat)(rs:List (List D)):Hp:=match rs with
 |[]=>H0
 |q::r=>H0++[.row true n r.length (aM (q::r))]
def jo(H0:Hp)(n:Nat)(rs:List (List D))(a:∀r∈rs,r.length=n):ep (d_ H0 n rs) (gB H0.length rs)=some (.sl rs):=by
 cases rs with
 |nil=>rfl
 |cons q r=>
  have h:=Acc.view (n:=n) (i:=H0.length) (rs:=q::r) (m:=gB H0.length (q::r)) (H:=d_ H0 n (q::r)) (.inr ⟨by simp,r.length,by simp[gB],by simp[d_]⟩) a;exact h
def lF(b:Nat)(rs:List (List D)):fr (gB b rs)=some [gB b rs]:=by cases rs<;>rfl
def vo(H0:Hp)(n:Nat)(rs:List (List D))(j:Nat)(a:j<H0.length):(d_ H0 n rs)[j]?=H0[j]?:=by
 cases rs with
 |nil=>rfl
 |cons q r=>simp only[d_];rw[aim a]
def D7(H0:Hp)(n:Nat)(rs:List (List D)):(d_ H0 n rs).take H0.length=H0:=by cases rs<;>simp[d_]
def Gm(H0:Hp)(n:Nat)(rs:List (List D)):H0.length<=(d_ H0 n rs).length:=by cases rs<;>simp[d_]
section
variable{X:cQ}{ops:Array Oper}{rest:List Oper}{sl:List (Nat×V)}{bx:List (Nat×List M)}{post:St->Prop}{d ty:Nat}{pos:String}{af:Array Edge}
def xq{T e a:Nat}{y:Operand}{H0:Hp}{rs:List (List D)}{r:List D}{z:D}[ht:aU X.P T e][p:bQ X.P e n][s:jD X.P e a][t:fk X.P e z](b:Nat.blt d X.n=true)
  (c:aS sl x=some (.m (gB H0.length rs))) (f:aS sl y=some (.m (.d (.sl [r])))) (l:Nat.blt 0 n=true) (g:(bz z).length=n) (h:r.length=n) (i:(rs.length+1)*a<=140737488355328) (m:rs.length+1<=140737488355328)
  (k:TL X ops rest ⟨(d,.m (gB H0.length (rs++[r])))::sl,bx,d_ H0 n (rs++[r])⟩ post):
  TL X ops (⟨some d,.call ⟨.builtin .append,#[x,y],#[T,T]⟩,ty,pos,af,none⟩::rest) ⟨sl,bx,d_ H0 n rs⟩ post:=by
 cases rs with
 |nil=>exact dB true b c f l g (by simp) (by intro q j;rw[aiR]at j;rw[j];exact h) (by simpa using i) k
 |cons q rs=>
  refine dr (acc:=true) (cs:=aM (q::rs)) b c f (by simp[d_]) g (by intro q j;rw[aiR]at j;rw[j];exact h) (by simpa using i) (by simpa using m) ?_;have e:(d_ H0 n (q::rs)).set H0.length (.row true n (rs.length+1) (aM (q::rs)++aM [r]))=d_ H0 n (q::rs++[r]):=by simp[d_,aM]
  have o:M.bZ H0.length (rs.length+1) (rs.length+1+1)=gB H0.length (q::rs++[r]):=by simp[gB]
  rw[<-e,<-o]at k;exact k
def pH{Nh:List Operand}(a:Nat.blt d X.n=true)(b:gu sl Nh=some ms)(k:TL X ops rest ⟨(d,.m (.fn f ms))::sl,bx,H⟩ post)(c:f<1024:=by decide):
  TL X ops (⟨some d,.makeFunc (.func f) #[] Nh.toArray,ty,pos,af,none⟩::rest) ⟨sl,bx,H⟩ post:=
 M3 W W a (zM (by rw[oV];exact b) c) k
def Ap{H':Hp}{Nh:List M}{args:List Operand}{OU:Array Nat}{r:M}[a:aW X.P f](h:CT X.P f (ms++Nh) H λa b=>a=r/\b=H')(a:Nat.blt d X.n=true)(c:aS sl x=some (.m (.fn f Nh)))(e:gu sl args=some ms)
  (k:TL X ops rest ⟨(d,.m r)::sl,bx,H'⟩ post) (g:f<1024:=by decide):TL X ops (⟨some d,.call ⟨.value x,args.toArray,OU⟩,ty,pos,af,none⟩::rest) ⟨sl,bx,H⟩ post:=
 M3 W W a (D4 (Cq (by exact c) (by rw[oV];exact e) g) h) k
end
def bS{x:List D}(h:x.length=n):∀r∈[x],r.length=n:=by intro r a;rw[aiR]at a;rw[a];exact h
def jN{a b:Nat}(h:Nat.ble a b=true):a<=b:=aiy h
def TC.D8{X:cQ}{st:St}{post:Exit->St->Prop}{x y:Code}(b:St)(a:TC X x st (after post λs=>∀a w,Inv X s a w->Inv X b a w))(c:TC X y b post):TC X x st (after post λs=>TC X y s post):=
 a.mono λe s h=>by
  cases e with
  |normal=>exactλa w b=>c a w (h a w b)
  |_=>exact h
end Go.Mt
namespace Go.Mt
variable{c x y:Code}{H H':Hp}{sl M8:List (Nat×V)}{bx:List (Nat×List M)}{id f k:Nat}{ms:List M}{ops:List Oper}{s sE:St}{P:Program}{p:M->Hp->Prop}{e:Exit}
def DT(P:Program)(f:Nat)(ms:List M)(H:Hp)(post:M->Hp->Prop):Prop:=∃r K,post r K/\CT P f ms H λa b=>a=r/\b=K
def DC(P:Program)(n B:Nat)(c:Code)(st:St)(post:Exit->St->Prop):Prop:=
 ∃e s,post e s/\∀a b,a.H.length<=B->TC ⟨P,n,a,b,[]⟩ c st λa b=>a=e/\b=s
def DT.mono{q:M->Hp->Prop}(h:DT P f ms H p)(k:∀r K,p r K->q r K):DT P f ms H q:=by
 obtain⟨r,K,a,b⟩:=h;exact⟨r,K,k _ _ a,b⟩
def DT.ct(h:DT P f ms H p):CT P f ms H p:=by
 obtain⟨r,K,c,d⟩:=h;exact d.mono λ_ _ ⟨a,b⟩=>by subst a;subst b;exact c
section
variable{P:Program}{n B:Nat}{st:St}{post:Exit->St->Prop}
def DC.mono{q:Exit->St->Prop}(h:DC P n B c st post)(k:∀e s,post e s->q e s):DC P n B c st q:=by
 obtain⟨e,s,a,b⟩:=h;exact⟨e,s,k _ _ a,b⟩
def DC.seq(h:DC P n B x st (after post λs=>DC P n B y s post)):DC P n B (.seq x y) st post:=by
 obtain⟨e,s,a,c⟩:=h;cases e with
 |normal=>
  obtain⟨j,k,l,m⟩:=a;exact⟨j,k,l,λd f g=>TC.seq ((c d f g).mono λo p ⟨i,b⟩=>by subst i;subst b;exact m d f g)⟩
 |_=>exact⟨_,s,a,λf g i=>TC.seq ((c f g i).mono λj k ⟨d,b⟩=>by subst d;subst b;exact⟨W,W⟩)⟩
def DC.skip(h:post .normal st):DC P n B .skip st post:=⟨_,_,h,λ_ _ _=>TC.skip ⟨rfl,rfl⟩⟩
def DC.exit(h:post (.exit id) st):DC P n B (.exit id) st post:=⟨_,_,h,λ_ _ _=>TC.exit ⟨rfl,rfl⟩⟩
def DC.ret(h:post .ret st):DC P n B .ret st post:=⟨_,_,h,λ_ _ _=>TC.ret ⟨rfl,rfl⟩⟩
def DC.block(h:DC P n B c st (nu id post)):DC P n B (.block id c) st post:=by
 obtain⟨e,s,a,f⟩:=h;by_cases d:e=.exit id
 .subst d;simp only[nu,ajL]at a;refine⟨.normal,s,a,λi j k=>TC.block ((f i j k).mono λl m ⟨g,b⟩=>?_)⟩;subst g;subst b;simp[nu]
 .refine⟨e,s,?_,λj k l=>TC.block ((f j k l).mono λm o ⟨g,b⟩=>?_)⟩
  .cases e with
   |exit i=>simp only[nu]at a;rw[aid (by rintro rfl;exact d W)]at a;exact a
   |_=>exact a
  .subst g;subst b;cases m with
   |exit i=>show(if i=id then _ else _);rw[aid (by rintro rfl;exact d W)];exact⟨W,W⟩
   |_=>exact⟨W,W⟩
def DC.cond{c:Operand}{b:Bool}(a:st.ev c=some (.m (.d (.bool b))))(ht:b=true->DC P n B x st post)(d:b=false->DC P n B y st post):DC P n B (.cond c x y) st post:=by
 cases b with
 |true=>
  obtain⟨e,s,f,g⟩:=ht W;exact⟨e,s,f,λi j k=>TC.cond a (λ_=>g i j k) (λh=>by cases h)⟩
 |false=>
  obtain⟨e,s,f,g⟩:=d W;exact⟨e,s,f,λi j k=>TC.cond a (λh=>by cases h) (λ_=>g i j k)⟩
def DC.region(h:∃s,(∀a b,TL ⟨P,n,a,b,[]⟩ ops.toArray ops st λa=>a=s)/\post .normal s):DC P n B (.region id ops.toArray false) st post:=by
 obtain⟨s,c,d⟩:=h;refine⟨.normal,s,d,λa b _=>TC.region ?_⟩;show TL _ _ _ _ (λa=>Exit.normal=Exit.normal/\a=s);rw[show(λa:St=>Exit.normal=Exit.normal/\a=s)=(λa=>a=s)from funext λa=>by simp];exact c a b
def DC.draw(a:P.follows .mixedOrders=true)(h:∃s,(∀a b,TF ⟨P,n,a,b,[]⟩ ops.toArray ops st λa b=>kU ops st.sl a=true/\b=s)/\post .normal s):DC P n B (.region id ops.toArray true) st post:=by
 obtain⟨s,f,g⟩:=h;refine⟨.normal,s,g,λb c _=>OP a ?_⟩;obtain⟨d,e,i,j,k⟩:=f b c;exact⟨d,e,i,j,W,k⟩
def Mn(a:∀a b,TL ⟨P,n,a,b,[]⟩ ops.toArray ops st λa=>a=s)(b:post .normal s):DC P n B (.region id ops.toArray false) st post:=DC.region ⟨s,a,b⟩
def Mz(a:P.follows .mixedOrders=true)(b:∀a b,TF ⟨P,n,a,b,[]⟩ ops.toArray ops st λa b=>kU ops st.sl a=true/\b=s)(c:post .normal s):DC P n B (.region id ops.toArray true) st post:=DC.draw a ⟨s,b,c⟩
def NC(d:St)(g:∀a f,a.H.length<=B->∀b w,Inv ⟨P,n,a,f,[]⟩ st b w->Inv ⟨P,n,a,f,[]⟩ d b w)(k:DC P n B c d post):DC P n B c st post:=by
 obtain⟨e,s,a,h⟩:=k;exact⟨e,s,a,λb d f a w i=>h b d f a w (g b d f a w i)⟩
inductive pI(P:Program)(n B:Nat)(c:Code):Nat->St->Exit->St->Prop where
 |stop {s b:St} {e:Exit} (j:e≠.normal) (h:∀d f,d.H.length<=B->TC ⟨P,n,d,f,[]⟩ c s λg i=>g=e/\i=b):pI P n B c 0 s e b
 |more {k:Nat} {s d g sE:St} {e:Exit} (h:∀b f,b.H.length<=B->TC ⟨P,n,b,f,[]⟩ c s λi j=>i=.normal/\j=d)
   (hw:∀b f,b.H.length<=B->∀a w,Inv ⟨P,n,b,f,[]⟩ d a w->Inv ⟨P,n,b,f,[]⟩ g a w) (hk:pI P n B c k g e sE):pI P n B c (k+1) s e sE
def pI.ne(h:pI P n B c k s e sE):e≠.normal:=by
 induction h with
 |stop a _=>exact a
 |more _ _ _ a=>exact a
def pI.run(h:pI P n B c k s e sE)(a:Sg)(d:Nat->Nat->Prop)(f:a.H.length<=B):TC ⟨P,n,a,d,[]⟩ (.loop c) s λa d=>a=e/\d=sE:=by
 have o:=h.ne;refine TC.DQ (λk s=>pI P n B c k s e sE) k s h (λ_ _ a=>a) ?_;intro k s j;cases j with
 |stop l h=>
  refine(h a d f).mono λi m ⟨g,b⟩=>?_
  subst g;subst b;cases i with
  |normal=>exact absurd W l
  |_=>exact⟨W,W⟩
 |more h i k=>
  refine(h a d f).mono λl m ⟨g,b⟩=>?_
  subst g;subst b;exact⟨_,_,ajU _,k,i a d f⟩
def yl(P:Program)(n B:Nat)(I:Nat->St->Prop)(k:Nat)(s:St):Prop:=
 ∃a c,a<k/\I a c/\∀a d,a.H.length<=B->∀b w,Inv ⟨P,n,a,d,[]⟩ s b w->Inv ⟨P,n,a,d,[]⟩ c b w
def DC.Lb(I:Nat->St->Prop)(f:Nat)(g:I f st)(w:∀k s,I k s->DC P n B c s (after post λa=>yl P n B I k a)):DC P n B (.loop c) st post:=by
 have v:∀k s,I k s->∃m e a,pI P n B c m s e a/\post e a:=by
  intro k
  induction k using Nat.strongRecOn with
  |ind k h=>
   intro s i;obtain⟨e,j,a,b⟩:=w k s i;cases e with
   |normal=>
    obtain⟨l,o,p,q,r⟩:=a;obtain⟨m,e,d,t,u⟩:=h l p o q;exact⟨m+1,e,d,.more b r t,u⟩
   |_=>exact⟨0,_,j,.stop (by simp) b,a⟩
 obtain⟨m,e,d,a,b⟩:=v f st g;exact⟨e,d,b,λb d f=>a.run b d f⟩
def DC.loop(I:Nat->St->Prop)(a:Nat)(M8:List (Nat×V))(b:I a ⟨M8,bx,H⟩)(d:keeps sl M8)
  (e:∀k s,I k s->DC P n B c s (after post λa=>yl P n B I k a)):DC P n B (.loop c) ⟨sl,bx,H⟩ post:=
 NC ⟨M8,bx,H⟩ (λ_ _ _ a w a=>a.gL (fS d) λ_=>rfl) (DC.Lb I a b e)
def bf{I:Nat->St->Prop}{k':Nat}(a:k'<k)(b:I k' ⟨M8,bx,H'⟩)(c:H=H')(d:keeps sl M8):yl P n B I k ⟨sl,bx,H⟩:=
 ⟨k',_,a,b,λ_ _ _ _ _ e=>by subst c;exact e.gL (fS d) (λ_=>rfl)⟩
def M5(M8:List (Nat×V))(H':Hp)(a:keeps sl M8)(b:H=H')(k:DC P n B c ⟨M8,bx,H'⟩ post):DC P n B c ⟨sl,bx,H⟩ post:=by
 subst b;exact NC _ (λ_ _ _ b w b=>b.gL (fS a) λ_=>rfl) k
def Nq(M8:List (Nat×V))(Ns:List (Nat×List M))(H':Hp)(a:keeps sl M8)(b:∀t,get Ns t=get bx t)(d:H=H')(k:DC P n B c ⟨M8,Ns,H'⟩ post):DC P n B c ⟨sl,bx,H⟩ post:=by
 subst d;exact NC _ (λ_ _ _ d w d=>d.gL (fS a) b) k
def DC.aR(t:Nat){m:M}{x:D}(a:get sl t=some (.m m))(b:ep H m=some x)(k:DC P n B c ⟨(t,.m (.d x))::sl,bx,H⟩ post):DC P n B c ⟨sl,bx,H⟩ post:=
 NC _ (λ_ _ _ d w d=>d.aR a b) k
def DC.cA(t:Nat){cs MP:List M}(a:get bx t=some cs)(b:dw H cs=some MP)(k:DC P n B c ⟨sl,(t,MP)::bx,H⟩ post):DC P n B c ⟨sl,bx,H⟩ post:=
 NC _ (λ_ _ _ d w d=>d.cA a b) k
def DC.D8(c:St)(a:DC P n B x st (after post λs=>∀a d,a.H.length<=B->∀b w,Inv ⟨P,n,a,d,[]⟩ s b w->Inv ⟨P,n,a,d,[]⟩ c b w))(b:DC P n B y c post):DC P n B x st (after post λs=>DC P n B y s post):=
 a.mono λe s h=>by
  cases e with
  |normal=>exact NC _ h b
  |_=>exact h
def pJ(b:H=H')(c:keeps sl M8):∀b c,b.H.length<=B->∀a w,Inv ⟨P,n,b,c,[]⟩ ⟨sl,bx,H⟩ a w->Inv ⟨P,n,b,c,[]⟩ ⟨M8,bx,H'⟩ a w:=
 λ_ _ _ _ _ d=>by subst b;exact d.gL (fS c) (λ_=>rfl)
def BC{Ns:List (Nat×List M)}(b:∀t,get Ns t=get bx t)(c:H=H')(d:keeps sl M8):∀b c,b.H.length<=B->∀a w,Inv ⟨P,n,b,c,[]⟩ ⟨sl,bx,H⟩ a w->Inv ⟨P,n,b,c,[]⟩ ⟨M8,Ns,H'⟩ a w:=
 λ_ _ _ _ _ e=>by subst c;exact e.gL (fS d) b
end
def MG{fn:Func}{post:M->Hp->Prop}(i:P.funcs[f]?=some fn)(j:fn.body=some c)
  {n:Nat} (k:fn.ntmps=n) (l:Nat.ble ms.length n=true) (h:DC P n H.length c ⟨mA 0 ms,[],H⟩ (qv P fn post)):DT P f ms H post:=by
 obtain⟨e,s,a,o⟩:=h;have g:∀m,tM P fn s=some m->(∀a,a=e->∀d,d=s->qv P fn (λa d=>a=m/\d=s.H) a d)->CT P f ms H λr t=>r=m/\t=s.H:= λm v u=>
  My i j k l λa d=>TC.base λg=>(o a d g).mono λp q ⟨d,b⟩=>u p d q b
 cases e with
 |normal=>
  obtain⟨m,d,p⟩:=a;exact⟨m,s.H,p,g m d (by rintro _ rfl _ rfl;exact⟨m,d,W,W⟩)⟩
 |ret=>
  obtain⟨m,d,p⟩:=a;exact⟨m,s.H,p,g m d (by rintro _ rfl _ rfl;exact⟨m,d,W,W⟩)⟩
 |_=>exact a.elim
section
variable{X:cQ}{ops:Array Oper}{rest:List Oper}{sl:List (Nat×V)}{bx:List (Nat×List M)}{H:Hp}{post:St->Prop}{d ty:Nat}{pos:String}{af:Array Edge}
def aA{args:List Operand}{OU:Array Nat}{r:M}{K:Hp}[c:aW X.P f](h:CT X.P f ms H λa b=>a=r/\b=K)(a:Nat.blt d X.n=true)(b:gu sl args=some ms)
  (k:TL X ops rest ⟨(d,.m r)::sl,bx,K⟩ post):TL X ops (⟨some d,.call ⟨.value (.func f),args.toArray,OU⟩,ty,pos,af,none⟩::rest) ⟨sl,bx,H⟩ post:=
 jj h a b (by rintro _ _ ⟨rfl,rfl⟩;exact k)
end
end Go.Mt
namespace Go.Mt
section
variable{X:cQ}{ops:Array Oper}{rest:List Oper}{post:St->Prop}{sl:List (Nat×V)}{bx:List (Nat×List M)}{H:Hp}{d ty:Nat}{pos:String}{af:Array Edge}
def Fu{x y:Operand}{a g:Nat}{b c:Int}{e f:ByteArray}[ht:t_ X.P a](h:Nat.blt d X.n=true)(i:aS sl x=some (.m (.d (.agg [.int .u8 b,.str e]))))(j:aS sl y=some (.m (.d (.agg [.int .u8 c,.str f]))))
  (k:TL X ops rest ⟨(d,.m (.d (.bool (decide (b=c)&&decide (e=f)))))::sl,bx,H⟩ post):TL X ops (⟨some d,.binOp .eql a x y g,ty,pos,af,none⟩::rest) ⟨sl,bx,H⟩ post:=
 M3 W W h (HQ i j) k
end
variable{x y:Code}{st:St}{post:Exit->St->Prop}{c:Operand}{P:Program}{n B:Nat}{X:cQ}
section
variable{X:cQ}{ops:Array Oper}{rest:List Oper}{post:St->Prop}{MU:List Ef->St->Prop}{sl:List (Nat×V)}{bx:List (Nat×List M)}{H:Hp}{d ty:Nat}{pos:String}{af:Array Edge}
def uc{x y:Operand}{g h:Nat}{a b:Int}{c f:ByteArray}[ht:t_ X.P g](i:Nat.blt d X.n=true)(j:aS sl x=some (.m (.d (.agg [.int .u8 a,.str c]))))(l:aS sl y=some (.m (.d (.agg [.int .u8 b,.str f]))))
  (k:TF X ops rest ⟨(d,(.m (.d (.bool (!(decide (a=b)&&decide (c=f)))))))::sl,bx,H⟩ λg h=>MU (⟨some d,(.m (.d (.bool (!(decide (a=b)&&decide (c=f)))))),[],[],none,false,none⟩::g) h):
  TF X ops (⟨some d,.binOp .neq g x y h,ty,pos,af,none⟩::rest) ⟨sl,bx,H⟩ MU:=
 TF.cons (e:=⟨some d,(.m (.d (.bool (!(decide (a=b)&&decide (c=f)))))),[],[],none,false,none⟩) (MK W W (bj i) λa a=>HR ((a.ev (x:=x) (by simp[Op.operands,Call.operands])).trans j) ((a.ev (x:=y) (by simp[Op.operands,Call.operands])).trans l)) W k
end
def MM(a:st.ev c=some (.m (.d (.bool true))))(ht:DC P n B x st post):DC P n B (.cond c x y) st post:=DC.cond a (λ_=>ht) λh=>nomatch h
def Mw(a:st.ev c=some (.m (.d (.bool false))))(ht:DC P n B y st post):DC P n B (.cond c x y) st post:=DC.cond a (λh=>nomatch h) λ_=>ht
def MZ(a:st.ev c=some (.m (.d (.bool true))))(ht:TC X x st post):TC X (.cond c x y) st post:=TC.cond a (λ_=>ht) λh=>nomatch h
def MJ(a:st.ev c=some (.m (.d (.bool false))))(ht:TC X y st post):TC X (.cond c x y) st post:=TC.cond a (λh=>nomatch h) λ_=>ht
end Go.Mt
namespace Go.Mt
variable{X:cQ}{I:Hp->Prop}{ops:Array Oper}{st:St}{post:List Ef->St->Prop}{rest:List Oper}{o:Oper}{e:Ef}{id:Nat}
def mC.nil(h:post [] st):mC X I ops [] st post:=⟨[],st,.nil st,h⟩
def mC.cons(h:Br X I ops o e st)(a:e.d=o.dst)
  (k:mC X I ops rest (e.app st) λa s=>post (e::a) s):mC X I ops (o::rest) st post:=by
 obtain⟨b,c,d,f⟩:=k;exact⟨e::b,c,.cons h a d,f⟩
def Pe{a:St}(h:TF X ops [o] st λb s=>b=[e]/\s=a)
  (k:mC X I ops rest a λa s=>post (e::a) s):mC X I ops (o::rest) st post:=by
 obtain⟨f,g,b,rfl,rfl⟩:=h;cases b with
 |cons h c d=>
  cases d;exact mC.cons (λa b _=>h a b) c k
def mC.HZ{sl:List (Nat×V)}{bx:List (Nat×List M)}{H:Hp}{d ty:Nat}{pos:String}{af:Array Edge}{T:Nat}{x:Operand}{i off:Nat}{m:M}[ht:cI X.P T](a:Nat.blt d X.n=true)
  (b:aS sl x=some (.m (.ref i off))) (c:∀H,I H->∃a,H[i]?=some (.box a)/\a[off]?=some m) (k:mC X I ops rest ⟨(d,.m m)::sl,bx,H⟩ λa s=>post (⟨some d,.m m,[],[],none,false,none⟩::a) s):
  mC X I ops (⟨some d,.load T x,ty,pos,af,none⟩::rest) ⟨sl,bx,H⟩ post:=by
 refine mC.cons (e:=⟨some d,.m m,[],[],none,false,none⟩) (λf g h=>?_) W k;obtain⟨o,j,l⟩:=c _ h;have n:=(g.ev (x:=x) (by simp[Op.operands])).trans b;exact(ly (X:=X) (st:=f) (dst:=some d) n j (by simp[dX,ht.cell,l])).DR W W (bj a)
def ym(I:Hp->Prop):List Ef->Prop
 |[]=>True
 |e::r=>(match e.wh with|none=>True|some h=>I h)/\ym I r
def ym.mem:∀{es:List Ef},ym I es->∀e∈es,∀h,e.wh=some h->I h
 |[],_,e,a,_,_=>by cases a
 |f::r,⟨b,d⟩,e,a,h,c=>by
  rcases aib.1 a with rfl|a
  .rw[c]at b;exact b
  .exact ym.mem d e a h c
def TC.D9{ops:List Oper}{post:Exit->St->Prop}(I:Hp->Prop)(a:I st.H)(b:X.P.follows .mixedOrders=true)
  (h:mC X I ops.toArray ops st λa b=>kU ops st.sl a=true/\(∀e∈a,∀h,e.wh=some h->I h)/\post .normal b):TC X (.region id ops.toArray true) st post:=by
 obtain⟨c,d,f,g,i,j⟩:=h;exact TC.HI I a b ⟨c,d,f,g,.all i,j⟩
section
variable{P:Program}{n B:Nat}{st:St}{post:Exit->St->Prop}
def DC.D9{ops:List Oper}{s:St}(I:Hp->Prop)(a:I st.H)(b:P.follows .mixedOrders=true)(c:∀a b,mC ⟨P,n,a,b,[]⟩ I ops.toArray ops st λa b=>kU ops st.sl a=true/\ym I a/\b=s)(h:post .normal s):DC P n B (.region id ops.toArray true) st post:=by
 refine⟨.normal,s,h,λd e _=>TC.D9 I a b ?_⟩;obtain⟨f,g,i,j,k,l⟩:=c d e;exact⟨f,g,i,j,k.mem,W,l⟩
end
end Go.Mt
namespace Go.Mt
variable{n i e T t h:Nat}{m:M}{H H':Hp}{x y:Operand}{rs rows:List (List D)}{z:D}{kk:IntKind}
def CT.H4{P:Program}{f:Nat}{d:D}{rest:List M}{post:M->Hp->Prop}(k:ep H m=some d)(h:CT P f (.d d::rest) H post):CT P f (m::rest) H post:=by
 intro j l n c e a;refine h j l n c e ⟨a.1,λi x v b g=>?_⟩;cases i with
 |zero=>
  simp at b;subst b;exact RM.view c (a.2 0 m v W g) (by rw[e];exact k)
 |succ i=>exact a.2 (i+1) x v b g
def cJ(m:M)(H:Hp)(rows:List (List D)):M:=match m with
 |.bZ i a b=>.bZ i (a+1) (b+rows.length)
 |_=>s5 H rows
def ef(n:Nat)(m:M)(H:Hp)(rows:List (List D)):Hp:=match m with
 |.bZ i b a=>match H[i]? with
  |some (.row a _ _ c)=>H.set i (.row a n (b+1) (c++aM rows))
  |_=>H
 |_=>jt H n rows
def aN(m:M)(H:Hp)(rows:List (List D)):fr (cJ m H rows)=some [cJ m H rows]:=by
 cases m<;>cases rows<;>rfl
section
variable{X:cQ}{ops:Array Oper}{rest:List Oper}{sl:List (Nat×V)}{bx:List (Nat×List M)}{H:Hp}{post:St->Prop}{MU:List Ef->St->Prop}{d ty:Nat}{pos:String}{af:Array Edge}
def mD{a:Nat}[ht:aU X.P T e][r:bQ X.P e n][s:jD X.P e a][t:fk X.P e z](o:Acc n i rs m H)(b:Nat.blt d X.n=true)(c:aS sl x=some (.m m))(f:aS sl y=some (.m (.d (.sl rows))))
  (p:Nat.blt 0 n=true) (g:(bz z).length=n) (h:∀r∈rows,r.length=n) (j:(rs.length+rows.length)*a<=140737488355328) (q:rs.length+rows.length<=140737488355328)
  (k:TL X ops rest ⟨(d,.m (cJ m H rows))::sl,bx,ef n m H rows⟩ post):TL X ops (⟨some d,.call ⟨.builtin .append,#[x,y],#[T,T]⟩,ty,pos,af,none⟩::rest) ⟨sl,bx,H⟩ post:=by
 rcases o with⟨rfl,rfl⟩|⟨u,v,rfl,l⟩
 .exact Ft b c f p g h (by simpa using j) k
 .refine dr b c f l g h j q ?_;simp only[cJ,ef,l]at k;exact k
def xr{a:Nat}{r:List D}[ht:aU X.P T e][s:bQ X.P e n][t:jD X.P e a][u:fk X.P e z](o:Acc n i rs m H)(b:Nat.blt d X.n=true)(c:aS sl x=some (.m m))(f:aS sl y=some (.m (.d (.sl [r]))))
  (p:Nat.blt 0 n=true) (g:(bz z).length=n) (h:r.length=n) (j:(rs.length+1)*a<=140737488355328) (q:rs.length+1<=140737488355328)
  (k:TF X ops rest ⟨(d,.m (cJ m H [r]))::sl,bx,ef n m H [r]⟩ λa b=>MU (⟨some d,.m (cJ m H [r]),[],[],none,true,some (ef n m H [r])⟩::a) b):TF X ops (⟨some d,.call ⟨.builtin .append,#[x,y],#[T,T]⟩,ty,pos,af,none⟩::rest) ⟨sl,bx,H⟩ MU:=by
 rcases o with⟨rfl,rfl⟩|⟨v,w,rfl,l⟩
 .exact nI true b c f p g (by simp) (bS h) (by simpa using j) k
 .refine lD b c f l g (bS h) j q ?_;simp only[cJ,ef,l]at k;exact k
def qF{len:Nat}{parts:List (Nat×Operand)}{ms:List (Nat×M)}{cs:List M}[ht:aU X.P T e][f:bQ X.P e n][g:fk X.P e z](a:Nat.blt d X.n=true)(b:Nat.blt 0 n=true)(c:(bz z).length=n)
  (h:Nat.ble (len*n) 16777216=true) (f:eG sl parts=some ms) (g:gQ (λi=>some (i*n,n)) (fQ n len (bz z)) ms=some cs)
  (k:TL X ops rest ⟨(d,.m (.bZ H.length 0 len))::sl,bx,H++[.row false n 0 cs]⟩ post):TL X ops (⟨some d,.buildSlice T len parts.toArray,ty,pos,af,none⟩::rest) ⟨sl,bx,H⟩ post:=
 M3 W W a (qa b c h (by rw[eH];exact f) g (.inl ⟨W,W⟩)) k
def zN(rows:List (List D)):D:=match rows with
 |[]=>.oD
 |r=>.sl r
def yn[ht:aU X.P t e][q:bQ X.P e n](b:Nat.blt d X.n=true)(c:aS sl x=some (.m (.d (.sl rows))))(f:aS sl y=some (.m (.d (.int kk ((h:Nat):Int)))))(i:rows≠[])(o:h<=rows.length)(j:∀r∈rows,r.length=n)
  (k:TL X ops rest ⟨(d,.m (.d (zN (rows.drop h))))::sl,bx,H⟩ post):TL X ops (⟨some d,.slice t x (some y) none none,ty,pos,af,none⟩::rest) ⟨sl,bx,H⟩ post:=by
 refine M3 (v:=.m (.d (zN (rows.drop h)))) (M8:=sl) (Ns:=bx) (H':=H) W W b ?_ k;have this:=s8 (X:=X) (st:=⟨sl,bx,H⟩) (dst:=some d) (ty:=ty) (pos:=pos) (af:=af) (g:=none) (t:=t) (lo:=some y) (hi:=none) (l:=some h) (h:=none) c (by simp only[s7,St.ev,f]) W i o (ah9 _) j;have m:(rows.drop ((some h).getD 0)).take (((none:Option Nat).getD rows.length)-(some h).getD 0)=rows.drop h:=by
  show(rows.drop h).take (rows.length-h)=rows.drop h;exact aje (by simp)
 rw[m]at this;cases a:rows.drop h with
 |nil=>rw[a]at this;exact this
 |cons p r=>rw[a]at this;exact this
def yo[ht:aU X.P t e][w:bQ X.P e n](f:Nat.blt d X.n=true)(i:aS sl x=some (.m (.d (.sl rows))))(j:aS sl y=some (.m (.d (.int kk ((h:Nat):Int)))))(a:rows≠[])(z:0<h)(s:h<=rows.length)(m:∀r∈rows,r.length=n)
  (k:TF X ops rest ⟨(d,.m (.d (.sl (rows.take h))))::sl,bx,H⟩ λa b=>MU (⟨some d,.m (.d (.sl (rows.take h))),[],[],none,false,none⟩::a) b):TF X ops (⟨some d,.slice t x none (some y) none,ty,pos,af,none⟩::rest) ⟨sl,bx,H⟩ MU:=by
 refine TF.cons (e:=⟨some d,.m (.d (.sl (rows.take h))),[],[],none,false,none⟩) (MK W W (bj f) λo b=>?_) W k;have p:=(b.ev (x:=x) (by simp[Op.operands])).trans i;have q:=(b.ev (x:=y) (by simp[Op.operands])).trans j;have this:=s8 (X:=X) (st:=o) (dst:=some d) (ty:=ty) (pos:=pos) (af:=af) (g:=none) (t:=t) (lo:=none) (hi:=some y) (l:=none) (h:=some h) p W (by simp only[s7,q]) a (aja _) s m;have r:(rows.drop ((none:Option Nat).getD 0)).take (((some h:Option Nat).getD rows.length)-(none:Option Nat).getD 0)=rows.take h:=by simp
 rw[r]at this;cases c:rows.take h with
 |nil=>
  cases rows with
  |nil=>exact absurd W a
  |cons v u=>obtain⟨A,rfl⟩:∃a,h=a+1:=⟨h-1,by omega⟩;simp at c
 |cons v u=>rw[c]at this;exact this
end
def nJ{ob:Ob}(h:H[i]?=some ob):i<H.length:=by
 rcases ais i H.length with a|a
 .exact a
 .simp[ail a]at h
def Acc.other(h:Acc n i rs m H)(a:∀a,H[i]?=some a->H'[i]?=some a):Acc n i rs m H':=by
 rcases h with h|⟨b,c,d,e⟩
 .exact .inl h
 .exact .inr ⟨b,c,d,a _ e⟩
def Acc.any{j:Nat}(h:Acc n i [] m H):Acc n j [] m H':=by
 rcases h with h|⟨a,_⟩
 .exact .inl h
 .exact absurd W a
def Acc.lt(h:Acc n i rs m H)(a:rs≠[]):i<H.length:=by
 rcases h with⟨h,_⟩|⟨_,c,_,b⟩
 .exact absurd h a
 .exact nJ b
end Go.Mt
namespace Go.Mt
namespace Co
end Co
section
variable{X:cQ}{ops:Array Oper}{rest:List Oper}{sl:List (Nat×V)}{bx:List (Nat×List M)}{H:Hp}{post:St->Prop}{MU:List Ef->St->Prop}{d ty:Nat}{pos:String}{af:Array Edge}
def rH{x:Operand}{f:Nat}{Nh:List M}{args:List Operand}{OU:Array Nat}{ms:List M}{r:M}{K:Hp}[a:aW X.P f](h:CT X.P f (ms++Nh) H λa b=>a=r/\b=K)(a:Nat.blt d X.n=true)(b:aS sl x=some (.m (.fn f Nh)))(c:gu sl args=some ms)
  (k:TL X ops rest ⟨(d,.m r)::sl,bx,K⟩ post) (e:f<1024:=by decide):TL X ops (⟨some d,.call ⟨.value x,args.toArray,OU⟩,ty,pos,af,none⟩::rest) ⟨sl,bx,H⟩ post:=
 Ap h a b c k e
def qG{x:Operand}{a b:Nat}{r:List D}{rows:List (List D)}(c:Nat.blt d X.n=true)(e:lE X.P a=6)(f:aS sl x=some (.m (.d (.sl (r::rows)))))
  (k:TL X ops rest ⟨(d,.m (.d (.bool false)))::sl,bx,H⟩ post):TL X ops (⟨some d,.binOp .eql a x (.const (.slice none 0 0)) b,ty,pos,af,none⟩::rest) ⟨sl,bx,H⟩ post:=
 M3 W W c (HU (op:=.eql) (.inl W) e λa a a a=>HV a f) k
end
end Go.Mt
namespace Go.Mt
open Go.ChangeShapes
end Go.Mt
namespace Go.Mt
variable{m r:M}{H H0:Hp}{n off i T e s f ft t:Nat}{x y:Operand}{F F0:Nat->Prop}{cs Nf:List M}{rs:List (List D)}{o:Ob}{z:D}{α:Type}{P:Program}{ds:List D}
structure As where
 p:Hp->(Nat->Prop)->Prop
 loc:∀{H K:Hp} {F:Nat->Prop},p H F->(∀i,F i->K[i]?=H[i]?)->p K F
 zO:∀{H:Hp} {F:Nat->Prop} {i:Nat},p H F->F i->i<H.length
variable{l l':List As}{a:As}{φ:α->As}
structure D_(F a:Nat->Prop)(H K:Hp):Prop where
 len:H.length<=K.length
 iW:∀i,i<H.length->¬F i->K[i]?=H[i]?
 own:∀i,a i->F i\/H.length<=i
def D_.refl(F:Nat->Prop)(H:Hp):D_ F F H H:=⟨ah9 _,λ_ _ _=>rfl,λ_ h=>.inl h⟩
def D_.trans{c d:Nat->Prop}{K L:Hp}(a:D_ F c H K)(b:D_ c d K L):D_ F d H L:=
 ⟨aiz a.len b.len,λi c d=>(b.iW i (ajH c a.len) λh=>(a.own i h).elim d (by omega)).trans (a.iW i c d),
 λi h=>(b.own i h).elim (a.own i) λh=>.inr (aiz a.len h)⟩
def As.JG:As:=⟨λ_ F=>∀i,¬F i,λh _=>h,λh a=>absurd a (h _)⟩
def As.star(P Q:As):As where
 p H F:=∃F1 F2,P.p H F1/\Q.p H F2/\(∀i,F1 i->F2 i->False)/\∀i,F i↔F1 i\/F2 i
 loc:= λ⟨F1,F2,h1,h2,h3,h4⟩ hk=>⟨F1,F2,P.loc h1 (λi hi=>hk i ((h4 i).2 (.inl hi))),Q.loc h2 (λi hi=>hk i ((h4 i).2 (.inr hi))),h3,h4⟩
 zO:= λ⟨F1,F2,h1,h2,h3,h4⟩ hi=>((h4 _).1 hi).elim (P.zO h1) (Q.zO h2)
def Sep:List As->As
 |[]=>.JG
 |a::l=>a.star (Sep l)
def As.ob(i:Nat)(o:Ob):As:=⟨λH F=>H[i]?=some o/\∀j,F j↔j=i,λ⟨b,a⟩ c=>⟨(c i ((a i).2 rfl)).trans b,a⟩,λ⟨b,a⟩ c=>by rw[(a _).1 c];exact nJ b⟩
def As.acc(n:Nat)(rs:List (List D))(m:M):As where
 p H F:=∃i,Acc n i rs m H/\∀j,F j↔rs≠[]/\j=i
 loc:= λ⟨i,h1,h2⟩ hk=>⟨i,h1.elim .inl λ⟨a,MF,b,c⟩=>.inr ⟨a,MF,b,(hk i ((h2 i).2 ⟨a,rfl⟩)).trans c⟩,h2⟩
 zO:= λ⟨i,h1,h2⟩ hi=>by
  obtain⟨a,rfl⟩:=(h2 _).1 hi;exact h1.lt a
def Sep.perm(g:l.Perm l')(h:(Sep l).p H F):(Sep l').p H F:=by
 induction g generalizing F with
 |nil=>exact h
 |cons m _ a=>
  obtain⟨d,e,f,i,j,k⟩:=h;exact⟨d,e,f,a i,j,k⟩
 |swap p b l=>
  obtain⟨d,r,i,⟨k,f,m,n,o,a⟩,e,j⟩:=h;refine⟨k,λi=>d i\/f i,m,⟨d,f,i,n,λi d b=>e i d ((a i).2 (.inr b)),λi=>aj2⟩,λi d b=>b.elim (λc=>e i c ((a i).2 (.inl d))) (o i d),λq=>?_⟩;rw[j,a];exact⟨λh=>h.elim (λa=>.inr (.inl a)) (λh=>h.elim .inl λb=>.inr (.inr b)),λh=>h.elim (λa=>.inr (.inl a)) (λh=>h.elim .inl λb=>.inr (.inr b))⟩
 |trans _ _ a d=>exact d (a h)
def Sep.app{a e:List As} :(Sep (a++e)).p H F↔((Sep a).star (Sep e)).p H F:=by
 induction a generalizing F with
 |nil=>
  refine⟨λh=>⟨λ_=>False,F,λ_ h=>h,h,λ_ h _=>h,λi=>by simp⟩,λ⟨i,d,f,g,j,h⟩=>?_⟩;have:F=d:=funext λi=>propext ((h i).trans ⟨λh=>h.elim (λa=>absurd a (f i)) id,.inr⟩)
  rw[this];exact g
 |cons r s h=>
  constructor
  .rintro⟨f,t,i,k,g,l⟩;obtain⟨j,m,n,o,p,d⟩:=h.1 k;refine⟨λi=>f i\/j i,m,⟨f,j,i,n,λi a b=>g i a ((d i).2 (.inl b)),λi=>aj2⟩,o,λi a b=>a.elim (λc=>g i c ((d i).2 (.inr b))) (λc=>p i c b),λq=>?_⟩;rw[l,d,or_assoc]
  .rintro⟨q,f,⟨l,j,m,n,o,d⟩,i,g,k⟩;refine⟨l,λi=>j i\/f i,m,h.2 ⟨j,f,n,i,λi a b=>g i ((d i).2 (.inr a)) b,λi=>aj2⟩,λi a b=>b.elim (o i a) (g i ((d i).2 (.inl a))),λp=>?_⟩;rw[k,d,or_assoc]
def Wk(a:Nat->Prop)(H0:Hp)(l:List As)(H:Hp):Prop:=∃F,(Sep l).p H F/\D_ a F H0 H
def Wk.start(h:(Sep l).p H F):Wk F H l H:=⟨F,h,.refl F H⟩
def Wk.perm(w:Wk F0 H0 l H)(c:l.Perm l'):Wk F0 H0 l' H:=w.imp λF ⟨a,b⟩=>⟨Sep.perm c a,b⟩
def Fv(x:Nat):List Nat->List Nat
 |[]=>[x]
 |y::l=>bif Nat.ble x y then x::y::l else y::Fv x l
def BD:List Nat->List Nat
 |[]=>[]
 |x::l=>Fv x (BD l)
def D'(x:Nat)(l:List Nat):(x::l).Perm (Fv x l):=by
 induction l with
 |nil=>exact .refl _
 |cons y l a=>
  unfold Fv;cases Nat.ble x y with
  |true=>exact .refl _
  |false=>exact(List.Perm.swap y x l).trans (a.cons y)
def Ct(l:List Nat):l.Perm (BD l):=by
 induction l with
 |nil=>exact .refl _
 |cons x l a=>exact(a.cons x).trans (D' x _)
def H5(a:List Nat)(l:List As):List As:=a.map λk=>l[k]?.getD .JG
def Ea{a:List Nat}(d:BD a=List.range l.length):l.Perm (H5 a l):=by
 have e:l=(List.range l.length).map λk=>l[k]?.getD .JG:=by
  apply akl
  .simp
  .intro i a b;simp[a]
 have c:=(d▸Ct a).symm.map (λk=>l[k]?.getD As.JG);rw[<-e]at c;exact c
def Wk.pick(a:List Nat)(w:Wk F0 H0 l H)(b:BD a=List.range l.length:=by rfl):Wk F0 H0 (H5 a l) H:=w.perm (Ea b)
def Wk.step{l:Nat->Prop}{H0 H K:Hp}{a:List As}{b r:List As}(w:Wk l H0 (a++r) H)(h:∀F,(Sep a).p H F->Wk F H b K):Wk l H0 (b++r) K:=by
 obtain⟨F,n,o⟩:=w;obtain⟨p,f,q,g,m,j⟩:=Sep.app.1 n;obtain⟨k,s,d⟩:=h p q;have t:∀i,k i->f i->False:= λi a b=>(d.own i a).elim (λc=>m i c b) λc=>Nat.not_lt.2 c ((Sep r).zO g b)
 refine⟨λi=>k i\/f i,Sep.app.2 ⟨k,f,s,(Sep r).loc g λi e=>d.iW i ((Sep r).zO g e) λh=>m i h e,t,λi=>aj2⟩,o.trans ⟨d.len,λi e f=>d.iW i e λh=>f ((j i).2 (.inl h)),λi e=>?_⟩⟩;rcases e with e|e
 .exact(d.own i e).imp_left λh=>(j i).2 (.inl h)
 .exact .inl ((j i).2 (.inr e))
def Dt(P:Program)(f:Nat)(ms:List M)(l:List As)(Q:M->List As->Prop):Prop:=∀(H:Hp) (F:Nat->Prop),(Sep l).p H F->DT P f ms H λr K=>∃a,Q r a/\Wk F H a K
def Wk.call{n:Nat->Prop}{H0 H:Hp}{P:Program}{f:Nat}{ms:List M}{a r:List As}{Q:M->List As->Prop}(w:Wk n H0 (a++r) H)(h:Dt P f ms a Q):
  ∃x K l,Q x l/\Wk n H0 (l++r) K/\CT P f ms H λd e=>d=x/\e=K:=by
 obtain⟨F,p,q⟩:=w;obtain⟨s,g,t,j,o,k⟩:=Sep.app.1 p;obtain⟨x,K,⟨l,u,v⟩,y⟩:=h H s t;refine⟨x,K,l,u,?_,y⟩;obtain⟨m,z,d⟩:=v;have A:∀i,m i->g i->False:= λi a b=>(d.own i a).elim (λc=>o i c b) λc=>Nat.not_lt.2 c ((Sep r).zO j b)
 refine⟨λi=>m i\/g i,Sep.app.2 ⟨m,g,z,(Sep r).loc j λi e=>d.iW i ((Sep r).zO j e) λh=>o i h e,A,λi=>aj2⟩,q.trans ⟨d.len,λi e g=>d.iW i e λh=>g ((k i).2 (.inl h)),λi e=>?_⟩⟩;rcases e with e|e
 .exact(d.own i e).imp_left λh=>(k i).2 (.inl h)
 .exact .inl ((k i).2 (.inr e))
section
variable{F0:Nat->Prop}{H0 H:Hp}{r:List As}
def Wk.ob(w:Wk F0 H0 (.ob i o::r) H):H[i]?=some o:=by
 obtain⟨F,⟨b,c,⟨a,_⟩,_⟩,_⟩:=w;exact a
def qH(h:a.p H F):(Sep [a]).p H F:=⟨F,λ_=>False,h,λ_ h=>h,λ_ _ h=>h,λi=>by simp⟩
def H6(h:(Sep [a]).p H F):a.p H F:=by
 obtain⟨b,f,c,d,g,e⟩:=h;have:F=b:=funext λi=>propext ((e i).trans ⟨λh=>h.elim id (λa=>absurd a (d i)),.inl⟩)
 rw[this];exact c
def Wk.set(w:Wk F0 H0 (.ob i o::r) H)(c:Ob):Wk F0 H0 (.ob i c::r) (H.set i c):=by
 refine Wk.step (a:=[.ob i o]) (b:=[.ob i c]) w λF f=>?_
 obtain⟨g,d⟩:=H6 f;have h:=nJ g;exact⟨F,qH ⟨by simp[h],d⟩,by simp,λj c c=>by rw[aiQ (λe=>c ((d j).2 e.symm))],λj c=>.inl c⟩
def Wk.new(w:Wk F0 H0 r H)(o:Ob):Wk F0 H0 (.ob H.length o::r) (H++[o]):=by
 refine Wk.step (a:=[]) (b:=[.ob H.length o]) w λF c=>?_
 refine⟨λj=>j=H.length,qH ⟨by simp,λj=>aj2⟩,by simp,λj c _=>by rw[aim c],λj c=>.inr (by omega)⟩
def Wk.nil(w:Wk F0 H0 r H)(n:Nat):Wk F0 H0 (.acc n [] (.d (.sl []))::r) H:=by
 refine Wk.step (a:=[]) (b:=[.acc n [] (.d (.sl []))]) w λF c=>?_
 exact⟨λ_=>False,qH ⟨0,.inl ⟨rfl,rfl⟩,λj=>by simp⟩,ah9 _,λ_ _ _=>rfl,λ_ h=>h.elim⟩
def Wk.drop(w:Wk F0 H0 (a::r) H):Wk F0 H0 r H:=by
 refine Wk.step (a:=[a]) (b:=[]) w λF c=>?_
 exact⟨λ_=>False,λ_ h=>h,ah9 _,λ_ _ _=>rfl,λ_ h=>h.elim⟩
def Wk.Aq(w:Wk F0 H0 (.acc n rs m::r) H):∃i,Acc n i rs m H:=by
 obtain⟨F,⟨b,c,⟨i,a,_⟩,_⟩,_⟩:=w;exact⟨i,a⟩
def Wk.view(w:Wk F0 H0 (.acc n rs m::r) H)(a:∀r∈rs,r.length=n):ep H m=some (.sl rs):=by
 obtain⟨i,h⟩:=w.Aq;exact h.view a
def Wk.app(w:Wk F0 H0 (.acc n rs m::r) H)(rows:List (List D)):Wk F0 H0 (.acc n (rs++rows) (cJ m H rows)::r) (ef n m H rows):=by
 refine Wk.step (a:=[.acc n rs m]) (b:=[.acc n (rs++rows) (cJ m H rows)]) w λF j=>?_
 obtain⟨i,h,c⟩:=H6 j;rcases h with⟨rfl,rfl⟩|⟨d,f,rfl,g⟩
 .cases rows with
  |nil=>exact⟨F,qH ⟨i,.inl ⟨W,W⟩,by simpa using c⟩,ah9 _,λ_ _ _=>rfl,λ_ h=>.inl h⟩
  |cons q t=>
   refine⟨λj=>j=H.length,qH ⟨H.length,.inr ⟨by simp,0,by simp[cJ,s5],by simp[ef,jt]⟩,λj=>by simp⟩,by simp[ef,jt],λj c _=>by simp only[ef,jt];rw[aim c],λj c=>.inr (by omega)⟩
 .have k:=nJ g;have e:ef n (.bZ i f rs.length) H rows=H.set i (.row true n (f+1) (aM rs++aM rows)):=by simp only[ef,g]
  rw[e];refine⟨F,qH ⟨i,.inr ⟨by simp[d],f+1,by simp[cJ],by simp[k,aM]⟩,λj=>by rw[c];simp[d]⟩,by simp,λj f f=>by rw[aiQ (λe=>f ((c j).2 ⟨d,e.symm⟩))],λj c=>.inl c⟩
end
section
variable{X:cQ}{ops:Array Oper}{rest:List Oper}{sl:List (Nat×V)}{bx:List (Nat×List M)}{H:Hp}{post:St->Prop}{MU:List Ef->St->Prop}{d ty:Nat}{pos:String}{af:Array Edge}{F0:Nat->Prop}{H0:Hp}{r:List As}
def cT{a:Nat}{rows:List (List D)}[ht:aU X.P T e][s:bQ X.P e n][t:jD X.P e a][u:fk X.P e z](w:Wk F0 H0 (.acc n rs m::r) H)(b:Nat.blt d X.n=true)(c:aS sl x=some (.m m))(f:aS sl y=some (.m (.d (.sl rows))))
  (g:Nat.blt 0 n=true) (h:(bz z).length=n) (i:Nat.ble a 1000=true) (j:∀r∈rows,r.length=n) (l:rs.length+rows.length<=100000000000)
  (k:TL X ops rest ⟨(d,.m (cJ m H rows))::sl,bx,ef n m H rows⟩ post):TL X ops (⟨some d,.call ⟨.builtin .append,#[x,y],#[T,T]⟩,ty,pos,af,none⟩::rest) ⟨sl,bx,H⟩ post:=by
 obtain⟨q,o⟩:=w.Aq;have p:=aiy i;exact mD o b c f g h j (by have:=ajA l p;omega) (by omega) k
def eV{a:Nat}{q:List D}[ht:aU X.P T e][t:bQ X.P e n][u:jD X.P e a][v:fk X.P e z](w:Wk F0 H0 (.acc n rs m::r) H)(b:Nat.blt d X.n=true)(c:aS sl x=some (.m m))(f:aS sl y=some (.m (.d (.sl [q]))))
  (g:Nat.blt 0 n=true) (h:(bz z).length=n) (i:Nat.ble a 1000=true) (j:q.length=n) (l:rs.length+1<=100000000000)
  (k:TF X ops rest ⟨(d,.m (cJ m H [q]))::sl,bx,ef n m H [q]⟩ λa b=>MU (⟨some d,.m (cJ m H [q]),[],[],none,true,some (ef n m H [q])⟩::a) b):TF X ops (⟨some d,.call ⟨.builtin .append,#[x,y],#[T,T]⟩,ty,pos,af,none⟩::rest) ⟨sl,bx,H⟩ MU:=by
 obtain⟨s,o⟩:=w.Aq;have p:=aiy i;exact xr o b c f g h j (by have:=ajA l p;omega) (by omega) k
end
def As.ex{α:Type}(φ:α->As):As:=⟨λH F=>∃x,(φ x).p H F,λ⟨x,h⟩ a=>⟨x,(φ x).loc h a⟩,λ⟨x,h⟩ a=>(φ x).zO h a⟩
def As.fact(φ:Prop):As:=⟨λ_ F=>φ/\∀i,¬F i,λh _=>h,λh a=>absurd a (h.2 _)⟩
section
variable{F0:Nat->Prop}{H0 H:Hp}{r:List As}
def Wk.open(w:Wk F0 H0 (.ex φ::r) H):∃x,Wk F0 H0 (φ x::r) H:=by
 obtain⟨F,⟨a,b,⟨x,c⟩,d⟩,e⟩:=w;exact⟨x,F,⟨a,b,c,d⟩,e⟩
def OH(x:α)(w:Wk F0 H0 (φ x::r) H):Wk F0 H0 (.ex φ::r) H:=by
 obtain⟨F,⟨a,b,c,d⟩,e⟩:=w;exact⟨F,⟨a,b,⟨x,c⟩,d⟩,e⟩
def Wk.split{a:List As}(w:Wk F0 H0 (Sep a::r) H):Wk F0 H0 (a++r) H:=by
 obtain⟨F,h,b⟩:=w;exact⟨F,Sep.app.2 h,b⟩
def Oa{a:List As}(w:Wk F0 H0 (a++r) H):Wk F0 H0 (Sep a::r) H:=by
 obtain⟨F,h,b⟩:=w;exact⟨F,Sep.app.1 h,b⟩
def Wk.Cu{φ:Prop}(w:Wk F0 H0 (.fact φ::r) H):φ:=by
 obtain⟨F,⟨b,c,⟨a,_⟩,_⟩,_⟩:=w;exact a
def Wk.Ar{φ:Prop}(h:φ)(w:Wk F0 H0 r H):Wk F0 H0 (.fact φ::r) H:=by
 refine Wk.step (a:=[]) (b:=[.fact φ]) w λF c=>?_
 exact⟨λ_=>False,qH ⟨h,λ_ h=>h⟩,ah9 _,λ_ _ _=>rfl,λ_ h=>h.elim⟩
end
class yp(P:Program)(s f:Nat)(ft off:outParam Nat):Prop where
 h:s6 P s f=some (ft,off)
class H7(P:Program)(t:Nat)(len e:outParam Nat):Prop where
 u:P.underlying t=some (.array len e)
section
variable{X:cQ}{ops:Array Oper}{rest:List Oper}{sl:List (Nat×V)}{bx:List (Nat×List M)}{H:Hp}{post:St->Prop}{MU:List Ef->St->Prop}{d ty:Nat}{pos:String}{af:Array Edge}
def vp[ht:cI P t](a:cs[off]?=some m):dX P t cs off=some m:=by simp[dX,ht.cell,a]
def Gn[ht:dz P t n](a:sub cs off n=some Nf)(b:gg Nf=some ds):dX P t cs off=some (.d (.agg ds)):=by
 have c:=(sub_eq a).1;have d:=(sub_eq a).2;simp only[dX,ht.agg,ht.size,aiF c,aiP];unfold pack;rw[d,b]
def BE[a:yp X.P s f ft off][ht:cI X.P ft](b:Nat.blt d X.n=true)(c:aS sl x=some (.m m))(e:jM m=some cs)(g:cs[off]?=some r)
  (k:TL X ops rest ⟨(d,.m r)::sl,bx,H⟩ post):TL X ops (⟨some d,.field s x f,ty,pos,af,none⟩::rest) ⟨sl,bx,H⟩ post:=
 M3 W W b (vm c a.h e (vp g)) k
def H8[a:yp X.P s f ft off][ht:dz X.P ft n](b:Nat.blt d X.n=true)(c:aS sl x=some (.m m))(e:jM m=some cs)(g:sub cs off n=some Nf)(h:gg Nf=some ds)
  (k:TL X ops rest ⟨(d,.m (.d (.agg ds)))::sl,bx,H⟩ post):TL X ops (⟨some d,.field s x f,ty,pos,af,none⟩::rest) ⟨sl,bx,H⟩ post:=
 M3 W W b (vm c a.h e (Gn g h)) k
def BF[a:yp X.P s f ft off][ht:cI X.P ft](b:Nat.blt d X.n=true)(c:aS sl x=some (.m m))(g:jM m=some cs)(h:cs[off]?=some r)
  (k:TF X ops rest ⟨(d,.m r)::sl,bx,H⟩ λa b=>MU (⟨some d,.m r,[],[],none,false,none⟩::a) b):TF X ops (⟨some d,.field s x f,ty,pos,af,none⟩::rest) ⟨sl,bx,H⟩ MU:=
 TF.cons (e:=⟨some d,.m r,[],[],none,false,none⟩) (MK W W (bj b) λb b=>vm ((b.ev (x:=x) (by simp[Op.operands])).trans c) a.h g (vp h)) W k
def At{len:Nat}{a:IntKind}[b:H7 X.P T len e][l:bQ X.P e n][ht:cI X.P e](c:Nat.blt d X.n=true)(f:aS sl x=some (.m m))(g:aS sl y=some (.m (.d (.int a (.ofNat i)))))(h:jM m=some cs)(hi:i<len)(j:cs[i*n]?=some r)
  (k:TL X ops rest ⟨(d,.m r)::sl,bx,H⟩ post):TL X ops (⟨some d,.index T x y,ty,pos,af,none⟩::rest) ⟨sl,bx,H⟩ post:=
 M3 W W c (BA b.u f g h hi (vp j)) k
def jE{a b:Nat}{s u:ByteArray}(c:Nat.blt d X.n=true)(e:aS sl x=some (.m (.d (.str s))))(f:aS sl y=some (.m (.d (.str u))))(g:Nat.ble s.size 1000=true)(h:u.size<=4000000000)(k:TL X ops rest ⟨(d,.m (.d (.str (s++u))))::sl,bx,H⟩ post):
  TL X ops (⟨some d,.binOp .add a x y b,ty,pos,af,none⟩::rest) ⟨sl,bx,H⟩ post:=
 ky c e f (by have:=aiy g;omega) k
end
end Go.Mt
namespace Go.Mt
variable{i c since b j T r n:Nat}{es M' PY:List (D×M)}{bs seen:List Nat}{σ:Sg}{x:Operand}{α:Type}{e:D×M}{a:Act}{P:Program}{w:World}{MH:Nat->Nat}{d:M}{y z u:Value}{se:Array Nat}{code:Code}{q:Exit->St->Prop}{k:Obj->Sem α}
def BG(c:Nat)(e:D×M)(b:Nat):D×M:=(.jA,.c_ [.d e.1,e.2,.d (.int .i64 b),.d (.int .i64 c)])
def fl(c:Nat)(es:List (D×M))(bs:List Nat):List (D×M):=List.zipWith (BG c) es bs
def jX(i since:Nat)(seen:List Nat):M:=.c_ (.mp i:: .d (.int .i64 since)::seen.map λ(b:Nat)=>M.d (.int .i64 (b:Int)))
def H_{l:List α}{a:α}(h:l[i]?=some a):i<l.length:=by
 rcases ais i l.length with b|b
 .exact b
 .rw[ail b]at h;cases h
def yq(h:(fl c es bs)[i]?=some e):∃a b,es[i]?=some a/\bs[i]?=some b/\e=BG c a b:=by
 unfold fl at h;rw[ak6]at h;cases a:es[i]? with
 |none=>rw[a]at h;simp at h
 |some f=>
  cases d:bs[i]? with
  |none=>rw[a,d]at h;simp at h
  |some b=>rw[a,d]at h;simp at h;exact⟨f,b,W,W,h.symm⟩
def Gp(a:es[i]?=some e)(d:bs[i]?=some b):(fl c es bs)[i]?=some (BG c e b):=by
 unfold fl;rw[ak6,a,d]
def yr(h:bs.length=es.length):(fl c es bs).length=es.length:=by simp[fl,h]
def dT.born{d:List (D×M)}(h:dT d (fl c es bs)):d=fl c es bs:=by
 rcases h with rfl|⟨f,j,_⟩
 .rfl
 .cases a:fl c es bs with
  |nil=>rw[a]at f;exact ajC.1 f.length_eq
  |cons e r=>
   exfalso;obtain⟨l,b,_,_,k⟩:=yq (c:=c) (es:=es) (bs:=bs) (i:=0) (e:=e) (by rw[a];rfl);obtain⟨s,g⟩:=j e (by rw[a];simp);rw[k]at g;cases g
def RM.LG{a b c:M}{x:Value}(h:RM σ (.c_ [a,b,c,d]) (.tuple #[x,y,z,u])):RM σ a x/\RM σ b y/\RM σ c z/\RM σ d u:=by
 cases h with
 |c_ e f g h=>exact⟨h 0 a x W W,h 1 b y W W,h 2 c z W W,h 3 d u W W⟩
def RM.JH{a b c:M}{x:Value}(g:RM σ a x)(h:RM σ b y)(i:RM σ c z)(j:RM σ d u):RM σ (.c_ [a,b,c,d]) (.tuple #[x,y,z,u]):=by
 refine .c_ _ _ W λn m v e f=>?_
 match n with
 |0=>simp at e f;subst e;subst f;exact g
 |1=>simp at e f;subst e;subst f;exact h
 |2=>simp at e f;subst e;subst f;exact i
 |3=>simp at e f;subst e;subst f;exact j
 |n+4=>simp at e
def RM.Ia{s:ByteArray}{v:Value}(h:RM σ (.d (.str s)) v):v=.string s:=by
 cases h with
 |d h=>cases h;rfl
def Fw(h:σ.H[i]?=some (.map es)):RM σ (jX i since seen) (mg (some (σ.l i)) since seen.toArray):=by
 refine .c_ _ _ (by simp[jX,mg]) λn m v c a=>?_
 match n with
 |0=>simp[jX]at c;simp[mg]at a;subst c;subst a;exact .mp i es h
 |1=>simp[jX]at c;simp[mg]at a;subst c;subst a;exact .d (.int _ _)
 |n+2=>
  simp[jX]at c;obtain⟨b,d,rfl⟩:=c;have:v=.int .i64 b:=by
   rw[ai7 (by simp)]at a;simp[d]at a;exact a.symm
  subst this;exact .d (.int _ _)
def Ib{b:Nat}{c:Option Nat}(h:RM σ (jX i since seen) (mg c b se)):c=some (σ.l i)/\b=since/\se.toList=seen/\∃es,σ.H[i]?=some (.map es):=by
 unfold jX mg at h;cases h with
 |c_ k l g h=>
  have m:se.size=seen.length:=by simp at g;omega
  have d:=h 0 (.mp i) (.map c) W (by rw[aiH (by simp)];rfl);have e:=(h 1 (.d (.int .i64 since)) (.int .i64 b) W (by rw[aiH (by simp)];rfl)).t';refine⟨?_,?_,?_,?_⟩
  .cases d;rfl
  .injection e with _ e;omega
  .apply ajQ;intro n;rcases ais n seen.length with a|a
   .have f:=(h (n+2) (.d (.int .i64 seen[n])) (.int .i64 (se[n]'(by omega))) (by simp[a]) (by
     rw[ai7 (by simp)];simp[show n<se.size by omega])).t'
    injection f with _ f
    have j:se[n]'(by omega)=seen[n]:=by omega
    simp[a,show n<se.size by omega,j]
   .rw[ail a,ail (by simpa using (by omega:se.size<=n))]
  .cases d with
   |mp i es a=>exact⟨es,a⟩
def Fy(h:fN σ b (.iter (jX i since seen))):∃last,σ.w.heap[b]?=some (.mapIter (some (σ.l i)) since seen.toArray last)/\since=last:=by
 rcases h with⟨f,g,j,last,c,a⟩|⟨l,T,c,a⟩
 .rcases a with⟨_,a⟩|⟨a,d⟩
  .exfalso;unfold jX at a;cases a
  .obtain⟨rfl,rfl,e,_⟩:=Ib a;exact⟨last,by rw[c,<-e],d⟩
 .exfalso;unfold jX at a;cases a with
  |c_ d e k h=>
   have:=h 0 (.mp i) (.int .i64 b) W (by rw[aiH (by simp)];rfl);cases this
def vq(d:bs.length=es.length)(h:fN σ b (.map (fl c es bs))):
  ∃a d,σ.w.heap[b]?=some (.map a d)/\a.size=es.length/\lU a d/\∀(n:Nat) e x u,es[n]?=some e->bs[n]?=some x->a[n]?=some u->RM σ (.d e.1) u.key/\RM σ e.2 u.val/\u.born=x/\d=c:=by
 obtain⟨w,g,f,v,i,j,k,l⟩:=h;have:=g.born;subst this;refine⟨f,v,i,by rw[j,yr d],l,λn e x u m o p=>?_⟩;have a:=k n _ u (Gp m o) p;unfold BG at a;rcases a with⟨a,_⟩|⟨a,_⟩|⟨_,a⟩
 .cases a
 .cases a
 .obtain⟨q,r,s,t⟩:=a.LG;exact⟨q,r,s.ua,t.ua⟩
def Cv{α:Type}{P:Program}(a:0<c):∃n w',n<c/\(w'=w\/w'={w with drawn:=w.drawn+1})/\∀k:Nat->Sem α,(choose (.mapNext c)>>=k).run P w=(k n).run P w':=by
 cases b:(Question.mapNext c).forced with
 |true=>exact⟨0,w,a,.inl W,λk=>by show(Sem.choose _ _).run P w=_;simp[Sem.run,b];rfl⟩
 |false=>exact⟨(Question.mapNext c).cut (w.tape w.drawn (.mapNext c)),{w with drawn:=w.drawn+1},aj1 _ a,.inr W,λk=>by show(Sem.choose _ _).run P w=_;simp[Sem.run,b];rfl⟩
section
variable{X:cQ}{st:St}{dst:Option Nat}{ty:Nat}{pos:String}{af:Array Edge}{g:Option (Nat×Bool)}
def bU.born(hi:bU X σ MH st a)(p:st.H[i]?=some (.map es))(A:strKeys es=true):
  ∃(c:List (D×M)) (bs:List Nat) (f:Nat) (τ:Sg),dT c es/\bs.length=c.length/\bs.Nodup/\(∀b∈bs,b<f)/\(∃c,σ.w.heap[σ.l i]?=some (.map c f))/\τ.w=σ.w/\τ.l i=σ.l i/\db σ τ/\bU X τ MH ⟨st.sl,st.bx,st.H.set i (.map (fl f c bs))⟩ a:=by
 obtain⟨k,q,f,n,r,s,B,l⟩:=hi.hinv.obj i (.map es) (by rw[hi.hH];exact p);have C:=q.strs A
 let bs:List Nat:=f.toList.map (·.born)
 have t:bs.length=k.length:=by simp[bs,s]
 have g:∀(n b:Nat),bs[n]?=some b->∃u,f[n]?=some u/\u.born=b:=by
  intro w b h;simp only[bs,aiZ,aiE]at h;obtain⟨u,c,o⟩:=h;exact⟨u,by simpa using c,o⟩
 obtain⟨τ,E,F,Q,G,H⟩:=hi.jx (j:=i) (b':=σ.l i) (ob:=.map es) (NX:=.map (fl n k bs)) (w':=σ.w) p trivial W W W (ah9 _)
  (λ_ _ _=>rfl) (.inl W) (λo v c=>(c trivial).elim) W (by
   intro τ I J _ _;refine⟨_,.inl W,f,n,by rw[J];exact r,by rw[yr t];exact s,λo e z K u=>?_,l⟩;obtain⟨w,b,x,L,rfl⟩:=yq K;obtain⟨R,h,N⟩:=g o b L;rw[u]at h;injection h with h;subst h
   obtain⟨P,y⟩:=cC.1 C w (aiv x);obtain⟨d,m⟩:=w;simp only at y;subst y;rcases B o _ z x u with⟨c,O⟩|⟨c,_⟩|⟨c,_⟩
   .simp only[xk,ai5]at c;refine .inr (.inr ⟨W,RM.JH ?_ (O.mono I) ?_ (.d (.int _ _))⟩)
    .rw[<-c];exact .d (.str _)
    .rw[<-N];exact .d (.int _ _)
   .cases c
   .cases c)
 refine⟨k,bs,n,τ,q,t,?_,?_,⟨f,r⟩,E,F,G,H⟩
 .refine aj7.2 λx y I J K c=>?_
  obtain⟨u,h,o⟩:=g x bs[x] (by simp[I]);obtain⟨v,w,z⟩:=g y bs[y] (by simp[J]);have:=l.2 x y u v h w (by rw[o,z];exact c);omega
 .intro b w;obtain⟨c,x⟩:=ajB w;obtain⟨u,h,o⟩:=g c b x;rw[<-o];exact l.1 c u h
def bU.ud(hi:bU X σ MH st a)(f:st.H[i]?=some (.map (fl c M' bs)))(h:bs.length=M'.length)(k:strKeys M'=true)(b:dT M' es):
  ∃τ:Sg,bU X τ MH ⟨st.sl,st.bx,st.H.set i (.map es)⟩ a/\τ.w=σ.w/\db σ τ:=by
 obtain⟨l,A,m,o,p,q⟩:=vq h (hi.hinv.obj i _ (by rw[hi.hH];exact f));obtain⟨τ,r,C,D,s,t⟩:=hi.jx (j:=i) (b':=σ.l i) (ob:=.map (fl c M' bs)) (NX:=.map es) (w':=σ.w) f trivial W W W (ah9 _)
  (λ_ _ _=>rfl) (.inl W) (λo v b=>(b trivial).elim) W (by
   intro τ w x _ _;refine⟨M',b,l,A,by rw[x];exact m,o,λn e u d y=>?_,p⟩;have E:=H_ d;obtain⟨g,z,_⟩:=q n e (bs[n]'(by omega)) u d (by simp[show n<bs.length by omega]) y;obtain⟨B,b⟩:=cC.1 k e (aiv d);rw[b]at g;refine .inl ⟨by rw[b,RM.Ia g];rfl,z.mono w⟩)
 exact⟨τ,t,r,s⟩
def bU.perm(hi:bU X σ MH st a)(b:st.H[i]?=some (.map es))(d:∀b,dT b es->dT b PY):
  ∃τ:Sg,bU X τ MH ⟨st.sl,st.bx,st.H.set i (.map PY)⟩ a/\τ.w=σ.w:=by
 obtain⟨c,f,g,r,h,k,l,m⟩:=hi.hinv.obj i (.map es) (by rw[hi.hH];exact b);obtain⟨τ,n,s,t,u,o⟩:=hi.jx (j:=i) (b':=σ.l i) (ob:=.map es) (NX:=.map PY) (w':=σ.w) b trivial W W W (ah9 _)
  (λ_ _ _=>rfl) (.inl W) (λo v b=>(b trivial).elim) W (by
   intro τ p q _ _;exact⟨c,d c f,g,r,by rw[q];exact h,k,λn e u b c=>(l n e u b c).up λv b=>b.mono p,m⟩)
 exact⟨τ,o,n⟩
def Eb(ht:lE X.P T=2)(q:st.ev x=some (.m (.mp i)))(l:st.H[i]?=some (.map es))(r:strKeys es=true):
  cD X ⟨dst,.range T x,ty,pos,af,g⟩ st λv s=>∃(a:List (D×M)) (bs:List Nat) (since:Nat),dT a es/\bs.length=a.length/\bs.Nodup/\(∀b∈bs,b<since)/\v=.m (.it st.H.length)/\s=⟨st.sl,st.bx,st.H.set i (.map (fl since a bs))++[.iter (jX i since [])]⟩:=by
 intro p c t o;have h:=o.ev q;obtain⟨Q,e,w⟩:=JF ht;obtain⟨n,bs,a,k,y,z,A,B,⟨R,C⟩,f,E,S,j⟩:=o.born l r;have F:i<st.H.length:=nJ l;have G:k.H[i]?=some (.map (fl a n bs)):=by rw[j.hH];simp[F]
 generalize H:p.eval x=u at h;cases h with
 |m h=>
  cases h with
  |mp _ U V=>
   obtain⟨d,I,J,K,Y,L⟩:=j.newObj (.iter (jX i a [])) (.mapIter (some (c.l i)) a #[] a) (by
    intro d N O;refine .inl ⟨some (c.l i),a,#[],a,by rw[O,f];simp,.inr ⟨?_,rfl⟩⟩;have:=(Fw (since:=a) (seen:=[]) G).mono N;rw[E]at this;exact this)
   have P:k.H.length=st.H.length:=by rw[j.hH];simp
   refine dy.value (u:=.pointer (some ⟨c.w.heap.size,0,none⟩)) (w':={c.w with heap:=c.w.heap.push (.mapIter (some (c.l i)) a #[] a)}) ?_ ⟨_,_,d,t,⟨n,bs,a,y,z,A,B,rfl,rfl⟩,by rw[I,f],L,?_⟩
   .simp[execOp,Instr.range,underlying,program,Sem.run,H,w,getObj,C,newObj]
   .have N:d.l st.H.length=c.w.heap.size:=by rw[<-P,J,f]
    rw[<-N];exact .m (.it _ (jX i a []) (by rw[K];simp))
def Au{s l:Nat}{m:Option Nat}(h:w.heap[r]?=some (.mapIter m s se l)):(getObj r>>=k).run P w=(k (.mapIter m s se l)).run P w:=by
 show(Sem.getObj r _).run P w=_;simp only[Sem.run,h];rfl
def Av{es:Array MapEntry}(h:w.heap[r]?=some (.map es c)):(getObj r>>=k).run P w=(k (.map es c)).run P w:=by
 show(Sem.getObj r _).run P w=_;simp only[Sem.run,h];rfl
def Gs(R:st.ev x=some (.m (.it j)))(J:st.H[j]?=some (.iter (jX i since seen)))(S:st.H[i]?=some (.map (fl since es bs)))(T:bs.length=es.length)(U:∀b∈bs,b<since):
  cD X ⟨dst,.next x false,ty,pos,af,g⟩ st λv s=>(v=.m (.c_ [.d (.bool false)])/\s=st/\∀b∈bs,b∈seen)\/
   ∃(n:Nat) (e:D×M) (b:Nat),es[n]?=some e/\bs[n]?=some b/\b∉seen/\v=.m (.c_ [.d (.bool true),.d e.1,e.2])/\s=⟨st.sl,st.bx,st.H.set j (.iter (jX i since (seen++[b])))⟩:=by
 intro H σ K p;have h:=p.ev R;have V:σ.H[j]?=some (.iter (jX i since seen)):=by rw[p.hH];exact J
 have L:σ.H[i]?=some (.map (fl since es bs)):=by rw[p.hH];exact S
 obtain⟨last,A,h2⟩:=Fy (p.hinv.obj j _ V);obtain⟨a,t,Y,h4,h5,N⟩:=vq T (p.hinv.obj i _ L);have B:∀(n:Nat) u,a[n]?=some u->∃e b,es[n]?=some e/\bs[n]?=some b/\RM σ (.d e.1) u.key/\RM σ e.2 u.val/\u.born=b/\b<since:=by
  intro n u d;have q:n<a.size:=by
   rcases ais n a.size with h|h
   .exact h
   .rw[aiG h]at d;cases d
  obtain⟨f,l,o,_⟩:=N n (es[n]'(by omega)) (bs[n]'(by omega)) u (by simp[show n<es.length by omega]) (by simp[show n<bs.length by omega]) d;exact⟨es[n]'(by omega),bs[n]'(by omega),by simp[show n<es.length by omega],by simp[show n<bs.length by omega],f,l,o,U _ (aif _)⟩
 generalize k:H.eval x=u at h;cases h with
 |m h=>
  cases h with
  |it _ co hh=>
   have P2:(!seen.toArray.isEmpty&& !a.isEmpty&&a.all (·.born>=last))=false:=by
    cases y:a.isEmpty with
    |true=>simp
    |false=>
     have o:0<a.size:=by
      rcases aiO a.size with h|h
      .have:a= #[]:=akm h;subst this;simp at y
      .exact h
     obtain⟨e,b,_,_,_,_,E,I⟩:=B 0 a[0] (by simp[o]);have:a.all (·.born>=last)=false:=by
      rw[<-akj,Array.all_eq_true];intro C;have:=C 0 o;simp at this;omega
     simp[this]
   generalize F:(a.filter λe=> !seen.toArray.contains e.born)=left;have G:∀u∈left,∃(n:Nat) (e:D×M) (b:Nat),es[n]?=some e/\bs[n]?=some b/\b∉seen/\RM σ (.d e.1) u.key/\RM σ e.2 u.val/\u.born=b/\b<since:=by
    intro u o;rw[<-F,Array.mem_filter]at o;obtain⟨n,q,ac⟩:=Array.getElem_of_mem o.1;obtain⟨e,b,C,E,I,O,y,Z⟩:=B n u (by rw[<-ac];simp[q]);refine⟨n,e,b,C,E,λUJ=>?_,I,O,y,Z⟩;have:=o.2;rw[y]at this;simp[UJ]at this
   have Oh:left= #[]->∀b∈bs,b∈seen:=by
    intro C b O;obtain⟨n,q,rfl⟩:=ai4 O;have o:n<a.size:=by omega
    obtain⟨e,b',_,y,_,_,E,_⟩:=B n a[n] (by simp[o]);have Z:b'=bs[n]:=by simpa [q] using y.symm
    refine Classical.byContradiction λI=>?_
    have:a[n]∈left:=by
     rw[<-F,Array.mem_filter];exact⟨akJ o,by rw[E,Z];simpa using I⟩
    rw[C]at this;simp at this
   have ce:left.filter (λe=>decide (e.born<since))=left:=by
    rw[Array.filter_eq_self];intro u o;obtain⟨_,_,b,_,_,_,_,_,y,C⟩:=G u o;simp[y,C]
   have PX:left.filter (λe=>decide (e.born>=since))= #[]:=by
    rw[Array.filter_eq_empty_iff];intro u o;obtain⟨_,_,b,_,_,_,_,_,y,C⟩:=G u o;simp[y];omega
   obtain⟨l,z⟩:∃a,a=(if left.isEmpty then #[none]else #[])++(left++(#[]:Array MapEntry)).map some:=⟨_,rfl⟩;have r:(Instr.next (.pointer (some ⟨σ.l j,0,none⟩)) false ty).run X.P σ.w=(choose (.mapNext l.size)>>= λn=>match l[n]? with
     |some (some e)=>(do setObj (σ.l j) (.mapIter (some (σ.l i)) since (seen.toArray.push e.born) t);pure (.tuple #[.bool true,e.key,e.val]))
     |some none=>pure (.tuple #[.bool false])
     |none=>stuck "Next: no such candidate").run X.P σ.w:=by
    unfold Instr.next;simp only[Au A,Av Y,P2,ai2,aju,F,ce,PX,<-z];rfl
   have UZ:0<l.size:=by
    rw[z];cases o:left.isEmpty with
    |true=>simp;omega
    |false=>
     have:0<left.size:=by
      rcases aiO left.size with h|h
      .rw[akm h]at o;simp at o
      .exact h
     simp;omega
   obtain⟨n,w',q,QW,YM⟩:=Cv (α:=Value) (P:=X.P) (w:=σ.w) UZ;rw[YM]at r;have Q:∀r a,(Instr.next (.pointer (some ⟨σ.l j,0,none⟩)) false ty).run X.P σ.w=.ok r a->(execOp H.eval ⟨dst,.next x false,ty,pos,af,g⟩).run X.P σ.w=.ok (.value r) a:=by
    intro o y h;simp only[execOp,k];simp[h]
   have QP:l[n]?=some l[n]:=by simp[q]
   rw[QP]at r;have f:l[n]∈l:=akJ q;generalize hc:l[n]=c at r f;have d:w'.heap=σ.w.heap/\w'.os=σ.w.os/\w'.output=σ.w.output/\w'.tape=σ.w.tape:=by rcases QW with rfl|rfl<;>exact⟨W,W,W,W⟩
   cases c with
   |none=>
    have I:left= #[]:=by
     rw[z]at f;cases o:left.isEmpty with
     |true=>simpa using o
     |false=>rw[o]at f;simp at f
    have C:=Q _ _ r;have E:fW σ.w w':=⟨d.2.1,d.2.2.1,d.2.2.2,by rw[d.1];exact ah9 _,λb _=>by rw[d.1]⟩;refine dy.value (u:=.tuple #[.bool false]) (w':=w') C ⟨_,_,{σ with w:=w'},K,.inl ⟨rfl,rfl,Oh I⟩,rfl,p.ext E,.m (.c_ _ _ W λn m v o y=>by
     match n with
     |0=>simp at o y;subst o;subst y;exact .d (.bool _)
     |n+1=>simp at o)⟩
   |some u=>
    have ac:u∈left:=by
     rw[z]at f;cases y:left.isEmpty with
     |true=>rw[y]at f;simp at f;simp at y;rw[y]at f;simp at f
     |false=>rw[y]at f;simpa using f
    obtain⟨m,e,b,C,E,Z,q4,q5,q6,q7⟩:=G u ac;have MY:σ.l j<σ.w.heap.size:=fH A;have am:(do setObj (σ.l j) (.mapIter (some (σ.l i)) since (seen.toArray.push u.born) t);pure (.tuple #[.bool true,u.key,u.val]):Sem Value).run X.P w'=.ok (.tuple #[.bool true,u.key,u.val]) (cZ w' (σ.l j) (.mapIter (some (σ.l i)) since (seen.toArray.push u.born) t)):=by
     show(Sem.setObj _ _ _).run X.P w'=_;have y:w'.heap[σ.l j]?=some (.mapIter (some (σ.l i)) since seen.toArray last):=by rw[d.1];exact A
     simp only[Sem.run,y];rfl
    have PR:=Q _ _ (r.trans am);obtain⟨I,k1,k2,k3,O,k5⟩:=p.jx (j:=j) (b':=σ.l j) (ob:=.iter (jX i since seen)) (NX:=.iter (jX i since (seen++[b]))) (w':=cZ w' (σ.l j) (.mapIter (some (σ.l i)) since (seen.toArray.push u.born) t)) J trivial d.2.1 d.2.2.1 d.2.2.2 (by rw[jb,d.1];exact ah9 _)
     (λc _ a=>by rw[iC a,d.1]) (.inl W) (λo v a=>(a trivial).elim) W (by
      intro I y hw d5 hH;refine .inl ⟨some (σ.l i),since,seen.toArray.push u.born,t,by rw[hw];exact fI (by rw[d.1];exact MY),.inr ⟨?_,?_⟩⟩
      .have:=(Fw (σ:=σ) (since:=since) (seen:=seen++[b]) L).mono y;rw[q6];simpa using this
      .obtain⟨_,Su⟩:∃x:Nat,bs[m]?=some x:=⟨_,E⟩;have o:m<es.length:=H_ C;obtain⟨_,_,_,MR⟩:=N m e b (a[m]'(by omega)) C E (by simp[show m<a.size by omega]);omega)
    refine dy.value PR ⟨_,_,I,K,.inr ⟨m,e,b,C,E,Z,W,W⟩,k1,k5,.m ?_⟩;refine .c_ _ _ W λn v w o k=>?_
    match n with
    |0=>simp at o k;subst o;subst k;exact .d (.bool _)
    |1=>simp at o k;subst o;subst k;exact q4.mono O
    |2=>simp at o k;subst o;subst k;exact q5.mono O
    |n+3=>simp at o
def Ec(t:st.ev x=some (.m (.it j)))(w:st.H[j]?=some (.iter (jX i since (seen++[b]))))(y:st.H[i]?=some (.map (fl since es bs)))(z:bs.length=es.length)(P:bs.Nodup)(q:es[n]?=some e)(A:bs[n]?=some b)
  :cD X ⟨dst,.entry x,ty,pos,af,g⟩ st (dq (.m (.c_ [.d e.1,e.2])) st):=by
 refine MN λs f Q h=>?_
 have k:=h.ev t;have B:f.H[j]?=some (.iter (jX i since (seen++[b]))):=by rw[h.hH];exact w
 have C:f.H[i]?=some (.map (fl since es bs)):=by rw[h.hH];exact y
 obtain⟨last,D,R⟩:=Fy (h.hinv.obj j _ B);obtain⟨a,O,E,S,F,G⟩:=vq z (h.hinv.obj i _ C);have c:n<es.length:=H_ q;have p:n<a.size:=by omega
 obtain⟨H,I,r,T⟩:=G n e b a[n] q A (by simp[p]);have J:a.find? (·.born==b)=some a[n]:=by
  cases l:a.find? (·.born==b)with
  |none=>
   exfalso;rw[Array.find?_eq_none]at l;exact l a[n] (akJ p) (by simp[r])
  |some u=>
   have K:=Array.find?_some l;have L:=Array.mem_of_find?_eq_some l;obtain⟨o,M,rfl⟩:=Array.getElem_of_mem L;have N:a[o].born=a[n].born:=by rw[r];simpa using K
   have:=F.2 o n a[o] a[n] (by simp[M]) (by simp[p]) N;subst this;rfl
 generalize d:s.eval x=u at k;cases k with
 |m k=>
  cases k with
  |it _ L M=>
   refine⟨.tuple #[a[n].key,a[n].val],?_,.m (.c_ _ _ W λn m v c d=>?_)⟩
   .have l:(Instr.entry (.pointer (some ⟨f.l j,0,none⟩))).run X.P f.w=.ok (.tuple #[a[n].key,a[n].val]) f.w:=by
     unfold Instr.entry;simp only[Au D];have o:(seen++[b]).toArray.back?=some b:=by simp
     simp only[o,Av E,J];have K:(O !=last)=false:=by simp;omega
     simp only[K,ai2,aju];rfl
    simp only[execOp,d];simp[l]
   .match n with
    |0=>simp at c d;subst c;subst d;exact H
    |1=>simp at c d;subst c;subst d;exact I
    |n+2=>simp at c
end
section
variable{X:cQ}{ops:Array Oper}{rest:List Oper}{sl:List (Nat×V)}{bx:List (Nat×List M)}{H:Hp}{post:St->Prop}{d ty:Nat}{pos:String}{af:Array Edge}
def vr(a:Nat.blt d X.n=true)(r:gP d sl=true)(ht:lE X.P T=2)(c:aS sl x=some (.m (.mp i)))(e:H[i]?=some (.map es))(f:strKeys es=true)
  (k:∀(c:List (D×M)) (a:List Nat) (e:Nat),dT c es->a.length=c.length->a.Nodup->(∀b∈a,b<e)->TL X ops rest ⟨(d,.m (.it H.length))::sl,bx,H.set i (.map (fl e c a))++[.iter (jX i e [])]⟩ post):
  TL X ops (⟨some d,.range T x,ty,pos,af,none⟩::rest) ⟨sl,bx,H⟩ post:=
 TL.op (by simp[iM]) W a (Eb ht c e f) λv s ⟨g,h,q,j,l,m,n,o,p⟩=>by subst o;subst p;exact k g h q j l m n
def yu(c:Nat.blt d X.n=true)(f:aS sl x=some (.m (.it j)))(g:H[j]?=some (.iter (jX i since seen)))(k:H[i]?=some (.map (fl since es bs)))(l:bs.length=es.length)(m:∀b∈bs,b<since)
  (o:(∀b∈bs,b∈seen)->TL X ops rest ⟨(d,.m (.c_ [.d (.bool false)]))::sl,bx,H⟩ post)
  (p:∀(n:Nat) (e:D×M) (b:Nat),es[n]?=some e->bs[n]?=some b->b∉seen->TL X ops rest ⟨(d,.m (.c_ [.d (.bool true),.d e.1,e.2]))::sl,bx,H.set j (.iter (jX i since (seen++[b])))⟩ post):
  TL X ops (⟨some d,.next x false,ty,pos,af,none⟩::rest) ⟨sl,bx,H⟩ post:=
 TL.op (by simp[iM]) W c (Gs f g k l m) λv s h=>by
  rcases h with⟨rfl,rfl,a⟩|⟨n,e,b,q,r,a,rfl,rfl⟩
  .exact o a
  .exact p n e b q r a
def vt(a:Nat.blt d X.n=true)(c:aS sl x=some (.m (.it j)))(f:H[j]?=some (.iter (jX i since (seen++[b]))))(g:H[i]?=some (.map (fl since es bs)))(h:bs.length=es.length)(l:bs.Nodup)(m:es[n]?=some e)(o:bs[n]?=some b)
  (k:TL X ops rest ⟨(d,.m (.c_ [.d e.1,e.2]))::sl,bx,H⟩ post):TL X ops (⟨some d,.entry x,ty,pos,af,none⟩::rest) ⟨sl,bx,H⟩ post:=
 M3 W W a (Ec c f g h l m o) k
def TC.ud(c:H[i]?=some (.map (fl since M' bs)))(d:bs.length=M'.length)(e:strKeys M'=true)(f:dT M' es)(k:TC X code ⟨sl,bx,H.set i (.map es)⟩ q):TC X code ⟨sl,bx,H⟩ q:=
 λa w ⟨n,g,h,j⟩=>by
  obtain⟨b,l,m,_⟩:=j.ud c d e f;exact k a w ⟨b,g,m.trans h,l⟩
def TC.perm(c:H[i]?=some (.map es))(d:∀a,dT a es->dT a PY)(k:TC X code ⟨sl,bx,H.set i (.map PY)⟩ q):TC X code ⟨sl,bx,H⟩ q:=
 λa w ⟨l,e,f,g⟩=>by
  obtain⟨b,h,j⟩:=g.perm c d;exact k a w ⟨b,e,j.trans f,h⟩
end
end Go.Mt
namespace Go.Mt
variable{cs MP:List M}{H:Hp}{i MF ec n B:Nat}{sl:List (Nat×V)}{bx:List (Nat×List M)}{X:cQ}{a:Act}{P:Program}{post:Exit->St->Prop}{c:Code}{σ:Sg}{MH:Nat->Nat}{st:St}{m:M}
def bU.vu(hi:bU X σ MH st a)(c:st.H[i]?=some (.row false ec MF cs))(e:MP.length=cs.length)
  (f:∀(k:Nat) b,MP[k]?=some b->cs[k]?=some b\/∃m d,cs[k]?=some m/\ep st.H m=some d/\b=.d d):
  ∃τ:Sg,bU X τ MH ⟨st.sl,st.bx,st.H.set i (.row false ec MF MP)⟩ a/\τ.w=σ.w:=by
 obtain⟨o,C,T,D,n,p,q,r,s,g⟩:=hi.hinv.obj i _ (by rw[hi.hH];exact c);rw[<-hi.hH]at f;obtain⟨τ,t,E,F,G,u⟩:=hi.jx (j:=i) (b':=σ.l i) (ob:=.row false ec MF cs) (NX:=.row false ec MF MP) (w':=σ.w) c trivial W W W (ah9 _)
  (λ_ _ _=>rfl) (.inl W) (λo v b=>(b (.inl W)).elim) ⟨rfl,.inr ⟨rfl,e,rfl,λb T h=>⟨b,h,rfl⟩⟩⟩ (by
   intro τ h w _ _;refine⟨o,C,T,D,n,by rw[w];exact p,q,r,by rw[e];exact s,λk m v x l=>?_⟩;rcases f k m x with b|⟨y,d,b,z,rfl⟩
   .obtain⟨A,B⟩:=g k m v b l;exact⟨A.mono h,B⟩
   .obtain⟨A,B⟩:=g k y v b l;exact⟨(A.view hi.hinv z).mono h,B⟩)
 exact⟨τ,u,t⟩
def DC.vu(b:H[i]?=some (.row false ec MF cs))(e:MP.length=cs.length)
  (f:∀(k:Nat) a,MP[k]?=some a->cs[k]?=some a\/∃m d,cs[k]?=some m/\ep H m=some d/\a=.d d) (k:DC P n B c ⟨sl,bx,H.set i (.row false ec MF MP)⟩ post):DC P n B c ⟨sl,bx,H⟩ post:=
 NC _ (λ_ _ _ p w ⟨q,g,h,j⟩=>by
  obtain⟨a,l,o⟩:=j.vu b e f;exact⟨a,g,o.trans h,l⟩) k
def bU.LH(hi:bU X σ MH st a)(b:st.H[i]?=some (.row false ec MF cs)):
  ∃τ:Sg,bU X τ MH ⟨st.sl,st.bx,st.H.set i (.row true ec MF cs)⟩ a/\τ.w=σ.w:=by
 obtain⟨d,q,T,r,n,e,f,g,h,c⟩:=hi.hinv.obj i _ (by rw[hi.hH];exact b);obtain⟨τ,k,s,t,u,l⟩:=hi.jx (j:=i) (b':=σ.l i) (ob:=.row false ec MF cs) (NX:=.row true ec MF cs) (w':=σ.w) b trivial W W W (ah9 _)
  (λ_ _ _=>rfl) (.inl W) (λo v b=>(b (.inl W)).elim) ⟨rfl,.inr ⟨rfl,rfl,rfl,λb T h=>⟨b,h,rfl⟩⟩⟩ (by
   intro τ o p _ _;exact⟨d,q,T,r,n,by rw[p];exact e,f,g,h,λk m v b d=>⟨(c k m v b d).1.mono o,(c k m v b d).2⟩⟩)
 exact⟨τ,l,k⟩
def DC.Ic(b:H[i]?=some (.row false ec MF cs))(k:DC P n B c ⟨sl,bx,H.set i (.row true ec MF cs)⟩ post):DC P n B c ⟨sl,bx,H⟩ post:=
 NC _ (λ_ _ _ j w ⟨l,d,e,f⟩=>by
  obtain⟨a,g,h⟩:=f.LH b;exact⟨a,d,h.trans e,g⟩) k
def As.own(n:Nat)(rs:List (List D))(m:M):As where
 p H F:=(rs=[]/\m=.d (.sl [])/\∀j,¬F j)\/(rs≠[]/\∃i MF,m=.bZ i MF rs.length/\H[i]?=some (.row false n MF (aM rs))/\∀j,F j↔j=i)
 loc:= λh hk=>h.elim .inl λ⟨a,i,MF,b,c,d⟩=>.inr ⟨a,i,MF,b,(hk i ((d i).2 rfl)).trans c,d⟩
 zO:= λh hi=>h.elim (λ⟨_,_,d⟩=>absurd hi (d _)) λ⟨_,i,MF,_,c,d⟩=>by rw[(d _).1 hi];exact nJ c
section
variable{F0:Nat->Prop}{H0 H:Hp}{r:List As}{n:Nat}{rs:List (List D)}{m:M}
def Wk.LI(w:Wk F0 H0 r H)(n:Nat):Wk F0 H0 (.own n [] (.d (.sl []))::r) H:=by
 refine Wk.step (a:=[]) (b:=[.own n [] (.d (.sl []))]) w λF c=>?_
 exact⟨λ_=>False,qH (.inl ⟨rfl,rfl,λ_ h=>h⟩),ah9 _,λ_ _ _=>rfl,λ_ h=>h.elim⟩
def Wk.KC(w:Wk F0 H0 (.own n [] m::r) H):m=.d (.sl []):=by
 obtain⟨F,⟨b,c,a,_⟩,_⟩:=w;rcases a with⟨_,h,_⟩|⟨h,_⟩
 .exact h
 .exact absurd W h
def Wk.KD(w:Wk F0 H0 (.own n rs m::r) H)(a:rs≠[]):∃i MF,m=.bZ i MF rs.length/\Wk F0 H0 (.ob i (.row false n MF (aM rs))::r) H:=by
 obtain⟨F,⟨b,c,d,e⟩,f⟩:=w;rcases d with⟨h,_⟩|⟨_,i,MF,g,j,k⟩
 .exact absurd h a
 .exact⟨i,MF,g,F,⟨b,c,⟨j,k⟩,e⟩,f⟩
def Wk.KF(w:Wk F0 H0 (.ob i (.row false n MF (aM rs))::r) H)(a:rs≠[]):Wk F0 H0 (.own n rs (.bZ i MF rs.length)::r) H:=by
 obtain⟨F,⟨b,c,⟨d,e⟩,f⟩,g⟩:=w;exact⟨F,⟨b,c,.inr ⟨a,i,MF,W,d,e⟩,f⟩,g⟩
end
def Inv.vv{w:World}{t:Nat}(h:Inv X ⟨sl,bx,H⟩ a w)(p:get bx t=some cs)(s:MP.length=cs.length)
  (x:∀(k:Nat) c,MP[k]?=some c->cs[k]?=some c\/∃m d,cs[k]?=some m/\ep H m=some d/\c=.d d):Inv X ⟨sl,(t,MP)::bx,H⟩ a w:=by
 obtain⟨o,k,rfl,c⟩:=h;have y:o.H=H:=c.hH;obtain⟨I,T,f,g⟩:=c.box t cs p;have i:∀u c,get ((t,MP)::bx) u=some c->∃c,get bx u=some c:=by
  intro u j f;rcases bL f with⟨rfl,rfl⟩|⟨q,n⟩
  .exact⟨cs,p⟩
  .exact⟨j,n⟩
 have l:∀b o,mx X.jB k ((t,MP)::bx) b o↔mx X.jB k bx b o:=by
  intro b r;constructor
  .rintro(f|⟨u,j,f,g⟩)
   .exact .inl f
   .obtain⟨n,q⟩:=i u j f;exact .inr ⟨u,n,q,g⟩
  .rintro(f|⟨u,j,f,g⟩)
   .exact .inl f
   .by_cases e:t=u
    .subst e;exact .inr ⟨t,MP,by simp[bP],g⟩
    .exact .inr ⟨u,j,by simp[bP,e,f],g⟩
 refine⟨o,k,W,c.hH,c.defers,c.size,c.slot,?_,?_,?_,?_,?_,c.mono,c.aT⟩
 .intro u z A;rcases bL A with⟨rfl,rfl⟩|⟨_,B⟩
  .refine⟨I,T,f,by rw[g.1,s],λj q v C r=>?_⟩;rcases x j q C with n|⟨D,d,n,E,rfl⟩
   .exact g.2 j q v n r
   .obtain⟨F,G⟩:=g.2 j D v n r;exact⟨F.view c.hinv (by rw[y];exact E),G⟩
  .exact c.box u z B
 .intro u v j r n q z;obtain⟨_,A⟩:=i u j n;obtain⟨_,B⟩:=i v r q;exact c.og u v _ _ A B z
 .intro u j n;obtain⟨_,q⟩:=i u j n;exact c.oR u _ q
 .intro u j n;obtain⟨_,q⟩:=i u j n;exact c.oS u _ q
 .exact⟨c.hinv.obj,c.hinv.inj,λb o=>by rw[l];exact c.hinv.own b o,λi k f g o j=>c.hinv.sep i k f g o ((l _ _).1 j),λb o f=>c.hinv.iW b o ((l _ _).1 f)⟩
def DC.vv(t:Nat)(a:get bx t=some cs)(b:MP.length=cs.length)
  (e:∀(k:Nat) a,MP[k]?=some a->cs[k]?=some a\/∃m d,cs[k]?=some m/\ep H m=some d/\a=.d d) (k:DC P n B c ⟨sl,(t,MP)::bx,H⟩ post):DC P n B c ⟨sl,bx,H⟩ post:=
 NC _ (λ_ _ _ f w f=>f.vv a b e) k
def Lc{a b:M}{d:D}(h:ep H m=some d):∀(k:Nat) c,[a,b,M.d d][k]?=some c->[a,b,m][k]?=some c\/∃e f,[a,b,m][k]?=some e/\ep H e=some f/\c=.d f:=by
 intro k e c
 match k with
 |0=>exact .inl c
 |1=>exact .inl c
 |2=>exact .inr ⟨m,d,W,h,by simpa using c.symm⟩
 |k+3=>simp at c
def Wk.Ie{d:Nat->Prop}{H0:Hp}{r:List As}{rs:List (List D)}(w:Wk d H0 (.own n rs m::r) H):
  ∃a,Wk d H0 (.acc n rs m::r) a/\∀{P:Program} {k B:Nat} {c:Code} {post:Exit->St->Prop} {sl:List (Nat×V)} {bx:List (Nat×List M)},DC P k B c ⟨sl,bx,a⟩ post->DC P k B c ⟨sl,bx,H⟩ post:=by
 by_cases a:rs=[]
 .subst a;have b:=w.KC;subst b;exact⟨H,(w.drop).nil n,λh=>h⟩
 .obtain⟨i,b,f,e⟩:=w.KD a;subst f;have g:=e.ob;have h:=e.set (.row true n b (aM rs));refine⟨H.set i (.row true n b (aM rs)),?_,λh=>DC.Ic g h⟩;obtain⟨F,⟨j,l,⟨o,p⟩,q⟩,s⟩:=h;exact⟨F,⟨j,l,⟨i,.inr ⟨a,b,W,o⟩,λj=>by rw[p];simp[a]⟩,q⟩,s⟩
end Go.Mt
namespace Go.Mt
variable{arr:Array Oper}{X:cQ}{k a b n j:Nat}{st:St}{B:List Oper}{o:Oper}{Q:Exit->Act->World->Prop}
def vw(arr:Array Oper)(ops:List Oper)(sl:List (Nat×V))(es:List Ef):Bool:=
 qy 0 ops&&qz arr 0 ops es (jk ops)&&nD sl es
def Ed(n:Nat)(B:List Oper):Bool:=B.all λo=>(List.range n).all λk=>o.after.toList.any λe=>Region.binds .any e&&Nat.beq e.on k
def Ee(h:Ed n B=true)(b:o∈B)(c:k<n):∃e∈o.after.toList,Region.binds .any e=true/\e.on=k:=by
 have d:=ajm.1 h o b;have f:=ajm.1 d k (ajI.2 c);obtain⟨e,g,a⟩:=ajr.1 f;simp only[aiI]at a;exact⟨e,g,a.1,aiw a.2⟩
def JI{A:List Oper}{s:St}{es:List Ef}(I:Hp->Prop)(Uz:I st.H)(QS:arr=(A++B).toArray)
  (OC:qC X I arr A st es s) (T:vw arr A st.sl es=true) (YP:lX I A 0 es) (Sv:Ed A.length B=true)
  (hQ:∀a w,Inv X s a w->wpAny X.P .any arr Q B.length (Array.replicate A.length true++Array.replicate B.length false) a w):
  ∀a w,Inv X st a w->wpAny X.P .any arr Q (A.length+B.length) (Array.replicate (A.length+B.length) false) a w:=by
 obtain⟨d7,Vy,U⟩:=OC.spec;simp only[vw,aiI]at T;obtain⟨⟨UA,Th⟩,Ti⟩:=T;have hE:=oG UA;have K:=oF Th;have PW:s=S st es (λ_=>true) A.length:=by rw[jn,aje (by omega),Vy]
 have u:∀(k:Nat) e,es[k]?=some e->∃o b,A[k]?=some o/\(jk A)[k]?=some b/\e.d=o.dst/\k<A.length:=by
  intro k e c;have j:k<es.length:=by rcases ais k es.length with h|h;exact h;simp[ail h]at c
  have g:A[k]?=some A[k]:=by simp[show k<A.length by omega]
  have i:k<(jk A).length:=by rw[mP];omega
  exact⟨A[k],(jk A)[k],g,by simp[i],(U k _ e g c).2,by omega⟩
 have SR:∀(k:Nat) e d,es[k]?=some e->e.nw=some d->gP d st.sl=true:=by
  have:∀(l:List Ef),nD st.sl l=true->∀(k:Nat) e d,l[k]?=some e->e.nw=some d->gP d st.sl=true:=by
   intro l
   induction l with
   |nil=>intro _ k e d h;simp at h
   |cons x l i=>
    intro g k e d c h;simp only[nD,aiI]at g;cases k with
    |zero=>simp at c;subst c;simpa [h] using g.1
    |succ k=>simp at c;exact i g.2 k e d c h
  exact this es Ti
 intro a w y;subst QS;have d5:∀(g:Nat) (c:Array Bool) (a:Act) (w:World),c.size=A.length+B.length->(∀k,A.length<=k->c.getD k false=false)->n7 A.length (λk=>c.getD k false)=g->
   (∀j b,c.getD j false=true->(jk A)[j]?=some b->∀i∈b,c.getD i false=true)->
   Inv X (S st es (λk=>c.getD k false) A.length) a w->
   wpAny X.P .any (A++B).toArray Q (g+B.length) c a w:=by
  intro r
  induction r with
  |zero=>
   intro c a w i j l x t;have g:=rF l;have o:c=Array.replicate A.length true++Array.replicate B.length false:=by
    apply Array.ext
    .simp[i]
    .intro k n z;have p:c[k]=c.getD k false:=by simp[n]
     rw[p];rcases ais k A.length with h|h
     .rw[g k h];simp[h]
     .rw[j k h];simp[h]
   rw[ai8];have q:Inv X s a w:=by
    have e:S st es (λk=>c.getD k false) A.length=s:=by
     rw[PW];have:∀n,n<=A.length->S st es (λk=>c.getD k false) n=S st es (λ_=>true) n:=by
      intro n
      induction n with
      |zero=>intro _;rfl
      |succ n h=>
       intro k;simp only[S,h (by omega),g n (by omega)]
     exact this _ (ah9 _)
    rw[<-e];exact t
   have:=hQ a w q;rw[<-o]at this;exact this
  |succ r ih=>
   intro c a w Ok Y8 z C d6;have Y_:r+1+B.length=(r+B.length)+1:=by omega
   rw[Y_];have TW:∀(L:List Oper) (i:Nat),i∈Region.ready .any L.toArray c↔i<L.length/\c.getD i true=false/\∃o,L[i]?=some o/\∀e∈o.after.toList,Region.binds .any e=true->c.getD e.on false=true:=by
    intro L i;unfold Region.ready;rw[akv];simp only[ajI,akH,aiI,ajp,ajx];constructor
    .rintro⟨g,o,k⟩;refine⟨g,o,L[i],by simp[g],?_⟩;simp[g]at k;intro e l j;have q:e∈L[i].after:=by simpa using l
     obtain⟨n,p,rfl⟩:=ak5.1 q;rcases k n p with h|h
     .rw[h]at j;cases j
     .simpa using h
    .rintro⟨g,j,o,k,l⟩;refine⟨g,j,?_⟩;have:L[i]=o:=by simpa [g] using k
     simp[g,this];intro n p;cases h:Region.binds .any o.after[n]with
     |false=>exact .inl rfl
     |true=>right;simpa using l o.after[n] (by simp) h
   have am:∀i,i∈Region.ready .any (A++B).toArray c↔i<A.length/\c.getD i true=false/\∃o,A[i]?=some o/\∀e∈o.after.toList,Region.binds .any e=true->c.getD e.on false=true:=by
    intro i;rw[TW];constructor
    .rintro⟨x,j,o,g,h⟩;by_cases y:i<A.length
     .exact⟨y,j,o,by rwa [aim y]at g,h⟩
     .exfalso;obtain⟨t,l,n,D⟩:=tT (m:=A.length) (f:= λk=>c.getD k false) (by omega);rw[aix (by omega)]at g;obtain⟨e,k,p,q⟩:=Ee Sv (aiv g) l;have:=h e k p;rw[q,n]at this;cases this
    .rintro⟨g,h,o,j,k⟩;exact⟨by rw[ah6];omega,h,o,by rw[aim g];exact j,k⟩
   refine⟨?_,?_⟩
   .intro n;obtain⟨i,g,h,l⟩:=tT (m:=A.length) (f:= λk=>c.getD k false) (by omega);have:i∈Region.ready .any (A++B).toArray c:=by
     rw[am];have o:i<c.size:=by omega
     refine⟨g,by simp[o]at h⊢;exact h,A[i],by simp[g],?_⟩;intro e j k;have:=hE i A[i] (by simp[g]) e j k;exact l e.on (by omega)
    rw[n]at this;cases this
   .intro i RK;obtain⟨l,Y,o,k,Tj⟩:=(am i).1 RK;have V:i<c.size:=by omega
    have h:c.getD i false=false:=by simp[V]at Y⊢;exact Y
    have Re:i<es.length:=by omega
    obtain⟨e,j⟩:∃e,es[i]?=some e:=⟨es[i],by simp[Re]⟩;have Pk:i<(jk A).length:=by rw[mP];exact l
    obtain⟨N,q⟩:∃b,(jk A)[i]?=some b:=⟨(jk A)[i],by simp[Pk]⟩;have ac:∀k,k∈N->c.getD k false=true:=by
     intro t x;obtain⟨L,D,J,g⟩:=Aj k q x;have n:=Tj L D J;rcases g with g|⟨R,Z,_,h6⟩
     .rw[<-g];exact n
     .exact C _ R n Z t h6
    have P:∀(k:Nat) f,k<i->es[k]?=some f->∀x,A[k]?=some x->fT (A++B).toArray x o f e=true->c.getD k false=true:=by
     intro g f n t x D z;have:=(K g i x f o e N n D t k j q).1 z;simp at this;exact ac g this
    have p:∀(k:Nat) f,i<k->es[k]?=some f->∀x,A[k]?=some x->fT (A++B).toArray o x e f=true->c.getD k false=false:=by
     intro g f D t x L z;obtain⟨_,b,_,n,_,_⟩:=u g f t;have:=(K i g o e x f b D k j L t n).1 z;simp at this;cases J:c.getD g false with
     |false=>rfl
     |true=>rw[C g b J n i this]at h;cases h
    obtain⟨Ru,Z8⟩:=U i o e k j;have YQ:(es.take i).foldl (λs e=>e.app s) st=S st es (λ_=>true) i:=(jn st es i).symm;rw[YQ]at Ru;have E:∀t k,(kz es t).W k=true->∃f x,es[k]?=some f/\A[k]?=some x/\f.d=some t/\x.dst=some t:=by
     intro R x g;simp only[kz]at g;split at g
     .rename_i f t;split at g
      .rename_i d n;have:=aiw g;subst this;obtain⟨D,b,J,_,L,_⟩:=u x f t;exact⟨f,D,t,J,n,by rw[<-L];exact n⟩
      .cases g
     .cases g
    have F:∀t k,(mh es t).W k=true->∃f x,es[k]?=some f/\A[k]?=some x/\t∈f.wb.map (·.1):=by
     intro J t g;simp only[mh]at g;split at g
     .rename_i f n;obtain⟨x,b,D,_,_,_⟩:=u t f n;exact⟨f,x,n,D,jm.1 g⟩
     .cases g
    have G:∀k,(kA es).W k=true->∃f x,es[k]?=some f/\A[k]?=some x/\f.wh.isSome=true:=by
     intro t g;simp only[kA]at g;split at g
     .rename_i f n;obtain⟨x,b,D,_,_,_⟩:=u t f n;exact⟨f,x,n,D,g⟩
     .cases g
    have O:∀(l:List (Nat×List M)) (r:List Nat) (t:Nat),t∈l.map (·.1)->t∈r->(l.any λp=>has r p.1)=true:=by
     intro D L J n t;rw[ajr];obtain⟨g,x,rfl⟩:=aij.1 n;exact⟨g,x,jm.2 t⟩
    have Vz:Ag (A++B).toArray o e (S st es (λ_=>true) i) (S st es (λk=>c.getD k false) A.length):=by
     refine⟨?_,?_,?_,?_⟩
     .intro t n;refine oW (kz es t) _ i A.length (by omega) ?_ ?_
      .intro g D R;obtain⟨f,x,J,L,_,Z⟩:=E t g R;refine P g f D J x L ?_;have:has (slotsOf (A++B).toArray o) t=true:=jm.2 (by simp[slotsOf,n]);simp[fT,Z,this]
      .intro g hk NM L;by_cases Z:g=i
       .rw[Z];exact h
       .obtain⟨f,x,D,J,_,R⟩:=E t g L;refine p g f (by omega) D x J ?_;have:has (slotsOf (A++B).toArray o) t=true:=jm.2 (by simp[slotsOf,n]);simp[fT,R,this]
     .intro t n;refine oW (mh es t) _ i A.length (by omega) ?_ ?_
      .intro g D R;obtain⟨f,x,J,L,Z⟩:=F t g R;refine P g f D J x L ?_;have:=O f.wb _ t Z n;simp[fT,this]
      .intro g hk NM L;by_cases R:g=i
       .rw[R];exact h
       .obtain⟨f,x,D,J,Z⟩:=F t g L;refine p g f (by omega) D x J ?_;have:=O f.wb _ t Z n;simp[fT,this]
     .intro g;refine oW (kA es) _ i A.length (by omega) ?_ ?_
      .intro n t L;obtain⟨f,x,D,J,R⟩:=G n L;refine P n f t D x J ?_;simp only[ajN]at g;rcases g with g|g<;>simp[fT,R,g]
      .intro n Z NM J;by_cases L:n=i
       .rw[L];exact h
       .obtain⟨f,x,t,D,R⟩:=G n J;refine p n f (by omega) t x D ?_;simp only[ajN]at g;rcases g with g|g<;>simp[fT,R,g]
     .intro d L ce oo g;have co:∀n,n<=A.length->get (S st es (λk=>c.getD k false) n).sl ce=some (.loc d oo)->False:=by
       intro n
       induction n with
       |zero=>
        intro _ g;exact xS (SR i e d j L) g
       |succ n J=>
        intro hn g;simp only[S]at g;cases x:es[n]? with
        |none=>simp only[x]at g;exact J (by omega) g
        |some f=>
         simp only[x]at g;cases t:c.getD n false with
         |false=>rw[t]at g;exact J (by omega) g
         |true=>
          rw[t]at g;simp only[aiP,Ef.app]at g;obtain⟨R,b,Z,hb,Qw,_⟩:=u n f x;cases SQ:f.d with
          |none=>simp only[SQ]at g;exact J (by omega) g
          |some d'=>
           simp only[SQ]at g;rcases bL g with⟨_,D⟩|⟨_,D⟩
           .have M7:n≠i:=by rintro rfl;rw[t]at h;cases h
            rcases Nat.lt_or_gt_of_ne M7 with MY|VA
            .have:=(K n i R f o e N MY Z x k j q).2;simp[xW,L,<-D]at this
            .have:=p n f VA x R Z (by simp[fT,L,<-D]);rw[this]at t;cases t
           .exact J (by omega) D
      exact co _ (ah9 _) g
    have TM:=Ru _ Vz (xZ I Uz (λg f t x n L=>(YP.mem g f x t L).resolve_right λJ=>by
     have R:g≠i:=by rintro rfl;rw[h]at n;cases n
     obtain⟨b,D,q⟩:=wl J i l (ajs R);have:=C g b n D i q;rw[h]at this;cases this) _)
    have UB:∀g h,Inv X (e.app (S st es (λk=>c.getD k false) A.length)) g h->wpAny X.P .any (A++B).toArray Q (r+B.length) (c.setIfInBounds i true) g h:=by
     intro a' w' O_;have x:(λk=>(c.setIfInBounds i true).getD k false)= λg=>if g=i then true else c.getD g false:=by
      funext g
      by_cases n:g=i
      .subst n;simp[V]
      .simp[n,aiT (ajs n)]
     refine ih _ a' w' (by simp[Ok]) (λk c=>by rw[alf x k,aid (by omega)];exact Y8 k c) ?_ ?_ ?_
     .rw[x];have:=xY (m:=A.length) (f:= λk=>c.getD k false) l h;omega
     .intro n b hj t g D;have L:(if n=i then true else c.getD n false)=true:=by rw[<-alf x n];exact hj
      have R:(if g=i then true else c.getD g false)=true:=by
       by_cases J:g=i
       .simp[J]
       .rw[aid J];by_cases Z:n=i
        .subst Z;rw[q]at t;injection t with t;subst t
         exact ac g D
        .rw[aid Z]at L;exact C n b L t g D
      rw[<-alf x g]at R;exact R
     .rw[x];have g1:∀t,get (S st es (λk=>if k=i then true else c.getD k false) A.length).sl t=get (e.app (S st es (λk=>c.getD k false) A.length)).sl t:=by
       intro t;refine ve (kz es t) _ i A.length l e j h ?_;intro R5 n J NM Ql;obtain⟨f,D,L,R,_,Z⟩:=E t n Ql;obtain⟨f',x',Qg,g,_,VC⟩:=E t i R5;rw[k]at g;injection g with g;subst g
       refine p n f J L D R ?_;have:has (slotsOf (A++B).toArray o) t=true:=jm.2 (by simp[slotsOf,VC]);simp[fT,Z,this]
      have g2:∀t,get (S st es (λk=>if k=i then true else c.getD k false) A.length).bx t=get (e.app (S st es (λk=>c.getD k false) A.length)).bx t:=by
       intro t;refine ve (mh es t) _ i A.length l e j h ?_;intro R5 n J NM Ql;obtain⟨f,D,L,R,Z⟩:=F t n Ql;obtain⟨f',x',g,Ph,VD⟩:=F t i R5;rw[j]at g;injection g with g;subst g
       refine p n f J L D R ?_;have:=O f.wb (e.rb++e.wb.map (·.1)) t Z (ain.2 (.inr VD));simp[fT,this]
      have g3:(S st es (λk=>if k=i then true else c.getD k false) A.length).H=(e.app (S st es (λk=>c.getD k false) A.length)).H:=by
       refine ve (kA es) _ i A.length l e j h ?_;intro Z n D NM Ql;obtain⟨f,t,J,L,R⟩:=G n Ql;obtain⟨f',x',g,Ph,VE⟩:=G i Z;rw[j]at g;injection g with g;subst g
       refine p n f D J t L ?_;simp[fT,R,VE]
      have:=Inv.gL (X:=X) (sl:=(e.app (S st es (λk=>c.getD k false) A.length)).sl) (bx:=(e.app (S st es (λk=>c.getD k false) A.length)).bx) (H:=(e.app (S st es (λk=>c.getD k false) A.length)).H)
       (M8:=(S st es (λk=>if k=i then true else c.getD k false) A.length).sl) (Ns:=(S st es (λk=>if k=i then true else c.getD k false) A.length).bx) O_
       (λt v c=>by rw[<-g1];exact c) g2
      rw[<-g3]at this;exact this
    have:=TM a w d6 (wpAny X.P .any (A++B).toArray Q (r+B.length) (c.setIfInBounds i true)) Q UB;unfold wpOp;have VF:(A++B).toArray[i]?=some o:=by rw[ajx,aim l];exact k
    simp only[VF];split
    .rename_i g;rw[air g]at this;exact .inl this
    .rename_i g;rw[aid g]at this;exact this
 refine d5 _ _ a _ (by simp) (λk _=>by simp[ajh];split<;>rfl) ?_ ?_ ?_
 .have:∀n,n7 n (λk=>(Array.replicate (A.length+B.length) false).getD k false)=n:=by
   intro n
   induction n with
   |zero=>rfl
   |succ n c=>
    simp only[n7,c];have:(Array.replicate (A.length+B.length) false).getD n false=false:=by simp[ajh];split<;>rfl
    rw[this];rfl
  simpa using this A.length
 .intro j b c;have:(Array.replicate (A.length+B.length) false).getD j false=false:=by simp[ajh];split<;>rfl
  rw[this]at c;cases c
 .have g:∀n,S st es (λk=>(Array.replicate (A.length+B.length) false).getD k false) n=st:=by
   intro n
   induction n with
   |zero=>rfl
   |succ n c=>
    have:(Array.replicate (A.length+B.length) false).getD n false=false:=by simp[ajh];split<;>rfl
    simp only[S,c,this];cases es[n]?<;>rfl
  rw[g];exact y
def Tree(X:cQ)(arr:Array Oper)(Z:St):Nat->Array Bool->St->Prop
 |0,L,st=>Region.ready .any arr L=[]/\st=Z
 |n+1,L,st=>Region.ready .any arr L≠[]/\∀i∈Region.ready .any arr L,∃o a,arr[i]?=some o/\xf X arr o st a/\Tree X arr Z n (L.setIfInBounds i true) a
def Tree.any{Z:St}(b:∀a w,Inv X Z a w->Q .normal a w):∀{n:Nat} {L:Array Bool} {st:St},Tree X arr Z n L st->∀a w,Inv X st a w->wpAny X.P .any arr Q n L a w
 |0,L,st,⟨c,d⟩,a,w,e=>⟨c,b a w (d▸e)⟩
 |n+1,L,st,⟨c,d⟩,a,w,e=>by
  refine⟨λh=>absurd h c,λi f=>?_⟩;obtain⟨o,l,g,h,j⟩:=d i f;have:=h a w e (wpAny X.P .any arr Q n (L.setIfInBounds i true)) Q λc d e=>Tree.any b j c d e
  unfold wpOp;simp only[g];split
  .rename_i k;rw[air k]at this;exact .inl this
  .rename_i k;rw[aid k]at this;exact this
def xf.If{s b:St}(h:xf X arr o st s)(c:∀a w,Inv X s a w->Inv X b a w):xf X arr o st b:=
 λa w b K Q d=>h a w b K Q λa b e=>d a b (c a b e)
def pK(k a b:Nat):Array Bool:=Array.replicate k true++ #[Nat.blt 0 a,Nat.blt 1 a,Nat.blt 0 b,Nat.blt 1 b,Nat.blt 2 b]
def BH(k a b:Nat):List Nat:=(bif Nat.blt a 2 then [k+a]else [])++(bif Nat.blt b 3 then [k+2+b]else [])
def BI(k:Nat)(arr:Array Oper):Bool:=(List.range 3).all λa=>(List.range 4).all λb=>decide (Region.ready .any arr (pK k a b)=BH k a b)
def qI(h:BI k arr=true)(c:a<=2)(d:b<=3):Region.ready .any arr (pK k a b)=BH k a b:=by
 have c:=ajm.1 h a (ajI.2 (by omega));have d:=ajm.1 c b (ajI.2 (by omega));exact aic d
def Cw(k:Nat)(c:a<2)(d:b<=3):(pK k a b).setIfInBounds (k+a) true=pK k (a+1) b:=by
 unfold pK;rw[akf (by simp)];simp only[Array.size_replicate,Nat.add_sub_cancel_left]
 congr 1
 match a,c with
 |0,_=>rfl
 |1,_=>rfl
def Cx(k:Nat)(d:a<=2)(c:b<3):(pK k a b).setIfInBounds (k+2+b) true=pK k a (b+1):=by
 unfold pK;rw[akf (by simp;omega)];have e:k+2+b-(Array.replicate k true).size=2+b:=by simp;omega
 rw[e]
 congr 1
 match b,c with
 |0,_=>rfl
 |1,_=>rfl
 |2,_=>rfl
def Tree.Ig(st:Nat->Nat->St)(g h:Nat->Oper)(d:BI k arr=true)(i:∀a,a<2->arr[k+a]?=some (g a))(j:∀b,b<3->arr[k+2+b]?=some (h b))
  (l:∀a b,a<2->b<=3->xf X arr (g a) (st a b) (st (a+1) b)) (m:∀a b,a<=2->b<3->xf X arr (h b) (st a b) (st a (b+1))):
  ∀(n a b:Nat),a<=2->b<=3->n=5-a-b->Tree X arr (st 2 3) n (pK k a b) (st a b)
 |0,a,b,c,e,p=>by
  have f:a=2:=by omega
  have o:b=3:=by omega
  subst f;subst o;exact⟨by rw[qI d c e];rfl,rfl⟩
 |n+1,a,b,e,f,r=>by
  refine⟨?_,λq c=>?_⟩
  .rw[qI d e f];unfold BH;by_cases o:a<2
   .rw[show Nat.blt a 2=true by simpa [alc] using o];simp
   .have:b<3:=by omega
    rw[show Nat.blt b 3=true by simpa [alc] using this];simp
  .rw[qI d e f]at c;unfold BH at c;rcases ain.1 c with c|c
   .cases o:Nat.blt a 2 with
    |false=>rw[o]at c;simp at c
    |true=>
     rw[o]at c;have p:a<2:=bj o;simp at c;subst c;exact⟨_,_,i a p,l a b p f,by rw[Cw k p f];exact Tree.Ig st g h d i j l m n (a+1) b (by omega) f (by omega)⟩
   .cases o:Nat.blt b 3 with
    |false=>rw[o]at c;simp at c
    |true=>
     rw[o]at c;have p:b<3:=bj o;simp at c;subst c;exact⟨_,_,j b p,m a b e p,by rw[Cx k e p];exact Tree.Ig st g h d i j l m n a (b+1) e (by omega) (by omega)⟩
def vx{sl:List (Nat×V)}{d:Nat}{v:V}{o:Operand}(h:o≠.tmp d):aS ((d,v)::sl) o=aS sl o:=by
 cases o with
 |tmp t=>
  show get ((d,v)::sl) t=get sl t;rw[bP,aid (λe=>h (by rw[e]))]
 |_=>rfl
def DC.Aw{P:Program}{B:Nat}{post:Exit->St->Prop}{id:Nat}{ops:List Oper}(k:Nat){r:List (Nat×V)}{J:List (Nat×List M)}{i:Hp}
  {m o p ac am ce co d5 R S T U Y Z:Nat} {p1 p2 p3 p4 p5:String} {a1 a2 a3 a4 a5:Array Edge} {y z C D E F:Operand}
  (hm:P.follows .mixedOrders=true) (ip:ops.length=k+5)
  (hd:ops.drop k=[⟨some m,.indexAddr R y z,ac,p1,a1,none⟩,⟨none,.store S (.tmp m) C,am,p2,a2,none⟩,⟨some o,.indexAddr T D E,ce,p3,a3,none⟩,⟨some p,.fieldAddr Y (.tmp o) Z,co,p4,a4,none⟩,⟨none,.store U (.tmp p) F,d5,p5,a5,none⟩])
  (Sv:Ed k (ops.drop k)=true) (hg:BI k ops.toArray=true)
  (h1:∀a c,TF ⟨P,n,a,c,[]⟩ ops.toArray (ops.take k) st λa c=>vw ops.toArray (ops.take k) st.sl a=true/\c=⟨r,J,i⟩)
  {e1 g h X5 n2 e3 c a d X6 t n4:Nat} {f5 f6:IntKind} {s l:Int} {K u VU L w VV:List M} {m1 m2:M}
  (t1:aU P R e1) (t2:bQ P e1 g) (t3:bQ P S n2) (t4:aU P T e3) (t5:bQ P e3 c) (t6:aL P Y Z t) (t7:bQ P U n4)
  (Qz:Nat.blt m n=true) (Su:Nat.blt o n=true) (SW:Nat.blt p n=true)
  (Rh:aS r y=some (.m (.bZ j h X5))) (SV:aS r z=some (.m (.d (.int f5 s)))) (hj:i[j]?=some (.row false g h K)) (Y':0<=s) (OR:s<X5)
  (Pf:aS r C=some (.m m1)) (MT:fr m1=some VU) (Sh:Nat.beq VU.length n2=true) (UL:dH K (s.toNat*g) VU=some u)
  (Tu:aS r D=some (.m (.bZ a d X6))) (Tv:aS r E=some (.m (.d (.int f6 l)))) (RK:i[a]?=some (.row false c d L)) (Za:0<=l) (Oh:l<X6)
  (Pl:aS r F=some (.m m2)) (M0:fr m2=some VV) (NQ:Nat.beq VV.length n4=true) (RL:dH L (l.toNat*c+t) VV=some w)
  (M7:j≠a) (PL:∀a∈[y,z,C,D,E,F],a≠.tmp m/\a≠.tmp o/\a≠.tmp p) (x:m≠o/\m≠p/\o≠p)
  (h3:post .normal ⟨(p,.m (.cz a d (l.toNat*c+t)))::(o,.m (.cz a d (l.toNat*c)))::(m,.m (.cz j h (s.toNat*g)))::r,J,(i.set j (.row false g h u)).set a (.row false c d w)⟩):
  DC P n B (.region id ops.toArray true) st post:=by
 refine⟨.normal,_,h3,λG H _=>?_⟩;obtain⟨es,M2,OC,Ny,rfl⟩:=h1 G H;intro f d7 N;refine wp_region_any hm ?_;have TM:ops=ops.take k++ops.drop k:=(ai3 k ops).symm;have OX:(ops.take k).length=k:=by rw[ait];omega
 have NF:(ops.drop k).length=5:=by rw[hd];rfl
 let q:Nat->Nat->St:= λf b=>⟨(bif Nat.blt 1 b then [(p,V.m (.cz a d (l.toNat*c+t)))]else [])++((bif Nat.blt 0 b then [(o,V.m (.cz a d (l.toNat*c)))]else [])++((bif Nat.blt 0 f then [(m,V.m (.cz j h (s.toNat*g)))]else [])++r)),J,
  (λh:Hp=>bif Nat.blt 2 b then h.set a (.row false c d w)else h) (bif Nat.blt 1 f then i.set j (.row false g h u)else i)⟩
 have d6:(i.set a (.row false c d w))[j]?=some (.row false g h K):=by rw[aiQ (ajs M7)];exact hj
 have f8:(i.set j (.row false g h u))[a]?=some (.row false c d L):=by rw[aiQ M7];exact RK
 have I:∀o∈[y,z,C,D,E,F],∀a b,aS (q a b).sl o=aS r o:=by
  intro O ho f b;obtain⟨q1,q2,q3⟩:=PL O ho;show aS ((bif Nat.blt 1 b then [(p,V.m (.cz a d (l.toNat*c+t)))]else [])++((bif Nat.blt 0 b then [(o,V.m (.cz a d (l.toNat*c)))]else [])++((bif Nat.blt 0 f then [(m,V.m (.cz j h (s.toNat*g)))]else [])++r))) O=_;cases Nat.blt 1 b<;>cases Nat.blt 0 b<;>cases Nat.blt 0 f<;>simp only[aiP,akb,aiK,aiA,vx q1,vx q2,vx q3]
 have hw:∀{sl d:List (Nat×V)} {c:Hp},(∀t,get d t=get sl t)->∀a w,Inv (⟨P,n,G,H,[]⟩:cQ) ⟨sl,J,c⟩ a w->Inv (⟨P,n,G,H,[]⟩:cQ) ⟨d,J,c⟩ a w:=
  λc a w a=>a.gL (λt v h=>by rw[<-c];exact h) λ_=>rfl
 have f9:∀b,aS (q 1 b).sl (.tmp m)=some (.m (.cz j h (s.toNat*g))):=by
  intro b;show get ((bif Nat.blt 1 b then [(p,V.m (.cz a d (l.toNat*c+t)))]else [])++((bif Nat.blt 0 b then [(o,V.m (.cz a d (l.toNat*c)))]else [])++([(m,V.m (.cz j h (s.toNat*g)))]++r))) m=_;cases Nat.blt 1 b<;>cases Nat.blt 0 b<;>simp[bP,x.1,x.2.1,ajs x.1,ajs x.2.1]
 have d9:=Tree.Ig (X:=⟨P,n,G,H,[]⟩) (arr:=ops.toArray) (k:=k) q
  (λa=>bif Nat.beq a 0 then⟨some m,.indexAddr R y z,ac,p1,a1,none⟩else⟨none,.store S (.tmp m) C,am,p2,a2,none⟩)
  (λb=>bif Nat.beq b 0 then⟨some o,.indexAddr T D E,ce,p3,a3,none⟩else bif Nat.beq b 1 then⟨some p,.fieldAddr Y (.tmp o) Z,co,p4,a4,none⟩else⟨none,.store U (.tmp p) F,d5,p5,a5,none⟩) hg ?_ ?_ ?_ ?_ 5 0 0 (by omega) (by omega) W
 .have d8:=JI (X:=⟨P,n,G,H,[]⟩) (A:=ops.take k) (B:=ops.drop k) (arr:=ops.toArray) (Q:= λe c d=>∃a,(e=Exit.normal/\a=q 2 3)/\Inv (⟨P,n,G,H,[]⟩:cQ) a c d) (λ_=>True) trivial (by rw[<-TM]) OC.fi Ny (.all λ_ _ _ _=>trivial) (by rw[OX];exact Sv) (by
   intro O w' Na;rw[OX,NF];have:=Tree.any (Q:= λe c d=>∃a,(e=Exit.normal/\a=q 2 3)/\Inv (⟨P,n,G,H,[]⟩:cQ) a c d) (λa w a=>⟨_,⟨rfl,rfl⟩,a⟩) d9 O w' Na;exact this)
  obtain⟨O,MH,rfl,PQ⟩:=N;have:=d8 f _ ⟨{O with w:={O.w with drawn:=O.w.drawn+1} },MH,rfl,PQ.ext (fW.drew _)⟩;rw[OX,NF,<-ip]at this;exact this
 .intro f O;have e:ops.toArray[k+f]?=(ops.drop k)[f]?:=by rw[ajx,ajy]
  rw[e,hd]
  match f,O with
  |0,_=>rfl
  |1,_=>rfl
 .intro b O;have e:ops.toArray[k+2+b]?=(ops.drop k)[2+b]?:=by rw[ajx,ajy,ajG]
  rw[e,hd]
  match b,O with
  |0,_=>rfl
  |1,_=>rfl
  |2,_=>rfl
 .intro f b ha hb
  match f,ha with
  |0,_=>
   have hH:(q 0 b).H[j]?=some (.row false g h K):=by
    show(bif Nat.blt 2 b then i.set a (.row false c d w)else i)[j]?=_;cases Nat.blt 2 b with
    |true=>exact d6
    |false=>exact hj
   refine xf.If ((pC (st:=q 0 b) (by show aS _ y=_;rw[I y (by simp)];exact Rh) (by show aS _ z=_;rw[I z (by simp)];exact SV) hH Y' OR).DR W W (bj Qz)) ?_;refine hw λO=>?_
   show get ((bif Nat.blt 1 b then [(p,V.m (.cz a d (l.toNat*c+t)))]else [])++((bif Nat.blt 0 b then [(o,V.m (.cz a d (l.toNat*c)))]else [])++([(m,V.m (.cz j h (s.toNat*g)))]++r))) O=get ((m,V.m (.cz j h (s.toNat*g)))::((bif Nat.blt 1 b then [(p,V.m (.cz a d (l.toNat*c+t)))]else [])++((bif Nat.blt 0 b then [(o,V.m (.cz a d (l.toNat*c)))]else [])++([]++r)))) O;cases Nat.blt 1 b<;>cases Nat.blt 0 b<;>simp only[aiP,akb,aiK,aiA,bP]<;>(repeat' split)<;>first|rfl|(exfalso;subst_vars;first|exact x.1 W|exact x.2.1 W|exact x.2.2 W|(rename_i d8 _;exact x.1 d8)|omega)
  |1,_=>
   have O:(q 1 b).H[j]?=some (.row false g h K):=by
    show(bif Nat.blt 2 b then i.set a (.row false c d w)else i)[j]?=_;cases Nat.blt 2 b with
    |true=>exact d6
    |false=>exact hj
   refine xf.If ((pB (st:=q 1 b) (f9 b) (by show aS _ C=_;rw[I C (by simp)];exact Pf) O (by rw[(cS MT).1];exact aiw Sh) (cS MT).2 (by rw[(cS MT).1];exact UL)).Fk W W) ?_;intro f d7 N;have e:(q 1 b).H.set j (.row false g h u)=(q 2 b).H:=by
    show(bif Nat.blt 2 b then i.set a (.row false c d w)else i).set j _=(bif Nat.blt 2 b then(i.set j (.row false g h u)).set a (.row false c d w)else i.set j (.row false g h u));cases Nat.blt 2 b with
    |true=>exact List.set_comm _ _ (ajs M7)
    |false=>rfl
   rw[e]at N;exact N
 .intro f b ha hb;have O:(q f 0).H[a]?=some (.row false c d L):=by
   show(bif Nat.blt 1 f then i.set j (.row false g h u)else i)[a]?=_;cases Nat.blt 1 f with
   |true=>exact f8
   |false=>exact RK
  match b,hb with
  |0,_=>exact(pC (st:=q f 0) (by show aS _ D=_;rw[I D (by simp)];exact Tu) (by show aS _ E=_;rw[I E (by simp)];exact Tv) O Za Oh).DR W W (bj Su)
  |1,_=>exact(sS (st:=q f 1) (by show get ((o,V.m (.cz a d (l.toNat*c)))::_) o=_;rw[bP,air W])).DR W W (bj SW)
  |2,_=>exact(pB (st:=q f 2) (by show get ((p,V.m (.cz a d (l.toNat*c+t)))::_) p=_;rw[bP,air W]) (by show aS _ F=_;rw[I F (by simp)];exact Pl) O (by rw[(cS M0).1];exact aiw NQ) (cS M0).2 (by rw[(cS M0).1];exact RL)).Fk W W
def Wk.ne{a:Nat->Prop}{H0 H:Hp}{r:List As}{i:Nat}{o b:Ob}(w:Wk a H0 (.ob i o:: .ob j b::r) H):i≠j:=by
 obtain⟨F,⟨g,h,⟨_,c⟩,⟨k,l,⟨_,d⟩,_,_,e⟩,f,_⟩,_⟩:=w;rintro rfl;exact f i ((c i).2 W) ((e i).2 (.inl ((d i).2 W)))
end Go.Mt
namespace Go.Mt
variable{t:Nat}{x:Operand}
section
variable{X:cQ}{c:Code}{st:St}{post:Exit->St->Prop}{k:St->Prop}{id:Nat}
def fb(h:k st):after post k .normal st:=h
def ue(h:post .ret st):after post k .ret st:=h
def iy(h:post (.exit id) st):after post k (.exit id) st:=h
def jY(h:post .normal st):nu id post .normal st:=h
def uf(h:post .ret st):nu id post .ret st:=h
def iz(h:post .normal st):nu id post (.exit id) st:=by
 show if id=id then post .normal st else post (.exit id) st
 rw[air W];exact h
def iN(X:cQ)(c:Code)(post:Exit->St->Prop):Nat->St->Prop
 |0,_=>False
 |n+1,st=>TC X c st (after post (iN X c post n))
def iN.mk{n:Nat}(h:TC X c st (after post (iN X c post n))):iN X c post (n+1) st:=h
def NT(n:Nat)(h:iN X c post n st):TC X (.loop c) st post:=
 TC.loop (λk s=>iN X c post k s) n h λk s h=>by
  cases k with
  |zero=>exact h.elim
  |succ k=>
   refine TC.mono h λe b a=>?_
   cases e with
   |normal=>exact⟨k,ajU k,a⟩
   |_=>exact a
end
def Ih(d:Nat):V->V
 |.loc t o=>bif Nat.beq t d then .m .undef else .loc t o
 |v=>v
def Fz(d:Nat)(sl:List (Nat×V)):List (Nat×V):=sl.map λp=>(p.1,Ih d p.2)
def Ii(d:Nat)(v:V):Ih d v=v\/Ih d v=.m .undef:=by
 cases v with
 |loc t o=>
  show(bif Nat.beq t d then V.m .undef else .loc t o)=_\/(bif Nat.beq t d then V.m .undef else .loc t o)=_;cases Nat.beq t d
  .exact .inl W
  .exact .inr W
 |_=>exact .inl W
def Ax{d:Nat}{v:V} :∀{sl:List (Nat×V)},get (Fz d sl) t=some v->get sl t=some v\/(v=.m .undef/\∃a,get sl t=some a)
 |[],h=>.inl h
 |(k,u)::r,h=>by
  rw[Fz,aiq,bP]at h;rw[bP];split at h
  .next hk=>
   rw[air hk];injection h with h
   subst h;rcases Ii d u with h|h
   .rw[h];exact .inl W
   .exact .inr ⟨h,_,W⟩
  .next hk=>rw[aid hk];exact Ax h
section
variable{X:cQ}{ops:Array Oper}{rest:List Oper}{post:St->Prop}{sl:List (Nat×V)}{bx:List (Nat×List M)}{H:Hp}{d ty:Nat}{pos:String}{af:Array Edge}
def kB{T:Nat}{cs:List M}[n:iY X.P T cs](f:Nat.blt d X.n=true)(g:gP d (Fz d sl)=true)(k:TL X ops rest ⟨(d,.loc d 0)::Fz d sl,(d,cs)::bx,H⟩ post):
  TL X ops (⟨some d,.alloc T,ty,pos,af,none⟩::rest) ⟨sl,bx,H⟩ post:=
 λc w a=>cG f g k c w (by
  obtain⟨e,i,j,a⟩:=a;refine⟨e,i,j,a.hH,a.defers,a.size,λt v h=>?_,a.box,a.og,a.oR,a.oS,a.hinv,a.mono,a.aT⟩;rcases Ax h with b|⟨rfl,l,b⟩
  .exact a.slot t v b
  .obtain⟨u,m,_⟩:=a.slot t l b;exact⟨u,m,.m (.undef _)⟩)
def JJ{a b:Nat}(c:lE X.P a=5)(e:Nat.blt d X.n=true)(f:aS sl x=some (.m (.d .mH)))
  (k:TL X ops rest ⟨(d,.m (.d (.bool true)))::sl,bx,H⟩ post):TL X ops (⟨some d,.binOp .eql a x (.const .nilIface) b,ty,pos,af,none⟩::rest) ⟨sl,bx,H⟩ post:=
 M3 W W e (HT (.inl W) c f W) k
def FA{i:Nat}{es:List (D×M)}(ht:lE X.P t=2)(a:Nat.blt d X.n=true)(b:aS sl x=some (.m (.mp i)))(c:H[i]?=some (.map es))
  (k:TL X ops rest ⟨(d,.m (.d (.int .i64 ((es.length:Nat):Int))))::sl,bx,H⟩ post):TL X ops (⟨some d,.call ⟨.builtin .len,#[x],#[t]⟩,ty,pos,af,none⟩::rest) ⟨sl,bx,H⟩ post:=
 M3 W W a (HW ht b c) k
end
end Go.Mt
