/- The statement is proved, without conditions. -/
import Derived.Test.YtjbigbaipmiihaaGreatL
import Derived.Test.YtjbigbaipmiihaaGreatRows
import Derived.ShutString
import Derived.ChangeOld
import Derived.Deep.Grids
set_option maxRecDepth 4000
set_option linter.all false
namespace Go.Proofs.YtjbigbaipmiihaaGreat.semCallsDone
open Go.ChangeShapes Go.WideShapes Go.ChangeAt Go.RowKit
open Go.ChangeMaps (open_string shut_string)
open Go.Mt Go.Proofs
theorem own:ownKnob Tryz.prog.godebug=none:=by kernel_rfl
theorem laidOut:laidOutB Tryz.prog=true:=by kernel_rfl
theorem walk(w:World)(i:Option Addr)(c j:Nat)(q:List Int)(u:fe .u8 w i c j q)(v:c<=140737488355328)(k:Option Addr)(f l:Nat)(r:List Int)(x:fe .i32 w k f l r)(y:f<=140737488355328)(m:Option Addr)(g n:Nat)(s:Nat->Bool)(z:zE w m g n s)(A:g<=140737488355328):
  Calls Tryz.prog 5 #[.slice i c j,.slice k f l,.slice m g n] w λe w'=>e= .returned (.bool true)/\Below w.heap.size w w':=by
 obtain⟨L,B,C,D⟩:=jA .u8 i c j q w u v;obtain⟨M,E,F,G⟩:=jA .i32 k f l r w x y;obtain⟨N,H,I,J⟩:=J1 m g n s w z A;refine(Sz.A1 L B C M E F N H I (λ_ _=>False) w #[.slice i c j,.slice k f l,.slice m g n] (λ_ _ o=>o.elim) ⟨rfl,?_⟩).mono ?_
 ·intro p d t a b
  match p with
  |0=>simp at a b;subst a;subst b;exact D
  |1=>simp at a b;subst a;subst b;exact G
  |2=>simp at a b;subst a;subst b;exact J
  |p+3=>simp at a
 ·rintro e w' ⟨t,O,rfl,rfl,h,K⟩;refine⟨?_,⟨h.os,h.tape,h.output,h.size,h.cy⟩⟩;cases K with
  |d o=>cases o;rfl
set_option maxRecDepth 100000 in
theorem lifted(J:Os)(f9:J.Started)(H:Type)(enc:TypeId×Value->H):
  ReturnsInHanded {} Tryz.checked J 5 .any (Rows.semCallsSpec.pre6 enc Tryz.prog Tryz.f5 Rows.semCallsRow.domain false) (Rows.semCallsSpec.post enc Tryz.prog Tryz.f5 false true false false):=by
 refine returnsInHanded_of_change_sized (C:=Tryz.checked) own f9 (by kernel_rfl) Tryz.func5
  (ChangeSpec.witness6 (enc:=enc) (C:=Tryz.checked) false ⟨#[],#[.slice none 0 0,.slice none 0 0,.slice none 0 0],[]⟩ 8 (by kernel_rfl) (by kernel_rfl) (by kernel_rfl) (by kernel_rfl)) ?_
 intro k d9 D K gs qr L M ge Xt _;have y: ∀(j:Nat) t v,Tryz.f5.params[j]?=some t->D[j]?=some v->Value.okWide Tryz.prog k .any d9 t v:=L;have z:(DataW.weightsEach Tryz.prog (Tryz.f5.params.toList++Rows.semCallsSpec.plain.varTypes Tryz.prog) (K++gs)).all (·<=reachBytes)=true:=Xt;have co:=M;obtain⟨ac,gc,N,hV,rfl,i6,QJ⟩:=M;have O:DataW.TrodAll enc Tryz.prog k 0 (λ_=>true) true Tryz.f5.params.toList D.toList K ac:=N;rw[Tryz.params5]at O y z;obtain⟨P,i7,d0,i8,p0,q0,YB,rfl,rfl,Q,r0⟩:=trodAll_cons O;obtain⟨R,VK,d1,i9,p1,q1,YC,rfl,rfl,l,r1⟩:=trodAll_cons r0;obtain⟨S,mt,d2,pm,p2,q2,YD,rfl,rfl,h,r2⟩:=trodAll_cons r1;obtain⟨rfl,rfl,rfl⟩:=trodAll_nil r2;obtain rfl:D= #[P,R,S]:=by cases D;simp_all
 obtain⟨rfl,rfl⟩:=trodVars_none hV;have T:=Q;have d6: ∀o∈p0,o.block<k.heap.size:=by obtain⟨m,i⟩:=T;exact DataW.trod_lt m _ _ _ i
 obtain⟨U,d,V,rfl⟩:=okWide_slice Tryz.underlying22 (y 0 22 P W W);obtain⟨z0,w0,Tk⟩: ∃a,fe .u8 k U d V a/\d<=140737488355328:=by
  obtain⟨X,q⟩:=Q;rcases open_ints Tryz.underlying22 Tryz.underlying5 (by kernel_rfl) q with⟨b,_⟩|⟨o,I,c,a,b,_,r,i,s,u,w,F⟩
  ·simp[Value.cells]at b;obtain⟨rfl,rfl,rfl⟩:=b;exact⟨[],.inl ⟨W,W,W,W⟩,by omega⟩
  ·simp[Value.cells]at b;obtain⟨rfl,rfl,rfl⟩:=b;refine⟨a,.inr ⟨_,W,r,i,by simpa using s,w,F⟩,?_⟩;have x:d0= .slice (lits .u8 (a.take d)) (lits .u8 (a.drop d)):=by injection u
   have l:=sized_slice z (j:=0) (t:=22) (elems:=lits .u8 (a.take d)) (spare:=lits .u8 (a.drop d)) W (by rw[x];rfl) Tryz.underlying22;have h: ∃g,Tryz.prog.bytesOf 5=g+1:=⟨0,by kernel_rfl⟩;obtain⟨g,h⟩:=h;rw[h]at l;have Y:=reachBytes_lt;have G:(lits (H:=H) .u8 (a.take d)).length=d:=by
    simp[lits];simp at s;omega
   have h5:d<=d*(g+1):=avr _ (by omega);have h6:(lits (H:=H) .u8 (a.take d)).length*(g+1)=d*(g+1):=by rw[G]
   have h7:(lits (H:=H) .u8 (a.take d)).length*(g+1)<=((lits (H:=H) .u8 (a.take d)).length+(lits (H:=H) .u8 (a.drop d)).length)*(g+1):=avk _ (avN _ _);omega
 have Z:=l;have d7: ∀o∈p1,o.block<k.heap.size:=by obtain⟨m,i⟩:=Z;exact DataW.trod_lt m _ _ _ i
 obtain⟨a1,f,QS,rfl⟩:=okWide_slice Tryz.underlying23 (y 1 23 R W W);obtain⟨z1,w1,Vv⟩: ∃a,fe .i32 k a1 f QS a/\f<=140737488355328:=by
  obtain⟨X,q⟩:=l;rcases open_ints Tryz.underlying23 Tryz.underlying21 (by kernel_rfl) q with⟨b,_⟩|⟨o,I,c,a,b,_,r,i,s,u,w,F⟩
  ·simp[Value.cells]at b;obtain⟨rfl,rfl,rfl⟩:=b;exact⟨[],.inl ⟨W,W,W,W⟩,by omega⟩
  ·simp[Value.cells]at b;obtain⟨rfl,rfl,rfl⟩:=b;refine⟨a,.inr ⟨_,W,r,i,by simpa using s,w,F⟩,?_⟩;have x:d1= .slice (lits .i32 (a.take f)) (lits .i32 (a.drop f)):=by injection u
   have l:=sized_slice z (j:=1) (t:=23) (elems:=lits .i32 (a.take f)) (spare:=lits .i32 (a.drop f)) W (by rw[x];rfl) Tryz.underlying23;have h: ∃g,Tryz.prog.bytesOf 21=g+1:=⟨3,by kernel_rfl⟩;obtain⟨g,h⟩:=h;rw[h]at l;have Y:=reachBytes_lt;have G:(lits (H:=H) .i32 (a.take f)).length=f:=by
    simp[lits];simp at s;omega
   have h5:f<=f*(g+1):=avr _ (by omega);have h6:(lits (H:=H) .i32 (a.take f)).length*(g+1)=f*(g+1):=by rw[G]
   have h7:(lits (H:=H) .i32 (a.take f)).length*(g+1)<=((lits (H:=H) .i32 (a.take f)).length+(lits (H:=H) .i32 (a.drop f)).length)*(g+1):=avk _ (avN _ _);omega
 have k2:=h;have d8: ∀o∈p2,o.block<k.heap.size:=by obtain⟨m,i⟩:=k2;exact DataW.trod_lt m _ _ _ i
 obtain⟨a2,n,A,rfl⟩:=okWide_slice Tryz.underlying55 (y 2 55 S W W);obtain⟨B2,w2,WL⟩: ∃p,zE k a2 n A p/\n<=140737488355328:=by
  obtain⟨X,q⟩:=h;rcases Deep.open_bools Tryz.underlying55 Tryz.underlying4 (by kernel_rfl) q with⟨b,_⟩|⟨o,I,c,p,b,_,r,i,u,w⟩
  ·simp[Value.cells]at b;obtain⟨rfl,rfl,rfl⟩:=b;exact⟨λ_=>false,.inl ⟨rfl,rfl,rfl⟩,by omega⟩
  ·simp[Value.cells]at b;obtain⟨rfl,rfl,rfl⟩:=b;refine⟨p,.inr ⟨_,W,r,i,w⟩,?_⟩;have x:d2= .slice ((List.range n).map λE=> .lit (.bool (p E))) ((List.range (A-n)).map λj=> .lit (.bool (p (n+j)))):=by injection u
   have l:=sized_slice z (j:=2) (t:=55) (elems:=(List.range n).map λE=> .lit (.bool (p E))) (spare:=(List.range (A-n)).map λj=> .lit (.bool (p (n+j)))) W (by rw[x];rfl) Tryz.underlying55;have h:Tryz.prog.bytesOf 4=1:=by kernel_rfl
   rw[h]at l;have Y:=reachBytes_lt;simp at l;omega
 clear N L;refine(walk k U d V z0 w0 Tk a1 f QS z1 w1 Vv a2 n A B2 w2 WL).mono λe W' ⟨he,B⟩=> ?_
 subst he;exact⟨_,W,_,_,_,[],_,[],co,trodAll_mk1 (shut_bool Tryz.underlying4 _),(trodAll_cons_mk (Below.trod laidOut (by kernel_rfl) (auV (by kernel_rfl)) T B d6) (trodAll_cons_mk (Below.trod laidOut (by kernel_rfl) (auV (by kernel_rfl)) Z B d7) (trodAll_cons_mk (Below.trod laidOut (by kernel_rfl) (auV (by kernel_rfl)) k2 B d8) trodAll_mk0))),rfl,B.frame _,λah=>by cases ah⟩
theorem wW:Rows.semCallsRow.holds Tryz.pinned (OpenSpec.ofChange Rows.semCallsSpec):=
 OpenClaim.holds_of_wide 5 Tryz.f5 W W W W W W W ⟨rfl,rfl,rfl,rfl,rfl⟩ W W W W W (by kernel_rfl) Tryz.func5 (by kernel_rfl)
  (auV (by kernel_rfl)) (by unfold Func.isWrapper;first|(rw[au2 (by decide+kernel)];kernel_rfl)|(rw[auU (by decide+kernel)];exact⟨W,W⟩))
  (λb d a c _=>lifted b d a c)
theorem proved:Rows.SemCallsSaid:=wW
#print axioms proved
end Go.Proofs.YtjbigbaipmiihaaGreat.semCallsDone
