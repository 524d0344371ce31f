/- The statement is proved, without conditions. -/
import Derived.Test.YtjbigbaipmiihaaGreatL
import Derived.Test.YtjbigbaipmiihaaGreatRows
import Derived.ShutString
import Derived.ChangeOld
import Derived.SizedLaws
import Derived.Deep.Grids
set_option maxRecDepth 4000
set_option linter.all false
namespace Go.Proofs.YtjbigbaipmiihaaGreat.semResetsDone
open Go.ChangeShapes Go.WideShapes Go.ChangeAt Go.RowKit
open Go.ChangeMaps (open_string shut_string)
open Go.Mt Go.Proofs
theorem own:ownKnob Tryz.prog.godebug=none:=by kernel_rfl
theorem laidOut:laidOutB Tryz.prog=true:=by kernel_rfl
theorem walk(w:World)(i:Option Addr)(c j:Nat)(q:List Int)(u:fe .u8 w i c j q)(v:c<=140737488355328)(k:Option Addr)(f l:Nat)(r:List Int)(x:fe .i32 w k f l r)(y:f<=140737488355328)(m:Option Addr)(g n:Nat)(s:List Int)(z:fe .i32 w m g n s)(A:g<=140737488355328):
  Calls Tryz.prog 8 #[.slice i c j,.slice k f l,.slice m g n] w λe w'=>e= .returned (.bool true)/\Below w.heap.size w w':=by
 obtain⟨L,B,C,D⟩:=jA .u8 i c j q w u v;obtain⟨M,E,F,G⟩:=jA .i32 k f l r w x y;obtain⟨N,H,I,J⟩:=jA .i32 m g n s w z A;refine(Sz.yr L B C M E F N H I (λ_ _=>False) w #[.slice i c j,.slice k f l,.slice m g n] (λ_ _ o=>o.elim) ⟨rfl,?_⟩).mono ?_
 ·intro p d t a b
  match p with
  |0=>simp at a b;subst a;subst b;exact D
  |1=>simp at a b;subst a;subst b;exact G
  |2=>simp at a b;subst a;subst b;exact J
  |p+3=>simp at a
 ·rintro e w' ⟨t,O,rfl,rfl,h,K⟩;refine⟨?_,⟨h.os,h.tape,h.output,h.size,h.cy⟩⟩;cases K with
  |d o=>cases o;rfl
set_option maxRecDepth 100000 in
theorem lifted(F:Os)(f9:F.Started)(H:Type)(enc:TypeId×Value->H):
  ReturnsInHanded {} Tryz.checked F 8 .any (Rows.semResetsSpec.pre6 enc Tryz.prog Tryz.f8 Rows.semResetsRow.domain false) (Rows.semResetsSpec.post enc Tryz.prog Tryz.f8 false true false false):=by
 refine returnsInHanded_of_change_sized (C:=Tryz.checked) own f9 (by kernel_rfl) Tryz.func8
  (ChangeSpec.witness6 (enc:=enc) (C:=Tryz.checked) false ⟨#[],#[.slice none 0 0,.slice none 0 0,.slice none 0 0],[]⟩ 8 (by kernel_rfl) (by kernel_rfl) (by kernel_rfl) (by kernel_rfl)) ?_
 intro l d9 D G gs qr I J ge Xt _;have z: ∀(j:Nat) t v,Tryz.f8.params[j]?=some t->D[j]?=some v->Value.okWide Tryz.prog l .any d9 t v:=I;have A:(DataW.weightsEach Tryz.prog (Tryz.f8.params.toList++Rows.semResetsSpec.plain.varTypes Tryz.prog) (G++gs)).all (·<=reachBytes)=true:=Xt;have co:=J;obtain⟨ac,gc,K,hV,rfl,i6,QJ⟩:=J;have L:DataW.TrodAll enc Tryz.prog l 0 (λ_=>true) true Tryz.f8.params.toList D.toList G ac:=K;rw[Tryz.params8]at L z A;obtain⟨M,i7,d0,i8,p0,q0,YB,rfl,rfl,N,r0⟩:=trodAll_cons L;obtain⟨O,VK,d1,i9,p1,q1,YC,rfl,rfl,o,r1⟩:=trodAll_cons r0;obtain⟨P,mt,d2,pm,p2,q2,YD,rfl,rfl,i,r2⟩:=trodAll_cons r1;obtain⟨rfl,rfl,rfl⟩:=trodAll_nil r2;obtain rfl:D= #[M,O,P]:=by cases D;simp_all
 obtain⟨rfl,rfl⟩:=trodVars_none hV;have Q:=N;have d6: ∀n∈p0,n.block<l.heap.size:=by obtain⟨m,k⟩:=Q;exact DataW.trod_lt m _ _ _ k
 obtain⟨R,f,S,rfl⟩:=okWide_slice Tryz.underlying22 (z 0 22 M W W);obtain⟨z0,w0,Tk⟩: ∃a,fe .u8 l R f S a/\f<=140737488355328:=by
  obtain⟨T,q⟩:=N;rcases open_ints Tryz.underlying22 Tryz.underlying5 (by kernel_rfl) q with⟨d,_⟩|⟨n,E,c,a,d,_,r,k,p,s,u,w⟩
  ·simp[Value.cells]at d;obtain⟨rfl,rfl,rfl⟩:=d;exact⟨[],.inl ⟨W,W,W,W⟩,by omega⟩
  ·simp[Value.cells]at d;obtain⟨rfl,rfl,rfl⟩:=d;refine⟨a,.inr ⟨_,W,r,k,by simpa using p,u,w⟩,?_⟩;have x:d0= .slice (lits .u8 (a.take f)) (lits .u8 (a.drop f)):=by injection s
   have o:=sized_slice A (j:=0) (t:=22) (elems:=lits .u8 (a.take f)) (spare:=lits .u8 (a.drop f)) W (by rw[x];rfl) Tryz.underlying22;have i: ∃b,Tryz.prog.bytesOf 5=b+1:=⟨0,by kernel_rfl⟩;obtain⟨b,i⟩:=i;rw[i]at o;have U:=reachBytes_lt;have y:(lits (H:=H) .u8 (a.take f)).length=f:=by
    simp[lits];simp at p;omega
   have V:f<=f*(b+1):=avr _ (by omega);have X:(lits (H:=H) .u8 (a.take f)).length*(b+1)=f*(b+1):=by rw[y]
   have Y:(lits (H:=H) .u8 (a.take f)).length*(b+1)<=((lits (H:=H) .u8 (a.take f)).length+(lits (H:=H) .u8 (a.drop f)).length)*(b+1):=avk _ (avN _ _);omega
 have Z:=o;have d7: ∀n∈p1,n.block<l.heap.size:=by obtain⟨m,k⟩:=Z;exact DataW.trod_lt m _ _ _ k
 obtain⟨a1,g,QS,rfl⟩:=okWide_slice Tryz.underlying23 (z 1 23 O W W);obtain⟨z1,w1,Vv⟩: ∃a,fe .i32 l a1 g QS a/\g<=140737488355328:=by
  obtain⟨T,q⟩:=o;rcases open_ints Tryz.underlying23 Tryz.underlying21 (by kernel_rfl) q with⟨d,_⟩|⟨n,E,c,a,d,_,r,k,p,s,u,w⟩
  ·simp[Value.cells]at d;obtain⟨rfl,rfl,rfl⟩:=d;exact⟨[],.inl ⟨W,W,W,W⟩,by omega⟩
  ·simp[Value.cells]at d;obtain⟨rfl,rfl,rfl⟩:=d;refine⟨a,.inr ⟨_,W,r,k,by simpa using p,u,w⟩,?_⟩;have x:d1= .slice (lits .i32 (a.take g)) (lits .i32 (a.drop g)):=by injection s
   have o:=sized_slice A (j:=1) (t:=23) (elems:=lits .i32 (a.take g)) (spare:=lits .i32 (a.drop g)) W (by rw[x];rfl) Tryz.underlying23;have i: ∃b,Tryz.prog.bytesOf 21=b+1:=⟨3,by kernel_rfl⟩;obtain⟨b,i⟩:=i;rw[i]at o;have U:=reachBytes_lt;have y:(lits (H:=H) .i32 (a.take g)).length=g:=by
    simp[lits];simp at p;omega
   have V:g<=g*(b+1):=avr _ (by omega);have X:(lits (H:=H) .i32 (a.take g)).length*(b+1)=g*(b+1):=by rw[y]
   have Y:(lits (H:=H) .i32 (a.take g)).length*(b+1)<=((lits (H:=H) .i32 (a.take g)).length+(lits (H:=H) .i32 (a.drop g)).length)*(b+1):=avk _ (avN _ _);omega
 have k2:=i;have d8: ∀n∈p2,n.block<l.heap.size:=by obtain⟨m,k⟩:=k2;exact DataW.trod_lt m _ _ _ k
 obtain⟨a2,h,Rt,rfl⟩:=okWide_slice Tryz.underlying23 (z 2 23 P W W);obtain⟨z2,w2,WL⟩: ∃a,fe .i32 l a2 h Rt a/\h<=140737488355328:=by
  obtain⟨T,q⟩:=i;rcases open_ints Tryz.underlying23 Tryz.underlying21 (by kernel_rfl) q with⟨d,_⟩|⟨n,E,c,a,d,_,r,k,p,s,u,w⟩
  ·simp[Value.cells]at d;obtain⟨rfl,rfl,rfl⟩:=d;exact⟨[],.inl ⟨W,W,W,W⟩,by omega⟩
  ·simp[Value.cells]at d;obtain⟨rfl,rfl,rfl⟩:=d;refine⟨a,.inr ⟨_,W,r,k,by simpa using p,u,w⟩,?_⟩;have x:d2= .slice (lits .i32 (a.take h)) (lits .i32 (a.drop h)):=by injection s
   have o:=sized_slice A (j:=2) (t:=23) (elems:=lits .i32 (a.take h)) (spare:=lits .i32 (a.drop h)) W (by rw[x];rfl) Tryz.underlying23;have i: ∃b,Tryz.prog.bytesOf 21=b+1:=⟨3,by kernel_rfl⟩;obtain⟨b,i⟩:=i;rw[i]at o;have U:=reachBytes_lt;have y:(lits (H:=H) .i32 (a.take h)).length=h:=by
    simp[lits];simp at p;omega
   have V:h<=h*(b+1):=avr _ (by omega);have X:(lits (H:=H) .i32 (a.take h)).length*(b+1)=h*(b+1):=by rw[y]
   have Y:(lits (H:=H) .i32 (a.take h)).length*(b+1)<=((lits (H:=H) .i32 (a.take h)).length+(lits (H:=H) .i32 (a.drop h)).length)*(b+1):=avk _ (avN _ _);omega
 clear K I;refine(walk l R f S z0 w0 Tk a1 g QS z1 w1 Vv a2 h Rt z2 w2 WL).mono λe W' ⟨he,B⟩=> ?_
 subst he;exact⟨_,W,_,_,_,[],_,[],co,trodAll_mk1 (shut_bool Tryz.underlying4 _),(trodAll_cons_mk (Below.trod laidOut (by kernel_rfl) (auV (by kernel_rfl)) Q B d6) (trodAll_cons_mk (Below.trod laidOut (by kernel_rfl) (auV (by kernel_rfl)) Z B d7) (trodAll_cons_mk (Below.trod laidOut (by kernel_rfl) (auV (by kernel_rfl)) k2 B d8) trodAll_mk0))),rfl,B.frame _,λah=>by cases ah⟩
theorem wW:Rows.semResetsRow.holds Tryz.pinned (OpenSpec.ofChange Rows.semResetsSpec):=
 OpenClaim.holds_of_wide 8 Tryz.f8 W W W W W W W ⟨rfl,rfl,rfl,rfl,rfl⟩ W W W W W (by kernel_rfl) Tryz.func8 (by kernel_rfl)
  (auV (by kernel_rfl)) (by unfold Func.isWrapper;first|(rw[au2 (by decide+kernel)];kernel_rfl)|(rw[auU (by decide+kernel)];exact⟨W,W⟩))
  (λb d a c _=>lifted b d a c)
theorem proved:Rows.SemResetsSaid:=wW
#print axioms proved
end Go.Proofs.YtjbigbaipmiihaaGreat.semResetsDone
