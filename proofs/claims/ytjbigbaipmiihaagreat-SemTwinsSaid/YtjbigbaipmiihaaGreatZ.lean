/- The statement is proved, without conditions. -/
import Derived.Test.YtjbigbaipmiihaaGreatK
import Derived.Test.YtjbigbaipmiihaaGreatRows
import Derived.ShutString
import Derived.ChangeOld
import Derived.SizedLaws
import Derived.Deep.Grids
set_option maxRecDepth 4000
set_option linter.all false
namespace Go.Proofs.YtjbigbaipmiihaaGreat.semTwinsDone
open Go.ChangeShapes Go.WideShapes Go.ChangeAt Go.RowKit
open Go.ChangeMaps (open_string shut_string)
open Go.Mt Go.Proofs
theorem own:ownKnob Tryz.prog.godebug=none:=by kernel_rfl
theorem laidOut:laidOutB Tryz.prog=true:=by kernel_rfl
theorem walk(w:World)(i:Option Addr)(c j:Nat)(q:List Int)(u:qJ .u8 w i c j q)(v:c<=140737488355328)(k:Option Addr)(f l:Nat)(r:List Int)(x:qJ .i32 w k f l r)(y:f<=140737488355328)(m:Option Addr)(g n:Nat)(s:List Int)(z:qJ .i32 w m g n s)(A:g<=140737488355328):
  Calls Tryz.prog 6 #[.slice i c j,.slice k f l,.slice m g n] w λe w'=>e= .returned (.bool true)/\Below w.heap.size w w':=by
 obtain⟨H,B,I,J⟩:=xJ .u8 i c j q w u v;obtain⟨K,C,D,L⟩:=xJ .i32 k f l r w x y;obtain⟨M,E,F,N⟩:=xJ .i32 m g n s w z A;refine(Sz.y' H B I K C D M E F (λ_ _=>False) w #[.slice i c j,.slice k f l,.slice m g n] (λ_ _ o=>o.elim) ⟨rfl,?_⟩).mono ?_
 ·intro p d t a b
  match p with
  |0=>simp at a b;subst a;subst b;exact J
  |1=>simp at a b;subst a;subst b;exact L
  |2=>simp at a b;subst a;subst b;exact N
  |p+3=>simp at a
 ·rintro e w' ⟨t,O,rfl,rfl,h,G⟩;refine⟨?_,⟨h.os,h.tape,h.output,h.size,h.cp⟩⟩;cases G with
  |d o=>cases o;rfl
set_option maxRecDepth 100000 in
theorem lifted(F:Os)(ge:F.Started)(H:Type)(enc:TypeId×Value->H):
  ReturnsInHanded {} Tryz.checked F 6 .any (Rows.semTwinsSpec.pre6 enc Tryz.prog Tryz.f6 Rows.semTwinsRow.domain false) (Rows.semTwinsSpec.post enc Tryz.prog Tryz.f6 false true false false):=by
 refine returnsInHanded_of_change_sized (C:=Tryz.checked) own ge (by kernel_rfl) Tryz.func6
  (ChangeSpec.witness6 (enc:=enc) (C:=Tryz.checked) false ⟨#[],#[.slice none 0 0,.slice none 0 0,.slice none 0 0],[]⟩ 8 (by kernel_rfl) (by kernel_rfl) (by kernel_rfl) (by kernel_rfl)) ?_
 intro l gc D G gs t2 ac I i7 d7 _;have z: ∀(j:Nat) t v,Tryz.f6.params[j]?=some t->D[j]?=some v->Value.okWide Tryz.prog l .any gc t v:=ac;have A:(DataW.weightsEach Tryz.prog (Tryz.f6.params.toList++Rows.semTwinsSpec.plain.varTypes Tryz.prog) (G++gs)).all (·<=reachBytes)=true:=d7;have d8:=I;obtain⟨co,i6,J,hV,rfl,i8,N4⟩:=I;have K:DataW.TrodAll enc Tryz.prog l 0 (λ_=>true) true Tryz.f6.params.toList D.toList G co:=J;rw[Tryz.params6]at K z A;obtain⟨L,i9,d0,mt,p0,q0,pm,rfl,rfl,M,r0⟩:=trodAll_cons K;obtain⟨N,To,d1,qr,p1,q1,rg,rfl,rfl,o,r1⟩:=trodAll_cons r0;obtain⟨O,rt,d2,rx,p2,q2,t1,rfl,rfl,i,r2⟩:=trodAll_cons r1;obtain⟨rfl,rfl,rfl⟩:=trodAll_nil r2;obtain rfl:D= #[L,N,O]:=by cases D;simp_all
 obtain⟨rfl,rfl⟩:=trodVars_none hV;have P:=M;have d9: ∀n∈p0,n.block<l.heap.size:=by obtain⟨m,k⟩:=P;exact DataW.trod_lt m _ _ _ k
 obtain⟨Q,f,R,rfl⟩:=okWide_slice Tryz.underlying22 (z 0 22 L W W);obtain⟨z0,w0,UI⟩: ∃a,qJ .u8 l Q f R a/\f<=140737488355328:=by
  obtain⟨S,q⟩:=M;rcases open_ints Tryz.underlying22 Tryz.underlying5 (by kernel_rfl) q with⟨d,_⟩|⟨n,E,c,a,d,_,r,k,p,s,u,w⟩
  ·simp[Value.cells]at d;obtain⟨rfl,rfl,rfl⟩:=d;exact⟨[],.inl ⟨rfl,rfl,rfl,rfl⟩,by omega⟩
  ·simp[Value.cells]at d;obtain⟨rfl,rfl,rfl⟩:=d;refine⟨a,.inr ⟨_,rfl,r,k,by simpa using p,u,w⟩,?_⟩;have x:d0= .slice (lits .u8 (a.take f)) (lits .u8 (a.drop f)):=by injection s
   have o:=sized_slice A (j:=0) (t:=22) (elems:=lits .u8 (a.take f)) (spare:=lits .u8 (a.drop f)) W (by rw[x];rfl) Tryz.underlying22;have i: ∃b,Tryz.prog.bytesOf 5=b+1:=⟨0,by kernel_rfl⟩;obtain⟨b,i⟩:=i;rw[i]at o;have T:=reachBytes_lt;have y:(lits (H:=H) .u8 (a.take f)).length=f:=by
    simp[lits];simp at p;omega
   have U:f<=f*(b+1):=arE _ (by omega);have V:(lits (H:=H) .u8 (a.take f)).length*(b+1)=f*(b+1):=by rw[y]
   have X:(lits (H:=H) .u8 (a.take f)).length*(b+1)<=((lits (H:=H) .u8 (a.take f)).length+(lits (H:=H) .u8 (a.drop f)).length)*(b+1):=aqW _ (arT _ _);omega
 have Y:=o;have f4: ∀n∈p1,n.block<l.heap.size:=by obtain⟨m,k⟩:=Y;exact DataW.trod_lt m _ _ _ k
 obtain⟨Z,g,Si,rfl⟩:=okWide_slice Tryz.underlying23 (z 1 23 N W W);obtain⟨z1,w1,f7⟩: ∃a,qJ .i32 l Z g Si a/\g<=140737488355328:=by
  obtain⟨S,q⟩:=o;rcases open_ints Tryz.underlying23 Tryz.underlying21 (by kernel_rfl) q with⟨d,_⟩|⟨n,E,c,a,d,_,r,k,p,s,u,w⟩
  ·simp[Value.cells]at d;obtain⟨rfl,rfl,rfl⟩:=d;exact⟨[],.inl ⟨rfl,rfl,rfl,rfl⟩,by omega⟩
  ·simp[Value.cells]at d;obtain⟨rfl,rfl,rfl⟩:=d;refine⟨a,.inr ⟨_,rfl,r,k,by simpa using p,u,w⟩,?_⟩;have x:d1= .slice (lits .i32 (a.take g)) (lits .i32 (a.drop g)):=by injection s
   have o:=sized_slice A (j:=1) (t:=23) (elems:=lits .i32 (a.take g)) (spare:=lits .i32 (a.drop g)) W (by rw[x];rfl) Tryz.underlying23;have i: ∃b,Tryz.prog.bytesOf 21=b+1:=⟨3,by kernel_rfl⟩;obtain⟨b,i⟩:=i;rw[i]at o;have T:=reachBytes_lt;have y:(lits (H:=H) .i32 (a.take g)).length=g:=by
    simp[lits];simp at p;omega
   have U:g<=g*(b+1):=arE _ (by omega);have V:(lits (H:=H) .i32 (a.take g)).length*(b+1)=g*(b+1):=by rw[y]
   have X:(lits (H:=H) .i32 (a.take g)).length*(b+1)<=((lits (H:=H) .i32 (a.take g)).length+(lits (H:=H) .i32 (a.drop g)).length)*(b+1):=aqW _ (arT _ _);omega
 have k2:=i;have f8: ∀n∈p2,n.block<l.heap.size:=by obtain⟨m,k⟩:=k2;exact DataW.trod_lt m _ _ _ k
 obtain⟨a2,h,Vk,rfl⟩:=okWide_slice Tryz.underlying23 (z 2 23 O W W);obtain⟨z2,w2,f9⟩: ∃a,qJ .i32 l a2 h Vk a/\h<=140737488355328:=by
  obtain⟨S,q⟩:=i;rcases open_ints Tryz.underlying23 Tryz.underlying21 (by kernel_rfl) q with⟨d,_⟩|⟨n,E,c,a,d,_,r,k,p,s,u,w⟩
  ·simp[Value.cells]at d;obtain⟨rfl,rfl,rfl⟩:=d;exact⟨[],.inl ⟨rfl,rfl,rfl,rfl⟩,by omega⟩
  ·simp[Value.cells]at d;obtain⟨rfl,rfl,rfl⟩:=d;refine⟨a,.inr ⟨_,rfl,r,k,by simpa using p,u,w⟩,?_⟩;have x:d2= .slice (lits .i32 (a.take h)) (lits .i32 (a.drop h)):=by injection s
   have o:=sized_slice A (j:=2) (t:=23) (elems:=lits .i32 (a.take h)) (spare:=lits .i32 (a.drop h)) W (by rw[x];rfl) Tryz.underlying23;have i: ∃b,Tryz.prog.bytesOf 21=b+1:=⟨3,by kernel_rfl⟩;obtain⟨b,i⟩:=i;rw[i]at o;have T:=reachBytes_lt;have y:(lits (H:=H) .i32 (a.take h)).length=h:=by
    simp[lits];simp at p;omega
   have U:h<=h*(b+1):=arE _ (by omega);have V:(lits (H:=H) .i32 (a.take h)).length*(b+1)=h*(b+1):=by rw[y]
   have X:(lits (H:=H) .i32 (a.take h)).length*(b+1)<=((lits (H:=H) .i32 (a.take h)).length+(lits (H:=H) .i32 (a.drop h)).length)*(b+1):=aqW _ (arT _ _);omega
 clear J ac;refine(walk l Q f R z0 w0 UI Z g Si z1 w1 f7 a2 h Vk z2 w2 f9).mono λe W' ⟨he,B⟩=> ?_
 subst he;exact⟨_,rfl,_,_,_,[],_,[],d8,trodAll_mk1 (shut_bool Tryz.underlying4 _),(trodAll_cons_mk (Below.trod laidOut (by kernel_rfl) (aqv (by kernel_rfl)) P B d9) (trodAll_cons_mk (Below.trod laidOut (by kernel_rfl) (aqv (by kernel_rfl)) Y B f4) (trodAll_cons_mk (Below.trod laidOut (by kernel_rfl) (aqv (by kernel_rfl)) k2 B f8) trodAll_mk0))),rfl,B.frame _,λd6=>by cases d6⟩
theorem Ma:Rows.semTwinsRow.holds Tryz.pinned (OpenSpec.ofChange Rows.semTwinsSpec):=
 OpenClaim.holds_of_wide 6 Tryz.f6 W W W W W W W ⟨rfl,rfl,rfl,rfl,rfl⟩ W W W W W (by kernel_rfl) Tryz.func6 (by kernel_rfl)
  (aqv (by kernel_rfl)) (by unfold Func.isWrapper;first|(rw[aqy (by decide+kernel)];kernel_rfl)|(rw[aqo (by decide+kernel)];exact⟨rfl,rfl⟩))
  (λb d a c _=>lifted b d a c)
theorem proved:Rows.SemTwinsSaid:=Ma
#print axioms proved
end Go.Proofs.YtjbigbaipmiihaaGreat.semTwinsDone
