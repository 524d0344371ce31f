/- The statement is proved, without conditions. -/
import Derived.Test.YtjbigbaipmiihaaGreatL
import Derived.Test.YtjbigbaipmiihaaGreatRows
import Derived.ShutString
import Derived.ChangeOld
import Derived.Deep.Grids
set_option maxRecDepth 4000
set_option linter.all false
namespace Go.Proofs.YtjbigbaipmiihaaGreat.semInputsDone
open Go.ChangeShapes Go.WideShapes Go.ChangeAt Go.RowKit
open Go.ChangeMaps (open_string shut_string)
open Go.Mt Go.Proofs
theorem own:ownKnob Tryz.prog.godebug=none:=by kernel_rfl
theorem laidOut:laidOutB Tryz.prog=true:=by kernel_rfl
theorem walk(w:World)(i:Option Addr)(c j:Nat)(q:List Int)(t:fe .u8 w i c j q)(u:c<=140737488355328)(k:Option Addr)(f l:Nat)(r:List Int)(v:fe .i32 w k f l r)(x:f<=140737488355328)(m:Option Addr)(g n:Nat)(y:yL .i32 w m g n)(z:g<=140737488355328):
  Calls Tryz.prog 4 #[.slice i c j,.slice k f l,.slice m g n] w λe w'=>e= .returned (.bool true)/\Below w.heap.size w w':=by
 obtain⟨K,A,B,C⟩:=jA .u8 i c j q w t u;obtain⟨L,D,E,F⟩:=jA .i32 k f l r w v x;obtain⟨M,G,H,I⟩:=Lt .i32 m g n w y z;refine(Sz.yu K A B L D E M G H (λ_ _=>False) w #[.slice i c j,.slice k f l,.slice m g n] (λ_ _ o=>o.elim) ⟨rfl,?_⟩).mono ?_
 ·intro p d s a b
  match p with
  |0=>simp at a b;subst a;subst b;exact C
  |1=>simp at a b;subst a;subst b;exact F
  |2=>simp at a b;subst a;subst b;exact I
  |p+3=>simp at a
 ·rintro e w' ⟨s,N,rfl,rfl,h,J⟩;refine⟨?_,⟨h.os,h.tape,h.output,h.size,h.cy⟩⟩;cases J with
  |d o=>cases o;rfl
set_option maxRecDepth 100000 in
theorem lifted(E:Os)(gc:E.Started)(H:Type)(enc:TypeId×Value->H):
  ReturnsInHanded {} Tryz.checked E 4 .any (Rows.semInputsSpec.pre6 enc Tryz.prog Tryz.f4 Rows.semInputsRow.domain false) (Rows.semInputsSpec.post enc Tryz.prog Tryz.f4 false true false false):=by
 refine returnsInHanded_of_change_sized (C:=Tryz.checked) own gc (by kernel_rfl) Tryz.func4
  (ChangeSpec.witness6 (enc:=enc) (C:=Tryz.checked) false ⟨#[],#[.slice none 0 0,.slice none 0 0,.slice none 0 0],[]⟩ 8 (by kernel_rfl) (by kernel_rfl) (by kernel_rfl) (by kernel_rfl)) ?_
 intro h f9 s F gs rg G I i6 Xt _;have p: ∀(j:Nat) t v,Tryz.f4.params[j]?=some t->s[j]?=some v->Value.okWide Tryz.prog h .any f9 t v:=G;have q:(DataW.weightsEach Tryz.prog (Tryz.f4.params.toList++Rows.semInputsSpec.plain.varTypes Tryz.prog) (F++gs)).all (·<=reachBytes)=true:=Xt;have d6:=I;obtain⟨ac,ge,J,hV,rfl,i7,QJ⟩:=I;have K:DataW.TrodAll enc Tryz.prog h 0 (λ_=>true) true Tryz.f4.params.toList s.toList F ac:=J;rw[Tryz.params4]at K p q;obtain⟨L,i8,d0,i9,p0,q0,YB,rfl,rfl,M,r0⟩:=trodAll_cons K;obtain⟨N,VK,d1,mt,p1,q1,YC,rfl,rfl,l,r1⟩:=trodAll_cons r0;obtain⟨O,pm,d2,qr,p2,q2,YD,rfl,rfl,g,r2⟩:=trodAll_cons r1;obtain⟨rfl,rfl,rfl⟩:=trodAll_nil r2;obtain rfl:s= #[L,N,O]:=by cases s;simp_all
 obtain⟨rfl,rfl⟩:=trodVars_none hV;have P:=M;have d7: ∀k∈p0,k.block<h.heap.size:=by obtain⟨m,i⟩:=P;exact DataW.trod_lt m _ _ _ i
 obtain⟨Q,b,R,rfl⟩:=okWide_slice Tryz.underlying22 (p 0 22 L W W);obtain⟨z0,w0,Tk⟩: ∃a,fe .u8 h Q b R a/\b<=140737488355328:=by
  obtain⟨S,n⟩:=M;rcases open_ints Tryz.underlying22 Tryz.underlying5 (by kernel_rfl) n with⟨f,_⟩|⟨k,ah,c,a,f,_,u,i,o,w,x,y⟩
  ·simp[Value.cells]at f;obtain⟨rfl,rfl,rfl⟩:=f;exact⟨[],.inl ⟨W,W,W,W⟩,by omega⟩
  ·simp[Value.cells]at f;obtain⟨rfl,rfl,rfl⟩:=f;refine⟨a,.inr ⟨_,W,u,i,by simpa using o,x,y⟩,?_⟩;have z:d0= .slice (lits .u8 (a.take b)) (lits .u8 (a.drop b)):=by injection w
   have l:=sized_slice q (j:=0) (t:=22) (elems:=lits .u8 (a.take b)) (spare:=lits .u8 (a.drop b)) W (by rw[z];rfl) Tryz.underlying22;have g: ∃nb,Tryz.prog.bytesOf 5=nb+1:=⟨0,by kernel_rfl⟩;obtain⟨nb,g⟩:=g;rw[g]at l;have h3:=reachBytes_lt;have A:(lits (H:=H) .u8 (a.take b)).length=b:=by
    simp[lits];simp at o;omega
   have h5:b<=b*(nb+1):=avr _ (by omega);have h6:(lits (H:=H) .u8 (a.take b)).length*(nb+1)=b*(nb+1):=by rw[A]
   have h7:(lits (H:=H) .u8 (a.take b)).length*(nb+1)<=((lits (H:=H) .u8 (a.take b)).length+(lits (H:=H) .u8 (a.drop b)).length)*(nb+1):=avk _ (avN _ _);omega
 have T:=l;have d8: ∀k∈p1,k.block<h.heap.size:=by obtain⟨m,i⟩:=T;exact DataW.trod_lt m _ _ _ i
 obtain⟨U,d,V,rfl⟩:=okWide_slice Tryz.underlying23 (p 1 23 N W W);obtain⟨z1,w1,Vv⟩: ∃a,fe .i32 h U d V a/\d<=140737488355328:=by
  obtain⟨S,n⟩:=l;rcases open_ints Tryz.underlying23 Tryz.underlying21 (by kernel_rfl) n with⟨f,_⟩|⟨k,ah,c,a,f,_,u,i,o,w,x,y⟩
  ·simp[Value.cells]at f;obtain⟨rfl,rfl,rfl⟩:=f;exact⟨[],.inl ⟨W,W,W,W⟩,by omega⟩
  ·simp[Value.cells]at f;obtain⟨rfl,rfl,rfl⟩:=f;refine⟨a,.inr ⟨_,W,u,i,by simpa using o,x,y⟩,?_⟩;have z:d1= .slice (lits .i32 (a.take d)) (lits .i32 (a.drop d)):=by injection w
   have l:=sized_slice q (j:=1) (t:=23) (elems:=lits .i32 (a.take d)) (spare:=lits .i32 (a.drop d)) W (by rw[z];rfl) Tryz.underlying23;have g: ∃nb,Tryz.prog.bytesOf 21=nb+1:=⟨3,by kernel_rfl⟩;obtain⟨nb,g⟩:=g;rw[g]at l;have h3:=reachBytes_lt;have A:(lits (H:=H) .i32 (a.take d)).length=d:=by
    simp[lits];simp at o;omega
   have h5:d<=d*(nb+1):=avr _ (by omega);have h6:(lits (H:=H) .i32 (a.take d)).length*(nb+1)=d*(nb+1):=by rw[A]
   have h7:(lits (H:=H) .i32 (a.take d)).length*(nb+1)<=((lits (H:=H) .i32 (a.take d)).length+(lits (H:=H) .i32 (a.drop d)).length)*(nb+1):=avk _ (avN _ _);omega
 have X:=g;have d9: ∀k∈p2,k.block<h.heap.size:=by obtain⟨m,i⟩:=X;exact DataW.trod_lt m _ _ _ i
 obtain⟨Y,B,Z,rfl⟩:=okWide_slice Tryz.underlying37 (p 2 37 O W W);obtain⟨w2,WL⟩:yL .i32 h Y B Z/\B<=140737488355328:=by
  obtain⟨S,n⟩:=g;exact Oi (nb:=3) Tryz.underlying37 Tryz.underlying23 Tryz.underlying21 (by kernel_rfl) (by kernel_rfl) ⟨23,by kernel_rfl⟩ (by kernel_rfl) n λD hn=>auV (av5.1 q D (DataW.weights_mem_each (j:=2) W W D hn))
 clear J G;refine(walk h Q b R z0 w0 Tk U d V z1 w1 Vv Y B Z w2 WL).mono λe W' ⟨he,r⟩=> ?_
 subst he;exact⟨_,W,_,_,_,[],_,[],d6,trodAll_mk1 (shut_bool Tryz.underlying4 _),(trodAll_cons_mk (Below.trod laidOut (by kernel_rfl) (auV (by kernel_rfl)) P r d7) (trodAll_cons_mk (Below.trod laidOut (by kernel_rfl) (auV (by kernel_rfl)) T r d8) (trodAll_cons_mk (Below.trod laidOut (by kernel_rfl) (auV (by kernel_rfl)) X r d9) trodAll_mk0))),rfl,r.frame _,λco=>by cases co⟩
theorem wW:Rows.semInputsRow.holds Tryz.pinned (OpenSpec.ofChange Rows.semInputsSpec):=
 OpenClaim.holds_of_wide 4 Tryz.f4 W W W W W W W ⟨rfl,rfl,rfl,rfl,rfl⟩ W W W W W (by kernel_rfl) Tryz.func4 (by kernel_rfl)
  (auV (by kernel_rfl)) (by unfold Func.isWrapper;first|(rw[au2 (by decide+kernel)];kernel_rfl)|(rw[auU (by decide+kernel)];exact⟨W,W⟩))
  (λb d a c _=>lifted b d a c)
theorem proved:Rows.SemInputsSaid:=wW
#print axioms proved
end Go.Proofs.YtjbigbaipmiihaaGreat.semInputsDone
