/- The statement is proved, without conditions. -/
import Derived.Test.YtjbigbaipmiihaaGreatL
import Derived.Test.YtjbigbaipmiihaaGreatRows
import Derived.ShutString
import Derived.ChangeOld
import Derived.Deep.Grids
set_option maxRecDepth 4000
set_option linter.all false
namespace Go.Proofs.YtjbigbaipmiihaaGreat.semOrderDone
open Go.ChangeShapes Go.WideShapes Go.ChangeAt Go.RowKit
open Go.ChangeMaps (open_string shut_string)
open Go.Mt Go.Proofs
def own:ownKnob Tryz.prog.godebug=none:=by kernel_rfl
def laidOut:laidOutB Tryz.prog=true:=by kernel_rfl
def walk(w:World)(g:Option Addr)(c h:Nat)(m:List Int)(o:vu .u8 w g c h m)(p:c<=140737488355328)(i:Option Addr)(f j:Nat)(n:List Int)(q:vu .i32 w i f j n)(r:f<=140737488355328)(k:Int)(s:(Lit.int .u8 k).wf=true):
  Calls Tryz.prog 7 #[.slice g c h,.slice i f j,.int .u8 k] w λe w'=>e=.returned (.bool true)/\Below w.heap.size w w':=by
 obtain⟨x,t,y,z⟩:=Db .u8 g c h m w o p;obtain⟨A,u,v,B⟩:=Db .i32 i f j n w q r;refine(Sz.Aj x t y A u v k s (λ_ _=>False) w #[.slice g c h,.slice i f j,.int .u8 k] (λ_ _ h=>h.elim) ⟨rfl,?_⟩).mono ?_
 .intro l d C a b
  match l with
  |0=>simp at a b;subst a;subst b;exact z
  |1=>simp at a b;subst a;subst b;exact B
  |2=>simp at a b;subst a;subst b;exact .int _ _
  |l+3=>simp at a
 .rintro e w' ⟨C,D,rfl,rfl,a,l⟩;refine⟨?_,⟨a.os,a.tape,a.output,a.size,a.cy⟩⟩;cases l with
  |d b=>cases b;rfl
set_option maxRecDepth 100000 in
def lifted(r:Os)(f8:r.Started)(H:Type)(enc:TypeId×Value->H):
  ReturnsInHanded {} Tryz.checked r 7 .any (Rows.semOrderSpec.pre6 enc Tryz.prog Tryz.f7 Rows.semOrderRow.domain false) (Rows.semOrderSpec.post enc Tryz.prog Tryz.f7 false true false false):=by
 refine returnsInHanded_of_change_sized (C:=Tryz.checked) own f8 (by kernel_rfl) Tryz.func7
  (ChangeSpec.witness6 (enc:=enc) (C:=Tryz.checked) false ⟨#[],#[.slice none 0 0,.slice none 0 0,.int .u8 0],[]⟩ 8 (by kernel_rfl) (by kernel_rfl) (by kernel_rfl) (by kernel_rfl)) ?_
 intro h f4 p s P rT N u i6 ac _;have n:∀(j:Nat) t v,Tryz.f7.params[j]?=some t->p[j]?=some v->Value.okWide Tryz.prog h .any f4 t v:=N;have q:(DataW.weightsEach Tryz.prog (Tryz.f7.params.toList++Rows.semOrderSpec.plain.varTypes Tryz.prog) (s++P)).all (·<=reachBytes)=true:=ac;have ah:=u;obtain⟨O,f9,w,Q,rfl,i7,PP⟩:=u;have x:DataW.TrodAll enc Tryz.prog h 0 (λ_=>true) true Tryz.f7.params.toList p.toList s O:=w;rw[Tryz.params7]at x n q;obtain⟨y,i8,R,i9,S,q0,mt,rfl,rfl,z,T⟩:=trodAll_cons x;obtain⟨A,Vx,U,pm,V,q1,qr,rfl,rfl,i,X⟩:=trodAll_cons T;obtain⟨B,rg,d2,rt,Y,q2,rx,rfl,rfl,d,Z⟩:=trodAll_cons X;obtain⟨rfl,rfl,rfl⟩:=trodAll_nil Z;obtain rfl:p= #[y,A,B]:=by cases p;simp_all
 obtain⟨rfl,rfl⟩:=trodVars_none Q;have D:=z;have co:∀x∈S,x.block<h.heap.size:=by obtain⟨m,g⟩:=D;exact DataW.trod_lt m _ _ _ g
 obtain⟨E,a,F,rfl⟩:=okWide_slice Tryz.underlying22 (n 0 22 y W W);obtain⟨z0,w0,WK⟩:∃b,vu .u8 h E a F b/\a<=140737488355328:=by
  obtain⟨RR,hf⟩:=z;rcases open_ints Tryz.underlying22 Tryz.underlying5 (by kernel_rfl) hf with⟨k,_⟩|⟨gc,ge,c,f,k,_,hl,g,G,hx,O0,d6⟩
  .simp[Value.cells]at k;obtain⟨rfl,rfl,rfl⟩:=k;exact⟨[],.inl ⟨W,W,W,W⟩,by omega⟩
  .simp[Value.cells]at k;obtain⟨rfl,rfl,rfl⟩:=k;refine⟨f,.inr ⟨_,W,hl,g,by simpa using G,O0,d6⟩,?_⟩;have hd:R=.slice (lits .u8 (f.take a)) (lits .u8 (f.drop a)):=by injection hx
   have i:=sized_slice q (j:=0) (t:=22) (elems:=lits .u8 (f.take a)) (spare:=lits .u8 (f.drop a)) W (by rw[hd];rfl) Tryz.underlying22;have d:∃a,Tryz.prog.bytesOf 5=a+1:=⟨0,by kernel_rfl⟩;obtain⟨l,d⟩:=d;rw[d]at i;have h3:=reachBytes_lt;have h4:(lits (H:=H) .u8 (f.take a)).length=a:=by
    simp[lits];simp at G;omega
   have h5:a<=a*(l+1):=atU _ (by omega);have h6:(lits (H:=H) .u8 (f.take a)).length*(l+1)=a*(l+1):=by rw[h4]
   have h7:(lits (H:=H) .u8 (f.take a)).length*(l+1)<=((lits (H:=H) .u8 (f.take a)).length+(lits (H:=H) .u8 (f.drop a)).length)*(l+1):=as5 _ (at0 _ _);omega
 have I:=i;have d7:∀x∈V,x.block<h.heap.size:=by obtain⟨m,g⟩:=I;exact DataW.trod_lt m _ _ _ g
 obtain⟨J,b,K,rfl⟩:=okWide_slice Tryz.underlying23 (n 1 23 A W W);obtain⟨z1,w1,d8⟩:∃a,vu .i32 h J b K a/\b<=140737488355328:=by
  obtain⟨RR,hf⟩:=i;rcases open_ints Tryz.underlying23 Tryz.underlying21 (by kernel_rfl) hf with⟨k,_⟩|⟨gc,ge,c,f,k,_,hl,g,G,hx,O0,d6⟩
  .simp[Value.cells]at k;obtain⟨rfl,rfl,rfl⟩:=k;exact⟨[],.inl ⟨W,W,W,W⟩,by omega⟩
  .simp[Value.cells]at k;obtain⟨rfl,rfl,rfl⟩:=k;refine⟨f,.inr ⟨_,W,hl,g,by simpa using G,O0,d6⟩,?_⟩;have hd:U=.slice (lits .i32 (f.take b)) (lits .i32 (f.drop b)):=by injection hx
   have i:=sized_slice q (j:=1) (t:=23) (elems:=lits .i32 (f.take b)) (spare:=lits .i32 (f.drop b)) W (by rw[hd];rfl) Tryz.underlying23;have d:∃a,Tryz.prog.bytesOf 21=a+1:=⟨3,by kernel_rfl⟩;obtain⟨l,d⟩:=d;rw[d]at i;have h3:=reachBytes_lt;have h4:(lits (H:=H) .i32 (f.take b)).length=b:=by
    simp[lits];simp at G;omega
   have h5:b<=b*(l+1):=atU _ (by omega);have h6:(lits (H:=H) .i32 (f.take b)).length*(l+1)=b*(l+1):=by rw[h4]
   have h7:(lits (H:=H) .i32 (f.take b)).length*(l+1)<=((lits (H:=H) .i32 (f.take b)).length+(lits (H:=H) .i32 (f.drop b)).length)*(l+1):=as5 _ (at0 _ _);omega
 have L:=d;have d9:∀x∈Y,x.block<h.heap.size:=by obtain⟨m,g⟩:=L;exact DataW.trod_lt m _ _ _ g
 obtain⟨M,rfl⟩:=okWide_int Tryz.underlying5 (n 2 5 B W W);have YT:(Lit.int .u8 M).wf=true:=by
  obtain⟨RR,k⟩:=d;obtain⟨G,f,_,l⟩:=DataW.trod_int Tryz.underlying5 k;simp[Value.cells]at f;subst f;exact l
 clear w N;refine(walk h E a F z0 w0 WK J b K z1 w1 d8 M YT).mono λe W' ⟨he,o⟩=>?_
 subst he;exact⟨_,W,_,_,_,[],_,[],ah,trodAll_mk1 (shut_bool Tryz.underlying4 _),(trodAll_cons_mk (Below.trod laidOut (by kernel_rfl) (asC (by kernel_rfl)) D o co) (trodAll_cons_mk (Below.trod laidOut (by kernel_rfl) (asC (by kernel_rfl)) I o d7) (trodAll_cons_mk (Below.trod laidOut (by kernel_rfl) (asC (by kernel_rfl)) L o d9) trodAll_mk0))),rfl,o.frame _,λf=>by cases f⟩
def N4:Rows.semOrderRow.holds Tryz.pinned (OpenSpec.ofChange Rows.semOrderSpec):=
 OpenClaim.holds_of_wide 7 Tryz.f7 W W W W W W W ⟨rfl,rfl,rfl,rfl,rfl⟩ W W W W W (by kernel_rfl) Tryz.func7 (by kernel_rfl)
  (asC (by kernel_rfl)) (by unfold Func.isWrapper;first|(rw[asB (by decide+kernel)];kernel_rfl)|(rw[asu (by decide+kernel)];exact⟨W,W⟩))
  (λa c H b _=>lifted a c H b)
theorem proved:Rows.SemOrderSaid:=N4
#print axioms proved
end Go.Proofs.YtjbigbaipmiihaaGreat.semOrderDone
