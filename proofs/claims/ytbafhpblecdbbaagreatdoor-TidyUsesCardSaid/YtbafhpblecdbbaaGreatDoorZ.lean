/- The statement is proved, without conditions. -/
import Derived.Test.YtbafhpblecdbbaaGreatDoorK
import Derived.Test.YtbafhpblecdbbaaGreatDoorTie
import Derived.LaidMore
import Derived.LaidLaws
import Derived.SevenTiedAt
import Derived.ShutString
import Derived.ChangeOld
import Derived.Deep.Grids
import Derived.ChangeSame
import Derived.Shelf.Vars
import Derived.Lib.LaidTab
import Derived.LaidSub
set_option maxRecDepth 4000
set_option maxHeartbeats 4000000
set_option linter.all false
namespace Go.Proofs.YtbafhpblecdbbaaGreatDoor.tidyUsesDone
open Go.ChangeShapes Go.WideShapes Go.ChangeAt Go.RowKit
open Go.ChangeMaps (open_string shut_string)
open Go.Mt Go.Proofs Go.Proofs.Pz
def own:ownKnob Tryz.prog.godebug=none:=by kernel_rfl
def laidOut:laidOutB Tryz.prog=true:=by kernel_rfl
def HC(os:Os)(args:Array Value):laidMetH Tryz.prog [("math/bits.deBruijn32tab",Rows.laid_math_bits_deBruijn32tab),("math/bits.deBruijn64tab",Rows.laid_math_bits_deBruijn64tab),("internal/strconv.uint64pow10",Rows.laid_internal_strconv_uint64pow10)] ((World.doorLaid Tryz.prog 400 os).forCall (λ_ _=>0) ⟨#[],args,[]⟩).memory:=
 laidMetH_of_parts3 (fuel:=8) (laidMet_of_run' 8 (by kernel_rfl) (by kernel_rfl)) (by kernel_rfl) (by kernel_rfl)
def DM{σ:Sg}{g c:Nat}{k:IntKind}{ms:List Int}(h:σ.w.heap[g]?=some (.cells (ms.map λz=>Value.int k z).toArray c (0,0))):fN σ g (.iter (yh g c k ms)):=by
 refine .inr ⟨_,c,h,.c_ _ _ (by simp) λi x v b a=>?_⟩
 match i with
 |0=>
  rw[aiH (by simp)]at a;injection b with b;subst b
  have:v=.int .i64 g:=by simpa using a.symm
  subst this;exact .d (.int _ _)
 |1=>
  rw[aiH (by simp)]at a;injection b with b;subst b
  have:v=.int .i64 c:=by simpa using a.symm
  subst this;exact .d (.int _ _)
 |i+2=>
  rw[ai7 (by simp)]at a;have e:(ms.map λz=>M.d (.int k z))[i]?=some x:=b;simp at a e;obtain⟨z,f,rfl⟩:=e;rw[f]at a;obtain⟨j,d,rfl⟩:=a;injection d with d
  subst d;exact .d (.int _ _)
def HD(O:Nat->Nat->Prop)(k:IntKind)(f:Option Addr)(a g:Nat)(c:List Int)(w:World)(q:BB k w f a g c)(C:a<=140737488355328)
  (s:∀b c,f=some ⟨b,c,none⟩->∀i,i<a->¬O b (c+i)):
  ∃(c:List Int) (v:D),La k c v/\gO O w v (.slice f a g):=by
 rcases q with⟨rfl,rfl,rfl,rfl⟩|⟨x,rfl,E,F,G,n,t⟩
 .exact⟨[],.sl [],⟨W,.inl W,by simp⟩,.slnil none⟩
 .by_cases u:a=0
  .subst u;exact⟨[],.oD,⟨W,.inl W,by simp⟩,.oD _ _⟩
  .obtain⟨b,o,B⟩:=x;have y:=n 0 (by omega);have z:B=none:=by simpa [Addr.add] using World.cell?_spot y
   subst z;have l:(kW k (c.take a)).length=a:=by simp[kW];omega
   refine⟨c.take a,.sl (kW k (c.take a)),⟨by simp[mz,kW],.inr W,λz a=>t z (List.mem_of_mem_take a)⟩,?_⟩;have:=gO.sl (O:=O) (w:=w) (kW k (c.take a)) b o g 1 (λi _=>.int k (c.getD i 0)) (by intro h;rw[h]at l;simp at l;omega) (by omega) (by omega)
     (by intro r e;rw[kW]at e;obtain⟨_,_,rfl⟩:=aij.1 e;rfl)
     (by
      intro i j p A;obtain rfl:j=0:=by omega
      refine⟨?_,by rw[Nat.mul_one,ajO];exact s b o W i (by omega)⟩;have:=n i (by omega);rcases aiO i with rfl|m
      .simpa [ea,Addr.add] using this
      .simpa [ea,Addr.add,Nat.ne_of_gt m] using this)
     (by intro i j _ _;rfl)
     (by
      intro i j r d e m;have A:i<a:=by
       rcases ais i a with h|h
       .exact h
       .rw[ail (by omega)]at e;cases e
      have p:i<c.length:=by omega
      simp[kW,A,p]at e;subst e;cases j with
      |zero=>simp at m;subst m;simp[p];exact .int _ _
      |succ j=>simp at m)
   rw[l]at this;exact this
abbrev Jw:Array Value:=(Lib.pow10Tab.map λz=>Value.int .u64 z).toArray
def walk(w:World)(j:w.heap[0]?=some (.cells Jw 386 (0,0)))(g:Option Addr)(a h:Nat)(l:List Int)(n:BB .u8 w g a h l)(s:a<=140737488355328):
  Calls Tryz.prog 7 #[.slice g a h] w λe w'=>e=.returned (.bool true)/\Below w.heap.size w w':=by
 let H:Hp:=[bg]
 let f:Sg:=⟨w,λb o=>∃(i:Nat) (a:Ob),H[i]?=some a/\0=b/\a.ji o,λ_=>0,H⟩
 have I:iH f (λ_ _=>False):=by
  refine⟨?_,?_,?_,?_,λ_ _ h=>h.elim⟩
  .intro m p i
   match m with
   |0=>injection i with i;subst i;exact DM j
   |m+1=>cases i
  .intro i m x r p q _ _ _
   match i,m with
   |0,0=>rfl
   |i+1,_=>cases p
   |_,m+1=>cases q
  .exactλb o=>⟨.inr,λh=>h.elim (λh=>h.elim) λh=>h⟩
  .exactλi a _ _ o h=>h
 have D:=n;obtain⟨E,o,F,t⟩:=HD f.O .u8 g a h l w n s (by
  rintro b G rfl i M ⟨k,L,_,rfl,_⟩;rcases D with⟨r,_⟩|⟨J,m,N,O,P,u,Q⟩
  .cases r
  .injection m with m;subst m
   have p:=u i (by omega);have q:ea w 0 (G+i)=some (.int .u8 (l.getD i 0)):=by
    rcases aiO i with rfl|x
    .simpa [ea,Addr.add] using p
    .simpa [ea,Addr.add,Nat.ne_of_gt x] using p
   simp only[ea,World.cell?,j]at q;simp[Jw]at q)
 have y:n6 f [.d o] #[.slice g a h]:=by
  refine⟨W,λk x v i m=>?_⟩
  match k with
  |0=>injection i with i;injection m with m;subst i;subst m;exact .d t
  |k+1=>cases i
 refine(Jv E o F f _ _ I W y).mono ?_;rintro e w' ⟨v,K,R,rfl,rfl,⟨rfl,z⟩,A,B,S,c⟩;refine⟨?_,c.os,c.tape,c.output,c.size,λk C=>?_⟩
 .cases B with
  |d i=>cases i;rfl
 .by_cases e:k=0
  .subst e;have:=(wx (A.obj 0 _ (by rw[z];rfl))).2;rw[this];exact j.symm
  .exact c.aT k C λi a _ _ h=>e h.symm
def Kx{b:World}(f:laidMetH Tryz.prog [("math/bits.deBruijn32tab",Rows.laid_math_bits_deBruijn32tab),("math/bits.deBruijn64tab",Rows.laid_math_bits_deBruijn64tab),("internal/strconv.uint64pow10",Rows.laid_internal_strconv_uint64pow10)] b)(h:b.ShapedOpen Tryz.prog):b.heap[0]?=some (.cells Jw 386 (0,0)):=by
 have c:=(laidMetH_iff.1 (f.filter (λx=>x.1== "internal/strconv.uint64pow10"))).1;have e:([("math/bits.deBruijn32tab",Rows.laid_math_bits_deBruijn32tab),("math/bits.deBruijn64tab",Rows.laid_math_bits_deBruijn64tab),("internal/strconv.uint64pow10",Rows.laid_internal_strconv_uint64pow10)].filter λx:String×DataW Unit=>x.1== "internal/strconv.uint64pow10").filter (λx=>x.2.handleName?.isNone)=[("internal/strconv.uint64pow10",Lib.tabData .u64 Lib.pow10Tab)]:=by kernel_rfl
 rw[e]at c;have a:=Lib.tabIs_of_head (g:=0) (t:=386) (e:=341) (n:=20) (by kernel_rfl) (by kernel_rfl) (by kernel_rfl) (by kernel_rfl) (by kernel_rfl) (by kernel_rfl) c;obtain⟨i,d,j,_⟩:=h.1 0 (List.replicate 20 (Value.int .u64 0)).toArray 386 (by decide+kernel) (by kernel_rfl);unfold Lib.TabIs World.var? at a;rw[show Tryz.prog.globalNamed "internal/strconv.uint64pow10" =some 0 by kernel_rfl]at a;simp[d]at a;rw[d,a]
def wrap{H:Type}{enc:TypeId×Value->H}{a:Assume}{C:Checked}{os:Os}{f:FuncId}{fn:Func}{s:ChangeSpec}{g:List PathCond}{b h k j:Bool}{X:World->Array Value->Prop}
  (l:∀(w w':World) (args:Array Value),w.heap=w'.heap->X w args->X w' args)
  (E:ownKnob C.prog.godebug=none) (J:os.Started) (m:C.prog.inits.idxOf? f=none) (n:C.prog.funcs[f]?=some fn)
  (K:∃(w:World) (c:Go.Tape) (i:Input),w.os=os/\(w.forCall c i).Shaped C.prog/\i.vars=[]/\Input.okWide C.prog (w.forCall c i) .any w.heap.size f i/\
   ((s.pre enc C.prog fn g b (w.forCall c i).memory i.args/\X (w.forCall c i).memory i.args)/\sizedMet enc C.prog fn (OpenSpec.ofChange s) b (w.forCall c i).memory i.args)/\a.holds C.prog (lone (Frame.enter C.prog f i.args .normal) [] (w.forCall c i)))
  (o:∀(c:World) (i:Nat) (args:Array Value) (d g:List (DataW H)) (l:List MemPlace),
   (∀(j:Nat) t v,fn.params[j]?=some t->args[j]?=some v->Value.okWide C.prog c .any i t v)->
   DataW.Whole enc C.prog fn.params.toList s.vars b c args.toList d g l->
   (DataW.weightsEach C.prog (fn.params.toList++s.plain.varTypes C.prog) (d++g)).all (·<=reachBytes)=true->X c args->
   c.ShapedOpen C.prog->
   Calls C.prog f args c λe d=>∃v,e=.returned v/\s.post enc C.prog fn b h k j c args v d):
  ReturnsInHanded a C os f .any (λw args=>(s.pre enc C.prog fn g b w args/\X w args)/\sizedMet enc C.prog fn (OpenSpec.ofChange s) b w args) (s.post enc C.prog fn b h k j):=by
 refine returnsInHanded_of_calls E J m K ?_;intro w d i _ r _ t u N;obtain⟨_,_,_,F,G,_,_,_,_,x⟩:=t;have e:F=fn:=ak4 (G.symm.trans n);subst e;obtain⟨⟨⟨p,q,I,c,M⟩,y⟩,z⟩:=u;have A:=DataW.Whole.of_heap (w':=w.forCall d i) (by rfl) c;refine(o (w.forCall d i) w.heap.size i.args p q I x A (z.weights c) (l _ _ _ (by rfl) y) r).mono λe L ⟨v,B,D⟩=>?_
 subst B;exact ChangeSpec.post_blind D
set_option maxRecDepth 100000 in
def lifted(os:Os)(d6:os.Started)(H:Type)(enc:TypeId×Value->H):
  ReturnsInHanded {} Tryz.checked os 7 .any (λw args=>(Rows.tidyUsesSpec.pre enc Tryz.prog Tryz.f7 Rows.tidyUsesRow.domain false w args/\laidMetH Tryz.prog [("math/bits.deBruijn32tab",Rows.laid_math_bits_deBruijn32tab),("math/bits.deBruijn64tab",Rows.laid_math_bits_deBruijn64tab),("internal/strconv.uint64pow10",Rows.laid_internal_strconv_uint64pow10)] w)/\sizedMet enc Tryz.prog Tryz.f7 (OpenSpec.ofChange Rows.tidyUsesSpec) false w args)
   (Rows.tidyUsesSpec.post enc Tryz.prog Tryz.f7 false true false false):=by
 refine wrap (C:=Tryz.checked) (X:= λw _=>laidMetH Tryz.prog [("math/bits.deBruijn32tab",Rows.laid_math_bits_deBruijn32tab),("math/bits.deBruijn64tab",Rows.laid_math_bits_deBruijn64tab),("internal/strconv.uint64pow10",Rows.laid_internal_strconv_uint64pow10)] w) (λ_ _ _ a h=>h.of_heap a) own d6 (by kernel_rfl) Tryz.func7
  (ChangeSpec.witness_shaped (enc:=enc) (C:=Tryz.checked) (os:=os) (X:= λw _=>laidMetH Tryz.prog [("math/bits.deBruijn32tab",Rows.laid_math_bits_deBruijn32tab),("math/bits.deBruijn64tab",Rows.laid_math_bits_deBruijn64tab),("internal/strconv.uint64pow10",Rows.laid_internal_strconv_uint64pow10)] w) false (World.doorLaid Tryz.prog 400 os) #[.slice none 0 0] 8 W (World.shaped_of_RefB (by kernel_rfl) (by kernel_rfl)) (by kernel_rfl) (by kernel_rfl) (by kernel_rfl) (HC os _)) ?_
 intro d d5 args k E i6 l n ac F G;have am:=Kx F G;have o:∀(j:Nat) t v,Tryz.f7.params[j]?=some t->args[j]?=some v->Value.okWide Tryz.prog d .any d5 t v:=l;have p:(DataW.weightsEach Tryz.prog (Tryz.f7.params.toList++Rows.tidyUsesSpec.plain.varTypes Tryz.prog) (k++E)).all (·<=reachBytes)=true:=ac;have ce:=n;obtain⟨D,d7,q,I,rfl,f5,Qo⟩:=n;have r:DataW.TrodAll enc Tryz.prog d 0 (λ_=>true) true Tryz.f7.params.toList args.toList k D:=q;rw[Tryz.params7]at r o p;obtain⟨s,f6,J,f8,K,q0,f9,rfl,rfl,u,L⟩:=trodAll_cons r;obtain⟨rfl,rfl,rfl⟩:=trodAll_nil L;obtain rfl:args= #[s]:=by cases args;simp_all
 obtain⟨rfl,rfl⟩:=trodVars_none I;have x:=u;have co:∀x∈K,x.block<d.heap.size:=by obtain⟨m,h⟩:=x;exact DataW.trod_lt m _ _ _ h
 obtain⟨y,a,z,rfl⟩:=okWide_slice Tryz.underlying22 (o 0 22 s W W);obtain⟨M,N,O⟩:∃b,BB .u8 d y a z b/\a<=140737488355328:=by
  obtain⟨ip,P⟩:=u;rcases open_ints Tryz.underlying22 Tryz.underlying5 (by kernel_rfl) P with⟨f,_⟩|⟨d8,d9,c,b,f,_,Q,h,A,R,S,T⟩
  .simp[Value.cells]at f;obtain⟨rfl,rfl,rfl⟩:=f;exact⟨[],.inl ⟨W,W,W,W⟩,by omega⟩
  .simp[Value.cells]at f;obtain⟨rfl,rfl,rfl⟩:=f;refine⟨b,.inr ⟨_,W,Q,h,by simpa using A,S,T⟩,?_⟩;have U:J=.slice (lits .u8 (b.take a)) (lits .u8 (b.drop a)):=by injection R
   have V:=sized_slice p (j:=0) (t:=22) (elems:=lits .u8 (b.take a)) (spare:=lits .u8 (b.drop a)) W (by rw[U];rfl) Tryz.underlying22;have i:∃a,Tryz.prog.bytesOf 5=a+1:=⟨0,by kernel_rfl⟩;obtain⟨g,i⟩:=i;rw[i]at V;have h3:=reachBytes_lt;have Y:(lits (H:=H) .u8 (b.take a)).length=a:=by
    simp[lits];simp at A;omega
   have h5:a<=a*(g+1):=akc _ (by omega);have h6:(lits (H:=H) .u8 (b.take a)).length*(g+1)=a*(g+1):=by rw[Y]
   have h7:(lits (H:=H) .u8 (b.take a)).length*(g+1)<=((lits (H:=H) .u8 (b.take a)).length+(lits (H:=H) .u8 (b.drop a)).length)*(g+1):=aiB _ (akk _ _);omega
 clear q l;refine(walk d am y a z M N O).mono λe W' ⟨Z,B⟩=>?_
 subst Z;exact⟨_,W,_,_,_,[],_,[],ce,trodAll_mk1 (shut_bool Tryz.underlying4 _),(trodAll_cons_mk (Below.trod laidOut (by kernel_rfl) (aic (by kernel_rfl)) x B co) trodAll_mk0),rfl,B.frame _,λb=>by cases b⟩
def over:Rows.TidyUsesSaid:=
 OpenClaim.holds_of_wide 7 Tryz.f7 W W W W W W W ⟨rfl,rfl,rfl,rfl,rfl⟩ W W W W W (by kernel_rfl) Tryz.func7 closed
  (aic (by kernel_rfl)) (by unfold Func.isWrapper;first|(rw[air (by decide+kernel)];kernel_rfl)|(rw[aid (by decide+kernel)];exact⟨W,W⟩))
  (λa c H b _=>lifted a c H b)
set_option maxRecDepth 100000 in
theorem proved:Rows.TidyUsesCardSaid:=
 Claim7.holds_tied_plain_at .later [] [.data,.data,.data] true (true, "f50347e73aaa9d340bc349c5a52e56f4bb5d0113295c3e190f190ebf72de17ac") true
  over (λ_ h=>by cases h) c1 (λ_ h=>by cases h) tidyUses_row_tie W ⟨rfl,rfl⟩ c2 W
  (λf fn b c=>by
   obtain rfl:f=7:=ak4 (c3.symm.trans b)|>.symm;obtain rfl:fn=Tryz.f7:=(ak4 (Tryz.func7.symm.trans c)).symm;exact⟨c4.symm,λj t a=>by
    rw[Tryz.params7]at a;have d:t∈[22]:=by simpa using Array.mem_of_getElem? a
    exact(show Tryz.prog.wantsStandIn t=false by simpa using ajm.1 c5 t d)⟩)
  c6.symm
#print axioms proved
end Go.Proofs.YtbafhpblecdbbaaGreatDoor.tidyUsesDone
