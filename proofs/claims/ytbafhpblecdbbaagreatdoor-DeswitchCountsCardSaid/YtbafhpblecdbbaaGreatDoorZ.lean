/- The statement is proved, without conditions. -/
import Derived.Test.YtbafhpblecdbbaaGreatDoorP
import Derived.Test.YtbafhpblecdbbaaGreatDoorTie
import Derived.LaidMore
import Derived.LaidLaws
import Derived.SevenTiedAt
import Derived.ShutString
import Derived.ChangeOld
import Derived.Deep.Grids
import Derived.ChangeSame
import Derived.Shelf.Vars
import Derived.Lib.LaidTab
import Derived.LaidSub
set_option maxRecDepth 4000
set_option linter.all false
namespace Go.Proofs.YtbafhpblecdbbaaGreatDoor.deswitchCountsDone
open Go.ChangeShapes Go.WideShapes Go.ChangeAt Go.RowKit
open Go.ChangeMaps (open_string shut_string)
open Go.Mt Go.Proofs Go.Proofs.Pz
theorem own:ownKnob Tryz.prog.godebug=none:=by kernel_rfl
theorem laidOut:laidOutB Tryz.prog=true:=by kernel_rfl
theorem Bs(os:Os)(args:Array Value):laidMetH Tryz.prog [("math/bits.deBruijn32tab",Rows.laid_math_bits_deBruijn32tab),("math/bits.deBruijn64tab",Rows.laid_math_bits_deBruijn64tab),("internal/strconv.uint64pow10",Rows.laid_internal_strconv_uint64pow10)] ((World.doorLaid Tryz.prog 400 os).forCall (λ_ _=>0) ⟨#[],args,[]⟩).memory:=
 laidMetH_of_parts3 (fuel:=8) (laidMet_of_run' 8 (by kernel_rfl) (by kernel_rfl)) (by kernel_rfl) (by kernel_rfl)
theorem xZ{σ:Sg}{g tt:Nat}{k:IntKind}{ms:List Int}(h:σ.w.heap[g]?=some (.cells (ms.map λz=>Value.int k z).toArray tt (0,0))):eE σ g (.iter (sJ g tt k ms)):=by
 refine .inr ⟨_,tt,h,.bz _ _ (by simp) λi x v hx hv=>?_⟩
 match i with
 |0=>
  rw[Array.getElem?_append_left (by simp)]at hv;injection hx with hx;subst hx
  have:v=.int .i64 g:=by simpa using hv.symm
  subst this;exact .d (.int _ _)
 |1=>
  rw[Array.getElem?_append_left (by simp)]at hv;injection hx with hx;subst hx
  have:v=.int .i64 tt:=by simpa using hv.symm
  subst this;exact .d (.int _ _)
 |i+2=>
  rw[Array.getElem?_append_right (by simp)]at hv;have HT:(ms.map λz=>M.d (.int k z))[i]?=some x:=hx;simp at hv HT;obtain⟨z,hz,rfl⟩:=HT;rw[hz]at hv;obtain⟨a,ha,rfl⟩:=hv;injection ha with ha
  subst ha;exact .d (.int _ _)
theorem Bt(O:Nat->Nat->Prop)(a0:Option Addr)(GG Gu:Nat)(B:Nat->Bool)(w:World)(w0:s8 w a0 GG Gu B)(hm:GG<=140737488355328)
  (hO:∀b off,a0=some ⟨b,off,none⟩->∀i,i<GG->¬O b (off+i)):
  ∃(bs:List Bool) (v:D),D7 bs v/\dI O w v (.slice a0 GG Gu):=by
 rcases w0 with⟨rfl,rfl,rfl⟩|⟨x,rfl,hl,Lv,FW⟩
 ·exact⟨[],.sl [],⟨rfl,.inl rfl⟩,.slnil none⟩
 ·by_cases h0:GG=0
  ·subst h0;exact⟨[],.lH,⟨rfl,.inl rfl⟩,.lH _ _⟩
  ·obtain⟨b,off,spot⟩:=x;have hc:=FW 0 (by omega);have Pq:spot=none:=by simpa [Addr.add] using World.cell?_spot hc
   subst Pq;have IV:(gX ((List.range GG).map B)).length=GG:=by simp[gX]
   refine⟨(List.range GG).map B,.sl (gX ((List.range GG).map B)),⟨by simp[nG,gX],.inr rfl⟩,?_⟩;have:=dI.sl (O:=O) (w:=w) (gX ((List.range GG).map B)) b off Gu 1 (λi _=>.bool (B i)) (by intro h;rw[h]at IV;simp at IV;omega) (by omega) (by omega)
     (by intro r hr;rw[gX]at hr;obtain⟨_,_,rfl⟩:=List.mem_map.1 hr;rfl)
     (by
      intro i j hi hj;obtain rfl:j=0:=by omega
      refine⟨?_,by rw[Nat.mul_one,Nat.add_zero];exact hO b off rfl i (by omega)⟩;have:=FW i (by omega);rcases Nat.eq_zero_or_pos i with rfl|hp
      ·simpa [cB,Addr.add] using this
      ·simpa [cB,Addr.add,Nat.ne_of_gt hp] using this)
     (by intro i j _ _;rfl)
     (by
      intro i j r d hr hd;have hi:i<GG:=by
       rcases Nat.lt_or_ge i GG with h|h
       ·exact h
       ·rw[List.getElem?_eq_none (by omega)]at hr;cases hr
      simp[gX,hi]at hr;subst hr;cases j with
      |zero=>simp at hd;subst hd;exact .bool _
      |succ j=>simp at hd)
   rw[IV]at this;exact this
abbrev CJ:Array Value:=(Lib.pow10Tab.map λz=>Value.int .u64 z).toArray
theorem walk(w:World)(hm:w.heap[0]?=some (.cells CJ 386 (0,0)))(a0:Option Addr)(GG Gu:Nat)(B0:Nat->Bool)(w0:s8 w a0 GG Gu B0)(ML:GG<=140737488355328):
  Calls Tryz.prog 10 #[.slice a0 GG Gu] w λe w'=>e=.returned (.bool true)/\Below w.heap.size w w':=by
 let H:Hp:=[aZ]
 let σ:Sg:=⟨w,λb o=>∃(i:Nat) (ob:Ob),H[i]?=some ob/\0=b/\ob.e_ o,λ_=>0,H⟩
 have hinv:cY σ (λ_ _=>False):=by
  refine⟨?_,?_,?_,?_,λ_ _ h=>h.elim⟩
  ·intro i ob hi
   match i with
   |0=>injection hi with hi;subst hi;exact xZ hm
   |i+1=>cases hi
  ·intro i j x y hi hj _ _ _
   match i,j with
   |0,0=>rfl
   |i+1,_=>cases hi
   |_,j+1=>cases hj
  ·exactλb o=>⟨.inr,λh=>h.elim (λh=>h.elim) λh=>h⟩
  ·exactλi ob _ _ o h=>h
 have SL:=w0;obtain⟨SM,v0,Rf,Pr⟩:=Bt σ.O a0 GG Gu B0 w w0 ML (by
  rintro b off rfl i hi ⟨k,ob,_,rfl,_⟩;rcases SL with⟨h,_⟩|⟨x,hx,hl,Lv,FW⟩
  ·cases h
  ·injection hx with hx;subst hx
   have hc:=FW i (by omega);have Gb:cB w 0 (off+i)=some (.bool (B0 i)):=by
    rcases Nat.eq_zero_or_pos i with rfl|hp
    ·simpa [cB,Addr.add] using hc
    ·simpa [cB,Addr.add,Nat.ne_of_gt hp] using hc
   simp only[cB,World.cell?,hm]at Gb;simp[CJ]at Gb)
 have Gk:h_ σ [.d v0] #[.slice a0 GG Gu]:=by
  refine⟨rfl,λk x v hx hv=>?_⟩
  match k with
  |0=>injection hx with hx;injection hv with hv;subst hx;subst hv;exact .d Pr
  |k+1=>cases hx
 refine(mF SM v0 Rf σ _ _ hinv rfl Gk).mono ?_;rintro e w' ⟨v,r,FO,rfl,rfl,⟨rfl,hH⟩,FL,hr,HU,hb⟩;refine⟨?_,hb.os,hb.tape,hb.output,hb.size,λk hk=>?_⟩
 ·cases hr with
  |d h=>cases h;rfl
 ·by_cases e:k=0
  ·subst e;have:=(l3 (FL.obj 0 _ (by rw[hH];rfl))).2;rw[this];exact hm.symm
  ·exact hb.be k hk λi ob _ _ h=>e h.symm
theorem DB{W:World}(hL:laidMetH Tryz.prog [("math/bits.deBruijn32tab",Rows.laid_math_bits_deBruijn32tab),("math/bits.deBruijn64tab",Rows.laid_math_bits_deBruijn64tab),("internal/strconv.uint64pow10",Rows.laid_internal_strconv_uint64pow10)] W)(GV:W.ShapedOpen Tryz.prog):W.heap[0]?=some (.cells CJ 386 (0,0)):=by
 have h1:=(laidMetH_iff.1 (hL.filter (λx=>x.1== "internal/strconv.uint64pow10"))).1;have e:([("math/bits.deBruijn32tab",Rows.laid_math_bits_deBruijn32tab),("math/bits.deBruijn64tab",Rows.laid_math_bits_deBruijn64tab),("internal/strconv.uint64pow10",Rows.laid_internal_strconv_uint64pow10)].filter λx:String×DataW Unit=>x.1== "internal/strconv.uint64pow10").filter (λx=>x.2.handleName?.isNone)=[("internal/strconv.uint64pow10",Lib.tabData .u64 Lib.pow10Tab)]:=by kernel_rfl
 rw[e]at h1;have h2:=Lib.tabIs_of_head (g:=0) (t:=386) (e:=341) (n:=20) (by kernel_rfl) (by kernel_rfl) (by kernel_rfl) (by kernel_rfl) (by kernel_rfl) (by kernel_rfl) h1;obtain⟨cs,hh,hs,_⟩:=GV.1 0 (List.replicate 20 (Value.int .u64 0)).toArray 386 (by decide+kernel) (by kernel_rfl);unfold Lib.TabIs World.var? at h2;rw[show Tryz.prog.globalNamed "internal/strconv.uint64pow10" =some 0 by kernel_rfl]at h2;simp[hh]at h2;rw[hh,h2]
theorem wrap{H:Type}{enc:TypeId×Value->H}{a:Assume}{C:Checked}{os:Os}{f:FuncId}{fn:Func}{s:ChangeSpec}{conds:List PathCond}{apart fresh handsOn again:Bool}{X:World->Array Value->Prop}
  (hX:∀(w w':World) (args:Array Value),w.heap=w'.heap->X w args->X w' args)
  (own:ownKnob C.prog.godebug=none) (started:os.Started) (NV:C.prog.inits.idxOf? f=none) (KO:C.prog.funcs[f]?=some fn)
  (witness:∃(w:World) (tape:Tape) (i:Input),w.os=os/\(w.forCall tape i).Shaped C.prog/\i.vars=[]/\Input.okWide C.prog (w.forCall tape i) .any w.heap.size f i/\
   ((s.pre enc C.prog fn conds apart (w.forCall tape i).memory i.args/\X (w.forCall tape i).memory i.args)/\sizedMet enc C.prog fn (OpenSpec.ofChange s) apart (w.forCall tape i).memory i.args)/\a.holds C.prog (lone (Frame.enter C.prog f i.args .normal) [] (w.forCall tape i)))
  (Mj:∀(W:World) (base:Nat) (args:Array Value) (ds gs:List (DataW H)) (before:List MemPlace),
   (∀(j:Nat) t v,fn.params[j]?=some t->args[j]?=some v->Value.okWide C.prog W .any base t v)->
   DataW.Whole enc C.prog fn.params.toList s.vars apart W args.toList ds gs before->
   (DataW.weightsEach C.prog (fn.params.toList++s.plain.varTypes C.prog) (ds++gs)).all (·<=reachBytes)=true->X W args->
   W.ShapedOpen C.prog->
   Calls C.prog f args W λe W'=>∃v,e=.returned v/\s.post enc C.prog fn apart fresh handsOn again W args v W'):
  ReturnsInHanded a C os f .any (λw args=>(s.pre enc C.prog fn conds apart w args/\X w args)/\sizedMet enc C.prog fn (OpenSpec.ofChange s) apart w args) (s.post enc C.prog fn apart fresh handsOn again):=by
 refine returnsInHanded_of_calls own started NV witness ?_;intro w tape i _ GV _ Gl MA Rn;obtain⟨_,_,_,SN,Rg,_,_,_,_,Hg⟩:=Gl;have e:SN=fn:=Option.some.inj (Rg.symm.trans KO);subst e;obtain⟨⟨⟨ds,gs,before,hw,hc⟩,hx⟩,hz⟩:=MA;have II:=DataW.Whole.of_heap (w':=w.forCall tape i) (by rfl) hw;refine(Mj (w.forCall tape i) w.heap.size i.args ds gs before Hg II (hz.weights hw) (hX _ _ _ (by rfl) hx) GV).mono λe W' ⟨v,he,hp⟩=>?_
 subst he;exact ChangeSpec.post_blind hp
set_option maxRecDepth 100000 in
theorem lifted(os:Os)(started:os.Started)(H:Type)(enc:TypeId×Value->H):
  ReturnsInHanded {} Tryz.checked os 10 .any (λw args=>(Rows.deswitchCountsSpec.pre enc Tryz.prog Tryz.f10 Rows.deswitchCountsRow.domain false w args/\laidMetH Tryz.prog [("math/bits.deBruijn32tab",Rows.laid_math_bits_deBruijn32tab),("math/bits.deBruijn64tab",Rows.laid_math_bits_deBruijn64tab),("internal/strconv.uint64pow10",Rows.laid_internal_strconv_uint64pow10)] w)/\sizedMet enc Tryz.prog Tryz.f10 (OpenSpec.ofChange Rows.deswitchCountsSpec) false w args)
   (Rows.deswitchCountsSpec.post enc Tryz.prog Tryz.f10 false true false false):=by
 refine wrap (C:=Tryz.checked) (X:= λw _=>laidMetH Tryz.prog [("math/bits.deBruijn32tab",Rows.laid_math_bits_deBruijn32tab),("math/bits.deBruijn64tab",Rows.laid_math_bits_deBruijn64tab),("internal/strconv.uint64pow10",Rows.laid_internal_strconv_uint64pow10)] w) (λ_ _ _ hh h=>h.of_heap hh) own started (by kernel_rfl) Tryz.func10
  (ChangeSpec.witness_shaped (enc:=enc) (C:=Tryz.checked) (os:=os) (X:= λw _=>laidMetH Tryz.prog [("math/bits.deBruijn32tab",Rows.laid_math_bits_deBruijn32tab),("math/bits.deBruijn64tab",Rows.laid_math_bits_deBruijn64tab),("internal/strconv.uint64pow10",Rows.laid_internal_strconv_uint64pow10)] w) false (World.doorLaid Tryz.prog 400 os) #[.slice none 0 0] 8 rfl (World.shaped_of_RefB (by kernel_rfl) (by kernel_rfl)) (by kernel_rfl) (by kernel_rfl) (by kernel_rfl) (Bs os _)) ?_
 intro W base args ds gs before Ny hW Ri hL GV;have SO:=DB hL GV;have Hg:∀(j:Nat) t v,Tryz.f10.params[j]?=some t->args[j]?=some v->Value.okWide Tryz.prog W .any base t v:=Ny;have Gd:(DataW.weightsEach Tryz.prog (Tryz.f10.params.toList++Rows.deswitchCountsSpec.plain.varTypes Tryz.prog) (ds++gs)).all (·<=reachBytes)=true:=Ri;have SP:=hW;obtain⟨p,q,IS,hV,rfl,Vb,Kq⟩:=hW;have hA:DataW.TrodAll enc Tryz.prog W 0 (λ_=>true) true Tryz.f10.params.toList args.toList ds p:=IS;rw[Tryz.params10]at hA Hg Gd;obtain⟨v0,Vc,d0,Vd,p0,q0,Ro,rfl,rfl,h0,r0⟩:=trodAll_cons hA;obtain⟨rfl,rfl,rfl⟩:=trodAll_nil r0;obtain rfl:args= #[v0]:=by cases args;simp_all
 obtain⟨rfl,rfl⟩:=trodVars_none hV;have k0:=h0;have SQ:∀x∈p0,x.block<W.heap.size:=by obtain⟨m,hm⟩:=k0;exact DataW.trod_lt m _ _ _ hm
 obtain⟨a0,GG,Gu,rfl⟩:=okWide_slice Tryz.underlying68 (Hg 0 68 v0 rfl rfl);obtain⟨B0,w0,J4⟩:∃B,s8 W a0 GG Gu B/\GG<=140737488355328:=by
  obtain⟨GL,hf⟩:=h0;rcases Deep.open_bools Tryz.underlying68 Tryz.underlying4 (by kernel_rfl) hf with⟨Ik,_⟩|⟨x,l,c,B,Ik,_,hl,hm,hx,FW⟩
  ·simp[Value.cells]at Ik;obtain⟨rfl,rfl,rfl⟩:=Ik;exact⟨λ_=>false,.inl ⟨rfl,rfl,rfl⟩,by omega⟩
  ·simp[Value.cells]at Ik;obtain⟨rfl,rfl,rfl⟩:=Ik;refine⟨B,.inr ⟨_,rfl,hl,hm,FW⟩,?_⟩;have hd:d0=.slice ((List.range GG).map λi=>.lit (.bool (B i))) ((List.range (Gu-GG)).map λj=>.lit (.bool (B (GG+j)))):=by injection hx
   have h1:=sized_slice Gd (j:=0) (t:=68) (elems:=(List.range GG).map λi=>.lit (.bool (B i))) (spare:=(List.range (Gu-GG)).map λj=>.lit (.bool (B (GG+j)))) rfl (by rw[hd];rfl) Tryz.underlying68;have h2:Tryz.prog.bytesOf 4=1:=by kernel_rfl
   rw[h2]at h1;have h3:=reachBytes_lt;simp at h1;omega
 clear IS Ny;refine(walk W SO a0 GG Gu B0 w0 J4).mono λe W' ⟨he,Rj⟩=>?_
 subst he;exact⟨_,rfl,_,_,_,[],_,[],SP,trodAll_mk1 (shut_bool Tryz.underlying4 _),(trodAll_cons_mk (Below.trod laidOut (by kernel_rfl) (of_decide_eq_true (by kernel_rfl)) k0 Rj SQ) trodAll_mk0),rfl,Rj.frame _,λh=>by cases h⟩
theorem over:Rows.DeswitchCountsSaid:=
 OpenClaim.holds_of_wide 10 Tryz.f10 rfl rfl rfl rfl rfl rfl rfl ⟨rfl,rfl,rfl,rfl,rfl⟩ rfl rfl rfl rfl rfl (by kernel_rfl) Tryz.func10 closed
  (of_decide_eq_true (by kernel_rfl)) (by unfold Func.isWrapper;first|(rw[if_pos (by decide+kernel)];kernel_rfl)|(rw[if_neg (by decide+kernel)];exact⟨rfl,rfl⟩))
  (λos started H enc _=>lifted os started H enc)
set_option maxRecDepth 100000 in
theorem proved:Rows.DeswitchCountsCardSaid:=
 Claim7.holds_tied_plain_at .later [] [.data,.data,.data] true (true, "f50347e73aaa9d340bc349c5a52e56f4bb5d0113295c3e190f190ebf72de17ac") true
  over (λ_ h=>by cases h) c1 (λ_ h=>by cases h) deswitchCounts_row_tie rfl ⟨rfl,rfl⟩ c2 rfl
  (λf fn hf KO=>by
   obtain rfl:f=10:=Option.some.inj (c3.symm.trans hf)|>.symm;obtain rfl:fn=Tryz.f10:=(Option.some.inj (Tryz.func10.symm.trans KO)).symm;exact⟨c4.symm,λj t ht=>by
    rw[Tryz.params10]at ht;have hm:t∈[68]:=by simpa using Array.mem_of_getElem? ht
    exact(show Tryz.prog.wantsStandIn t=false by simpa using List.all_eq_true.1 c5 t hm)⟩)
  c6.symm
#print axioms proved
end Go.Proofs.YtbafhpblecdbbaaGreatDoor.deswitchCountsDone
