/- A part of the proof of the last text of this claim, without conditions. -/
import Derived.Test.YtbafhpblecdbbaaGreatDoorK
set_option maxRecDepth 4000
set_option linter.all false
namespace Go.Ps
open Go.Mt Go.Sm
theorem bc.bind{r:R}(own:Bool)(h:cF r.s)(v:Va):bc r (eQ own r v) 1:=
 ⟨rfl,⟨h.v.set _ (Nat.le_refl _),h.l,h.n⟩,Nat.le_refl _,Nat.le_succ _,Nat.le_succ _⟩
theorem bc.binds(own:Bool):∀(l:List Va) {r:R},cF r.s->bc r (l.foldl (eQ own) r) l.length
 |[],r,h=>.refl h
 |v::l,r,h=>by
  have h1:=bc.bind own h v;have h2:=bc.binds own l h1.sc;have:=h1.trans h2;rw[Nat.add_comm]at this;exact this
theorem wk(own:Bool):∀(l:List Va) (r:R),(l.foldl (eQ own) r).s.aS=r.s.aS
 |[],r=>rfl
 |v::l,r=>by rw[List.foldl_cons,wk own l];rfl
theorem rn(own:Bool):∀(l:List Va) (r:R),(l.foldl (eQ own) r).m.vars=r.m.vars/\(l.foldl (eQ own) r).q=r.q
 |[],r=>⟨rfl,rfl⟩
 |v::l,r=>by rw[List.foldl_cons];exact rn own l _
theorem tF(q:List aF)(r:R)(v:Va)(n:Nm):fA (r.pre q) v n=(fA r v n).pre q:=by
 unfold fA;split<;>simp[R.pre]
theorem bc.decl{r:R}(h:cF r.s)(v:Va):bc r (er r v) 2:=by
 have h1:=bc.last (r:=⟨r.s,⟨r.m.n,r.m.vars++[⟨r.s.vars.nm v.name,v.tk,v.tn,r.s.ck++v.clock.map λo=>(o.1,r.s.vars.nm o.2),false,fp,v.ps⟩]⟩,r.q⟩) h v (r.s.vars.nm v.name);exact⟨h1.ck,h1.sc,by have:=h1.n;unfold er;simp only at this;omega,by have:=h1.vs;unfold er;simp only[List.length_append,List.length_singleton]at this;omega,by have:=h1.q;unfold er;simp only at this;omega⟩
theorem bc.decls:∀(l:List Va) {r:R},cF r.s->bc r (l.foldl er r) (l.length+l.length)
 |[],r,h=>.refl h
 |v::l,r,h=>by
  have h1:=bc.decl h v;have h2:=bc.decls l h1.sc;have:=h1.trans h2;simp only[List.foldl_cons,List.length_cons];exact⟨this.ck,this.sc,by have:=this.n;omega,by have:=this.vs;omega,by have:=this.q;omega⟩
end Go.Ps
namespace Go.Proofs.Pz
open Go.Mt Go.Sm Go.Ps Go.Proofs
open Tryz
def Ac(it im:Nat)(p:Pg)(en:List En)(q:aF)(r:R):Prop:=∀iv il,Dt prog 215 [.ref im 0,je iv il r.s.ck,.d (.agg q.cells)] (dG it im iv il p ⟨r.s,r.m,[]⟩) λx l=>x=.d (.sl (bm (gi en q ⟨r.s,r.m,[]⟩).q))/\l=dG it im iv il p (gi en q ⟨r.s,r.m,[]⟩)
theorem Bm(it im iv il:Nat)(p:Pg)(en:List En)(own:Bool)(b:bJ)(s:Sc)(m:MS)(hs:cF s)(GI:s.ck.length<=100000)(Jr:b.vars.length<=100000)(FX:∀v∈b.vars,v.clock.length<=1000)(hn:m.n+3*b.vars.length+(b.vars.flatMap kx).length<100000000)(hv:m.vars.length+4*b.vars.length+(b.vars.flatMap kx).length<=1000000)(KH:b.eqs.length<=1000000)
  (Hy:∀(i:Nat) (h:i<b.eqs.length),(eu en (b.eqs.take i) (b.vars.foldl er ((b.vars.flatMap kx).foldl cH (b.vars.foldl (eQ own) ⟨s,m,[]⟩)))).s.ck=s.ck/\Ac it im p en b.eqs[i] (eu en (b.eqs.take i) (b.vars.foldl er ((b.vars.flatMap kx).foldl cH (b.vars.foldl (eQ own) ⟨s,m,[]⟩))))/\
   (gi en b.eqs[i] (eu en (b.eqs.take i) (b.vars.foldl er ((b.vars.flatMap kx).foldl cH (b.vars.foldl (eQ own) ⟨s,m,[]⟩))))).q.length<=100000000):
  Dt prog 163 [.ref im 0,je iv il s.ck,.d (.agg b.cells),.d (.bool own)] (dG it im iv il p ⟨s,m,[]⟩) λx l=>x=.d (.sl (bm (gx en own b s m).2))/\l=[.ob it aZ,dc im p (gx en own b s m).1]:=by
 intro H F hw;have w:=(Wk.start hw).nil 16;have hlen:(aJ b.vars).length=b.vars.length:=by simp[aJ]
 rw[b.ai];have LW:= λi=>bc.binds own (b.vars.take i) (r:=⟨s,m,[]⟩) hs
 refine DT.aG func163 rfl ntmps163 rfl ?_
 repeat refine DC.seq ?_
 apply DC.ae
 ·intro s0 Oo;refine dw rfl rfl rfl rfl ?_;refine b_ rfl rfl ?_;refine aa rfl rfl ?_;exact TL.nil rfl
 repeat refine DC.seq ?_
 apply DC.ae
 ·intro s0 Oo;refine aa rfl rfl ?_;exact TL.nil rfl
 repeat refine DC.seq ?_
 apply DC.ae
 ·intro s0 Oo;refine az rfl rfl ?_;refine ax rfl rfl rfl ?_
  (refine bg rfl rfl rfl ?_;rw[hlen])
  refine ah rfl rfl ?_;exact TL.nil rfl
 refine DC.ca [(23,.m (.d (.int .i64 ((0:Nat):Int)))),(22,.m (.d (.int .i64 ((b.vars.length:Nat):Int)))),(21,.m (.d (.sl (aJ b.vars)))),(9,.m (.d (.sl []))),(6,.m (.d (.bM [.sl (aJ b.vars),.sl (b.eqs.map aF.cells)] 0))),(5,.loc 5 0),(3,.m (.d (.bool own))),(0,.m (.ref im 0))] _ _ rfl (λ_=>rfl) rfl ?_
 repeat refine DC.seq ?_
 refine DC.block ?_;refine DC.loop (λk s1=>∃(i:Nat) (bx:List (Nat×List M)) (H1:Hp),s1=⟨[(23,.m (.d (.int .i64 ((i:Nat):Int)))),(22,.m (.d (.int .i64 ((b.vars.length:Nat):Int)))),(21,.m (.d (.sl (aJ b.vars)))),(9,.m (.d (.sl []))),(6,.m (.d (.bM [.sl (aJ b.vars),.sl (b.eqs.map aF.cells)] 0))),(5,.loc 5 0),(3,.m (.d (.bool own))),(0,.m (.ref im 0))],bx,H1⟩/\
   Go.Mt.get bx 5=some [.mp iv,.mp il,.d (.sl (bN s.ck))]/\
   Wk F H (.acc 16 [] (.d (.sl []))::dG it im iv il p ((b.vars.take i).foldl (eQ own) ⟨s,m,[]⟩)) H1/\i<=b.vars.length/\k=b.vars.length-i) b.vars.length _
  ⟨0,_,_,rfl,rfl,w,by omega,rfl⟩ rfl ?_
 clear w;rintro k s1 ⟨i,bx,H1,rfl,Gz,w,hi,rfl⟩
 repeat refine DC.seq ?_
 apply DC.ae
 ·intro s0 Oo;refine ak rfl rfl rfl rfl ?_;exact TL.nil rfl
 repeat refine DC.seq ?_
 refine DC.cond rfl (λhc=>?_) (λhc=>?_)
 ·have FH:i<b.vars.length:=by have:=of_decide_eq_true hc;omega
  clear hc;have FF:=kS FH;have FN:=LW i;have FU:(b.vars.take (i+1)).foldl (eQ own) ⟨s,m,[]⟩=eQ own ((b.vars.take i).foldl (eQ own) ⟨s,m,[]⟩) b.vars[i]:=by rw[List.take_succ_eq_append_getElem FH,List.foldl_append];rfl
  have Kn:(b.vars.take i).length<=b.vars.length:=by rw[List.length_take];omega
  generalize (b.vars.take i).foldl (eQ own) ⟨s,m,[]⟩=r at w FN FU;generalize b.vars[i]=v at FF FU;rw[v.ai]at FF;have Js:=FN.n;have G5:r.s.ck=s.ck:=FN.ck
  dsimp only at Js
  have Oh:(bN s.ck).length=s.ck.length:=by simp[bN]
  have w:Wk F H [dc im p r.m,.ob it aZ,a_ iv r.s.vars,a_ il r.s.aS,.acc 16 [] (.d (.sl []))] H1:=w.pick [2,1,3,4,0];obtain⟨mv,w⟩:=dc.open w;have HF:=w.ob;have hk:((r.m.n:Nat):Int)+1=((r.m.n+1:Nat):Int):=by omega
  have I_:r.m.n+1<=1000000000:=by omega
  have w:=w.set (.box [.d (.sl (p.ao.map En.cells)),.d (.sl (p.nodes.map Nd.cells)),mv,.d (.int .i64 ((r.m.n+1:Nat):Int))]);have QR:=w.ob;have w:Wk F H (dc im p ⟨r.m.n+1,r.m.vars⟩:: [.ob it aZ,a_ iv r.s.vars,a_ il r.s.aS,.acc 16 [] (.d (.sl []))]) _:=dc.close w;have w:=w.pick [1,0,2,3,4];have MY:=w.ob;have MZ:=tj I_ MY;have hd:=Nat.le_trans (pj (r.m.n+1) I_) (by omega:21<=4000000000);refine DC.skip ?_
  repeat refine DC.seq ?_
  refine DC.block ?_
  repeat refine DC.seq ?_
  apply DC.ae
  ·intro s0 Oo;refine aO rfl rfl rfl (Int.natCast_nonneg i) FF rfl ?_;refine aW rfl rfl rfl ?_;refine aM rfl rfl ?_;refine av rfl rfl rfl rfl rfl rfl ?_;exact TL.nil rfl
  repeat refine DC.seq ?_
  apply DC.ae
  ·intro s0 Oo;refine ah rfl rfl ?_;refine eG rfl rfl rfl ?_;refine fS rfl rfl ?_;refine jq rfl rfl HF rfl ?_
   (refine aV rfl rfl rfl (by omega) ?_;rw[hk])
   refine eG rfl rfl rfl ?_;refine fS rfl rfl ?_;refine kK rfl rfl HF rfl rfl rfl ?_;exact TL.nil rfl
  have HF:=QR
  repeat refine DC.seq ?_
  apply DC.ae
  ·intro s0 Oo;refine aq rfl rfl ?_;refine aB rfl rfl rfl rfl ?_;refine aa rfl rfl ?_;exact TL.nil rfl
  cases own with
  |true=>
   have w:Wk F H [a_ iv r.s.vars,.ob it aZ,dc im p ⟨r.m.n+1,r.m.vars⟩,a_ il r.s.aS,.acc 16 [] (.d (.sl []))] _:=w.pick [2,0,1,3,4];obtain⟨es,hm,w⟩:=a_.open w;have hH:=w.ob
   repeat refine DC.seq ?_
   apply DC.ae
   ·intro s0 Oo;refine ah rfl rfl ?_;refine iZ rfl rfl ?_;exact TL.nil rfl
   repeat refine DC.seq ?_
   refine DC.aC rfl ?_;refine DC.skip ?_
   repeat refine DC.seq ?_
   apply DC.ae
   ·intro s0 Oo;refine aq rfl rfl ?_;refine aB rfl rfl Gz rfl ?_;refine aq rfl rfl ?_;refine aB rfl rfl rfl rfl ?_;refine ah rfl rfl ?_;refine aq rfl rfl ?_;refine aB rfl rfl Gz rfl ?_
    (refine bg rfl rfl rfl ?_;rw[Oh])
    refine aq rfl rfl ?_;refine aY rfl rfl rfl rfl rfl ?_;refine bH rfl rfl rfl rfl rfl ?_;refine eJ rfl rfl rfl hH hm.k ?_;exact TL.nil rfl
   repeat refine DC.seq ?_
   apply DC.ae
   ·intro s0 Oo;refine aV rfl rfl rfl (by omega) ?_;refine ah rfl rfl ?_;exact TL.nil rfl
   have w2:=a_.close (hm.set v.name ⟨v.name,s.ck.length,v.tk,v.tn⟩) (w.set (.map (cU v.name (.d (.agg (jX ⟨v.name,s.ck.length,v.tk,v.tn⟩))) es)));exact cb (k':=b.vars.length-(i+1)) (by omega) ⟨i+1,_,_,rfl,Gz,by rw[FU];unfold eQ;rw[G5];exact w2.pick [4,1,2,0,3],by omega,rfl⟩ rfl rfl
  |false=>
   have w:Wk F H [a_ iv r.s.vars,.ob it aZ,dc im p ⟨r.m.n+1,r.m.vars⟩,a_ il r.s.aS,.acc 16 [] (.d (.sl []))] _:=w.pick [2,0,1,3,4];obtain⟨es,hm,w⟩:=a_.open w;have hH:=w.ob
   repeat refine DC.seq ?_
   apply DC.ae
   ·intro s0 Oo;refine ah rfl rfl ?_;refine iZ rfl rfl ?_;exact TL.nil rfl
   repeat refine DC.seq ?_
   refine DC.cr rfl ?_
   repeat refine DC.seq ?_
   apply DC.ae
   ·intro s0 Oo;refine ah rfl rfl ?_;refine eG rfl rfl rfl ?_;refine fS rfl rfl ?_;refine jq rfl rfl HF rfl ?_;refine bn MZ rfl rfl ?_;refine fO rfl rfl rfl rfl hd ?_;refine aa rfl rfl ?_;exact TL.nil rfl
   repeat refine DC.seq ?_
   apply DC.ae
   ·intro s0 Oo;refine aq rfl rfl ?_;refine aB rfl rfl Gz rfl ?_;refine aq rfl rfl ?_;refine aB rfl rfl rfl rfl ?_;refine ah rfl rfl ?_;refine aq rfl rfl ?_;refine aB rfl rfl Gz rfl ?_
    (refine bg rfl rfl rfl ?_;rw[Oh])
    refine aq rfl rfl ?_;refine aY rfl rfl rfl rfl rfl ?_;refine bH rfl rfl rfl rfl rfl ?_;refine eJ rfl rfl rfl hH hm.k ?_;exact TL.nil rfl
   repeat refine DC.seq ?_
   apply DC.ae
   ·intro s0 Oo;refine aV rfl rfl rfl (by omega) ?_;refine ah rfl rfl ?_;exact TL.nil rfl
   have w2:=a_.close (hm.set v.name ⟨nV (r.m.n+1),s.ck.length,v.tk,v.tn⟩) (w.set (.map (cU v.name (.d (.agg (jX ⟨nV (r.m.n+1),s.ck.length,v.tk,v.tn⟩))) es)));exact cb (k':=b.vars.length-(i+1)) (by omega) ⟨i+1,_,_,rfl,Gz,by rw[FU];unfold eQ;rw[G5];exact w2.pick [4,1,2,0,3],by omega,rfl⟩ rfl rfl
 refine DC.exit ?_;obtain rfl:i=b.vars.length:=by have:=of_decide_eq_false hc;omega
 have FN:=LW b.vars.length;rw[List.take_length]at w FN;clear LW hc;have KV:=(rn own b.vars ⟨s,m,[]⟩).2;have Hc:gx en own b s m=((eu en b.eqs (b.vars.foldl er ((b.vars.flatMap kx).foldl cH (b.vars.foldl (eQ own) ⟨s,m,[]⟩)))).m,(eu en b.eqs (b.vars.foldl er ((b.vars.flatMap kx).foldl cH (b.vars.foldl (eQ own) ⟨s,m,[]⟩)))).q):=by
  cases b;rw[gx];rfl
 rw[Hc];clear Hc;generalize b.vars.foldl (eQ own) ⟨s,m,[]⟩=r1 at w FN KV Hy⊢;have w:Wk F H (.acc 16 (bm r1.q) (.d (.sl []))::dG it im iv il p r1) H1:=by rw[KV];exact w
 obtain⟨_,K1,l',⟨rfl,rfl⟩,w,Ge⟩:=Wk.call (a:=[]) w (y9 b (by omega) FX);rw[b.ai]at Ge;have Lo:=FN.n;have Lp:=FN.vs;have Lq:r1.s.ck=s.ck:=FN.ck;have L0:cF r1.s:=FN.sc
 dsimp only at Lo Lp
 obtain⟨A,hA⟩:∃A,A=b.vars.flatMap kx:=⟨_,rfl⟩;rw[<-hA]at Ge hn hv Hy⊢;have Na:(aU A).length=A.length:=by simp[aU]
 have IS:= λi=>bc.lB (A.take i) (r:=r1) L0
 repeat refine DC.seq ?_
 apply DC.ae
 ·intro s0 Oo;refine aW rfl rfl rfl ?_;refine bn Ge rfl rfl ?_
  (refine bg rfl rfl rfl ?_;rw[Na])
  refine ah rfl rfl ?_;exact TL.nil rfl
 refine DC.ca [(59,.m (.d (.int .i64 ((0:Nat):Int)))),(58,.m (.d (.int .i64 ((A.length:Nat):Int)))),(57,.m (.d (.sl (aU A)))),(9,.m (.d (.sl []))),(6,.m (.d (.bM [.sl (aJ b.vars),.sl (b.eqs.map aF.cells)] 0))),(5,.loc 5 0),(3,.m (.d (.bool own))),(0,.m (.ref im 0))] _ _ rfl (λ_=>rfl) rfl ?_
 repeat refine DC.seq ?_
 refine DC.block ?_;refine DC.loop (λk s1=>∃(i:Nat) (mc:M) (bx:List (Nat×List M)) (H1:Hp),s1=⟨[(59,.m (.d (.int .i64 ((i:Nat):Int)))),(58,.m (.d (.int .i64 ((A.length:Nat):Int)))),(57,.m (.d (.sl (aU A)))),(9,.m mc),(6,.m (.d (.bM [.sl (aJ b.vars),.sl (b.eqs.map aF.cells)] 0))),(5,.loc 5 0),(3,.m (.d (.bool own))),(0,.m (.ref im 0))],bx,H1⟩/\
   Go.Mt.get bx 5=some [.mp iv,.mp il,.d (.sl (bN s.ck))]/\
   Wk F H (.acc 16 (bm ((A.take i).foldl cH r1).q) mc::dG it im iv il p ((A.take i).foldl cH r1)) H1/\i<=A.length/\k=A.length-i) A.length _
  ⟨0,.d (.sl []),_,_,rfl,Gz,w,by omega,rfl⟩ rfl ?_
 clear w Ge Gz;rintro k s1 ⟨i,mc,bx,H1,rfl,Gz,w,hi,rfl⟩
 repeat refine DC.seq ?_
 apply DC.ae
 ·intro s0 Oo;refine ak rfl rfl rfl rfl ?_;exact TL.nil rfl
 repeat refine DC.seq ?_
 refine DC.cond rfl (λhc=>?_) (λhc=>?_)
 ·have FH:i<A.length:=by have:=of_decide_eq_true hc;omega
  clear hc;have FF:=fv FH;have FN:=IS i;have FU:(A.take (i+1)).foldl cH r1=cH ((A.take i).foldl cH r1) A[i]:=by rw[List.take_succ_eq_append_getElem FH,List.foldl_append];rfl
  rw[jy]at FU;generalize (A.take i).foldl cH r1=r at w FN FU;generalize A[i]=x at FF FU;have Js:=FN.n;have IY:=FN.vs;have HP:=FN.q;have G5:=FN.ck.trans Lq;have Kn:(A.take i).length<=A.length:=by rw[List.length_take];omega
  rw[KV]at HP;have JA:=jz r.s.vars r.s.ck r.m x FN.sc.v;obtain⟨_,K2,l',⟨rfl,rfl⟩,w,L1⟩:=Wk.call (a:=[.ob it aZ,dc im p r.m,a_ iv r.s.vars]) (r:=[_,_]) (w.pick [1,2,3,0,4]) (xF it im p r.m iv il r.s.ck r.s.vars x (by omega) (by omega) FN.sc.n (FN.sc.v x));rw[G5]at L1 JA;have w:Wk F H [.acc 16 (bm r.q) mc,.ob it aZ,dc im p (cu r.s.vars r.s.ck r.m x).2.1,a_ iv (cu r.s.vars r.s.ck r.m x).1,a_ il r.s.aS] K2:=w.pick [3,0,1,2,4];rw[G5]at w FU;have J8:(bm r.q).length+(bm (cu r.s.vars s.ck r.m x).2.2).length<=100000000:=by
   have:=JA.2.2.2;simp only[bm,List.length_map];simp only[List.length_nil]at HP;omega
  refine DC.skip ?_
  repeat refine DC.seq ?_
  refine DC.block ?_
  repeat refine DC.seq ?_
  apply DC.ae
  ·intro s0 Oo;refine aO rfl rfl rfl (Int.natCast_nonneg i) FF rfl ?_;refine ax rfl rfl rfl ?_;refine aa rfl rfl ?_;exact TL.nil rfl
  repeat refine DC.seq ?_
  apply DC.ae
  ·intro s0 Oo;refine ah rfl rfl ?_;refine ah rfl rfl ?_;refine cy rfl rfl Gz rfl rfl ?_;refine ah rfl rfl ?_;refine bn L1 rfl rfl ?_;refine cK w rfl rfl rfl rfl rfl rfl (cg _) (by omega) ?_;refine aa rfl rfl ?_;exact TL.nil rfl
  have w:=w.app (bm (cu r.s.vars s.ck r.m x).2.2);rw[<-dB]at w
  repeat refine DC.seq ?_
  apply DC.ae
  ·intro s0 Oo;refine aV rfl rfl rfl (by omega) ?_;refine ah rfl rfl ?_;exact TL.nil rfl
  exact cb (k':=A.length-(i+1)) (by omega) ⟨i+1,_,_,_,rfl,Gz,by rw[FU];exact w,by omega,rfl⟩ rfl rfl
 refine DC.exit ?_;obtain rfl:i=A.length:=by have:=of_decide_eq_false hc;omega
 have GZ:=IS A.length;rw[List.take_length]at w GZ;clear IS hc;generalize A.foldl cH r1=r2 at w GZ Hy⊢;have Tt:=GZ.n;have Tu:=GZ.vs;have QS:=GZ.q;have QT:=GZ.ck.trans Lq;have QU:=GZ.sc;rw[KV,List.length_nil]at QS;have Mi:= λi=>bc.decls (b.vars.take i) (r:=r2) QU
 repeat refine DC.seq ?_
 apply DC.ae
 ·intro s0 Oo;refine az rfl rfl ?_;refine ax rfl rfl rfl ?_
  (refine bg rfl rfl rfl ?_;rw[hlen])
  refine ah rfl rfl ?_;exact TL.nil rfl
 refine DC.ca [(73,.m (.d (.int .i64 ((0:Nat):Int)))),(72,.m (.d (.int .i64 ((b.vars.length:Nat):Int)))),(71,.m (.d (.sl (aJ b.vars)))),(9,.m mc),(6,.m (.d (.bM [.sl (aJ b.vars),.sl (b.eqs.map aF.cells)] 0))),(5,.loc 5 0),(0,.m (.ref im 0))] _ _ rfl (λ_=>rfl) rfl ?_
 repeat refine DC.seq ?_
 refine DC.block ?_;refine DC.loop (λk s1=>∃(i:Nat) (mc:M) (bx:List (Nat×List M)) (H1:Hp),s1=⟨[(73,.m (.d (.int .i64 ((i:Nat):Int)))),(72,.m (.d (.int .i64 ((b.vars.length:Nat):Int)))),(71,.m (.d (.sl (aJ b.vars)))),(9,.m mc),(6,.m (.d (.bM [.sl (aJ b.vars),.sl (b.eqs.map aF.cells)] 0))),(5,.loc 5 0),(0,.m (.ref im 0))],bx,H1⟩/\
   Go.Mt.get bx 5=some [.mp iv,.mp il,.d (.sl (bN s.ck))]/\
   Wk F H (.acc 16 (bm ((b.vars.take i).foldl er r2).q) mc::dG it im iv il p ((b.vars.take i).foldl er r2)) H1/\i<=b.vars.length/\k=b.vars.length-i) b.vars.length _
  ⟨0,mc,_,_,rfl,Gz,w,by omega,rfl⟩ rfl ?_
 clear w Gz;rintro k s1 ⟨i,mc,bx,H1,rfl,Gz,w,hi,rfl⟩
 repeat refine DC.seq ?_
 apply DC.ae
 ·intro s0 Oo;refine ak rfl rfl rfl rfl ?_;exact TL.nil rfl
 repeat refine DC.seq ?_
 refine DC.cond rfl (λhc=>?_) (λhc=>?_)
 ·have FH:i<b.vars.length:=by have:=of_decide_eq_true hc;omega
  clear hc;have FF:=kS FH;have FN:=Mi i;have FU:(b.vars.take (i+1)).foldl er r2=er ((b.vars.take i).foldl er r2) b.vars[i]:=by rw[List.take_succ_eq_append_getElem FH,List.foldl_append];rfl
  have Mf:=FX _ (List.getElem_mem FH);have Kn:(b.vars.take i).length+1<=b.vars.length:=by rw[List.length_take];omega
  generalize (b.vars.take i).foldl er r2=r at w FN FU;generalize b.vars[i]=v at FF FU Mf;have Js:=FN.n;have IY:=FN.vs;have HP:=FN.q;have G5:=FN.ck.trans QT;have JP:=FN.sc;have w:Wk F H [a_ iv r.s.vars,.acc 16 (bm r.q) mc,.ob it aZ,dc im p r.m,a_ il r.s.aS] H1:=w.pick [3,0,1,2,4];obtain⟨es,hm,w⟩:=a_.open w;have hH:=w.ob;have QV:=Bl (.ref im 0) iv il s.ck hm hH v.clock (by omega);obtain⟨G9,Gi⟩:∃G9,G9=s.ck++v.clock.map λo=>(o.1,r.s.vars.nm o.2):=⟨_,rfl⟩
  have Kr:=py s.ck (v.clock.map λo=>(o.1,r.s.vars.nm o.2)) (by rw[List.length_map];omega);rw[<-Gi]at Kr;have w:Wk F H (dc im p r.m:: [.ob iv (.map es),.acc 16 (bm r.q) mc,.ob it aZ,a_ il r.s.aS]) H1:=w.pick [3,0,1,2,4];obtain⟨mv,w⟩:=dc.open w;have HF:=w.ob;have w:=w.pick [1,0,2,3,4,5];rw[v.ai]at FF;refine DC.skip ?_
  repeat refine DC.seq ?_
  refine DC.block ?_
  repeat refine DC.seq ?_
  apply DC.ae
  ·intro s0 Oo;refine aO rfl rfl rfl (Int.natCast_nonneg i) FF rfl ?_;refine aW rfl rfl rfl ?_;refine aM rfl rfl ?_;refine av rfl rfl rfl rfl rfl rfl ?_;exact TL.nil rfl
  repeat refine DC.seq ?_
  apply DC.ae
  ·intro s0 Oo;refine aq rfl rfl ?_;refine aB rfl rfl Gz rfl ?_;refine aq rfl rfl ?_;refine aB rfl rfl rfl rfl ?_;refine g_ hm hH rfl rfl rfl ?_;refine l_ rfl rfl rfl rfl ?_;refine aa rfl rfl ?_;exact TL.nil rfl
  have w2:=w.app [[.str (r.s.vars.nm v.name),.int .u8 v.tk,.str v.tn,.sl (bN G9),.bool false,.int .u8 0,.int .u8 0,.int .i32 0,.str ⟨#[]⟩,.sl [],.sl [],.int .i64 0,.int .i64 0,.int .i64 v.ps.1,.int .i64 v.ps.2]];have I':=(w2.pick [1,0,2,3,4,5]).ob
  repeat refine DC.seq ?_
  apply DC.da mixed
  ·intro s0 Oo;refine aH rfl rfl ?_;refine aH rfl rfl ?_;refine dL rfl rfl rfl ?_;refine fU rfl rfl ?_;refine kI rfl rfl HF rfl ?_;refine aH rfl rfl ?_;refine aP rfl rfl ?_;refine bo rfl rfl rfl rfl rfl ?_;refine aP rfl rfl ?_;refine bw rfl rfl Gz rfl ?_;refine aH rfl rfl ?_;refine jx rfl rfl Gz rfl rfl ?_;refine aP rfl rfl ?_;refine bw rfl rfl rfl rfl ?_;refine kL QV rfl rfl ?_;refine bj rfl rfl rfl rfl rfl rfl rfl rfl ?_;refine bX Kr rfl rfl ?_;refine aP rfl rfl ?_;refine bo rfl rfl rfl rfl rfl ?_;refine dY rfl rfl rfl rfl rfl ?_;refine bj rfl rfl rfl rfl rfl rfl rfl rfl ?_;refine fV w rfl rfl rfl rfl rfl rfl rfl (by simp only[aJ,List.length_map];omega) ?_;refine dL rfl rfl rfl ?_;refine fU rfl rfl ?_;refine pL rfl rfl I' (cW _ _ _) rfl rfl ?_;exact TF.nil ⟨by kernel_rfl,rfl⟩
  obtain⟨nv,QW⟩:∃nv:Va,nv=⟨r.s.vars.nm v.name,v.tk,v.tn,G9,false,fp,v.ps⟩:=⟨_,rfl⟩;have Ks:aJ (r.m.vars++[nv])=aJ r.m.vars++[[.str (r.s.vars.nm v.name),.int .u8 v.tk,.str v.tn,.sl (bN G9),.bool false,.int .u8 0,.int .u8 0,.int .i32 0,.str ⟨#[]⟩,.sl [],.sl [],.int .i64 0,.int .i64 0,.int .i64 v.ps.1,.int .i64 v.ps.2]]:=by
   rw[QW];simp only[aJ,List.map_append,List.map_cons,List.map_nil];rw[Va.ai];rfl
  rw[<-Ks]at w2;have w3:Wk F H (dc im p ⟨r.m.n,r.m.vars++[nv]⟩:: [.ob iv (.map es),.acc 16 (bm r.q) mc,.ob it aZ,a_ il r.s.aS]) _:=dc.close ((w2.pick [1,0,2,3,4,5]).set (.box [.d (.sl (p.ao.map En.cells)),.d (.sl (p.nodes.map Nd.cells)),dT mv H1 [[.str (r.s.vars.nm v.name),.int .u8 v.tk,.str v.tn,.sl (bN G9),.bool false,.int .u8 0,.int .u8 0,.int .i32 0,.str ⟨#[]⟩,.sl [],.sl [],.int .i64 0,.int .i64 0,.int .i64 v.ps.1,.int .i64 v.ps.2]],.d (.int .i64 ((r.m.n:Nat):Int))]));have w4:Wk F H (a_ iv r.s.vars:: [dc im p ⟨r.m.n,r.m.vars++[nv]⟩,.acc 16 (bm r.q) mc,.ob it aZ,a_ il r.s.aS]) _:=a_.close hm (w3.pick [1,0,2,3,4]);have Km:(⟨r.s,⟨r.m.n,r.m.vars++[nv]⟩,[]⟩:R).s=r.s:=rfl;obtain⟨_,K5,l',⟨rfl,rfl⟩,w5,Hq⟩:=Wk.call (a:=dG it im iv il p ⟨r.s,⟨r.m.n,r.m.vars++[nv]⟩,[]⟩) (r:=[_]) (w4.pick [3,1,0,4,2]) (xH it im iv il p r.s ⟨r.m.n,r.m.vars++[nv]⟩ v (r.s.vars.nm v.name) JP (by simp only;omega) (by simp only[List.length_append,List.length_singleton];omega) (by rw[G5];omega));have Ni:er r v=(fA ⟨r.s,⟨r.m.n,r.m.vars++[nv]⟩,[]⟩ v (r.s.vars.nm v.name)).pre r.q:=by
   rw[<-tF];unfold er;rw[QW,Gi,<-G5];simp[R.pre]
  rw[Ni]at FU;have Pb:(fA ⟨r.s,⟨r.m.n,r.m.vars++[nv]⟩,[]⟩ v (r.s.vars.nm v.name)).q.length<=1:=by
   have:=(bc.last (r:=⟨r.s,⟨r.m.n,r.m.vars++[nv]⟩,[]⟩) JP v (r.s.vars.nm v.name)).q;simpa using this
  generalize fA ⟨r.s,⟨r.m.n,r.m.vars++[nv]⟩,[]⟩ v (r.s.vars.nm v.name)=r5 at w5 Hq FU Pb;rw[G5,v.ai]at Hq;have w5:Wk F H (.acc 16 (bm r.q) mc::dG it im iv il p r5) K5:=w5.pick [4,0,1,2,3]
  repeat refine DC.seq ?_
  apply DC.ae
  ·intro s0 Oo;refine ah rfl rfl ?_;refine ah rfl rfl ?_;refine cy rfl rfl Gz rfl rfl ?_;refine aY rfl rfl rfl rfl rfl ?_;refine ah rfl rfl ?_;refine bn Hq rfl rfl ?_;refine cK w5 rfl rfl rfl rfl rfl rfl (cg _) (by simp only[bm,List.length_map];omega) ?_;refine aa rfl rfl ?_;exact TL.nil rfl
  have w6:=w5.app (bm r5.q);rw[<-dB]at w6
  repeat refine DC.seq ?_
  apply DC.ae
  ·intro s0 Oo;refine aV rfl rfl rfl (by omega) ?_;refine ah rfl rfl ?_;exact TL.nil rfl
  exact cb (k':=b.vars.length-(i+1)) (by omega) ⟨i+1,_,_,_,rfl,Gz,by rw[FU];exact w6,by omega,rfl⟩ rfl rfl
 refine DC.exit ?_;obtain rfl:i=b.vars.length:=by have:=of_decide_eq_false hc;omega
 rw[List.take_length]at w;clear Mi hc;generalize b.vars.foldl er r2=r3 at w Hy⊢;have hle:(b.eqs.map aF.cells).length=b.eqs.length:=by simp
 repeat refine DC.seq ?_
 apply DC.ae
 ·intro s0 Oo;refine az rfl rfl ?_;refine ax rfl rfl rfl ?_
  (refine bg rfl rfl rfl ?_;rw[hle])
  refine ah rfl rfl ?_;exact TL.nil rfl
 refine DC.ca [(118,.m (.d (.int .i64 ((0:Nat):Int)))),(117,.m (.d (.int .i64 ((b.eqs.length:Nat):Int)))),(116,.m (.d (.sl (b.eqs.map aF.cells)))),(9,.m mc),(5,.loc 5 0),(0,.m (.ref im 0))] _ _ rfl (λ_=>rfl) rfl ?_
 repeat refine DC.seq ?_
 refine DC.block ?_;refine DC.loop (λk s1=>∃(i:Nat) (mc:M) (bx:List (Nat×List M)) (H1:Hp),s1=⟨[(118,.m (.d (.int .i64 ((i:Nat):Int)))),(117,.m (.d (.int .i64 ((b.eqs.length:Nat):Int)))),(116,.m (.d (.sl (b.eqs.map aF.cells)))),(9,.m mc),(5,.loc 5 0),(0,.m (.ref im 0))],bx,H1⟩/\
   Go.Mt.get bx 5=some [.mp iv,.mp il,.d (.sl (bN s.ck))]/\
   Wk F H (.acc 16 (bm (eu en (b.eqs.take i) r3).q) mc::dG it im iv il p (eu en (b.eqs.take i) r3)) H1/\i<=b.eqs.length/\k=b.eqs.length-i) b.eqs.length _
  ⟨0,mc,_,_,rfl,Gz,by rw[List.take_zero,eu.eq_def];exact w,by omega,rfl⟩ rfl ?_
 clear w Gz;rintro k s1 ⟨i,mc,bx,H1,rfl,Gz,w,hi,rfl⟩
 repeat refine DC.seq ?_
 apply DC.ae
 ·intro s0 Oo;refine ak rfl rfl rfl rfl ?_;exact TL.nil rfl
 repeat refine DC.seq ?_
 refine DC.cond rfl (λhc=>?_) (λhc=>?_)
 ·have FH:i<b.eqs.length:=by have:=of_decide_eq_true hc;omega
  clear hc;have FF:(b.eqs.map aF.cells)[((i:Nat):Int).toNat]?=some b.eqs[i].cells:=by simp[FH]
  obtain⟨G5,Nj,Nk⟩:=Hy i FH;have FU:eu en (b.eqs.take (i+1)) r3=gi en b.eqs[i] (eu en (b.eqs.take i) r3):=by rw[List.take_succ_eq_append_getElem FH,va,eu.eq_def];simp only;rw[eu.eq_def]
  generalize eu en (b.eqs.take i) r3=r at w G5 Nj Nk FU;generalize b.eqs[i]=q at FF Nj Nk FU;obtain⟨_,K5,l',⟨rfl,rfl⟩,w5,Hq⟩:=Wk.call (a:=dG it im iv il p ⟨r.s,r.m,[]⟩) (r:=[_]) (w.pick [1,2,3,4,0]) (Nj iv il);have Ni:gi en q r=(gi en q ⟨r.s,r.m,[]⟩).pre r.q:=by rw[<-Cy,R.pre_nil]
  rw[Ni]at FU Nk;generalize gi en q ⟨r.s,r.m,[]⟩=r5 at w5 Hq FU Nk;rw[G5,q.ai,q.ex.ai]at Hq;rw[q.ai,q.ex.ai]at FF;have w5:Wk F H (.acc 16 (bm r.q) mc::dG it im iv il p r5) K5:=w5.pick [4,0,1,2,3];refine DC.skip ?_
  repeat refine DC.seq ?_
  refine DC.block ?_
  repeat refine DC.seq ?_
  apply DC.ae
  ·intro s0 Oo;refine aO rfl rfl rfl (Int.natCast_nonneg i) FF rfl ?_;refine aW rfl rfl rfl ?_;refine aM rfl rfl ?_;refine av rfl rfl rfl rfl rfl rfl ?_;exact TL.nil rfl
  repeat refine DC.seq ?_
  apply DC.ae
  ·intro s0 Oo;refine ah rfl rfl ?_;refine ah rfl rfl ?_;refine cy rfl rfl Gz rfl rfl ?_;refine aY rfl rfl rfl rfl rfl ?_;refine bn Hq rfl rfl ?_;refine cK w5 rfl rfl rfl rfl rfl rfl (cg _) (by simp only[R.pre,List.length_append]at Nk;simp only[bm,List.length_map];omega) ?_;refine aa rfl rfl ?_;exact TL.nil rfl
  have w6:=w5.app (bm r5.q);rw[<-dB]at w6
  repeat refine DC.seq ?_
  apply DC.ae
  ·intro s0 Oo;refine aV rfl rfl rfl (by omega) ?_;refine ah rfl rfl ?_;exact TL.nil rfl
  exact cb (k':=b.eqs.length-(i+1)) (by omega) ⟨i+1,_,_,_,rfl,Gz,by rw[FU];exact w6,by omega,rfl⟩ rfl rfl
 refine DC.exit ?_;obtain rfl:i=b.eqs.length:=by have:=of_decide_eq_false hc;omega
 rw[List.take_length]at w;generalize eu en b.eqs r3=r4 at w⊢;have IR:=w.view (cg _)
 repeat refine DC.seq ?_
 apply DC.ae
 ·intro s0 Oo;refine ah rfl rfl ?_;refine aa rfl rfl ?_;exact TL.nil rfl
 refine DC.bC 8 rfl IR ?_;exact DC.ret ⟨_,rfl,_,⟨rfl,rfl⟩,((w.pick [0,3,4,1,2]).drop.drop).drop⟩
theorem wl(it im iv il:Nat)(p:Pg)(s:Sc)(m:MS)(q:aF)(h1:q.kd=3)(z:R)
  (hc:Dt prog 260 [.ref im 0,je iv il s.ck,.d (.agg q.cells)] (dG it im iv il p ⟨s,m,[]⟩) λx l=>x=.d (.sl (bm z.q))/\l=dG it im iv il p z):
  Dt prog 215 [.ref im 0,je iv il s.ck,.d (.agg q.cells)] (dG it im iv il p ⟨s,m,[]⟩) λx l=>x=.d (.sl (bm z.q))/\l=dG it im iv il p z:=by
 intro H F hw;obtain⟨_,K1,l',⟨rfl,rfl⟩,w,Ge⟩:=Wk.call (r:=[]) (Wk.start hw) hc;rw[q.ai,q.ex.ai,h1]at Ge⊢;refine DT.aG func215 rfl ntmps215 rfl ?_
 repeat refine DC.seq ?_
 apply DC.ae
 ·intro s0 Oo;refine dw rfl rfl rfl rfl ?_;refine b_ rfl rfl ?_;refine aa rfl rfl ?_;exact TL.nil rfl
 repeat refine DC.seq ?_
 apply DC.ae
 ·intro s0 Oo;refine az rfl rfl ?_;refine ax rfl rfl rfl ?_;exact TL.nil rfl
 repeat refine DC.seq ?_
 refine DC.block ?_
 repeat refine DC.seq ?_
 apply DC.ae
 ·intro s0 Oo;refine ak rfl rfl rfl (r:=.bool false) rfl ?_;refine aa rfl rfl ?_;exact TL.nil rfl
 repeat refine DC.seq ?_
 refine DC.aC rfl ?_
 repeat refine DC.seq ?_
 apply DC.ae
 ·intro s0 Oo;refine ak rfl rfl rfl (r:=.bool false) rfl ?_;refine aa rfl rfl ?_;exact TL.nil rfl
 repeat refine DC.seq ?_
 refine DC.aC rfl ?_
 repeat refine DC.seq ?_
 apply DC.ae
 ·intro s0 Oo;refine ak rfl rfl rfl (r:=.bool false) rfl ?_;refine aa rfl rfl ?_;exact TL.nil rfl
 repeat refine DC.seq ?_
 refine DC.aC rfl ?_;refine DC.skip ?_
 repeat refine DC.seq ?_
 apply DC.ae
 ·intro s0 Oo;refine ah rfl rfl ?_;refine cy rfl rfl rfl rfl rfl ?_;refine aW rfl rfl rfl ?_;refine bn Ge rfl rfl ?_;refine aa rfl rfl ?_;exact TL.nil rfl
 exact DC.ret ⟨_,rfl,_,⟨rfl,rfl⟩,w⟩
theorem Bn(l:List Nd):∀r∈l.map Nd.cells,r.length=7:=by intro r hr;obtain⟨_,_,rfl⟩:=List.mem_map.1 hr;rfl
theorem ur(it:Nat)(p:Pg)(hl:p.nodes.length<=1000000)
  (hn:∀d∈p.nodes,Dt prog 110 [.d (.agg p.cells),.d (.agg d.cells)] [.ob it aZ] λx l=>x=.d (.agg (rG p.ao d).cells)/\l=[.ob it aZ]):
  Dt prog 56 [.d (.agg p.cells)] [.ob it aZ] λx l=>x=.d (.agg (Eg p).cells)/\l=[.ob it aZ]:=by
 intro H F hs;have w:=(Wk.start hs).nil 7;have hlen:(p.nodes.map Nd.cells).length=p.nodes.length:=by simp
 refine DT.aG func56 rfl ntmps56 rfl ?_
 repeat refine DC.seq ?_
 apply DC.ae
 ·intro s0 Oo;refine b_ rfl rfl ?_;refine aM rfl rfl ?_;exact TL.nil rfl
 repeat refine DC.seq ?_
 apply DC.ae
 ·intro s0 Oo;refine az rfl rfl ?_;refine ax rfl rfl rfl ?_;refine bH rfl rfl rfl rfl rfl ?_;refine aM rfl rfl ?_;refine av rfl rfl rfl rfl rfl rfl ?_;exact TL.nil rfl
 repeat refine DC.seq ?_
 apply DC.ae
 ·intro s0 Oo;refine az rfl rfl ?_;refine ax rfl rfl rfl ?_
  (refine bg rfl rfl rfl ?_;rw[hlen])
  refine ah rfl rfl ?_;exact TL.nil rfl
 refine DC.ca [(12,.m (.d (.int .i64 ((0:Nat):Int)))),(11,.m (.d (.int .i64 ((p.nodes.length:Nat):Int)))),(10,.m (.d (.sl (p.nodes.map Nd.cells)))),(3,.loc 3 0),(2,.loc 2 0),(1,.m (.d (.bM [.sl (p.ao.map En.cells),.sl (p.nodes.map Nd.cells)] 0)))] _ _ rfl (λ_=>rfl) rfl ?_
 repeat refine DC.seq ?_
 refine DC.block ?_;refine DC.loop (λm s1=>∃(i:Nat) (mc:M) (bx:List (Nat×List M)) (H1:Hp),s1=⟨[(12,.m (.d (.int .i64 ((i:Nat):Int)))),(11,.m (.d (.int .i64 ((p.nodes.length:Nat):Int)))),(10,.m (.d (.sl (p.nodes.map Nd.cells)))),(3,.loc 3 0),(2,.loc 2 0),(1,.m (.d (.bM [.sl (p.ao.map En.cells),.sl (p.nodes.map Nd.cells)] 0)))],bx,H1⟩/\
   Go.Mt.get bx 3=some [.d (.sl (p.ao.map En.cells)),mc]/\Go.Mt.get bx 2=some [.d (.sl []),.d (.sl [])]/\
   Wk F H [.acc 7 (((p.nodes.take i).map (rG p.ao)).map Nd.cells) mc,.ob it aZ] H1/\i<=p.nodes.length/\m=p.nodes.length-i) p.nodes.length _
  ⟨0,.d (.sl []),_,_,rfl,rfl,rfl,w,by omega,rfl⟩ rfl ?_
 clear w;rintro m s1 ⟨i,mc,bx,H1,rfl,Jz,Gs,w,hi,rfl⟩
 repeat refine DC.seq ?_
 apply DC.ae
 ·intro s0 Oo;refine ak rfl rfl rfl rfl ?_;exact TL.nil rfl
 repeat refine DC.seq ?_
 refine DC.cond rfl (λhc=>?_) (λhc=>?_)
 ·have FH:i<p.nodes.length:=by have:=of_decide_eq_true hc;omega
  clear hc;have FF:(p.nodes.map Nd.cells)[((i:Nat):Int).toNat]?=some p.nodes[i].cells:=by simp[FH]
  have FU:((p.nodes.take (i+1)).map (rG p.ao)).map Nd.cells=((p.nodes.take i).map (rG p.ao)).map Nd.cells++[(rG p.ao p.nodes[i]).cells]:=by rw[q8 _ _ _ _ _ FH,List.map_append];rfl
  obtain⟨_,K2,l',⟨rfl,rfl⟩,w,FX⟩:=Wk.call (a:=[_]) (r:=[_]) (w.pick [1,0]) (hn _ (List.getElem_mem FH));have w:Wk F H [.acc 7 (((p.nodes.take i).map (rG p.ao)).map Nd.cells) mc,.ob it aZ] K2:=w.pick [1,0];generalize p.nodes[i]=d at FF FU FX;unfold Nd.cells at FF;rw[show(d.cells:List D)=Nd.cells d from rfl]at FX;unfold Nd.cells at FX;refine DC.skip ?_
  repeat refine DC.seq ?_
  refine DC.block ?_
  repeat refine DC.seq ?_
  apply DC.ae
  ·intro s0 Oo;refine aO rfl rfl rfl (Int.natCast_nonneg i) FF rfl ?_;refine aW rfl rfl rfl ?_;refine aM rfl rfl ?_;refine av rfl rfl rfl rfl rfl rfl ?_;exact TL.nil rfl
  repeat refine DC.seq ?_
  apply DC.da mixed
  ·intro s0 Oo;refine aP rfl rfl ?_;refine bw rfl rfl Jz rfl ?_;refine eB rfl rfl rfl ?_;refine bo rfl rfl rfl rfl rfl ?_;refine gq FX rfl rfl ?_;refine bj rfl rfl rfl rfl rfl rfl rfl rfl ?_;refine fV w rfl rfl rfl rfl rfl rfl rfl (by simp only[List.length_map,List.length_take];omega) ?_;refine aP rfl rfl ?_;refine cc rfl rfl Jz (cW _ _ _) rfl rfl ?_;exact TF.nil ⟨by kernel_rfl,rfl⟩
  have w:=w.app [(rG p.ao d).cells]
  repeat refine DC.seq ?_
  apply DC.ae
  ·intro s0 Oo;refine aV rfl rfl rfl (by omega) ?_;refine ah rfl rfl ?_;exact TL.nil rfl
  exact cb (k':=p.nodes.length-(i+1)) (by omega) ⟨i+1,_,_,_,rfl,rfl,Gs,by rw[FU];exact w,by omega,rfl⟩ rfl rfl
 ·refine DC.exit ?_;obtain rfl:i=p.nodes.length:=by have:=of_decide_eq_false hc;omega
  rw[List.take_length]at w;have hv:=w.view (Bn _);refine DC.eK (FG:=[.d (.sl (p.ao.map En.cells)),.d (.sl ((p.nodes.map (rG p.ao)).map Nd.cells))]) 3 Jz (db (pk hv (qm _))) ?_
  repeat refine DC.seq ?_
  apply DC.ae
  ·intro s0 Oo;refine aY rfl rfl rfl rfl rfl ?_;refine av rfl rfl Gs rfl rfl rfl ?_;exact TL.nil rfl
  exact DC.ret ⟨_,rfl,_,⟨rfl,rfl⟩,w.drop⟩
end Go.Proofs.Pz
namespace Go.Ps
open Go.Mt Go.Sm
theorem bc.uh{r:R}(h:cF r.s)(v:Va):bc r (fF r v) 1:=
 let h1:=bc.last (r:=⟨{r.s with vars:=r.s.vars.set v.name ⟨v.name,0,v.tk,v.tn⟩},r.m,r.q⟩) ⟨h.v.set _ (Nat.zero_le _),h.l,h.n⟩ v v.name
 ⟨h1.ck,h1.sc,h1.n,h1.vs,h1.q⟩
theorem bc.vb:∀(l:List Va) {r:R},cF r.s->bc r (l.foldl fF r) l.length
 |[],r,h=>.refl h
 |v::l,r,h=>by
  have h1:=bc.uh h v;have h2:=bc.vb l h1.sc;have:=h1.trans h2;rw[Nat.add_comm]at this;exact this
abbrev jV:R:=⟨⟨λ_=>none,λ_=>none,[]⟩,⟨0,[]⟩,[]⟩
theorem Ad:cF jV.s:=⟨(λx b h=>nomatch h),(λx b h=>nomatch h),by simp⟩
end Go.Ps
namespace Go.Proofs.Pz
open Go.Mt Go.Sm Go.Ps Go.Proofs
open Tryz
theorem wm(a b:List Va)(h:a.length+b.length<=1000000):PT prog 61 [.sl [[.sl (aJ a)],[.sl (aJ b)]]] (·=[.sl (aJ (a++b))]):=by
 have hc:=xz [aJ a,aJ b] (by
  intro l hl r hr;simp only[List.mem_cons,List.not_mem_nil,or_false]at hl;rcases hl with rfl|rfl<;>exact fP _ r hr) (by simp) (by simp[aJ];omega)
 have hf:[aJ a,aJ b].flatten=aJ (a++b):=by simp[aJ]
 rw[hf]at hc;exact hc
abbrev rq(v:Va):Va:=⟨v.name,v.tk,v.tn,v.clock,false,fp,v.ps⟩
theorem xM(v:Va):(rq v).cells=[.str v.name,.int .u8 v.tk,.str v.tn,.sl (bN v.clock),.bool false,.int .u8 0,.int .u8 0,.int .i32 0,.str ⟨#[]⟩,.sl [],.sl [],.int .i64 0,.int .i64 0,.int .i64 v.ps.1,.int .i64 v.ps.2]:=by rw[Va.ai];rfl
theorem zd(it:Nat)(p:Pg)(d:Nd)(hl:d.ins.length+d.outs.length<=1000)(FX:∀v∈d.ins++d.outs,v.clock.length<=1000)
  (hb:∀im,qE it im p p.ao true d.b ((d.ins++d.outs).foldl fF jV).s ((d.ins++d.outs).foldl fF jV).m) (KV:(gx p.ao true d.b ((d.ins++d.outs).foldl fF jV).s ((d.ins++d.outs).foldl fF jV).m).2.length<=100000000):
  Dt prog 110 [.d (.agg p.cells),.d (.agg d.cells)] [.ob it aZ] λx l=>x=.d (.agg (rG p.ao d).cells)/\l=[.ob it aZ]:=by
 intro H F hs;have w:=Wk.start hs;have HV:d.cells=[.str d.name,.sl (aJ d.ins),.sl (aJ d.outs),.sl (aJ d.b.vars),.sl (d.b.eqs.map aF.cells),.int .i64 d.ps.1,.int .i64 d.ps.2]:=by unfold Nd.cells;rfl
 rw[HV];have UZ:d.outs.length<=1000:=by omega
 have Hc:(rG p.ao d).cells=[.str d.name,.sl (aJ d.ins),.sl (aJ (d.outs.map rq)),.sl (aJ (gx p.ao true d.b ((d.ins++d.outs).foldl fF jV).s ((d.ins++d.outs).foldl fF jV).m).1.vars),.sl (bm (((d.ins++d.outs).foldl fF jV).q++(gx p.ao true d.b ((d.ins++d.outs).foldl fF jV).s ((d.ins++d.outs).foldl fF jV).m).2)),.int .i64 d.ps.1,.int .i64 d.ps.2]:=by
  unfold rG Nd.cells;rfl
 rw[Hc];clear Hc;refine DT.aG func110 rfl ntmps110 rfl ?_
 repeat refine DC.seq ?_
 apply DC.ae
 ·intro s0 Oo;refine b_ rfl rfl ?_;refine b_ rfl rfl ?_;refine aM rfl rfl ?_;exact TL.nil rfl
 repeat refine DC.seq ?_
 apply DC.ae
 ·intro s0 Oo;refine aW rfl rfl rfl ?_;refine bH rfl rfl rfl rfl rfl ?_;refine zx rfl rfl rfl ?_;refine aa rfl rfl ?_;exact TL.nil rfl
 have w:=w.new (.box [.d (.sl (p.ao.map En.cells)),.d (.sl (p.nodes.map Nd.cells)),.d (.sl []),.d (.int .i64 0)]);have Nl:(H++[Ob.box [.d (.sl (p.ao.map En.cells)),.d (.sl (p.nodes.map Nd.cells)),.d (.sl []),.d (.int .i64 0)]]).length=H.length+1:=by simp
 generalize QP:H++[Ob.box [.d (.sl (p.ao.map En.cells)),.d (.sl (p.nodes.map Nd.cells)),.d (.sl []),.d (.int .i64 0)]]=HH at w Nl⊢;generalize H.length=im at w Nl⊢;have w:=(w.new (.map [])).new (.map []);have Me:(HH++[Ob.map []]).length=im+2:=by simp[Nl]
 rw[Nl,Me]at w
 repeat refine DC.seq ?_
 apply DC.ae
 ·intro s0 Oo;refine k8 rfl ?_;refine k8 rfl ?_;refine mU (cs:=[.mp HH.length,.mp (HH++[Ob.map []]).length,.d (.sl [])]) rfl rfl rfl rfl ?_;refine aM rfl rfl ?_;refine av rfl rfl rfl (fX _) rfl rfl ?_;exact TL.nil rfl
 rw[Nl,Me];have Kr:=wm d.ins d.outs (by omega);have hL:(aJ (d.ins++d.outs)).length=(d.ins++d.outs).length:=by simp[aJ]
 repeat refine DC.seq ?_
 apply DC.ae
 ·intro s0 Oo;refine aa rfl rfl ?_;exact TL.nil rfl
 repeat refine DC.seq ?_
 apply DC.ae
 ·intro s0 Oo;refine az rfl rfl ?_;refine ax rfl rfl rfl ?_;refine az rfl rfl ?_;refine ax rfl rfl rfl ?_;refine aD rfl rfl rfl rfl rfl rfl rfl rfl ?_;refine bL Kr rfl rfl ?_
  (refine bg rfl rfl rfl ?_;rw[hL])
  refine ah rfl rfl ?_;exact TL.nil rfl
 have O_:(d.ins++d.outs).length<=1000:=by rw[List.length_append];exact hl
 generalize d.ins++d.outs=L at FX hb KV O_⊢;have w:Wk F H [a_ (im+1) jV.s.vars,.ob (im+2) (.map []),.ob im (.box [.d (.sl (p.ao.map En.cells)),.d (.sl (p.nodes.map Nd.cells)),.d (.sl []),.d (.int .i64 0)]),.ob it aZ] _:=a_.close eS.nil (w.pick [1,0,2,3]);have w:Wk F H [a_ (im+2) jV.s.aS,a_ (im+1) jV.s.vars,.ob im (.box [.d (.sl (p.ao.map En.cells)),.d (.sl (p.nodes.map Nd.cells)),.d (.sl []),.d (.int .i64 0)]),.ob it aZ] _:=a_.close eS.nil (w.pick [1,0,2,3]);have w:=(w.nil 15).pick [3,0,1,2,4];have w:Wk F H (dc im p jV.m:: [a_ (im+2) jV.s.aS,a_ (im+1) jV.s.vars,.ob it aZ]) _:=dc.close w;have w:=(w.pick [3,0,2,1]).nil 16;have Mi:= λi=>bc.vb (L.take i) Ad
 refine DC.ca [(26,.m (.d (.int .i64 ((0:Nat):Int)))),(25,.m (.d (.int .i64 ((L.length:Nat):Int)))),(24,.m (.d (.sl (aJ L)))),(7,.m (.d (.sl []))),(6,.loc 6 0),(5,.m (.ref im 0)),(4,.loc 4 0),(3,.m (.d (.bM [.str d.name,.sl (aJ d.ins),.sl (aJ d.outs),.sl (aJ d.b.vars),.sl (d.b.eqs.map aF.cells),.int .i64 d.ps.1,.int .i64 d.ps.2] 0)))] _ _ rfl (λ_=>rfl) rfl ?_
 repeat refine DC.seq ?_
 refine DC.block ?_;refine DC.loop (λk s1=>∃(i:Nat) (mc:M) (bx:List (Nat×List M)) (H1:Hp),s1=⟨[(26,.m (.d (.int .i64 ((i:Nat):Int)))),(25,.m (.d (.int .i64 ((L.length:Nat):Int)))),(24,.m (.d (.sl (aJ L)))),(7,.m mc),(6,.loc 6 0),(5,.m (.ref im 0)),(4,.loc 4 0),(3,.m (.d (.bM [.str d.name,.sl (aJ d.ins),.sl (aJ d.outs),.sl (aJ d.b.vars),.sl (d.b.eqs.map aF.cells),.int .i64 d.ps.1,.int .i64 d.ps.2] 0)))],bx,H1⟩/\
   Go.Mt.get bx 6=some [.mp (im+1),.mp (im+2),.d (.sl [])]/\Go.Mt.get bx 4=some [.d (.str ⟨#[]⟩),.d (.sl []),.d (.sl []),.d (.sl []),.d (.sl []),.d (.int .i64 0),.d (.int .i64 0)]/\
   Wk F H (.acc 16 (bm ((L.take i).foldl fF jV).q) mc::dG it im (im+1) (im+2) p ((L.take i).foldl fF jV)) H1/\i<=L.length/\k=L.length-i) L.length _
  ⟨0,.d (.sl []),_,_,rfl,rfl,rfl,w,by omega,rfl⟩ rfl ?_
 clear w;rintro k s1 ⟨i,mc,bx,H1,rfl,G1,F9,w,hi,rfl⟩
 repeat refine DC.seq ?_
 apply DC.ae
 ·intro s0 Oo;refine ak rfl rfl rfl rfl ?_;exact TL.nil rfl
 repeat refine DC.seq ?_
 refine DC.cond rfl (λhc=>?_) (λhc=>?_)
 ·have FH:i<L.length:=by have:=of_decide_eq_true hc;omega
  clear hc;have FF:=kS FH;have FN:=Mi i;have FU:(L.take (i+1)).foldl fF jV=fF ((L.take i).foldl fF jV) L[i]:=by rw[List.take_succ_eq_append_getElem FH,List.foldl_append];rfl
  have Mf:=FX _ (List.getElem_mem FH);have Kn:(L.take i).length+1<=L.length:=by rw[List.length_take];omega
  generalize (L.take i).foldl fF jV=r at w FN FU;generalize L[i]=v at FF FU Mf;have Js:=FN.n;have IY:=FN.vs;have HP:=FN.q;have G5:r.s.ck=[]:=FN.ck;have JP:=FN.sc
  dsimp only[List.length_nil]at Js IY HP
  have w:Wk F H (a_ (im+1) r.s.vars:: [.acc 16 (bm r.q) mc,.ob it aZ,dc im p r.m,a_ (im+2) r.s.aS]) H1:=w.pick [3,0,1,2,4];obtain⟨es,hm,w⟩:=a_.open w;have hH:=w.ob;have w2:Wk F H (a_ (im+1) (r.s.vars.set v.name ⟨v.name,0,v.tk,v.tn⟩):: [.acc 16 (bm r.q) mc,.ob it aZ,dc im p r.m,a_ (im+2) r.s.aS]) _:=a_.close (hm.set v.name ⟨v.name,0,v.tk,v.tn⟩) (w.set (.map (cU v.name (.d (.agg (jX ⟨v.name,0,v.tk,v.tn⟩))) es)));obtain⟨r',U0⟩:∃r':R,r'=⟨{r.s with vars:=r.s.vars.set v.name ⟨v.name,0,v.tk,v.tn⟩},r.m,[]⟩:=⟨_,rfl⟩;have Oi:cF (⟨r.s.vars.set v.name ⟨v.name,0,v.tk,v.tn⟩,r.s.aS,r.s.ck⟩:Sc):=⟨JP.v.set _ (Nat.zero_le _),JP.l,JP.n⟩;obtain⟨_,K5,l',⟨rfl,rfl⟩,w5,Hq⟩:=Wk.call (a:=dG it im (im+1) (im+2) p ⟨⟨r.s.vars.set v.name ⟨v.name,0,v.tk,v.tn⟩,r.s.aS,r.s.ck⟩,r.m,[]⟩) (r:=[_]) (w2.pick [2,3,0,4,1]) (xH it im (im+1) (im+2) p ⟨r.s.vars.set v.name ⟨v.name,0,v.tk,v.tn⟩,r.s.aS,r.s.ck⟩ r.m v v.name Oi (by omega) (by omega) (by rw[G5];simp only[List.length_nil];omega));have Ni:fF r v=(fA ⟨⟨r.s.vars.set v.name ⟨v.name,0,v.tk,v.tn⟩,r.s.aS,r.s.ck⟩,r.m,[]⟩ v v.name).pre r.q:=by
   rw[<-tF];unfold fF;simp[R.pre]
  rw[Ni]at FU;have Pb:(fA ⟨⟨r.s.vars.set v.name ⟨v.name,0,v.tk,v.tn⟩,r.s.aS,r.s.ck⟩,r.m,[]⟩ v v.name).q.length<=1:=by
   have:=(bc.last (r:=⟨⟨r.s.vars.set v.name ⟨v.name,0,v.tk,v.tn⟩,r.s.aS,r.s.ck⟩,r.m,[]⟩) Oi v v.name).q;simpa using this
  generalize fA ⟨⟨r.s.vars.set v.name ⟨v.name,0,v.tk,v.tn⟩,r.s.aS,r.s.ck⟩,r.m,[]⟩ v v.name=r5 at w5 Hq FU Pb
  dsimp only at Hq
  rw[G5,v.ai]at Hq;rw[v.ai]at FF;have w5:Wk F H (.acc 16 (bm r.q) mc::dG it im (im+1) (im+2) p r5) K5:=w5.pick [4,0,1,2,3];refine DC.skip ?_
  repeat refine DC.seq ?_
  refine DC.block ?_
  repeat refine DC.seq ?_
  apply DC.ae
  ·intro s0 Oo;refine aO rfl rfl rfl (Int.natCast_nonneg i) FF rfl ?_;refine aW rfl rfl rfl ?_;refine aM rfl rfl ?_;refine av rfl rfl rfl rfl rfl rfl ?_;exact TL.nil rfl
  repeat refine DC.seq ?_
  apply DC.ae
  ·intro s0 Oo;refine aq rfl rfl ?_;refine aB rfl rfl G1 rfl ?_;refine aq rfl rfl ?_;refine aB rfl rfl rfl rfl ?_;refine aq rfl rfl ?_;refine aB rfl rfl rfl rfl ?_;refine aq rfl rfl ?_;refine aY rfl rfl rfl rfl rfl ?_;refine bH rfl rfl rfl rfl rfl ?_;refine eJ rfl rfl rfl hH hm.k ?_;exact TL.nil rfl
  repeat refine DC.seq ?_
  apply DC.ae
  ·intro s0 Oo;refine ah rfl rfl ?_;refine ah rfl rfl ?_;refine cy rfl rfl G1 rfl rfl ?_;refine aY rfl rfl rfl rfl rfl ?_;refine aq rfl rfl ?_;refine aB rfl rfl rfl rfl ?_;refine bn Hq rfl rfl ?_;refine cK w5 rfl rfl rfl rfl rfl rfl (cg _) (by simp only[bm,List.length_map];omega) ?_;refine aa rfl rfl ?_;exact TL.nil rfl
  have w6:=w5.app (bm r5.q);rw[<-dB]at w6
  repeat refine DC.seq ?_
  apply DC.ae
  ·intro s0 Oo;refine aV rfl rfl rfl (by omega) ?_;refine ah rfl rfl ?_;exact TL.nil rfl
  exact cb (k':=L.length-(i+1)) (by omega) ⟨i+1,_,_,_,rfl,G1,F9,by rw[FU];exact w6,by omega,rfl⟩ rfl rfl
 refine DC.exit ?_;obtain rfl:i=L.length:=by have:=of_decide_eq_false hc;omega
 have FN:=Mi L.length;rw[List.take_length]at w FN;clear Mi hc;generalize L.foldl fF jV=r at w FN hb KV⊢;have HP:=FN.q;have G5:r.s.ck=[]:=FN.ck
 dsimp only[List.length_nil]at HP
 have hO:(aJ d.outs).length=d.outs.length:=by simp[aJ]
 repeat refine DC.seq ?_
 apply DC.ae
 ·intro s0 Oo;refine az rfl rfl ?_;refine ax rfl rfl rfl ?_;refine az rfl rfl ?_;refine ax rfl rfl rfl ?_;refine az rfl rfl ?_;refine dj rfl rfl rfl ?_;refine bH rfl rfl rfl rfl rfl ?_;refine aM rfl rfl ?_;refine av rfl rfl rfl rfl rfl rfl ?_;exact TL.nil rfl
 repeat refine DC.seq ?_
 apply DC.ae
 ·intro s0 Oo;refine az rfl rfl ?_;refine ax rfl rfl rfl ?_
  (refine bg rfl rfl rfl ?_;rw[hO])
  refine ah rfl rfl ?_;exact TL.nil rfl
 have w:=w.nil 15;refine DC.ca [(58,.m (.d (.int .i64 ((0:Nat):Int)))),(57,.m (.d (.int .i64 ((d.outs.length:Nat):Int)))),(56,.m (.d (.sl (aJ d.outs)))),(10,.loc 10 0),(7,.m mc),(6,.loc 6 0),(5,.m (.ref im 0)),(4,.loc 4 0),(3,.m (.d (.bM [.str d.name,.sl (aJ d.ins),.sl (aJ d.outs),.sl (aJ d.b.vars),.sl (d.b.eqs.map aF.cells),.int .i64 d.ps.1,.int .i64 d.ps.2] 0)))] _ _ rfl (λ_=>rfl) rfl ?_
 repeat refine DC.seq ?_
 refine DC.block ?_;refine DC.loop (λk s1=>∃(i:Nat) (mo:M) (bx:List (Nat×List M)) (H1:Hp),s1=⟨[(58,.m (.d (.int .i64 ((i:Nat):Int)))),(57,.m (.d (.int .i64 ((d.outs.length:Nat):Int)))),(56,.m (.d (.sl (aJ d.outs)))),(10,.loc 10 0),(7,.m mc),(6,.loc 6 0),(5,.m (.ref im 0)),(4,.loc 4 0),(3,.m (.d (.bM [.str d.name,.sl (aJ d.ins),.sl (aJ d.outs),.sl (aJ d.b.vars),.sl (d.b.eqs.map aF.cells),.int .i64 d.ps.1,.int .i64 d.ps.2] 0)))],bx,H1⟩/\
   Go.Mt.get bx 6=some [.mp (im+1),.mp (im+2),.d (.sl [])]/\Go.Mt.get bx 4=some [.d (.str ⟨#[]⟩),.d (.sl []),.d (.sl []),.d (.sl []),.d (.sl []),.d (.int .i64 0),.d (.int .i64 0)]/\
   Go.Mt.get bx 10=some [.d (.str d.name),.d (.sl (aJ d.ins)),mo,.d (.sl []),.d (.sl []),.d (.int .i64 d.ps.1),.d (.int .i64 d.ps.2)]/\
   Wk F H (.acc 15 (aJ ((d.outs.take i).map rq)) mo:: .acc 16 (bm r.q) mc::dG it im (im+1) (im+2) p r) H1/\i<=d.outs.length/\k=d.outs.length-i) d.outs.length _
  ⟨0,.d (.sl []),_,_,rfl,G1,F9,rfl,w,by omega,rfl⟩ rfl ?_
 clear w G1 F9;rintro k s1 ⟨i,mo,bx,H1,rfl,G1,F9,I2,w,hi,rfl⟩
 repeat refine DC.seq ?_
 apply DC.ae
 ·intro s0 Oo;refine ak rfl rfl rfl rfl ?_;exact TL.nil rfl
 repeat refine DC.seq ?_
 refine DC.cond rfl (λhc=>?_) (λhc=>?_)
 ·have FH:i<d.outs.length:=by have:=of_decide_eq_true hc;omega
  clear hc;have FF:=kS FH;have FU:aJ ((d.outs.take (i+1)).map rq)=aJ ((d.outs.take i).map rq)++[(rq d.outs[i]).cells]:=by rw[q8 _ _ _ _ _ FH];simp[aJ]
  generalize d.outs[i]=v at FF FU;rw[xM]at FU;rw[v.ai]at FF;refine DC.skip ?_
  repeat refine DC.seq ?_
  refine DC.block ?_
  repeat refine DC.seq ?_
  apply DC.ae
  ·intro s0 Oo;refine aO rfl rfl rfl (Int.natCast_nonneg i) FF rfl ?_;refine aW rfl rfl rfl ?_;refine aM rfl rfl ?_;refine av rfl rfl rfl rfl rfl rfl ?_;exact TL.nil rfl
  repeat refine DC.seq ?_
  apply DC.ae
  ·intro s0 Oo;refine bH rfl rfl rfl rfl rfl ?_;refine aq rfl rfl ?_;refine av rfl rfl rfl rfl rfl rfl ?_;refine aq rfl rfl ?_;refine av rfl rfl rfl rfl rfl rfl ?_;exact TL.nil rfl
  repeat refine DC.seq ?_
  apply DC.ae
  ·intro s0 Oo;refine aq rfl rfl ?_;refine aB rfl rfl I2 rfl ?_;refine aY rfl rfl rfl rfl rfl ?_;refine aD rfl rfl rfl rfl rfl rfl rfl rfl ?_;refine cK w rfl rfl rfl rfl rfl rfl (by exact cO rfl) (by simp only[aJ,List.length_map,List.length_take,List.length_singleton];omega) ?_;refine aq rfl rfl ?_;refine av rfl rfl I2 (cW _ _ _) rfl rfl ?_;exact TL.nil rfl
  have w:=w.app [[.str v.name,.int .u8 v.tk,.str v.tn,.sl (bN v.clock),.bool false,.int .u8 0,.int .u8 0,.int .i32 0,.str ⟨#[]⟩,.sl [],.sl [],.int .i64 0,.int .i64 0,.int .i64 v.ps.1,.int .i64 v.ps.2]]
  repeat refine DC.seq ?_
  apply DC.ae
  ·intro s0 Oo;refine aV rfl rfl rfl (by omega) ?_;refine ah rfl rfl ?_;exact TL.nil rfl
  exact cb (k':=d.outs.length-(i+1)) (by omega) ⟨i+1,_,_,_,rfl,G1,F9,rfl,by rw[FU];exact w,by omega,rfl⟩ rfl rfl
 refine DC.exit ?_;obtain rfl:i=d.outs.length:=by have:=of_decide_eq_false hc;omega
 rw[List.take_length]at w;have Sy:=w.view (fP _);refine DC.eK (FG:=[.d (.str d.name),.d (.sl (aJ d.ins)),.d (.sl (aJ (d.outs.map rq))),.d (.sl []),.d (.sl []),.d (.int .i64 d.ps.1),.d (.int .i64 d.ps.2)]) 10 I2 (db (db (pk Sy (db (db (db (db (qm _)))))))) ?_;have w:=w.drop;obtain⟨_,K5,l',⟨rfl,rfl⟩,w,Hq⟩:=Wk.call (a:=dG it im (im+1) (im+2) p ⟨r.s,r.m,[]⟩) (r:=[_]) (w.pick [1,2,3,4,0]) (hb im (im+1) (im+2));rw[G5,d.b.ai]at Hq;generalize gx p.ao true d.b r.s r.m=z at w Hq KV⊢;obtain⟨m2,qs⟩:=z
 dsimp only at w Hq KV⊢
 have w:Wk F H (.acc 16 (bm r.q) mc:: [dc im p m2,.ob it aZ]) K5:=w.pick [2,1,0];have NM:(bm r.q).length+(bm qs).length<=200000000:=by simp only[bm,List.length_map];omega
 repeat refine DC.seq ?_
 apply DC.ae
 ·intro s0 Oo;refine ah rfl rfl ?_;refine ah rfl rfl ?_;refine cy rfl rfl G1 rfl rfl ?_;refine az rfl rfl ?_;refine dj rfl rfl rfl ?_;refine bn Hq rfl rfl ?_;refine cK w rfl rfl rfl rfl rfl rfl (cg _) (by omega) ?_;refine aa rfl rfl ?_;exact TL.nil rfl
 have w2:=w.app (bm qs);rw[<-dB]at w2;have Nh:=w2.view (cg _);obtain⟨mv,w3⟩:=dc.open (w2.pick [1,0,2]);have HF:=w3.ob;have Ho:=(w3.pick [1,0,2,3]).view (fP _);have Mb:=(w3.pick [1,0,2,3]).Ch;refine DC.bC 7 rfl Nh ?_;have Sz:=HF
 repeat refine DC.seq ?_
 apply DC.ae
 ·intro s0 Oo;refine ah rfl rfl ?_;refine eG rfl rfl rfl ?_;refine fS rfl rfl ?_;refine jq rfl rfl Sz rfl ?_;refine ah rfl rfl ?_;refine mU (cs:=[mv,.d (.sl (bm (r.q++qs)))]) rfl rfl rfl (by simp only[gU];rw[Mb];rfl) ?_;refine aq rfl rfl ?_;refine av rfl rfl rfl (fX _) rfl rfl ?_;exact TL.nil rfl
 refine DC.eK (FG:=[.d (.str d.name),.d (.sl (aJ d.ins)),.d (.sl (aJ (d.outs.map rq))),.d (.sl (aJ m2.vars)),.d (.sl (bm (r.q++qs))),.d (.int .i64 d.ps.1),.d (.int .i64 d.ps.2)]) 10 rfl (db (db (db (pk Ho (db (db (db (qm _)))))))) ?_
 repeat refine DC.seq ?_
 apply DC.ae
 ·intro s0 Oo;refine aY rfl rfl rfl rfl rfl ?_;refine av rfl rfl F9 rfl rfl rfl ?_;exact TL.nil rfl
 exact DC.ret ⟨_,rfl,_,⟨rfl,rfl⟩,((w3.drop).drop).drop⟩
end Go.Proofs.Pz
namespace Go.Ps
open Go.Mt Go.Sm
abbrev TE:=Nm->Option (Int×Nm)
def TE.ty(T:TE)(x:Nm):Int×Nm:=match T x with|some t=>t|none=>(0,⟨#[]⟩)
def TE.add(T:TE)(v:Va):TE:= λy=>if y=v.name then some (v.tk,v.tn)else T y
def cw(s:Sc)(T:TE):Prop:=∀x,(s.vars x).map (λb=>(b.tk,b.tn))=T x
def hM(T:TE)(n:Nat):Prop:=∃l:List Nm,l.length<=n/\∀x,(T x).isSome->x∈l
theorem hM.add{T:TE}{n:Nat}(h:hM T n)(v:Va):hM (T.add v) (n+1):=by
 obtain⟨l,h1,h2⟩:=h;refine⟨v.name::l,by simp;omega,λx hx=>?_⟩;unfold TE.add at hx;split at hx
 ·rename_i e;rw[e];simp
 ·exact List.mem_cons_of_mem _ (h2 x hx)
theorem hM.Cz:∀(l:List Va) {T:TE} {n:Nat},hM T n->hM (l.foldl TE.add T) (n+l.length)
 |[],T,n,h=>h
 |v::l,T,n,h=>by
  have:=hM.Cz l (h.add v);rw[List.foldl_cons,List.length_cons];have e:n+(l.length+1)=n+1+l.length:=by omega
  rw[e];exact this
theorem cw.ty{s:Sc}{T:TE}(h:cw s T):s.vars.ty=T.ty:=by
 funext x
 have:=h x;unfold Env.ty TE.ty;rw[<-this];cases s.vars x<;>rfl
theorem cw.some{s:Sc}{T:TE}(h:cw s T)(x:Nm):(s.vars x).isSome=(T x).isSome:=by
 rw[<-h x];cases s.vars x<;>rfl
theorem cw.EU{s:Sc}{T:TE}(h:cw s T){n:Nat}(hs:hM T n):xI s.vars n:=by
 obtain⟨l,h1,h2⟩:=hs;exact⟨l,h1,λx hx=>h2 x (by rw[<-h.some];exact hx)⟩
theorem cw.set{s:Sc}{T:TE}(h:cw s T){x:Nm}{b:Bd}(hb:T x=Option.some (b.tk,b.tn)):cw {s with vars:=s.vars.set x b} T:=by
 intro y;show((Env.set s.vars x b) y).map _=_;unfold Env.set;by_cases e:y=x
 ·rw[if_pos e,e,hb];rfl
 ·rw[if_neg e];exact h y
theorem cw.cH{r:R}{T:TE}(h:cw r.s T)(x:Nm):cw (cH r x).s T:=by
 unfold Go.Ps.cH;split
 ·exact h
 ·rename_i b hb;split
  ·exact h
  ·exact h.set (by rw[<-h x,hb];rfl)
theorem cw.lB{T:TE} :∀(l:List Nm) {r:R},cw r.s T->cw (l.foldl Go.Ps.cH r).s T
 |[],r,h=>h
 |x::l,r,h=>by rw[List.foldl_cons];exact cw.lB l (h.cH x)
theorem cw.vars{s s':Sc}{T:TE}(h:cw s T)(e:s'.vars=s.vars):cw s' T:=by intro x;rw[e];exact h x
theorem cw.ef{r:R}{T:TE}(h:cw r.s T)(e:Xp):cw (cD r e).s T:=by
 unfold cD;exact(cw.lB _ h).vars (ri _ _)
theorem cw.val{r:R}{T:TE}(h:cw r.s T)(e:Xp)(t:Int×Nm):cw (d_ r e t).s T:=h.ef e
theorem cw.arg:∀(l:List Xp) {r:R} {xs:List Xp} {T:TE},cw r.s T->cw (l.foldl dO (r,xs)).1.s T
 |[],r,xs,T,h=>h
 |e::l,r,xs,T,h=>by
  rw[List.foldl_cons];exact cw.arg l (r:=(dO (r,xs) e).1) (xs:=(dO (r,xs) e).2) (h.ef e)
theorem cw.di{s:Sc}{r:R}{T:TE}(hs:cw s T)(h:cw r.s T){x:Nm}(hx:(T x).isSome):cw (di s r x).s T:=by
 unfold Go.Ps.di;refine h.set ?_;rw[hs.ty];unfold TE.ty;cases e:T x with
 |none=>rw[e]at hx;cases hx
 |some t=>rfl
theorem cw.oz{s:Sc}{T:TE}(hs:cw s T):∀(l:List Nm) {r:R},(∀x∈l,(T x).isSome)->cw r.s T->cw (l.foldl (Go.Ps.di s) r).s T
 |[],r,_,h=>h
 |x::l,r,hl,h=>by rw[List.foldl_cons];exact cw.oz hs l (λy hy=>hl y (by simp[hy])) (hs.di h (hl x (by simp)))
theorem ze(p:Int×Int)(r:R)(x:Nm):(eg p r x).s.vars=r.s.vars:=by unfold eg;rw[iF]
theorem mr(p:Int×Int):∀(l:List Nm) (r:R),(l.foldl (eg p) r).s.vars=r.s.vars
 |[],r=>rfl
 |x::l,r=>by rw[List.foldl_cons,mr p l,ze]
theorem cw.bind{r:R}{T:TE}(own:Bool)(h:cw r.s T)(v:Va):cw (eQ own r v).s (T.add v):=by
 intro y;show((Env.set r.s.vars v.name _) y).map _=_;unfold Env.set TE.add;by_cases e:y=v.name
 ·rw[if_pos e,if_pos e];rfl
 ·rw[if_neg e,if_neg e];exact h y
theorem cw.binds(own:Bool):∀(l:List Va) {r:R} {T:TE},cw r.s T->cw (l.foldl (eQ own) r).s (l.foldl TE.add T)
 |[],r,T,h=>h
 |v::l,r,T,h=>by rw[List.foldl_cons,List.foldl_cons];exact cw.binds own l (h.bind own v)
theorem rr(r:R)(v:Va)(n:Nm):(fA r v n).s.vars=r.s.vars:=by unfold fA;split<;>rfl
theorem xN(r:R)(v:Va):(er r v).s.vars=r.s.vars:=by unfold er;rw[rr]
theorem ru:∀(l:List Va) (r:R),(l.foldl er r).s.vars=r.s.vars
 |[],r=>rfl
 |x::l,r=>by rw[List.foldl_cons,ru l,xN]
theorem cw.open{r:R}{T:TE}(own:Bool)(h:cw r.s T)(vars:List Va):cw (lx own r vars).s (vars.foldl TE.add T):=
 (cw.lB _ (h.binds own vars)).vars (ru _ _)
theorem bc.fJ{r r':R}{i j:Nat}(h:bc r r' i)(hl:i<=j):bc r r' j:=⟨h.ck,h.sc,by have:=h.n;omega,by have:=h.vs;omega,by have:=h.q;omega⟩
theorem bc.di{r:R}(h:cF r.s)(s:Sc)(x:Nm):bc r (di s r x) 1:=
 ⟨rfl,⟨h.v.set x (Nat.le_refl _),h.l,h.n⟩,Nat.le_refl _,by simp[Go.Ps.di,MS.fresh],Nat.le_succ _⟩
theorem bc.oz(s:Sc):∀(l:List Nm) {r:R},cF r.s->bc r (l.foldl (Go.Ps.di s) r) l.length
 |[],r,h=>.refl h
 |x::l,r,h=>by
  have h1:=bc.di h s x;have h2:=bc.oz s l h1.sc;have:=h1.trans h2;rw[Nat.add_comm]at this;exact this
theorem bc.eg{r:R}(h:cF r.s)(p:Int×Int)(x:Nm):bc r (eg p r x) 2:=by
 have h1:=bc.eP h x;exact⟨h1.ck,h1.sc,by have:=h1.n;unfold Go.Ps.eg;dsimp only;omega,by have:=h1.vs;unfold Go.Ps.eg;dsimp only;omega,by have:=h1.q;unfold Go.Ps.eg;simp only[List.length_append,List.length_singleton];omega⟩
theorem bc.zf(p:Int×Int):∀(l:List Nm) {r:R},cF r.s->bc r (l.foldl (Go.Ps.eg p) r) (l.length+l.length)
 |[],r,h=>.refl h
 |x::l,r,h=>by
  have h1:=bc.eg h p x;have h2:=bc.zf p l h1.sc;have:=h1.trans h2;rw[List.foldl_cons,List.length_cons];exact this.fJ (by omega)
theorem bc.open{r:R}(h:cF r.s)(own:Bool)(vars:List Va):bc r (lx own r vars) (3*vars.length+(vars.flatMap kx).length):=by
 have h1:=bc.binds own vars h;have h2:=bc.lB (vars.flatMap kx) h1.sc;have h3:=bc.decls vars h2.sc;exact((h1.trans h2).trans h3).fJ (by omega)
abbrev gH(c:Nm)(all:List Nm)(n:Nm)(r:R):R:=all.foldl (di r.s) ⟨⟨r.s.vars,r.s.aS,r.s.ck++[(n,c)]⟩,r.m,r.q⟩
abbrev hU(all:List Nm)(b:bJ)(p:Int×Int)(i0:R):R:=(all.filter λx=> !(dh (cX b) x)).foldl (eg p) i0
theorem cF.more{s:Sc}(h:cF s)(o:Nm×Nm)(hl:s.ck.length<1000000):cF ⟨s.vars,s.aS,s.ck++[o]⟩:=
 ⟨λx b hb=>by have:=h.v x b hb;simp;omega,λx b hb=>by have:=h.l x b hb;simp;omega,by simp;omega⟩
theorem bc.mh{r:R}(h:cF r.s)(hl:r.s.ck.length<1000000)(c:Nm)(all:List Nm)(n:Nm)(b:bJ)(p:Int×Int):
  bc ⟨⟨r.s.vars,r.s.aS,r.s.ck++[(n,c)]⟩,r.m,r.q⟩ (hU all b p (gH c all n r)) (3*all.length):=by
 have h1:=bc.oz r.s all (r:=⟨⟨r.s.vars,r.s.aS,r.s.ck++[(n,c)]⟩,r.m,r.q⟩) (h.more _ hl);have h2:=bc.zf p (all.filter λx=> !(dh (cX b) x)) h1.sc;have h3:=List.length_filter_le (λx=> !(dh (cX b) x)) all;exact(h1.trans h2).fJ (by omega)
mutual
def oA:bJ->Nat
 |.mk vars eqs=>4*vars.length+(vars.flatMap kx).length+mu eqs
def mu:List aF->Nat
 |[]=>0
 |q::l=>tG q+mu l
def tG:aF->Nat
 |.mk _ lhs _ args _ e aj _=>2+2*dP e+2*dA args+lhs.length+args.length+(bE lhs aj).length+fY (bE lhs aj).length aj
def fY(n:Nat):List aT->Nat
 |[]=>0
 |.mk _ b _ _ _::l=>1+3*n+oA b+fY n l
end
mutual
def xO:bJ->Nat
 |.mk _ eqs=>mz eqs
def mz:List aF->Nat
 |[]=>0
 |q::l=>max (zg q) (mz l)
def zg:aF->Nat
 |.mk _ _ _ _ _ _ aj _=>kT aj
def kT:List aT->Nat
 |[]=>0
 |.mk _ b _ _ _::l=>max (1+xO b) (kT l)
end
section
variable(en:List En)
mutual
def rJ(T:TE):bJ->Prop
 |.mk vars eqs=>(∀v∈vars,v.clock.length<=1000)/\vars.length<=100000/\eqs.length<=1000000/\hY (vars.foldl TE.add T) eqs
def hY(T:TE):List aF->Prop
 |[]=>True
 |q::l=>wo T q/\hY T l
def wo(T:TE):aF->Prop
 |.mk k lhs _ args _ e aj _=>lJ e/\(∀a∈args,lJ a)/\(k=1\/k=2\/(k=5/\aj≠[])\/(k=3/\qx en T.ty (λx=>(T x).isSome=true) e/\(∀x∈bE lhs aj,(T x).isSome=true)/\aj.length<=1000/\(∀a∈aj,vW a.be)/\lhs.length+jd aj<=1000000/\lhs.Nodup))/\gy T aj
def gy(T:TE):List aT->Prop
 |[]=>True
 |.mk _ b _ _ _::l=>rJ T b/\gy T l
end
structure Ff(own:Bool)(b:bJ)(s:Sc)(m:MS):Prop where
 n:(gx en own b s m).1.n<=m.n+oA b
 vs:(gx en own b s m).1.vars.length<=m.vars.length+oA b
 q:(gx en own b s m).2.length<=oA b
mutual
theorem wu:∀(b:bJ) (own:Bool) (s:Sc) (m:MS) (T:TE),cF s->cw s T->rJ en T b->s.ck.length+xO b<=100000->Ff en own b s m
 |.mk vars eqs,own,s,m,T,h1,h2,h3,h4=>by
  rw[rJ]at h3;rw[xO]at h4;have g1:=bc.open (r:=⟨s,m,[]⟩) h1 own vars;obtain⟨g2,_⟩:=tH eqs (lx own ⟨s,m,[]⟩ vars) (vars.foldl TE.add T) g1.sc (cw.open (r:=⟨s,m,[]⟩) own h2 vars) h3.2.2.2 (by rw[g1.ck];exact h4);have g:=g1.trans g2;have hn:=g.n;have hv:=g.vs;have hq:=g.q
  dsimp only[List.length_nil]at hn hv hq
  constructor<;>rw[gx,oA]<;>dsimp only<;>omega
theorem tH:∀(l:List aF) (r:R) (T:TE),cF r.s->cw r.s T->hY en T l->r.s.ck.length+mz l<=100000->bc r (eu en l r) (mu l)/\cw (eu en l r).s T
 |[],r,T,h1,h2,h3,h4=>by rw[eu,mu];exact⟨.refl h1,h2⟩
 |q::l,r,T,h1,h2,h3,h4=>by
  rw[hY]at h3;rw[mz]at h4;rw[eu,mu];obtain⟨g1,g2⟩:=Ae q r T h1 h2 h3.1 (by omega);obtain⟨g3,g4⟩:=tH l (gi en q r) T g1.sc g2 h3.2 (by rw[g1.ck];omega);exact⟨g1.trans g3,g4⟩
theorem Ae:∀(q:aF) (r:R) (T:TE),cF r.s->cw r.s T->wo en T q->r.s.ck.length+zg q<=100000->bc r (gi en q r) (tG q)/\cw (gi en q r).s T
 |.mk k lhs f args has e aj p,r,T,h1,h2,h3,h4=>by
  rw[wo]at h3;rw[zg]at h4;rw[gi,tG];obtain⟨GV,KS,hk,Lt⟩:=h3;by_cases k1:k=1
  ·rw[if_pos k1]
   dsimp only
   have g:=bc.ef h1 e;exact⟨⟨g.ck,g.sc,by have:=g.n;dsimp only;omega,by have:=g.vs;dsimp only;omega,by have:=g.q;simp only[List.length_append,List.length_singleton];omega⟩,h2.ef e⟩
  rw[if_neg k1];by_cases k2:k=2
  ·rw[if_pos k2]
   dsimp only
   obtain⟨g,gl⟩:=bc.args args (r:=r) [] h1;have g2:=bc.ef g.sc e;have t2:=cw.arg args (xs:=[]) h2;cases has with
   |true=>
    simp only[if_true];have g3:=g.trans g2;exact⟨⟨g3.ck,g3.sc,by have:=g3.n;dsimp only;omega,by have:=g3.vs;dsimp only;omega,by have:=g3.q;simp only[List.length_append,List.length_singleton];omega⟩,t2.ef e⟩
   |false=>
    simp only[Bool.false_eq_true,if_false];exact⟨⟨g.ck,g.sc,by have:=g.n;dsimp only;omega,by have:=g.vs;dsimp only;omega,by have:=g.q;simp only[List.length_append,List.length_singleton];omega⟩,t2⟩
  rw[if_neg k2];by_cases k5:k=5
  ·rw[if_pos k5]
   dsimp only
   have g:=bc.val h1 e (1,⟨#[]⟩);have t:=h2.val e (1,⟨#[]⟩);have hi:=Dx aj (d_ r e (1,⟨#[]⟩)).s (d_ r e (1,⟨#[]⟩)).m T g.sc t Lt (by rw[g.ck];exact h4) (bE lhs aj).length;exact⟨⟨g.ck,g.sc,by have:=g.n;have:=hi.1;dsimp only;omega,by have:=g.vs;have:=hi.2;dsimp only;omega,by have:=g.q;simp only[List.length_append,List.length_singleton];omega⟩,t⟩
  rw[if_neg k5];obtain⟨_,_,Hh,_⟩:k=3/\qx en T.ty (λx=>(T x).isSome=true) e/\(∀x∈bE lhs aj,(T x).isSome=true)/\aj.length<=1000/\(∀a∈aj,vW a.be)/\lhs.length+jd aj<=1000000/\lhs.Nodup:=by
   rcases hk with h|h|⟨h,_⟩|h
   ·exact absurd h k1
   ·exact absurd h k2
   ·exact absurd h k5
   ·exact h
  dsimp only
  have g:=bc.val h1 e (cQ en r.s.vars.ty e);have t:=h2.val e (cQ en r.s.vars.ty e);generalize d_ r e (cQ en r.s.vars.ty e)=r1 at g t⊢;obtain⟨z1,z2⟩:=mA aj (nV r1.m.n) (bE lhs aj) ⟨r1.s,r1.m,r1.q⟩ [] T g.sc t Hh Lt (by dsimp only;rw[g.ck];exact h4);have z3:=g.trans z1;refine⟨⟨z3.ck,z3.sc,by have:=z3.n;dsimp only;omega,by have:=z3.vs;dsimp only;omega,by have:=z3.q;simp only[List.length_append,List.length_map,List.length_range];omega⟩,?_⟩;rw[z2];exact t
theorem Dx:∀(l:List aT) (s:Sc) (m:MS) (T:TE),cF s->cw s T->gy en T l->s.ck.length+kT l<=100000->∀n,(yO en l s m).1.n<=m.n+fY n l/\(yO en l s m).1.vars.length<=m.vars.length+fY n l
 |[],s,m,T,h1,h2,h3,h4,n=>by rw[yO.eq_def,fY];exact⟨Nat.le_refl _,Nat.le_refl _⟩
 |.mk an b u w p::l,s,m,T,h1,h2,h3,h4,n=>by
  rw[gy]at h3;rw[kT]at h4;have g:=wu b false s m T h1 h2 h3.1 (by omega);rw[yO.eq_def,fY];have:=g.n;have:=g.vs
  dsimp only
  constructor<;>omega
theorem mA:∀(l:List aT) (c:Nm) (all:List Nm) (r:R) (vs:List (List Nm)) (T:TE),cF r.s->cw r.s T->(∀x∈all,(T x).isSome=true)->gy en T l->r.s.ck.length+kT l<=100000->
  bc r (cd en c all l r vs).1 (fY all.length l)/\(cd en c all l r vs).1.s=r.s
 |[],c,all,r,vs,T,h1,h2,ha,h3,h4=>by rw[gO,fY];exact⟨.refl h1,rfl⟩
 |.mk n b u w p::l,c,all,r,vs,T,h1,h2,ha,h3,h4=>by
  rw[gy]at h3;rw[kT]at h4;rw[gG,fY]
  dsimp only
  have g1:=bc.mh (r:=r) h1 (by omega) c all n b p;have t1:cw (hU all b p (gH c all n r)).s T:=(cw.oz h2 all (r:=⟨⟨r.s.vars,r.s.aS,r.s.ck++[(n,c)]⟩,r.m,r.q⟩) ha (h2.vars rfl)).vars (mr _ _ _)
  dsimp only[gH,hU]at g1 t1
  generalize (all.filter λx=> !(dh (cX b) x)).foldl (eg p) (all.foldl (di r.s) ⟨⟨r.s.vars,r.s.aS,r.s.ck++[(n,c)]⟩,r.m,r.q⟩)=i1 at g1 t1⊢;have g2:=wu b false i1.s i1.m T g1.sc t1 h3.1 (by rw[g1.ck];simp only[List.length_append,List.length_singleton];omega);have k1:=g1.n;have k2:=g1.vs;have k3:=g1.q;have k4:=g2.n;have k5:=g2.vs;have k6:=g2.q
  dsimp only at k1 k2 k3
  obtain⟨g3,g4⟩:=mA l c all ⟨r.s,(gx en false b i1.s i1.m).1,i1.q++(gx en false b i1.s i1.m).2⟩ (vs++[all.map (all.foldl (di r.s) ⟨⟨r.s.vars,r.s.aS,r.s.ck++[(n,c)]⟩,r.m,r.q⟩).s.vars.nm]) T h1 h2 ha h3.2 (by dsimp only;omega);have j1:=g3.n;have j2:=g3.vs;have j3:=g3.q
  dsimp only at j1 j2 j3
  rw[List.length_append]at j3;exact⟨⟨g3.ck,g3.sc,by omega,by omega,by omega⟩,g4⟩
end
end
abbrev Mr:=(List Nm×List Nm)×(M×M)
def fH(c:Nm)(p:Int×Int)(x:Mr):List M:=[.d (.int .u8 13),.d (.int .u8 0),.d (.int .i32 0),.d (.str c),x.2.1,x.2.2,.d (.int .i64 p.1),.d (.int .i64 p.2)]
def cV(l:List Nm):List (List D):=l.map λv=>(bk v).cells
def gR(x:Mr):List As:=[.acc 1 (aU x.1.1) x.2.1,.own 8 (cV x.1.2) x.2.2]
def cN(c:Nm)(p:Int×Int)(l:List Mr):List M:=l.flatMap (fH c p)
def jY(i:Nat)(c:Nm)(p:Int×Int)(l:List Mr):As:=Sep (.ob i (.row false 8 0 (cN c p l))::l.flatMap gR)
theorem mB(c:Nm)(p:Int×Int)(l:List Mr):(cN c p l).length=l.length*8:=by
 induction l with
 |nil=>rfl
 |cons x l ih=>simp only[cN,List.flatMap_cons,List.length_append,List.length_cons]at ih⊢;rw[ih];simp[fH];omega
theorem kU(c:Nm)(p:Int×Int)(a b:List Mr):cN c p (a++b)=cN c p a++cN c p b:=by simp[cN]
theorem xQ(c:Nm)(p:Int×Int)(a b:List Mr)(x:Mr){k:Nat}(hk:k<8):(cN c p (a++x::b))[a.length*8+k]?=(fH c p x)[k]?:=by
 have e:cN c p (x::b)=fH c p x++cN c p b:=by simp[cN]
 rw[kU,e,List.getElem?_append_right (by rw[mB];omega),mB,List.getElem?_append_left (by simp[fH];omega)]
 congr 1;omega
theorem rX{a b new fj:List M}{off:Nat}(ho:off=a.length)(hl:new.length=fj.length):cm (a++fj++b) off new=some (a++new++b):=by
 subst ho;unfold cm;have h1:Nat.ble (a.length+new.length) (a++fj++b).length=true:=Nat.ble_eq_true_of_le (by simp;omega);rw[h1,cond_true,hl];simp
theorem kV(c:Nm)(p:Int×Int)(x:Mr)(b:List Mr):cN c p (x::b)=fH c p x++cN c p b:=by simp[cN]
theorem CA(c:Nm)(p:Int×Int)(a b:List Mr)(x:Mr)(y:List Nm×List Nm)(m:M):cm (cN c p (a++x::b)) (a.length*8+4) [m]=some (cN c p (a++(y,(m,x.2.2))::b)):=by
 rw[kU,kU,kV,kV];have h1:cN c p a++(fH c p x++cN c p b)=(cN c p a++[.d (.int .u8 13),.d (.int .u8 0),.d (.int .i32 0),.d (.str c)])++[x.2.1]++([x.2.2,.d (.int .i64 p.1),.d (.int .i64 p.2)]++cN c p b):=by simp[fH]
 have h2:cN c p a++(fH c p (y,(m,x.2.2))++cN c p b)=(cN c p a++[.d (.int .u8 13),.d (.int .u8 0),.d (.int .i32 0),.d (.str c)])++[m]++([x.2.2,.d (.int .i64 p.1),.d (.int .i64 p.2)]++cN c p b):=by simp[fH]
 rw[h1,h2];exact rX (by simp[mB]) rfl
theorem xR(c:Nm)(p:Int×Int)(a b:List Mr)(x:Mr)(y:List Nm×List Nm)(m:M):cm (cN c p (a++x::b)) (a.length*8+5) [m]=some (cN c p (a++(y,(x.2.1,m))::b)):=by
 rw[kU,kU,kV,kV];have h1:cN c p a++(fH c p x++cN c p b)=(cN c p a++[.d (.int .u8 13),.d (.int .u8 0),.d (.int .i32 0),.d (.str c),x.2.1])++[x.2.2]++([.d (.int .i64 p.1),.d (.int .i64 p.2)]++cN c p b):=by simp[fH]
 have h2:cN c p a++(fH c p (y,(x.2.1,m))++cN c p b)=(cN c p a++[.d (.int .u8 13),.d (.int .u8 0),.d (.int .i32 0),.d (.str c),x.2.1])++[m]++([.d (.int .i64 p.1),.d (.int .i64 p.2)]++cN c p b):=by simp[fH]
 rw[h1,h2];exact rX (by simp[mB]) rfl
section
variable{F0:Nat->Prop}{H0 H:Hp}{r:List As}{i:Nat}{c:Nm}{p:Int×Int}
theorem jY.open{a b:List Mr}{x:Mr}(w:Wk F0 H0 (jY i c p (a++x::b)::r) H):
  Wk F0 H0 (.ob i (.row false 8 0 (cN c p (a++x::b))):: .acc 1 (aU x.1.1) x.2.1:: .own 8 (cV x.1.2) x.2.2::Sep (a.flatMap gR++b.flatMap gR)::r) H:=by
 have w1:=Wk.split (a:=.ob i (.row false 8 0 (cN c p (a++x::b)))::(a++x::b).flatMap gR) w;have hp:((As.ob i (.row false 8 0 (cN c p (a++x::b)))::(a++x::b).flatMap gR)++r).Perm ((a.flatMap gR++b.flatMap gR)++(.ob i (.row false 8 0 (cN c p (a++x::b))):: .acc 1 (aU x.1.1) x.2.1:: .own 8 (cV x.1.2) x.2.2::r)):=by
  rw[List.flatMap_append,List.flatMap_cons];have e:gR x=[.acc 1 (aU x.1.1) x.2.1,.own 8 (cV x.1.2) x.2.2]:=rfl;rw[e];simp only[List.cons_append,List.append_assoc,List.nil_append];refine(List.perm_middle).symm.trans ?_;refine List.Perm.append_left _ ?_;have h1:∀(u v w:As) (l:List As),(u::v::w::(l++r)).Perm (l++u::v::w::r):=by
   intro u v w l;refine(List.Perm.cons u (List.Perm.cons v (List.perm_middle).symm)).trans ?_;refine(List.Perm.cons u (List.perm_middle).symm).trans ?_;exact(List.perm_middle).symm
  exact h1 _ _ _ _
 have w2:=w1.perm hp;have w3:=Wk.join (a:=a.flatMap gR++b.flatMap gR) w2;exact w3.perm (by
  refine(List.Perm.swap _ _ _).trans ?_;refine List.Perm.cons _ ?_;refine(List.Perm.swap _ _ _).trans ?_;refine List.Perm.cons _ ?_;exact List.Perm.swap _ _ _)
theorem jY.close{a b:List Mr}{x:Mr}(w:Wk F0 H0 (.ob i (.row false 8 0 (cN c p (a++x::b))):: .acc 1 (aU x.1.1) x.2.1:: .own 8 (cV x.1.2) x.2.2::Sep (a.flatMap gR++b.flatMap gR)::r) H):
  Wk F0 H0 (jY i c p (a++x::b)::r) H:=by
 have w1:Wk F0 H0 (Sep (a.flatMap gR++b.flatMap gR):: .ob i (.row false 8 0 (cN c p (a++x::b))):: .acc 1 (aU x.1.1) x.2.1:: .own 8 (cV x.1.2) x.2.2::r) H:=w.perm (by
  refine(List.Perm.cons _ (List.Perm.cons _ (List.Perm.swap _ _ _))).trans ?_;refine(List.Perm.cons _ (List.Perm.swap _ _ _)).trans ?_;exact List.Perm.swap _ _ _)
 have w2:=Wk.split w1;refine Wk.join (a:=.ob i (.row false 8 0 (cN c p (a++x::b)))::(a++x::b).flatMap gR) (w2.perm ?_);rw[List.flatMap_append,List.flatMap_cons];have e:gR x=[.acc 1 (aU x.1.1) x.2.1,.own 8 (cV x.1.2) x.2.2]:=rfl;rw[e];simp only[List.cons_append,List.append_assoc,List.nil_append];refine List.Perm.symm ?_;refine(List.perm_middle).symm.trans ?_;refine List.Perm.append_left _ ?_;have h1:∀(u v w:As) (l:List As),(u::v::w::(l++r)).Perm (l++u::v::w::r):=by
  intro u v w l;refine(List.Perm.cons u (List.Perm.cons v (List.perm_middle).symm)).trans ?_;refine(List.Perm.cons u (List.perm_middle).symm).trans ?_;exact(List.perm_middle).symm
 exact h1 _ _ _ _
abbrev mC:Mr:=(([],[]),(.d (.sl []),.d (.sl [])))
theorem jY.init(n:Nat)(w:Wk F0 H0 (.ob i (.row false 8 0 (cN c p (List.replicate n mC)))::r) H):Wk F0 H0 (jY i c p (List.replicate n mC)::r) H:=by
 have key:∀(n:Nat) {l:List As},Wk F0 H0 l H->Wk F0 H0 ((List.replicate n mC).flatMap gR++l) H:=by
  intro n
  induction n with
  |zero=>intro l w;exact w
  |succ n ih=>
   intro l w;rw[List.replicate_succ,List.flatMap_cons];exact((ih w).EE 8).nil 1
 have w1:=key n w;refine Wk.join (a:=.ob i (.row false 8 0 (cN c p (List.replicate n mC)))::(List.replicate n mC).flatMap gR) (w1.perm ?_);exact List.perm_middle
end
theorem xS{n:Nat}{z:List D}(hz:z.length=n)(h0:0<n):∀len,cq n len z=br (List.replicate len z):=by
 intro len
 induction len with
 |zero=>simp[cq,br]
 |succ k ih=>
  have e1:br (List.replicate (k+1) z)=br (List.replicate k z)++z.map M.d:=by
   rw[List.replicate_succ'];simp[br]
  rw[e1,<-ih];unfold cq;rw[Nat.succ_mul,List.range_add,List.map_append]
  congr 1
  rw[List.map_map];apply List.ext_getElem
  ·simp[hz]
  ·intro i a b;simp only[List.length_map,List.length_range]at a;simp only[List.getElem_map,List.getElem_range,Function.comp]
   congr 1
   have e:(k*n+i)%z.length=i:=by rw[hz,Nat.add_comm,Nat.add_mul_mod_self_right,Nat.mod_eq_of_lt a]
   rw[e];simp[List.getD_eq_getElem?_getD,hz,a]
theorem CB{α β:Type}{G G':List α}{l:List (α×β)}{i:Nat}(hl:l.map Prod.fst=G'.take i++G.drop i)(hle:G'.length=G.length)(hi:i<G.length):
  ∃l1 y l2,l=l1++(G[i],y)::l2/\l1.length=i/\∀y',(l1++(G'[i]'(by omega),y')::l2).map Prod.fst=G'.take (i+1)++G.drop (i+1):=by
 have hlen:l.length=G.length:=by
  have:=congrArg List.length hl;simp only[List.length_map,List.length_append,List.length_take,List.length_drop]at this;omega
 have NI:i<l.length:=by omega
 have h1:l=l.take i++l[i]::l.drop (i+1):=by rw[List.getElem_cons_drop NI,List.take_append_drop]
 have h2:l[i].1=G[i]:=by
  have:(l.map Prod.fst)[i]?=(G'.take i++G.drop i)[i]?:=by rw[hl]
  rw[List.getElem?_append_right (by rw[List.length_take];omega),List.length_take,Nat.min_eq_left (by omega),List.getElem?_drop]at this;simp[NI,hi]at this;exact this
 have hm:l.map Prod.fst=(l.take i).map Prod.fst++l[i].1::(l.drop (i+1)).map Prod.fst:=by
  have:=congrArg (List.map Prod.fst) h1;rw[List.map_append,List.map_cons]at this;exact this
 have e1:(l.take i).map Prod.fst=G'.take i:=by
  have:=congrArg (List.take i) hl;rw[<-List.map_take,List.take_append_of_le_length (by rw[List.length_take];omega),List.take_take,Nat.min_self]at this;exact this
 have e2:(l.drop (i+1)).map Prod.fst=G.drop (i+1):=by
  have:=congrArg (List.drop (i+1)) hl;rw[<-List.map_drop,List.drop_append,List.length_take,Nat.min_eq_left (by omega)]at this;rw[this,List.drop_eq_nil_of_le (by rw[List.length_take];omega),List.nil_append,List.drop_drop]
  congr 1;omega
 refine⟨l.take i,l[i].2,l.drop (i+1),?_,by rw[List.length_take];omega,λy'=>?_⟩
 ·rw[<-h2];exact h1
 ·rw[List.map_append,List.map_cons,e1,e2,List.take_succ_eq_append_getElem (by omega),List.append_assoc];rfl
theorem pz(s:Sc)(y:Nm):∀(l:List Nm) (r:R),y∉l->(l.foldl (di s) r).s.vars y=r.s.vars y
 |[],r,_=>rfl
 |x::l,r,h=>by
  rw[List.foldl_cons,pz s y l _ (λe=>h (by simp[e]))];show(Env.set r.s.vars x _) y=_;unfold Env.set;rw[if_neg (λe=>h (by simp[e]))]
theorem xT(s:Sc):∀(l:List Nm) (r:R),(l.foldl (di s) r).m.n=r.m.n+l.length
 |[],r=>rfl
 |x::l,r=>by rw[List.foldl_cons,xT s l];simp[di,MS.fresh];omega
theorem vc(s:Sc):∀(l:List Nm) (r:R) (i:Nat) (h:i<l.length),l.Nodup->(l.foldl (di s) r).s.vars.nm l[i]=nV (r.m.n+i+1)
 |[],r,i,h,_=>by simp at h
 |x::l,r,0,h,hn=>by
  rw[List.nodup_cons]at hn;rw[List.foldl_cons];unfold Env.nm;rw[List.getElem_cons_zero,pz s x l _ hn.1];show(match(Env.set r.s.vars x _) x with|some b=>b.name|none=>_)=_;unfold Env.set;rw[if_pos rfl]
 |x::l,r,i+1,h,hn=>by
  rw[List.nodup_cons]at hn;rw[List.foldl_cons,List.getElem_cons_succ,vc s l _ i (by simpa using h) hn.2];have:(di s r x).m.n=r.m.n+1:=rfl;rw[this];have e:r.m.n+1+i+1=r.m.n+(i+1)+1:=by omega
  rw[e]
theorem zh(s:Sc)(l:List Nm)(r:R)(hn:l.Nodup):l.map (l.foldl (di s) r).s.vars.nm=(List.range l.length).map λi=>nV (r.m.n+i+1):=by
 apply List.ext_getElem
 ·simp
 ·intro i a b;simp only[List.length_map]at a;rw[List.getElem_map,vc s l r i a hn,List.getElem_map,List.getElem_range]
theorem xU{l:List Nm}(h:l.Nodup)(x:Nm):(dl l x).Nodup:=by
 unfold dl;split
 ·exact h
 ·rename_i hh;rw[List.nodup_append];refine⟨h,by simp,λa ha b hb=>?_⟩;rw[List.mem_singleton]at hb;rintro rfl;apply hh;rw[dh,List.any_eq_true];exact⟨a,ha,by simp[hb]⟩
theorem kp:∀(r:List Nm) {l:List Nm},l.Nodup->(r.foldl dl l).Nodup
 |[],l,h=>h
 |x::r,l,h=>by rw[List.foldl_cons];exact kp r (xU h x)
theorem nj:∀(aj:List aT) {l:List Nm},l.Nodup->(bE l aj).Nodup
 |[],l,h=>by rw[bE];exact h
 |a::aj,l,h=>by rw[bE];exact nj aj (kp _ h)
abbrev zX:List D:=[.int .u8 0,.int .u8 0,.int .i32 0,.str ⟨#[]⟩,.sl [],.sl [],.int .i64 0,.int .i64 0]
theorem CC(c:Nm)(p:Int×Int){n i:Nat}(hi:i<n):cm (cN c p (List.replicate i mC)++br (List.replicate (n-i) zX)) (i*8) (fH c p mC)=some (cN c p (List.replicate (i+1) mC)++br (List.replicate (n-(i+1)) zX)):=by
 have e1:n-i=(n-(i+1))+1:=by omega
 have e2:br (List.replicate (n-i) zX)=zX.map M.d++br (List.replicate (n-(i+1)) zX):=by rw[e1,List.replicate_succ];simp[br]
 have e3:cN c p (List.replicate (i+1) mC)=cN c p (List.replicate i mC)++fH c p mC:=by rw[List.replicate_succ',kU];simp[cN]
 rw[e2,e3,<-List.append_assoc];exact rX (by simp[mB]) rfl
def uu(i:Nat)(c:Nm)(p:Int×Int)(k:Nat)(l:List Mr):As:=.ex λA:List M=>Sep (.fact (A.length=k*8):: .ob i (.row false 8 0 (A++cN c p l))::l.flatMap gR)
section
variable{F0:Nat->Prop}{H0 H:Hp}{r:List As}{i k:Nat}{c:Nm}{p:Int×Int}
theorem uu.start{l:List Mr}(w:Wk F0 H0 (jY i c p l::r) H):Wk F0 H0 (uu i c p 0 l::r) H:=by
 have w1:=Wk.split (a:=.ob i (.row false 8 0 (cN c p l))::l.flatMap gR) w;refine Wk.close (φ:= λA:List M=>Sep (.fact (A.length=0*8):: .ob i (.row false 8 0 (A++cN c p l))::l.flatMap gR)) ([]:List M) ?_;exact Wk.join (a:=.fact (([]:List M).length=0*8):: .ob i (.row false 8 0 ([]++cN c p l))::l.flatMap gR) (w1.BY rfl)
theorem uu.open{x:Mr}{l:List Mr}(w:Wk F0 H0 (uu i c p k (x::l)::r) H):∃A:List M,A.length=k*8/\
  Wk F0 H0 (.ob i (.row false 8 0 (A++(fH c p x++cN c p l))):: .acc 1 (aU x.1.1) x.2.1:: .own 8 (cV x.1.2) x.2.2::Sep (l.flatMap gR)::r) H:=by
 obtain⟨A,w⟩:=Wk.open w;have w:=Wk.split w;have hA:=w.jM;refine⟨A,hA,?_⟩;have w:=w.drop;rw[kV]at w;have e:(x::l).flatMap gR=.acc 1 (aU x.1.1) x.2.1:: .own 8 (cV x.1.2) x.2.2::l.flatMap gR:=by simp[gR]
 rw[e]at w;have w2:Wk F0 H0 (l.flatMap gR++(.ob i (.row false 8 0 (A++(fH c p x++cN c p l))):: .acc 1 (aU x.1.1) x.2.1:: .own 8 (cV x.1.2) x.2.2::r)) H:=by
  refine w.perm ?_;have h1:∀(u v w:As) (l:List As),((u::v::w::l)++r).Perm (l++u::v::w::r):=by
   intro u v w l;simp only[List.cons_append];refine(List.Perm.cons u (List.Perm.cons v (List.perm_middle).symm)).trans ?_;refine(List.Perm.cons u (List.perm_middle).symm).trans ?_;exact(List.perm_middle).symm
  exact h1 _ _ _ _
 have w3:=Wk.join w2;exact w3.perm ((List.Perm.swap _ _ _).trans (List.Perm.cons _ ((List.Perm.swap _ _ _).trans (List.Perm.cons _ (List.Perm.swap _ _ _)))))
theorem uu.close{B:List M}{l:List Mr}(hB:B.length=k*8)(w:Wk F0 H0 (.ob i (.row false 8 0 (B++cN c p l))::Sep (l.flatMap gR)::r) H):Wk F0 H0 (uu i c p k l::r) H:=by
 refine Wk.close (φ:= λA:List M=>Sep (.fact (A.length=k*8):: .ob i (.row false 8 0 (A++cN c p l))::l.flatMap gR)) B ?_;refine Wk.join (a:=.fact (B.length=k*8):: .ob i (.row false 8 0 (B++cN c p l))::l.flatMap gR) (Wk.BY hB ?_);have w1:=Wk.split (w.perm (List.Perm.swap _ _ _));exact w1.perm List.perm_middle
end
theorem CD{H:Hp}{c:Nm}{p:Int×Int}{x:Mr}{A B:List M}{a b:List (List D)}(h1:dV H x.2.1=some (.sl a))(h2:dV H x.2.2=some (.sl b)):
  (A++(fH c p (x.1,(.d (.sl a),.d (.sl b)))++B)).length=(A++(fH c p x++B)).length/\∀(k:Nat) m',(A++(fH c p (x.1,(.d (.sl a),.d (.sl b)))++B))[k]?=some m'->(A++(fH c p x++B))[k]?=some m'\/∃m d,(A++(fH c p x++B))[k]?=some m/\dV H m=some d/\m'=.d d:=by
 refine⟨by simp[fH],λk m' hm=>?_⟩;rcases Nat.lt_or_ge k A.length with h|h
 ·rw[List.getElem?_append_left h]at hm⊢;exact .inl hm
 ·rw[List.getElem?_append_right h]at hm⊢;generalize k-A.length=j at hm;rcases Nat.lt_or_ge j 8 with g|g
  ·rw[List.getElem?_append_left (by simpa [fH] using g)]at hm⊢
   match j,g with
   |0,_=>exact .inl hm
   |1,_=>exact .inl hm
   |2,_=>exact .inl hm
   |3,_=>exact .inl hm
   |4,_=>exact .inr ⟨x.2.1,.sl a,rfl,h1,by simpa [fH] using hm.symm⟩
   |5,_=>exact .inr ⟨x.2.2,.sl b,rfl,h2,by simpa [fH] using hm.symm⟩
   |6,_=>exact .inl hm
   |7,_=>exact .inl hm
  ·rw[List.getElem?_append_right (by simpa [fH] using g)]at hm⊢;exact .inl hm
end Go.Ps
