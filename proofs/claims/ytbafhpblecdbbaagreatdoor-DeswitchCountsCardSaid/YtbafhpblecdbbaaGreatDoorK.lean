/- A part of the proof of the last text of this claim, without conditions. -/
import Derived.Test.YtbafhpblecdbbaaGreatDoorJ
set_option maxRecDepth 4000
set_option linter.all false
namespace Go.Ps
open Go.Mt Go.Sm
theorem rf(s:Sc):∀l:List Xp,lu s l=l.map (bT s)
 |[]=>by rw[lu];rfl
 |e::l=>by rw[lu,rf s l];rfl
theorem Bb(s:Sc)(e:Xp):bT s e=if e.kd=4\/e.kd=12\/e.kd=13 then .mk e.kd e.op e.num (s.vars.nm e.nm) e.names (e.kids.map (bT s)) e.ps
  else if e.kd=5 then .mk 4 e.op e.num (s.aS.nm e.nm) e.names (e.kids.map (bT s)) e.ps
  else .mk e.kd e.op e.num e.nm e.names (e.kids.map (bT s)) e.ps:=by
 cases e with|mk k op n x names kids p=>
 rw[bT,rf];rfl
theorem qy(l:List Xp):∀r∈l.map Xp.cells,r.length=8:=by
 intro r hr;rw[List.mem_map]at hr;obtain⟨t,_,rfl⟩:=hr;rw[t.ai];rfl
end Go.Ps
namespace Go.Proofs.Pz
open Go.Mt Go.Sm Go.Ps Go.Proofs
open Tryz
theorem xG(iv il:Nat)(sc:List (Nm×Nm))(s:Sc)(e:Xp)(GV:lJ e):
  Dt prog 291 [je iv il sc,.d (.agg e.cells)] [a_ iv s.vars,a_ il s.aS] λr l=>r=.d (.agg (bT s e).cells)/\l=[a_ iv s.vars,a_ il s.aS]:=by
 have ih:∀k∈e.kids,Dt prog 291 [je iv il sc,.d (.agg k.cells)] [a_ iv s.vars,a_ il s.aS] λr l=>r=.d (.agg (bT s k).cells)/\l=[a_ iv s.vars,a_ il s.aS]:=
  λk hk=>
   have:=Xp.rT hk
   xG iv il sc s k (by cases GV with|mk _ _ _ h3=>exact h3 k hk)
 have Ic:e.kids.length<=1000000:=by cases GV with|mk _ h1 _ _=>exact h1
 intro H F hs;have w:=(Wk.start hs).nil 8;have hlen:(e.kids.map Xp.cells).length=e.kids.length:=by simp
 rw[e.ai];refine DT.aG func291 rfl ntmps291 rfl ?_
 repeat refine DC.seq ?_
 apply DC.ae
 ·intro s0 Oo;refine dw rfl rfl rfl rfl ?_;refine dw rfl rfl rfl rfl ?_;refine aM rfl rfl ?_;exact TL.nil rfl
 repeat refine DC.seq ?_
 apply DC.ae
 ·intro s0 Oo;refine aa rfl rfl ?_;exact TL.nil rfl
 repeat refine DC.seq ?_
 apply DC.ae
 ·intro s0 Oo;refine aq rfl rfl ?_;refine aB rfl rfl rfl rfl ?_
  (refine bg rfl rfl rfl ?_;rw[hlen])
  refine ah rfl rfl ?_;exact TL.nil rfl
 refine DC.ca [(11,.m (.d (.int .i64 ((0:Nat):Int)))),(10,.m (.d (.int .i64 ((e.kids.length:Nat):Int)))),(9,.m (.d (.sl (e.kids.map Xp.cells)))),(5,.m (.d (.sl []))),(4,.loc 4 0),(3,.loc 3 0),(2,.loc 2 0)] _ _ rfl (λ_=>rfl) rfl ?_
 repeat refine DC.seq ?_
 refine DC.block ?_;refine DC.loop (λm s1=>∃(i:Nat) (mc:M) (bx:List (Nat×List M)) (H1:Hp),s1=⟨[(11,.m (.d (.int .i64 ((i:Nat):Int)))),(10,.m (.d (.int .i64 ((e.kids.length:Nat):Int)))),(9,.m (.d (.sl (e.kids.map Xp.cells)))),(5,.m mc),(4,.loc 4 0),(3,.loc 3 0),(2,.loc 2 0)],bx,H1⟩/\
   Go.Mt.get bx 2=some [.mp iv,.mp il,.d (.sl (bN sc))]/\Go.Mt.get bx 3=some ((xC e).map M.d)/\Go.Mt.get bx 4=some ((gw 0 0 0 ⟨#[]⟩ [] [] (0,0)).map M.d)/\
   Wk F H [.acc 8 (((e.kids.take i).map (bT s)).map Xp.cells) mc,a_ iv s.vars,a_ il s.aS] H1/\i<=e.kids.length/\m=e.kids.length-i) e.kids.length _
  ⟨0,.d (.sl []),_,_,rfl,rfl,rfl,rfl,w,by omega,rfl⟩ rfl ?_
 clear w;rintro m s1 ⟨i,mc,bx,H1,rfl,Gs,Jz,F9,w,hi,rfl⟩
 repeat refine DC.seq ?_
 apply DC.ae
 ·intro s0 Oo;refine ak rfl rfl rfl rfl ?_;exact TL.nil rfl
 repeat refine DC.seq ?_
 refine DC.cond rfl (λhc=>?_) (λhc=>?_)
 ·have FH:i<e.kids.length:=by have:=of_decide_eq_true hc;omega
  clear hc;have FF:(e.kids.map Xp.cells)[((i:Nat):Int).toNat]?=some e.kids[i].cells:=by simp[FH]
  have FU:((e.kids.take (i+1)).map (bT s)).map Xp.cells=((e.kids.take i).map (bT s)).map Xp.cells++[(bT s e.kids[i]).cells]:=by rw[q8 _ _ _ _ _ FH,List.map_append];rfl
  obtain⟨_,K2,l',⟨rfl,rfl⟩,w,FX⟩:=Wk.call (a:=[_,_]) (r:=[_]) (w.pick [1,2,0]) (ih _ (List.getElem_mem FH));have w:Wk F H [.acc 8 (((e.kids.take i).map (bT s)).map Xp.cells) mc,a_ iv s.vars,a_ il s.aS] K2:=w.pick [2,0,1];generalize e.kids[i]=k at FF FU FX;rw[(bT s k).ai]at FU;rw[k.ai]at FF;rw[k.ai,(bT s k).ai]at FX;refine DC.skip ?_
  repeat refine DC.seq ?_
  refine DC.block ?_
  repeat refine DC.seq ?_
  apply DC.ae
  ·intro s0 Oo;refine aO rfl rfl rfl (Int.natCast_nonneg i) FF rfl ?_;refine aW rfl rfl rfl ?_;refine aM rfl rfl ?_;refine av rfl rfl rfl rfl rfl rfl ?_;exact TL.nil rfl
  repeat refine DC.seq ?_
  apply DC.ae
  ·intro s0 Oo;refine ah rfl rfl ?_;refine cy rfl rfl Gs rfl rfl ?_;refine aY rfl rfl rfl rfl rfl ?_;refine bn FX rfl rfl ?_;refine aD rfl rfl rfl rfl rfl rfl rfl rfl ?_;refine cK w rfl rfl rfl rfl rfl rfl (by exact cO rfl) (by simp only[List.length_map,List.length_take,List.length_singleton];omega) ?_;refine aa rfl rfl ?_;exact TL.nil rfl
  have w:=w.app [xC (bT s k)]
  repeat refine DC.seq ?_
  apply DC.ae
  ·intro s0 Oo;refine aV rfl rfl rfl (by omega) ?_;refine ah rfl rfl ?_;exact TL.nil rfl
  exact cb (k':=e.kids.length-(i+1)) (by omega) ⟨i+1,_,_,_,rfl,Gs,Jz,F9,by rw[FU];exact w,by omega,rfl⟩ rfl rfl
 ·refine DC.exit ?_;obtain rfl:i=e.kids.length:=by have:=of_decide_eq_false hc;omega
  rw[List.take_length]at w;have hv:=w.view (qy _);refine DC.bC 5 rfl hv ?_;have w:=w.drop;clear hv;have QL:xC e=gw e.kd e.op e.num e.nm e.names (e.kids.map Xp.cells) e.ps:=rfl;rw[QL]at Jz;clear QL hlen ih GV;rw[Bb]
  repeat refine DC.seq ?_
  apply DC.ae
  ·intro s0 Oo;refine ah rfl rfl ?_;refine aq rfl rfl ?_;refine av rfl rfl Jz rfl rfl rfl ?_;exact TL.nil rfl
  repeat refine DC.seq ?_
  apply DC.ae
  ·intro s0 Oo;refine aq rfl rfl ?_;refine aB rfl rfl rfl rfl ?_;exact TL.nil rfl
  repeat refine DC.seq ?_
  refine DC.block ?_;by_cases h4:e.kd=4\/e.kd=12\/e.kd=13
  ·rw[if_pos h4];obtain⟨es,hm,w⟩:=a_.open w;have hH:=w.ob;have w2:Wk F H [a_ iv s.vars,a_ il s.aS] H1:=a_.close hm w;rcases h4 with h4|h4|h4
   ·rw[h4]
    repeat refine DC.seq ?_
    apply DC.ae
    ·intro s0 Oo;refine ak rfl rfl rfl (r:=.bool true) rfl ?_;refine aa rfl rfl ?_;exact TL.nil rfl
    repeat refine DC.seq ?_
    refine DC.cr rfl ?_;refine DC.skip ?_
    repeat refine DC.seq ?_
    refine DC.cr rfl ?_
    repeat refine DC.seq ?_
    apply DC.ae
    ·intro s0 Oo;refine aq rfl rfl ?_;refine aB rfl rfl Gs rfl ?_;refine aq rfl rfl ?_;refine aB rfl rfl rfl rfl ?_;refine g_ hm hH rfl rfl rfl ?_;refine l_ rfl rfl rfl rfl ?_;refine aq rfl rfl ?_;refine av rfl rfl rfl rfl rfl rfl ?_;exact TL.nil rfl
    repeat refine DC.seq ?_
    apply DC.ae
    ·intro s0 Oo;refine aY rfl rfl rfl rfl rfl ?_;refine av rfl rfl F9 rfl rfl rfl ?_;exact TL.nil rfl
    rw[Xp.ai];exact DC.ret ⟨_,rfl,_,⟨rfl,rfl⟩,w2⟩
   ·rw[h4]
    repeat refine DC.seq ?_
    apply DC.ae
    ·intro s0 Oo;refine ak rfl rfl rfl (r:=.bool false) rfl ?_;refine aa rfl rfl ?_;exact TL.nil rfl
    repeat refine DC.seq ?_
    refine DC.aC rfl ?_
    repeat refine DC.seq ?_
    apply DC.ae
    ·intro s0 Oo;refine ak rfl rfl rfl (r:=.bool true) rfl ?_;refine aa rfl rfl ?_;exact TL.nil rfl
    repeat refine DC.seq ?_
    refine DC.cr rfl ?_;refine DC.skip ?_
    repeat refine DC.seq ?_
    refine DC.cr rfl ?_
    repeat refine DC.seq ?_
    apply DC.ae
    ·intro s0 Oo;refine aq rfl rfl ?_;refine aB rfl rfl Gs rfl ?_;refine aq rfl rfl ?_;refine aB rfl rfl rfl rfl ?_;refine g_ hm hH rfl rfl rfl ?_;refine l_ rfl rfl rfl rfl ?_;refine aq rfl rfl ?_;refine av rfl rfl rfl rfl rfl rfl ?_;exact TL.nil rfl
    repeat refine DC.seq ?_
    apply DC.ae
    ·intro s0 Oo;refine aY rfl rfl rfl rfl rfl ?_;refine av rfl rfl F9 rfl rfl rfl ?_;exact TL.nil rfl
    rw[Xp.ai];exact DC.ret ⟨_,rfl,_,⟨rfl,rfl⟩,w2⟩
   ·rw[h4]
    repeat refine DC.seq ?_
    apply DC.ae
    ·intro s0 Oo;refine ak rfl rfl rfl (r:=.bool false) rfl ?_;refine aa rfl rfl ?_;exact TL.nil rfl
    repeat refine DC.seq ?_
    refine DC.aC rfl ?_
    repeat refine DC.seq ?_
    apply DC.ae
    ·intro s0 Oo;refine ak rfl rfl rfl (r:=.bool false) rfl ?_;refine aa rfl rfl ?_;exact TL.nil rfl
    repeat refine DC.seq ?_
    refine DC.aC rfl ?_
    repeat refine DC.seq ?_
    apply DC.ae
    ·intro s0 Oo;refine ak rfl rfl rfl (r:=.bool true) rfl ?_;refine aa rfl rfl ?_;exact TL.nil rfl
    repeat refine DC.seq ?_
    refine DC.cr rfl ?_
    repeat refine DC.seq ?_
    apply DC.ae
    ·intro s0 Oo;refine aq rfl rfl ?_;refine aB rfl rfl Gs rfl ?_;refine aq rfl rfl ?_;refine aB rfl rfl rfl rfl ?_;refine g_ hm hH rfl rfl rfl ?_;refine l_ rfl rfl rfl rfl ?_;refine aq rfl rfl ?_;refine av rfl rfl rfl rfl rfl rfl ?_;exact TL.nil rfl
    repeat refine DC.seq ?_
    apply DC.ae
    ·intro s0 Oo;refine aY rfl rfl rfl rfl rfl ?_;refine av rfl rfl F9 rfl rfl rfl ?_;exact TL.nil rfl
    rw[Xp.ai];exact DC.ret ⟨_,rfl,_,⟨rfl,rfl⟩,w2⟩
  rw[if_neg h4];have b4:(e.kd==4)=false:=by simp;omega
  have M8:(e.kd==12)=false:=by simp;omega
  have LV:(e.kd==13)=false:=by simp;omega
  by_cases h5:e.kd=5
  ·rw[if_pos h5,h5];have w1:Wk F H [a_ il s.aS,a_ iv s.vars] H1:=w.pick [1,0];obtain⟨es,hm,w1⟩:=a_.open w1;have hH:=w1.ob
   repeat refine DC.seq ?_
   apply DC.ae
   ·intro s0 Oo;refine ak rfl rfl rfl (r:=.bool false) rfl ?_;refine aa rfl rfl ?_;exact TL.nil rfl
   repeat refine DC.seq ?_
   refine DC.aC rfl ?_
   repeat refine DC.seq ?_
   apply DC.ae
   ·intro s0 Oo;refine ak rfl rfl rfl (r:=.bool false) rfl ?_;refine aa rfl rfl ?_;exact TL.nil rfl
   repeat refine DC.seq ?_
   refine DC.aC rfl ?_
   repeat refine DC.seq ?_
   apply DC.ae
   ·intro s0 Oo;refine ak rfl rfl rfl (r:=.bool false) rfl ?_;refine aa rfl rfl ?_;exact TL.nil rfl
   repeat refine DC.seq ?_
   refine DC.aC rfl ?_
   repeat refine DC.seq ?_
   apply DC.ae
   ·intro s0 Oo;refine ak rfl rfl rfl (r:=.bool true) rfl ?_;refine aa rfl rfl ?_;exact TL.nil rfl
   repeat refine DC.seq ?_
   refine DC.cr rfl ?_
   repeat refine DC.seq ?_
   apply DC.da mixed
   ·intro s0 Oo;refine aP rfl rfl ?_;refine bw rfl rfl Gs rfl ?_;refine aP rfl rfl ?_;refine bw rfl rfl rfl rfl ?_;refine pu hm hH rfl rfl rfl ?_;refine ta rfl rfl rfl rfl ?_;refine aP rfl rfl ?_;refine cc rfl rfl rfl rfl rfl rfl ?_;refine aP rfl rfl ?_;refine cc rfl rfl rfl rfl rfl rfl ?_;exact TF.nil ⟨by kernel_rfl,rfl⟩
   repeat refine DC.seq ?_
   apply DC.ae
   ·intro s0 Oo;refine aY rfl rfl rfl rfl rfl ?_;refine av rfl rfl F9 rfl rfl rfl ?_;exact TL.nil rfl
   rw[Xp.ai];exact DC.ret ⟨_,rfl,_,⟨rfl,rfl⟩,w⟩
  rw[if_neg h5];have b5:(e.kd==5)=false:=by simp;omega
  repeat refine DC.seq ?_
  apply DC.ae
  ·intro s0 Oo
   (refine ak rfl rfl rfl (r:=.bool false) (by show some (D.bool (e.kd==4))=_;rw[b4]) ?_)
   refine aa rfl rfl ?_;exact TL.nil rfl
  repeat refine DC.seq ?_
  refine DC.aC rfl ?_
  repeat refine DC.seq ?_
  apply DC.ae
  ·intro s0 Oo
   (refine ak rfl rfl rfl (r:=.bool false) (by show some (D.bool (e.kd==12))=_;rw[M8]) ?_)
   refine aa rfl rfl ?_;exact TL.nil rfl
  repeat refine DC.seq ?_
  refine DC.aC rfl ?_
  repeat refine DC.seq ?_
  apply DC.ae
  ·intro s0 Oo
   (refine ak rfl rfl rfl (r:=.bool false) (by show some (D.bool (e.kd==13))=_;rw[LV]) ?_)
   refine aa rfl rfl ?_;exact TL.nil rfl
  repeat refine DC.seq ?_
  refine DC.aC rfl ?_
  repeat refine DC.seq ?_
  apply DC.ae
  ·intro s0 Oo
   (refine ak rfl rfl rfl (r:=.bool false) (by show some (D.bool (e.kd==5))=_;rw[b5]) ?_)
   refine aa rfl rfl ?_;exact TL.nil rfl
  repeat refine DC.seq ?_
  refine DC.aC rfl ?_;refine DC.skip ?_
  repeat refine DC.seq ?_
  apply DC.ae
  ·intro s0 Oo;refine aY rfl rfl rfl rfl rfl ?_;refine av rfl rfl F9 rfl rfl rfl ?_;exact TL.nil rfl
  rw[Xp.ai];exact DC.ret ⟨_,rfl,_,⟨rfl,rfl⟩,w⟩
termination_by SizeOf.sizeOf e
end Go.Proofs.Pz
namespace Go.Ps
open Go.Mt Go.Sm
def oy(f:Env)(n:Nat):Prop:=∀x b,f x=some b->b.jm<=n
theorem oy.set{f:Env}{n:Nat}(h:oy f n)(x:Nm){b:Bd}(hb:b.jm<=n):oy (f.set x b) n:=by
 intro y c hc;unfold Env.set at hc;split at hc
 ·injection hc with hc;rw[<-hc];exact hb
 ·exact h y c hc
theorem jz(f:Env)(ck:List (Nm×Nm))(m:MS)(x:Nm)(h:oy f ck.length):oy (cu f ck m x).1 ck.length/\(cu f ck m x).2.1.n<=m.n+1/\(cu f ck m x).2.1.vars.length<=m.vars.length+1/\(cu f ck m x).2.2.length<=1:=by
 unfold cu;split
 ·exact⟨h,by simp,by simp,by simp⟩
 ·rename_i b hb;split
  ·exact⟨h,by simp,by simp,by simp⟩
  ·exact⟨h.set x (Nat.le_refl _),by simp[MS.fresh],by simp[MS.fresh],by simp⟩
structure cF(s:Sc):Prop where
 v:oy s.vars s.ck.length
 l:oy s.aS s.ck.length
 n:s.ck.length<=1000000
structure bc(r r':R)(k:Nat):Prop where
 ck:r'.s.ck=r.s.ck
 sc:cF r'.s
 n:r'.m.n<=r.m.n+k
 vs:r'.m.vars.length<=r.m.vars.length+k
 q:r'.q.length<=r.q.length+k
theorem bc.refl{r:R}(h:cF r.s):bc r r 0:=⟨rfl,h,Nat.le_refl _,Nat.le_refl _,Nat.le_refl _⟩
theorem bc.trans{a b c:R}{i j:Nat}(h:bc a b i)(g:bc b c j):bc a c (i+j):=⟨g.ck.trans h.ck,g.sc,by have:=h.n;have:=g.n;omega,by have:=h.vs;have:=g.vs;omega,by have:=h.q;have:=g.q;omega⟩
theorem bc.cH{r:R}(h:cF r.s)(x:Nm):bc r (cH r x) 1:=by
 obtain⟨h1,h2,h3,h4⟩:=jz r.s.vars r.s.ck r.m x h.v;rw[jy];exact⟨rfl,⟨h1,h.l,h.n⟩,h2,h3,by simp;omega⟩
theorem bc.eP{r:R}(h:cF r.s)(x:Nm):bc r (eP r x) 1:=by
 obtain⟨h1,h2,h3,h4⟩:=jz r.s.aS r.s.ck r.m x h.l;rw[iF];exact⟨rfl,⟨h.v,h1,h.n⟩,h2,h3,by simp;omega⟩
theorem bc.lB:∀(l:List Nm) {r:R},cF r.s->bc r (l.foldl Go.Ps.cH r) l.length
 |[],r,h=>.refl h
 |x::l,r,h=>by
  have h1:=bc.cH h x;have h2:=bc.lB l h1.sc;have:=h1.trans h2;rw[Nat.add_comm]at this;exact this
theorem bc.y8:∀(l:List Nm) {r:R},cF r.s->bc r (l.foldl Go.Ps.eP r) l.length
 |[],r,h=>.refl h
 |x::l,r,h=>by
  have h1:=bc.eP h x;have h2:=bc.y8 l h1.sc;have:=h1.trans h2;rw[Nat.add_comm]at this;exact this
theorem bc.ef{r:R}(h:cF r.s)(e:Xp):bc r (cD r e) (dP e+dP e):=by
 have h1:=bc.lB (jT e []) h;have h2:=bc.y8 (iC e []) h1.sc;have h3:=h1.trans h2;have:=mW e [];have:=ow e [];simp only[List.length_nil,Nat.zero_add]at*;exact⟨h3.ck,h3.sc,by have:=h3.n;unfold cD;omega,by have:=h3.vs;unfold cD;omega,by have:=h3.q;unfold cD;omega⟩
theorem px:∀(l:List Nm) (r:R),(l.foldl cH r).s.aS=r.s.aS
 |[],r=>rfl
 |x::l,r=>by rw[List.foldl_cons,px l,jy]
theorem ri:∀(l:List Nm) (r:R),(l.foldl eP r).s.vars=r.s.vars
 |[],r=>rfl
 |x::l,r=>by rw[List.foldl_cons,ri l,iF]
end Go.Ps
namespace Go.Proofs.Pz
open Go.Mt Go.Sm Go.Ps Go.Proofs
open Tryz
theorem dB(a b:List aF):bm (a++b)=bm a++bm b:=by simp[bm]
abbrev dG(it im iv il:Nat)(p:Pg)(r:R):List As:=[.ob it aZ,dc im p r.m,a_ iv r.s.vars,a_ il r.s.aS]
theorem mY(it im iv il:Nat)(p:Pg)(s:Sc)(m:MS)(e:Xp)(GV:lJ e)(hs:cF s)(hn:m.n+dP e+dP e<1000000000)(hv:m.vars.length+dP e+dP e<=1000000)(hz:dP e<=1000000):
  Dt prog 256 [.ref im 0,je iv il s.ck,.d (.agg e.cells)] (dG it im iv il p ⟨s,m,[]⟩) λx l=>∃mq,x=fD [.d (.agg (bT (cD ⟨s,m,[]⟩ e).s e).cells),mq]/\l=.acc 16 (bm (cD ⟨s,m,[]⟩ e).q) mq::dG it im iv il p (cD ⟨s,m,[]⟩ e):=by
 intro H F hw;have w:=(Wk.start hw).nil 16;obtain⟨_,K1,l',⟨rfl,rfl⟩,w,Ge⟩:=Wk.call (a:=[]) w (Dq e GV hz);have JN:=mW e [];have Ib:=ow e [];simp only[List.length_nil,Nat.zero_add]at JN Ib;obtain⟨A,hA⟩:∃A,A=jT e []:=⟨_,rfl⟩;obtain⟨B,hB⟩:∃B,B=iC e []:=⟨_,rfl⟩;unfold cD;rw[<-hA]at Ge JN;rw[<-hB]at Ib;rw[<-hA,<-hB];have Na:(aU A).length=A.length:=by simp[aU]
 have Sq:(aU B).length=B.length:=by simp[aU]
 have IS:= λi=>bc.lB (A.take i) (r:=⟨s,m,[]⟩) hs
 rw[e.ai]at Ge⊢;refine DT.aG func256 rfl ntmps256 rfl ?_
 repeat refine DC.seq ?_
 apply DC.ae
 ·intro s0 Oo;refine dw rfl rfl rfl rfl ?_;refine b_ rfl rfl ?_;refine aM rfl rfl ?_;refine aa rfl rfl ?_;exact TL.nil rfl
 repeat refine DC.seq ?_
 apply DC.ae
 ·intro s0 Oo;refine aa rfl rfl ?_;exact TL.nil rfl
 repeat refine DC.seq ?_
 apply DC.ae
 ·intro s0 Oo;refine aW rfl rfl rfl ?_;refine bn Ge rfl rfl ?_
  (refine bg rfl rfl rfl ?_;rw[Na])
  refine ah rfl rfl ?_;exact TL.nil rfl
 refine DC.ca [(16,.m (.d (.int .i64 ((0:Nat):Int)))),(15,.m (.d (.int .i64 ((A.length:Nat):Int)))),(14,.m (.d (.sl (aU A)))),(8,.m (.d (.sl []))),(6,.loc 6 0),(5,.m (.d (.bM (xC e) 0))),(4,.loc 4 0),(0,.m (.ref im 0))] _ _ rfl (λ_=>rfl) rfl ?_
 repeat refine DC.seq ?_
 refine DC.block ?_;refine DC.loop (λk s1=>∃(i:Nat) (mc:M) (bx:List (Nat×List M)) (H1:Hp),s1=⟨[(16,.m (.d (.int .i64 ((i:Nat):Int)))),(15,.m (.d (.int .i64 ((A.length:Nat):Int)))),(14,.m (.d (.sl (aU A)))),(8,.m mc),(6,.loc 6 0),(5,.m (.d (.bM (xC e) 0))),(4,.loc 4 0),(0,.m (.ref im 0))],bx,H1⟩/\
   Go.Mt.get bx 4=some [.mp iv,.mp il,.d (.sl (bN s.ck))]/\Go.Mt.get bx 6=some ((gw 0 0 0 ⟨#[]⟩ [] [] (0,0)).map M.d)/\
   Wk F H (.acc 16 (bm ((A.take i).foldl cH ⟨s,m,[]⟩).q) mc::dG it im iv il p ((A.take i).foldl cH ⟨s,m,[]⟩)) H1/\i<=A.length/\k=A.length-i) A.length _
  ⟨0,.d (.sl []),_,_,rfl,rfl,rfl,w,by omega,rfl⟩ rfl ?_
 clear w Ge;rintro k s1 ⟨i,mc,bx,H1,rfl,F9,G1,w,hi,rfl⟩
 repeat refine DC.seq ?_
 apply DC.ae
 ·intro s0 Oo;refine ak rfl rfl rfl rfl ?_;exact TL.nil rfl
 repeat refine DC.seq ?_
 refine DC.cond rfl (λhc=>?_) (λhc=>?_)
 ·have FH:i<A.length:=by have:=of_decide_eq_true hc;omega
  clear hc;have FF:=fv FH;have FN:=IS i;have FU:(A.take (i+1)).foldl cH ⟨s,m,[]⟩=cH ((A.take i).foldl cH ⟨s,m,[]⟩) A[i]:=by rw[List.take_succ_eq_append_getElem FH,List.foldl_append];rfl
  rw[jy]at FU;generalize (A.take i).foldl cH ⟨s,m,[]⟩=r at w FN FU;generalize A[i]=x at FF FU;have Js:=FN.n;have IY:=FN.vs;have HP:=FN.q;have G5:=FN.ck;have Kn:(A.take i).length<=A.length:=by rw[List.length_take];omega
  dsimp only at Js IY HP G5
  have JA:=jz r.s.vars r.s.ck r.m x FN.sc.v;obtain⟨_,K2,l',⟨rfl,rfl⟩,w,FX⟩:=Wk.call (a:=[.ob it aZ,dc im p r.m,a_ iv r.s.vars]) (r:=[_,_]) (w.pick [1,2,3,0,4]) (xF it im p r.m iv il r.s.ck r.s.vars x (by omega) (by omega) FN.sc.n (FN.sc.v x));rw[G5]at FX JA;have w:Wk F H [.acc 16 (bm r.q) mc,.ob it aZ,dc im p (cu r.s.vars r.s.ck r.m x).2.1,a_ iv (cu r.s.vars r.s.ck r.m x).1,a_ il r.s.aS] K2:=w.pick [3,0,1,2,4];rw[G5]at w FU;have J8:(bm r.q).length+(bm (cu r.s.vars s.ck r.m x).2.2).length<=100000000:=by
   have:=JA.2.2.2;simp only[bm,List.length_map];simp at HP;omega
  refine DC.skip ?_
  repeat refine DC.seq ?_
  refine DC.block ?_
  repeat refine DC.seq ?_
  apply DC.ae
  ·intro s0 Oo;refine aO rfl rfl rfl (Int.natCast_nonneg i) FF rfl ?_;refine ax rfl rfl rfl ?_;refine aa rfl rfl ?_;exact TL.nil rfl
  repeat refine DC.seq ?_
  apply DC.ae
  ·intro s0 Oo;refine ah rfl rfl ?_;refine ah rfl rfl ?_;refine cy rfl rfl F9 rfl rfl ?_;refine ah rfl rfl ?_;refine bn FX rfl rfl ?_;refine cK w rfl rfl rfl rfl rfl rfl (cg _) (by omega) ?_;refine aa rfl rfl ?_;exact TL.nil rfl
  have w:=w.app (bm (cu r.s.vars s.ck r.m x).2.2);rw[<-dB]at w
  repeat refine DC.seq ?_
  apply DC.ae
  ·intro s0 Oo;refine aV rfl rfl rfl (by omega) ?_;refine ah rfl rfl ?_;exact TL.nil rfl
  exact cb (k':=A.length-(i+1)) (by omega) ⟨i+1,_,_,_,rfl,F9,G1,by rw[FU];exact w,by omega,rfl⟩ rfl rfl
 refine DC.exit ?_;obtain rfl:i=A.length:=by have:=of_decide_eq_false hc;omega
 have FN:=IS A.length;rw[List.take_length]at w FN;clear IS hc;have KB:=px A ⟨s,m,[]⟩;generalize A.foldl cH ⟨s,m,[]⟩=r1 at w FN KB⊢;obtain⟨_,K1,l',⟨rfl,rfl⟩,w,Ge⟩:=Wk.call (a:=[]) w (yX e GV hz);rw[<-hB,e.ai]at Ge;have LW:= λi=>bc.y8 (B.take i) (r:=r1) FN.sc
 have Lo:=FN.n;have Lp:=FN.vs;have Jt:=FN.q;have Lq:=FN.ck
 dsimp only at Lo Lp Jt Lq KB
 repeat refine DC.seq ?_
 apply DC.ae
 ·intro s0 Oo;refine aW rfl rfl rfl ?_;refine bn Ge rfl rfl ?_
  (refine bg rfl rfl rfl ?_;rw[Sq])
  refine ah rfl rfl ?_;exact TL.nil rfl
 refine DC.ca [(30,.m (.d (.int .i64 ((0:Nat):Int)))),(29,.m (.d (.int .i64 ((B.length:Nat):Int)))),(28,.m (.d (.sl (aU B)))),(8,.m mc),(6,.loc 6 0),(5,.m (.d (.bM (xC e) 0))),(4,.loc 4 0),(0,.m (.ref im 0))] _ _ rfl (λ_=>rfl) rfl ?_
 repeat refine DC.seq ?_
 refine DC.block ?_;refine DC.loop (λk s1=>∃(i:Nat) (mc:M) (bx:List (Nat×List M)) (H1:Hp),s1=⟨[(30,.m (.d (.int .i64 ((i:Nat):Int)))),(29,.m (.d (.int .i64 ((B.length:Nat):Int)))),(28,.m (.d (.sl (aU B)))),(8,.m mc),(6,.loc 6 0),(5,.m (.d (.bM (xC e) 0))),(4,.loc 4 0),(0,.m (.ref im 0))],bx,H1⟩/\
   Go.Mt.get bx 4=some [.mp iv,.mp il,.d (.sl (bN s.ck))]/\Go.Mt.get bx 6=some ((gw 0 0 0 ⟨#[]⟩ [] [] (0,0)).map M.d)/\
   Wk F H (.acc 16 (bm ((B.take i).foldl eP r1).q) mc::dG it im iv il p ((B.take i).foldl eP r1)) H1/\i<=B.length/\k=B.length-i) B.length _
  ⟨0,mc,_,_,rfl,F9,G1,w,by omega,rfl⟩ rfl ?_
 clear w Ge F9 G1;rintro k s1 ⟨i,mc,bx,H1,rfl,F9,G1,w,hi,rfl⟩
 repeat refine DC.seq ?_
 apply DC.ae
 ·intro s0 Oo;refine ak rfl rfl rfl rfl ?_;exact TL.nil rfl
 repeat refine DC.seq ?_
 refine DC.cond rfl (λhc=>?_) (λhc=>?_)
 ·have FH:i<B.length:=by have:=of_decide_eq_true hc;omega
  clear hc;have FF:=fv FH;have FN:=LW i;have FU:(B.take (i+1)).foldl eP r1=eP ((B.take i).foldl eP r1) B[i]:=by rw[List.take_succ_eq_append_getElem FH,List.foldl_append];rfl
  rw[iF]at FU;generalize (B.take i).foldl eP r1=r at w FN FU;generalize B[i]=x at FF FU;have Js:=FN.n;have IY:=FN.vs;have HP:=FN.q;have G5:=FN.ck.trans Lq;have Kn:(B.take i).length<=B.length:=by rw[List.length_take];omega
  have JA:=jz r.s.aS r.s.ck r.m x FN.sc.l;obtain⟨_,K2,l',⟨rfl,rfl⟩,w,FX⟩:=Wk.call (a:=[.ob it aZ,dc im p r.m,a_ il r.s.aS]) (r:=[_,_]) (w.pick [1,2,4,0,3]) (pw it im p r.m iv il r.s.ck r.s.aS x (by omega) (by omega) FN.sc.n (FN.sc.l x));rw[G5]at FX JA;have w:Wk F H [.acc 16 (bm r.q) mc,.ob it aZ,dc im p (cu r.s.aS r.s.ck r.m x).2.1,a_ iv r.s.vars,a_ il (cu r.s.aS r.s.ck r.m x).1] K2:=w.pick [3,0,1,4,2];rw[G5]at w FU;have J8:(bm r.q).length+(bm (cu r.s.aS s.ck r.m x).2.2).length<=100000000:=by
   have:=JA.2.2.2;have:r1.q.length<=A.length:=by simpa using Jt
   simp only[bm,List.length_map];omega
  refine DC.skip ?_
  repeat refine DC.seq ?_
  refine DC.block ?_
  repeat refine DC.seq ?_
  apply DC.ae
  ·intro s0 Oo;refine aO rfl rfl rfl (Int.natCast_nonneg i) FF rfl ?_;refine ax rfl rfl rfl ?_;refine aa rfl rfl ?_;exact TL.nil rfl
  repeat refine DC.seq ?_
  apply DC.ae
  ·intro s0 Oo;refine ah rfl rfl ?_;refine ah rfl rfl ?_;refine cy rfl rfl F9 rfl rfl ?_;refine ah rfl rfl ?_;refine bn FX rfl rfl ?_;refine cK w rfl rfl rfl rfl rfl rfl (cg _) (by omega) ?_;refine aa rfl rfl ?_;exact TL.nil rfl
  have w:=w.app (bm (cu r.s.aS s.ck r.m x).2.2);rw[<-dB]at w
  repeat refine DC.seq ?_
  apply DC.ae
  ·intro s0 Oo;refine aV rfl rfl rfl (by omega) ?_;refine ah rfl rfl ?_;exact TL.nil rfl
  exact cb (k':=B.length-(i+1)) (by omega) ⟨i+1,_,_,_,rfl,F9,G1,by rw[FU];exact w,by omega,rfl⟩ rfl rfl
 refine DC.exit ?_;obtain rfl:i=B.length:=by have:=of_decide_eq_false hc;omega
 have GZ:=LW B.length;rw[List.take_length]at w GZ;clear LW hc;generalize B.foldl eP r1=r2 at w GZ⊢;obtain⟨_,K2,l',⟨rfl,rfl⟩,w,FX⟩:=Wk.call (a:=[a_ iv r2.s.vars,a_ il r2.s.aS]) (r:=[_,_,_]) (w.pick [3,4,0,1,2]) (xG iv il s.ck r2.s e GV);have w:Wk F H (.acc 16 (bm r2.q) mc::dG it im iv il p r2) K2:=w.pick [2,3,4,0,1];rw[e.ai,(bT r2.s e).ai]at FX;rw[(bT r2.s e).ai]
 repeat refine DC.seq ?_
 apply DC.ae
 ·intro s0 Oo;refine cy rfl rfl F9 rfl rfl ?_;refine aW rfl rfl rfl ?_;refine bn FX rfl rfl ?_;refine ah rfl rfl ?_;refine av rfl rfl G1 rfl rfl rfl ?_;refine aa rfl rfl ?_;exact TL.nil rfl
 exact DC.ret ⟨_,rfl,_,⟨mc,rfl,rfl⟩,w⟩
end Go.Proofs.Pz
namespace Go.Ps
open Go.Mt Go.Sm
theorem bc.val{r:R}(h:cF r.s)(e:Xp)(t:Int×Nm):bc r (d_ r e t) (dP e+dP e+1):=by
 have h1:=bc.ef h e;exact⟨h1.ck,h1.sc,by have:=h1.n;simp only[d_,MS.fresh];omega,by have:=h1.vs;simp only[d_,MS.fresh,List.length_append,List.length_singleton];omega,by have:=h1.q;simp only[d_,List.length_append,List.length_singleton];omega⟩
end Go.Ps
namespace Go.Proofs.Pz
open Go.Mt Go.Sm Go.Ps Go.Proofs
open Tryz
theorem u6(it im iv il:Nat)(p:Pg)(s:Sc)(m:MS)(e:Xp)(t:Int×Nm)(GV:lJ e)(hs:cF s)(hn:m.n+dP e+dP e<1000000000)(hv:m.vars.length+dP e+dP e<=1000000)(hz:dP e<=1000000):
  Dt prog 258 [.ref im 0,je iv il s.ck,.d (.agg e.cells),.d (.agg (eT t))] (dG it im iv il p ⟨s,m,[]⟩) λx l=>∃mq,x=fD [.d (.str (nV (Ps.d_ ⟨s,m,[]⟩ e t).m.n)),mq]/\l=.acc 16 (bm (Ps.d_ ⟨s,m,[]⟩ e t).q) mq::dG it im iv il p (Ps.d_ ⟨s,m,[]⟩ e t):=by
 intro H F hw;obtain⟨_,K1,l',⟨mq,rfl,rfl⟩,w,Ge⟩:=Wk.call (r:=[]) (Wk.start hw) (mY it im iv il p s m e GV hs hn hv hz);have FN:=bc.ef (r:=⟨s,m,[]⟩) hs e;unfold Ps.d_;generalize cD ⟨s,m,[]⟩ e=r at w Ge FN⊢;have Js:=FN.n;have IY:=FN.vs;have HP:=FN.q;have G5:=FN.ck
 dsimp only at Js IY HP G5
 obtain⟨_,K2,l',⟨rfl,rfl⟩,w,Gb⟩:=Wk.call (a:=[.ob it aZ,dc im p r.m]) (r:=[_,_,_]) (w.pick [1,2,0,3,4]) (mX it im p r.m (by omega) (by omega) t r.s.ck FN.sc.n);have w:Wk F H [.acc 16 (bm r.q) mq,.ob it aZ,dc im p (r.m.fresh t r.s.ck),a_ iv r.s.vars,a_ il r.s.aS] K2:=w.pick [2,0,1,3,4];have Hh:=kQ (nV (r.m.n+1)) (bT r.s e) e.ps;rw[cI,(bT r.s e).ai]at Hh;rw[(bT r.s e).ai,e.ai]at Ge;rw[G5]at Gb;rw[e.ai];refine DT.aG func258 rfl ntmps258 rfl ?_
 repeat refine DC.seq ?_
 apply DC.ae
 ·intro s0 Oo;refine dw rfl rfl rfl rfl ?_;refine b_ rfl rfl ?_;refine b_ rfl rfl ?_;refine aa rfl rfl ?_;refine aa rfl rfl ?_;exact TL.nil rfl
 repeat refine DC.seq ?_
 apply DC.ae
 ·intro s0 Oo;refine ah rfl rfl ?_;refine cy rfl rfl rfl rfl rfl ?_;refine aW rfl rfl rfl ?_;refine bn Ge rfl rfl ?_;refine ah rfl rfl ?_;refine aR rfl rfl rfl ?_;refine aR rfl rfl rfl ?_;refine aM rfl rfl ?_;refine av rfl rfl rfl rfl rfl rfl ?_;refine aa rfl rfl ?_;exact TL.nil rfl
 repeat refine DC.seq ?_
 apply DC.ae
 ·intro s0 Oo;refine ah rfl rfl ?_;refine aW rfl rfl rfl ?_;refine aq rfl rfl ?_;refine aB rfl rfl rfl rfl ?_;refine bn Gb rfl rfl ?_;refine aa rfl rfl ?_;exact TL.nil rfl
 repeat refine DC.seq ?_
 apply DC.ae
 ·intro s0 Oo;refine ah rfl rfl ?_;refine ah rfl rfl ?_;refine ah rfl rfl ?_;refine aY rfl rfl rfl rfl rfl ?_;refine az rfl rfl ?_;refine dj rfl rfl rfl ?_;refine bL Hh rfl rfl ?_;refine aD rfl rfl rfl rfl rfl rfl rfl rfl ?_;refine cK w rfl rfl rfl rfl rfl rfl (by exact cO rfl) (by simp[bm]at HP⊢;omega) ?_;refine aa rfl rfl ?_;refine aa rfl rfl ?_;exact TL.nil rfl
 have w:=w.app [dN 1 [nV (r.m.n+1)] ⟨#[]⟩ [] false (xC (bT r.s e)) [] e.ps];have hq:bm (r.q++[fG (nV (r.m.n+1)) (bT r.s e) e.ps])=bm r.q++[dN 1 [nV (r.m.n+1)] ⟨#[]⟩ [] false (xC (bT r.s e)) [] e.ps]:=by
  rw[dB];show bm r.q++[(fG (nV (r.m.n+1)) (bT r.s e) e.ps).cells]=_;rw[cI]
 rw[<-hq]at w;exact DC.ret ⟨_,rfl,_,⟨_,rfl,rfl⟩,w⟩
end Go.Proofs.Pz
namespace Go.Ps
open Go.Mt Go.Sm
theorem bc.last{r:R}(h:cF r.s)(v:Va)(name:Nm):bc r (fA r v name) 1:=by
 unfold fA;split
 ·exact⟨rfl,⟨h.v,h.l.set _ (Nat.le_refl _),h.n⟩,by simp[MS.fresh],by simp[MS.fresh],by simp⟩
 ·exact⟨rfl,h,Nat.le_succ _,Nat.le_succ _,Nat.le_succ _⟩
theorem Cv(a b:List (Nm×Nm)):bN (a++b)=bN a++bN b:=by simp[bN]
end Go.Ps
namespace Go.Proofs.Pz
open Go.Mt Go.Sm Go.Ps Go.Proofs
open Tryz
theorem py(a b:List (Nm×Nm))(h:a.length+b.length<=1000000):PT prog 208 [.sl [[.sl (bN a)],[.sl (bN b)]]] (·=[.sl (bN (a++b))]):=by
 have hc:=xA [bN a,bN b] (by
  intro l hl r hr;simp only[List.mem_cons,List.not_mem_nil,or_false]at hl;rcases hl with rfl|rfl<;>exact iD _ r hr) (by simp) (by simp[bN];omega)
 have hf:[bN a,bN b].flatten=bN (a++b):=by rw[Cv];simp
 rw[hf]at hc;exact hc
theorem xH(it im iv il:Nat)(p:Pg)(s:Sc)(m:MS)(v:Va)(name:Nm)(hs:cF s)(hn:m.n<1000000000)(hv:m.vars.length<=1000000)(hc:s.ck.length+v.clock.length<=1000000):
  Dt prog 162 [.ref im 0,je iv il s.ck,.d (.agg v.cells),.d (.str name)] (dG it im iv il p ⟨s,m,[]⟩) λx l=>x=.d (.sl (bm (fA ⟨s,m,[]⟩ v name).q))/\l=dG it im iv il p (fA ⟨s,m,[]⟩ v name):=by
 intro H F hw;have w:=Wk.start hw;rw[v.ai];unfold fA;cases Jr:v.last with
 |false=>
  simp only[Bool.false_eq_true,if_false];refine DT.aG func162 rfl ntmps162 rfl ?_
  repeat refine DC.seq ?_
  apply DC.ae
  ·intro s0 Oo;refine dw rfl rfl rfl rfl ?_;refine b_ rfl rfl ?_;refine aa rfl rfl ?_;exact TL.nil rfl
  repeat refine DC.seq ?_
  apply DC.ae
  ·intro s0 Oo;refine az rfl rfl ?_;refine ax rfl rfl rfl ?_;refine iZ rfl rfl ?_;exact TL.nil rfl
  repeat refine DC.seq ?_
  refine DC.cr rfl ?_
  repeat refine DC.seq ?_
  apply DC.ae
  ·intro s0 Oo;refine aa rfl rfl ?_;exact TL.nil rfl
  exact DC.ret ⟨_,rfl,_,⟨rfl,rfl⟩,w⟩
 |true=>
  simp only[if_true];obtain⟨G9,Gi⟩:∃G9,G9=s.ck++v.clock.map λo=>(o.1,s.vars.nm o.2):=⟨_,rfl⟩
  have QM:G9.length<=1000000:=by rw[Gi,List.length_append,List.length_map];exact hc
  have Kr:=py s.ck (v.clock.map λo=>(o.1,s.vars.nm o.2)) (by rw[List.length_map];exact hc);rw[<-Gi]at Kr⊢;obtain⟨_,K1,l',⟨rfl,rfl⟩,w,Ge⟩:=Wk.call (a:=[a_ iv s.vars]) (r:=[_,_,_]) (w.pick [2,0,1,3]) (Ba (.ref im 0) iv il s.ck s.vars v.clock (by omega));obtain⟨_,K2,l',⟨rfl,rfl⟩,w,Gb⟩:=Wk.call (a:=[.ob it aZ,dc im p m]) (r:=[_,_]) (w.pick [1,2,0,3]) (mX it im p m hn hv (v.tk,v.tn) G9 QM);have w:Wk F H [a_ il s.aS,.ob it aZ,dc im p (m.fresh (v.tk,v.tn) G9),a_ iv s.vars] K2:=w.pick [3,0,1,2];obtain⟨es,hm,w⟩:=a_.open w;have hH:=w.ob;have hlen:(bN s.ck).length=s.ck.length:=by simp[bN]
  have Ix:=e9 name;rw[(bk name).ai]at Ix;have Jo:(jg v.first (bk name)).cells=gw 9 0 0 ⟨#[]⟩ [] [xC v.first,xC (bk name)] (0,0):=by
   rw[Xp.ai];show gw 9 0 0 _ [] [v.first.cells,(bk name).cells] _=_;rw[v.first.ai,(bk name).ai];rfl
  have QN:(fG (nV (m.n+1)) (jg v.first (bk name)) v.ps).cells=dN 1 [nV (m.n+1)] ⟨#[]⟩ [] false (gw 9 0 0 ⟨#[]⟩ [] [xC v.first,xC (bk name)] (0,0)) [] v.ps:=by rw[aF.cells,Jo];rfl
  have Hh:=kQ (nV (m.n+1)) (jg v.first (bk name)) v.ps;rw[QN,Jo]at Hh;refine DT.aG func162 rfl ntmps162 rfl ?_
  repeat refine DC.seq ?_
  apply DC.ae
  ·intro s0 Oo;refine dw rfl rfl rfl rfl ?_;refine b_ rfl rfl ?_;refine aa rfl rfl ?_;exact TL.nil rfl
  repeat refine DC.seq ?_
  apply DC.ae
  ·intro s0 Oo;refine az rfl rfl ?_;refine ax rfl rfl rfl ?_;refine iZ rfl rfl ?_;exact TL.nil rfl
  repeat refine DC.seq ?_
  refine DC.aC rfl ?_;refine DC.skip ?_
  repeat refine DC.seq ?_
  apply DC.da mixed
  ·intro s0 Oo;refine aP rfl rfl ?_;refine bw rfl rfl rfl rfl ?_;refine aH rfl rfl ?_;refine jx rfl rfl rfl rfl rfl ?_;refine bY rfl rfl ?_;refine cx rfl rfl rfl ?_;refine gq Ge rfl rfl ?_;refine bj rfl rfl rfl rfl rfl rfl rfl rfl ?_;refine bX Kr rfl rfl ?_;refine eA rfl rfl ?_;exact TF.nil ⟨by kernel_rfl,rfl⟩
  repeat refine DC.seq ?_
  apply DC.ae
  ·intro s0 Oo;refine ah rfl rfl ?_;refine az rfl rfl ?_;refine dj rfl rfl rfl ?_;refine ah rfl rfl ?_;refine bn Gb rfl rfl ?_;refine aa rfl rfl ?_;exact TL.nil rfl
  repeat refine DC.seq ?_
  apply DC.ae
  ·intro s0 Oo;refine aq rfl rfl ?_;refine aB rfl rfl rfl rfl ?_;refine az rfl rfl ?_;refine ax rfl rfl rfl ?_;refine ah rfl rfl ?_;refine aq rfl rfl ?_;refine aB rfl rfl rfl rfl ?_
   (refine bg rfl rfl rfl ?_;rw[hlen])
   refine az rfl rfl ?_;refine dj rfl rfl rfl ?_;refine bH rfl rfl rfl rfl rfl ?_;refine eJ rfl rfl rfl hH hm.k ?_;exact TL.nil rfl
  repeat refine DC.seq ?_
  apply DC.da mixed
  ·intro s0 Oo;refine aH rfl rfl ?_;refine bY rfl rfl ?_;refine eY rfl rfl rfl ?_;refine aH rfl rfl ?_;refine bX Ix rfl rfl ?_;refine bj rfl rfl rfl rfl rfl rfl rfl rfl ?_;refine dY rfl rfl rfl rfl rfl ?_;refine bY rfl rfl ?_;refine eY rfl rfl rfl ?_;refine bX Hh rfl rfl ?_;refine bj rfl rfl rfl rfl rfl rfl rfl rfl ?_;refine eA rfl rfl ?_;exact TF.nil ⟨by kernel_rfl,rfl⟩
  have w2:=a_.close (hm.set v.name ⟨nV (m.n+1),s.ck.length,v.tk,v.tn⟩) (w.set (.map (cU v.name (.d (.agg (jX ⟨nV (m.n+1),s.ck.length,v.tk,v.tn⟩))) es)));refine DC.ret ⟨_,rfl,_,⟨?_,rfl⟩,w2.pick [1,2,3,0]⟩;show _=M.d (D.sl [(fG (nV (m.n+1)) (jg v.first (bk name)) v.ps).cells]);rw[QN];rfl
end Go.Proofs.Pz
namespace Go.Ps
open Go.Mt Go.Sm
def Ek(es:List (D×M))(bs seen:List Nat)(G2:List (D×M))(ns:List Nat):Prop:=ns.Nodup/\seen.map some=ns.map (bs[·]?)/\G2.map some=ns.map (es[·]?)
def Seen(es:List (D×M))(bs seen:List Nat)(G2:List (D×M)):Prop:=∃ns,Ek es bs seen G2 ns
theorem Seen.nil(es:List (D×M))(bs:List Nat):Seen es bs [] []:=⟨[],by simp,rfl,rfl⟩
theorem Seen.step{es:List (D×M)}{bs seen:List Nat}{G2:List (D×M)}(h:Seen es bs seen G2){n b:Nat}{e:D×M}(he:es[n]?=some e)(hb:bs[n]?=some b)(hn:b∉seen)(hk:(es.map Prod.fst).Nodup):
  Seen es bs (seen++[b]) (G2++[e])/\e.1∉G2.map Prod.fst:=by
 obtain⟨ns,h1,h2,h3⟩:=h;have QO:n∉ns:=by
  intro h;have:some b∈ns.map (bs[·]?):=List.mem_map.2 ⟨n,h,hb⟩;rw[<-h2,List.mem_map]at this;obtain⟨c,hc,e⟩:=this;injection e with e;subst e;exact hn hc
 refine⟨⟨ns++[n],?_,?_,?_⟩,?_⟩
 ·rw[List.nodup_append];exact⟨h1,by simp,by intro a ha c hc;rw[List.mem_singleton]at hc;subst hc;exactλe=>QO (e▸ha)⟩
 ·rw[List.map_append,List.map_append,h2];simp[hb]
 ·rw[List.map_append,List.map_append,h3];simp[he]
 ·intro hm;rw[List.mem_map]at hm;obtain⟨c,hc,NN⟩:=hm;have:some c∈G2.map some:=List.mem_map.2 ⟨c,hc,rfl⟩;rw[h3,List.mem_map]at this;obtain⟨n',Gt,FH⟩:=this;apply QO;have hl:n<(es.map Prod.fst).length:=by rw[List.length_map];exact(List.getElem?_eq_some_iff.1 he).1
  have:n=n':=by
   refine(List.getElem?_inj hl hk).1 ?_;rw[List.getElem?_map,List.getElem?_map,he,FH];simp[NN]
  rw[this];exact Gt
theorem Seen.all{es:List (D×M)}{bs seen:List Nat}{G2:List (D×M)}(h:Seen es bs seen G2)(ha:∀b∈bs,b∈seen)(hd:bs.Nodup)(hl:bs.length=es.length):G2.Perm es:=by
 obtain⟨ns,h1,h2,h3⟩:=h;have hp:ns.Perm (List.range es.length):=by
  rw[List.perm_ext_iff_of_nodup h1 List.nodup_range];intro n;rw[List.mem_range];constructor
  ·intro hn;have:(es[n]?)∈ns.map (es[·]?):=List.mem_map.2 ⟨n,hn,rfl⟩;rw[<-h3,List.mem_map]at this;obtain⟨c,_,hc⟩:=this;exact(List.getElem?_eq_some_iff.1 hc.symm).1
  ·intro hn;have Gt:n<bs.length:=by omega
   have hb:=ha _ (List.getElem_mem Gt);have:some bs[n]∈seen.map some:=List.mem_map.2 ⟨_,hb,rfl⟩;rw[h2,List.mem_map]at this;obtain⟨n',h4,h5⟩:=this;have:n=n':=by
    refine(List.getElem?_inj Gt hd).1 ?_;rw[h5];simp[Gt]
   rw[this];exact h4
 have h4:(G2.map some).Perm (es.map some):=by
  have h5:es.map some=(List.range es.length).map (es[·]?):=by
   refine List.ext_getElem (by simp) λi h6 h7=>?_
   simp at h6;simp[h6]
  rw[h3,h5];exact hp.map _
 have h6:=h4.filterMap id;simpa using h6
def iG(bs seen:List Nat):Nat:=(bs.filter λc=>decide (c∉seen)).length
theorem Bc(bs seen:List Nat)(b:Nat):iG bs (seen++[b])<=iG bs seen:=by
 unfold iG
 induction bs with
 |nil=>simp
 |cons c l ih=>
  simp only[List.filter_cons];by_cases h1:c∈seen
  ·simp[h1]at ih⊢;exact ih
  ·by_cases h2:c=b
   ·subst h2;simp[h1]at ih⊢;omega
   ·simp[h1,h2]at ih⊢;exact ih
theorem qz{bs seen:List Nat}{b:Nat}(hb:b∈bs)(hn:b∉seen):iG bs (seen++[b])<iG bs seen:=by
 induction bs with
 |nil=>simp at hb
 |cons c l ih=>
  by_cases h2:c=b
  ·subst h2;have:=Bc l seen c;unfold iG at this⊢;simp only[List.filter_cons];simp[hn]at this⊢;omega
  ·have Hb:b∈l:=by rcases List.mem_cons.1 hb with h|h;exact absurd h.symm h2;exact h
   have:=ih Hb;unfold iG at this⊢;simp only[List.filter_cons];by_cases h1:c∈seen
   ·simp[h1]at this⊢;exact this
   ·simp[h1,h2]at this⊢;exact this
theorem qA(k:Nm)(v:M):∀{es:List (D×M)},strKeys es=true->D.str k∉es.map Prod.fst->cU k v es=es++[(.str k,v)]
 |[],_,_=>rfl
 |(d,m)::r,h,hn=>by
  cases d with
  |str s=>
   simp only[List.map_cons,List.mem_cons,not_or]at hn;rw[jJ,if_neg (λe=>hn.1 (by rw[e])),qA k v (es:=r) (by simpa [strKeys] using h) hn.2];rfl
  |_=>simp[strKeys]at h
theorem tA{G2 es:List (D×M)}(hp:G2.Perm es)(hk:strKeys es=true)(hd:(es.map Prod.fst).Nodup):∀e0,ct e0 G2->ct e0 es:=by
 intro e0 h;refine .inr ⟨?_,cA.1 hk,hd⟩;rcases h with rfl|⟨h,_⟩
 ·exact hp
 ·exact h.trans hp
theorem ct.qB{FT es:List (D×M)}(h:ct FT es):FT.Perm es:=by
 rcases h with rfl|⟨h,_⟩
 ·exact .refl _
 ·exact h
theorem qC{x:Nm}{m:M} :∀{es:List (D×M)},strKeys es=true->(es.map Prod.fst).Nodup->(D.str x,m)∈es->c9 x es=some m
 |[],_,_,h=>by simp at h
 |(d,m')::r,hk,hn,h=>by
  cases d with
  |str s=>
   rw[List.map_cons,List.nodup_cons]at hn;rw[eI];rcases List.mem_cons.1 h with h|h
   ·injection h with h1 h2;injection h1 with h1;subst h1;subst h2;rw[if_pos rfl]
   ·rw[if_neg (λe=>hn.1 (by rw[e];exact List.mem_map.2 ⟨_,h,rfl⟩))];exact qC (by simpa [strKeys] using hk) hn.2 h
  |_=>simp[strKeys]at hk
theorem eS.Ds{es:List (D×M)}{f:Env}(h:eS es f){e:D×M}(he:e∈es):∃x b,e=(.str x,M.d (.agg (jX b))):=by
 obtain⟨x,hx⟩:=cA.1 h.k e he;obtain⟨d,m⟩:=e;simp only at hx;subst hx;have:=qC h.k h.nd he;rw[h.l]at this;cases hf:f x with
 |none=>rw[hf]at this;cases this
 |some b=>rw[hf]at this;injection this with this;exact⟨x,b,by rw[<-this]⟩
theorem El{F:Nat->Prop}{H K:Hp}{l:List As}{iv il:Nat}{a b:Ob}(hF:∀i,F i->i=iv\/i=il)(w:Wk F H l K)(h1:K[iv]?=H[iv]?)(h2:K[il]?=H[il]?)(h3:K[H.length]?=some a)(h4:K[H.length+1]?=some b):
  H.length+2<=K.length/\K.take (H.length+2)=H++[a,b]:=by
 obtain⟨_,_,st⟩:=w;have hl:=(List.getElem?_eq_some_iff.1 h4).1;refine⟨hl,List.ext_getElem? λi=>?_⟩;rw[List.getElem?_take];by_cases h5:i<H.length
 ·rw[if_pos (by omega),List.getElem?_append_left h5];by_cases h6:F i
  ·rcases hF i h6 with rfl|rfl
   ·exact h1
   ·exact h2
  ·exact st.fj i h5 h6
 ·by_cases h6:i=H.length
  ·subst h6;rw[if_pos (by omega),h3,List.getElem?_append_right (Nat.le_refl _)];simp
  ·by_cases h7:i=H.length+1
   ·subst h7;rw[if_pos (by omega),h4,List.getElem?_append_right (by omega)];simp
   ·rw[if_neg (by omega),List.getElem?_eq_none (by simp;omega)]
theorem MB.le{n m:Nat}(hl:n<=m){x:M}(h:MB n x):MB m x:=by
 induction h with
 |d x=>exact .d x
 |ref i off h=>exact .ref i off (by omega)
 |bB i FD len h=>exact .bB i FD len (by omega)
 |bG i FD off h=>exact .bG i FD off (by omega)
 |mp i h=>exact .mp i (by omega)
 |it i h=>exact .it i (by omega)
 |agg cs h ih=>exact .agg cs ih
 |fn f cs h ih=>exact .fn f cs ih
 |bz cs h ih=>exact .bz cs ih
 |undef=>exact .undef
theorem vt.le{n m:Nat}(hl:n<=m){ob:Ob}(h:vt n ob):vt m ob:=by
 cases ob with
 |box cs=>exactλx hx=>MB.le hl (h x hx)
 |row acc ec FD cs=>exactλx hx=>MB.le hl (h x hx)
 |map es=>exactλx hx=>MB.le hl (h x hx)
 |iter x=>exact MB.le hl h
 |dead=>trivial
 |free=>trivial
theorem a_.Cw{i:Nat}{f:Env}{H:Hp}{F:Nat->Prop}(h:(a_ i f).p H F):∀j,F j->j=i:=by
 obtain⟨es,F1,F2,⟨h1,h2⟩,⟨F3,F4,⟨_,h5⟩,h6,_,h7⟩,_,h8⟩:=h;intro j hj;rcases(h8 j).1 hj with h|h
 ·exact(h2 j).1 h
 ·rcases(h7 j).1 h with h|h
  ·exact absurd h (h5 j)
  ·exact absurd h (h6 j)
end Go.Ps
namespace Go.Proofs.Pz
open Go.Mt Go.Sm Go.Ps Go.Proofs
open Tryz
theorem Be{F:Nat->Prop}{H:Hp}{iv il:Nat}{ev el:List (D×M)}{f g:Env}(w:Wk F H [.ob iv (.map ev),.ob il (.map el)] H)(IZ:eS ev f)(Lr:eS el g)(hF:∀i,F i->i=iv\/i=il)(sc:List (Nm×Nm))(mk:M)(Pa:dJ mk=some [mk]):
  CT prog 259 [je iv il sc,mk] H λr K=>r=.agg [.mp H.length,.mp (H.length+1),mk]/\H.length+2<=K.length/\K.take (H.length+2)=H++[.map ev,.map el]:=by
 have NO:=w.ob;have Sr:=(w.pick [1,0]).ob;refine CT.aG func259 rfl ntmps259 rfl λs0 Oo=>?_
 repeat refine TC.seq ?_
 refine TC.region ?_;refine dw rfl rfl rfl rfl ?_;refine aM rfl rfl ?_;refine TL.nil ?_;have w:=(w.new (.map [])).new (.map []);have Me:(H++[Ob.map []]).length=H.length+1:=by simp
 repeat refine TC.seq ?_
 refine TC.region ?_;refine k8 rfl ?_;refine k8 rfl ?_;refine ah rfl rfl ?_;refine mU (cs:=[.mp H.length,.mp (H++[Ob.map []]).length,mk]) rfl rfl rfl (by simp only[gU];rw[Pa];rfl) ?_;refine aM rfl rfl ?_;refine av rfl rfl rfl (fX _) rfl rfl ?_;refine TL.nil ?_;have w0:=w;rw[Me]at w⊢;have w:=w.pick [2,1,0,3];have Ie:=IZ;have IM:=w.ob
 repeat refine TC.seq ?_
 refine TC.region ?_;refine aq rfl rfl ?_;refine aB rfl rfl rfl rfl ?_
 (refine qd rfl rfl rfl rfl IM Ie.k ?_;intro FT bs since Gr GW Kt KQ)
 refine TL.nil ?_;have hJ:∃J,J=(H++[Ob.map []]++[Ob.map []]).length:=⟨_,rfl⟩;obtain⟨J,hJ⟩:=hJ;rw[<-hJ];have w:=(w.set (.map (dm since FT bs))).new (.iter (gf iv since []));rw[List.length_set,<-hJ]at w;have w:=w.pick [1,0,2,3,4];have Jp:(FT.map Prod.fst).Nodup:=(((ct.qB Gr).map Prod.fst).nodup_iff).2 Ie.nd;have IK:strKeys FT=true:=Gr.strs Ie.k
 repeat refine TC.seq ?_
 refine TC.block ?_;refine TC.ep (λk s=>∃(seen:List Nat) (G2:List (D×M)) (bx:List (Nat×List M)) (H1:Hp),s=⟨[(16,.m (.it J)),(5,.loc 5 0),(4,.loc 4 0),(2,.loc 2 0)],bx,H1⟩/\
   Go.Mt.get bx 2=some [.mp iv,.mp il,.d (.sl (bN sc))]/\Go.Mt.get bx 4=some [.d .dQ,.d .dQ,.d (.sl [])]/\Go.Mt.get bx 5=some [.mp H.length,.mp (H.length+1),mk]/\
   Seen FT bs seen G2/\strKeys G2=true/\
   Wk F H (.ob iv (.map (dm since FT bs)):: .ob J (.iter (gf iv since seen)):: .ob H.length (.map G2):: [.ob (H.length+1) (.map []),.ob il (.map el)]) H1/\k=iG bs seen) (iG bs []) _
  ⟨[],[],_,_,rfl,rfl,rfl,rfl,Seen.nil _ _,rfl,w,rfl⟩ rfl ?_
 clear w;rintro k s ⟨seen,G2,bx,H1,rfl,Gs,F9,Gz,IC,Ja,w,rfl⟩;have hI:=w.ob;have JB:=(w.pick [1,0,2,3,4]).ob
 repeat refine TC.seq ?_
 refine TC.region ?_;refine td rfl rfl JB hI GW KQ (λHj=>?_) (λn e b he hb HN=>?_);rotate_left
 ·obtain⟨x,bd,rfl⟩:=Ie.Ds (Gr.mem.1 (List.mem_of_getElem? he));refine aR rfl rfl rfl ?_;refine TL.nil ?_
  repeat refine TC.seq ?_
  refine TC.cr rfl ?_;refine TC.skip ?_;have w:=(w.pick [1,0,2,3,4]).set (.iter (gf iv since (seen++[b])));have JB:=w.ob;have w:=w.pick [1,0,2,3,4];have hI:=w.ob;have w:=w.pick [2,0,1,3,4];have hC:=w.ob;obtain⟨KC,Iz⟩:=IC.step he hb HN Jp
  repeat refine TC.seq ?_
  refine TC.block ?_
  repeat refine TC.seq ?_
  refine TC.region ?_;refine qe rfl rfl JB hI GW Kt he hb ?_;refine aR rfl rfl rfl ?_;refine aR rfl rfl rfl ?_;refine aM rfl rfl ?_;refine aa rfl rfl ?_;refine av rfl rfl rfl rfl rfl rfl ?_;refine TL.nil ?_
  repeat refine TC.seq ?_
  refine TC.region ?_;refine aq rfl rfl ?_;refine aB rfl rfl Gz rfl ?_;refine ah rfl rfl ?_;refine aY rfl rfl rfl rfl rfl ?_;refine eJ rfl rfl rfl hC Ja ?_;refine TL.nil ?_;have w:=w.set (.map (cU x (.d (.agg (jX bd))) G2));have J1:=qA x (.d (.agg (jX bd))) Ja Iz;have Nb:strKeys (cU x (.d (.agg (jX bd))) G2)=true:=by
   rw[J1,cA];intro e he;rcases List.mem_append.1 he with h|h
   ·exact cA.1 Ja e h
   ·rw[List.mem_singleton]at h;subst h;exact⟨x,rfl⟩
  exact again (qz (List.mem_of_getElem? hb) HN) ⟨seen++[b],_,_,_,rfl,Gs,F9,Gz,by rw[J1];exact KC,Nb,w.pick [1,2,0,3,4],rfl⟩ rfl rfl
 refine aR rfl rfl rfl ?_;refine TL.nil ?_
 repeat refine TC.seq ?_
 refine TC.aC rfl ?_;refine TC.exit ?_;refine TC.pf hI GW IK Gr ?_;have w:=w.set (.map ev);have w:=w.pick [2,0,1,3,4];refine TC.perm w.ob (tA ((IC.all Hj Kt GW).trans (ct.qB Gr)) Ie.k Ie.nd) ?_;have w:=w.set (.map ev);clear hI JB IC Ja Hj Gr GW Kt KQ Jp IK Ie IM;have w:=(w.pick [2,4,3,0,1]).drop;have Ie:=Lr;have IM:=w.ob;generalize QP:(H1.set iv (.map ev)).set H.length (.map ev)=HH at w IM⊢;clear QP
 repeat refine TC.seq ?_
 refine TC.region ?_;refine aq rfl rfl ?_;refine aB rfl rfl Gs rfl ?_
 (refine qd rfl rfl rfl rfl IM Ie.k ?_;intro FT bs since Gr GW Kt KQ)
 refine TL.nil ?_;have hJ:∃J,J=HH.length:=⟨_,rfl⟩;obtain⟨J,hJ⟩:=hJ;rw[<-hJ];have w:=(w.set (.map (dm since FT bs))).new (.iter (gf il since []));rw[List.length_set,<-hJ]at w;have w:=w.pick [1,0,2,3,4];have Jp:(FT.map Prod.fst).Nodup:=(((ct.qB Gr).map Prod.fst).nodup_iff).2 Ie.nd;have IK:strKeys FT=true:=Gr.strs Ie.k
 repeat refine TC.seq ?_
 refine TC.block ?_;refine TC.ep (λk s=>∃(seen:List Nat) (G2:List (D×M)) (bx:List (Nat×List M)) (H1:Hp),s=⟨[(28,.m (.it J)),(5,.loc 5 0),(4,.loc 4 0),(2,.loc 2 0)],bx,H1⟩/\
   Go.Mt.get bx 2=some [.mp iv,.mp il,.d (.sl (bN sc))]/\Go.Mt.get bx 4=some [.d .dQ,.d .dQ,.d (.sl [])]/\Go.Mt.get bx 5=some [.mp H.length,.mp (H.length+1),mk]/\
   Seen FT bs seen G2/\strKeys G2=true/\
   Wk F H (.ob il (.map (dm since FT bs)):: .ob J (.iter (gf il since seen)):: .ob (H.length+1) (.map G2):: [.ob H.length (.map ev),.ob iv (.map ev)]) H1/\k=iG bs seen) (iG bs []) _
  ⟨[],[],_,_,rfl,Gs,F9,Gz,Seen.nil _ _,rfl,w,rfl⟩ rfl ?_
 clear w;rintro k s ⟨seen,G2,bx,H1,rfl,Gs,F9,Gz,IC,Ja,w,rfl⟩;have hI:=w.ob;have JB:=(w.pick [1,0,2,3,4]).ob
 repeat refine TC.seq ?_
 refine TC.region ?_;refine td rfl rfl JB hI GW KQ (λHj=>?_) (λn e b he hb HN=>?_);rotate_left
 ·obtain⟨x,bd,rfl⟩:=Ie.Ds (Gr.mem.1 (List.mem_of_getElem? he));refine aR rfl rfl rfl ?_;refine TL.nil ?_
  repeat refine TC.seq ?_
  refine TC.cr rfl ?_;refine TC.skip ?_;have w:=(w.pick [1,0,2,3,4]).set (.iter (gf il since (seen++[b])));have JB:=w.ob;have w:=w.pick [1,0,2,3,4];have hI:=w.ob;have w:=w.pick [2,0,1,3,4];have hC:=w.ob;obtain⟨KC,Iz⟩:=IC.step he hb HN Jp
  repeat refine TC.seq ?_
  refine TC.block ?_
  repeat refine TC.seq ?_
  refine TC.region ?_;refine qe rfl rfl JB hI GW Kt he hb ?_;refine aR rfl rfl rfl ?_;refine aR rfl rfl rfl ?_;refine aM rfl rfl ?_;refine aa rfl rfl ?_;refine av rfl rfl rfl rfl rfl rfl ?_;refine TL.nil ?_
  repeat refine TC.seq ?_
  refine TC.region ?_;refine aq rfl rfl ?_;refine aB rfl rfl Gz rfl ?_;refine ah rfl rfl ?_;refine aY rfl rfl rfl rfl rfl ?_;refine eJ rfl rfl rfl hC Ja ?_;refine TL.nil ?_;have w:=w.set (.map (cU x (.d (.agg (jX bd))) G2));have J1:=qA x (.d (.agg (jX bd))) Ja Iz;have Nb:strKeys (cU x (.d (.agg (jX bd))) G2)=true:=by
   rw[J1,cA];intro e he;rcases List.mem_append.1 he with h|h
   ·exact cA.1 Ja e h
   ·rw[List.mem_singleton]at h;subst h;exact⟨x,rfl⟩
  exact again (qz (List.mem_of_getElem? hb) HN) ⟨seen++[b],_,_,_,rfl,Gs,F9,Gz,by rw[J1];exact KC,Nb,w.pick [1,2,0,3,4],rfl⟩ rfl rfl
 refine aR rfl rfl rfl ?_;refine TL.nil ?_
 repeat refine TC.seq ?_
 refine TC.aC rfl ?_;refine TC.exit ?_;refine TC.pf hI GW IK Gr ?_;have w:=w.set (.map el);have w:=w.pick [2,0,1,3,4];refine TC.perm w.ob (tA ((IC.all Hj Kt GW).trans (ct.qB Gr)) Ie.k Ie.nd) ?_;have w:=w.set (.map el);clear hI JB IC Ja Hj Gr GW Kt KQ Jp IK Ie IM
 repeat refine TC.seq ?_
 refine TC.region ?_;refine cy rfl rfl Gz rfl rfl ?_;refine av rfl rfl F9 rfl rfl rfl ?_;refine TL.nil ?_;exact TC.ret ⟨_,rfl,rfl,El hF w (((w.pick [3,4,0,1,2]).pick [1,0,2,3,4]).ob.trans NO.symm) ((w.pick [1,0,2,3,4]).ob.trans Sr.symm) ((w.pick [3,0,1,2,4]).ob) w.ob⟩
theorem u7(iv il:Nat)(f g:Env)(sc:List (Nm×Nm))(mk:M)(Pa:dJ mk=some [mk]):
  Dt prog 259 [je iv il sc,mk] [a_ iv f,a_ il g] λx l=>∃jv jl,x=.agg [.mp jv,.mp jl,mk]/\l=[a_ iv f,a_ il g,a_ jv f,a_ jl g]:=by
 intro H F hs;have hF:∀i,F i->i=iv\/i=il:=by
  obtain⟨F1,F2,h1,⟨F3,F4,h2,h3,_,h4⟩,_,h5⟩:=hs;intro i hi;rcases(h5 i).1 hi with h|h
  ·exact .inl (a_.Cw h1 i h)
  ·rcases(h4 i).1 h with h|h
   ·exact .inr (a_.Cw h2 i h)
   ·exact absurd h (h3 i)
 have w:=Wk.start hs;obtain⟨ev,IZ,w⟩:=a_.open w;have w:Wk F H [a_ il g,.ob iv (.map ev)] H:=w.pick [1,0];obtain⟨el,Lr,w⟩:=a_.open w;have w:Wk F H [.ob iv (.map ev),.ob il (.map el)] H:=w.pick [1,0];have hv:=w.ob;have hl:=(w.pick [1,0]).ob;have IX:=Be w IZ Lr hF sc mk Pa;refine⟨.agg [.mp H.length,.mp (H.length+1),mk],H++[.map ev,.map el],⟨_,⟨H.length,H.length+1,rfl,rfl⟩,?_⟩,?_⟩
 ·have w2:=(w.new (.map ev)).new (.map el);have Me:(H++[Ob.map ev]).length=H.length+1:=by simp
  rw[Me,List.append_assoc]at w2;have w3:Wk F H [a_ iv f,.ob il (.map el),.ob H.length (.map ev),.ob (H.length+1) (.map el)] _:=a_.close IZ (w2.pick [2,3,1,0]);have w4:Wk F H [a_ il g,.ob H.length (.map ev),.ob (H.length+1) (.map el),a_ iv f] _:=a_.close Lr (w3.pick [1,2,3,0]);have w5:Wk F H [a_ H.length f,.ob (H.length+1) (.map el),a_ iv f,a_ il g] _:=a_.close IZ (w4.pick [1,2,3,0]);have w6:Wk F H [a_ (H.length+1) g,a_ iv f,a_ il g,a_ H.length f] _:=a_.close Lr (w5.pick [1,2,3,0]);exact w6.pick [1,2,3,0]
 ·intro σ Oo vs hinv hH GR;have hb:HB H.length H:=by rw[<-hH];exact hinv.hb
  have hm:MB H.length mk:=by
   have h1:1<vs.size:=by have:=GR.1;simp at this;omega
   have:=(GR.2 1 mk vs[1] rfl (by simp[h1])).mb;rw[hH]at this;exact this
  refine CT.drop (post:= λr' K'=>r'=.agg [.mp H.length,.mp (H.length+1),mk]/\K'=H++[Ob.map ev,Ob.map el]) (H.length+2) (by omega) (IX.mono ?_) σ Oo vs hinv hH GR;rintro r k ⟨rfl,h1,h2⟩;refine⟨h1,.agg _ ?_,?_,rfl,h2⟩
  ·intro x hx;simp only[List.mem_cons,List.not_mem_nil,or_false]at hx;rcases hx with rfl|rfl|rfl
   ·exact .mp _ (by omega)
   ·exact .mp _ (by omega)
   ·exact MB.le (by omega) hm
  ·rw[h2];intro ob HM;rcases List.mem_append.1 HM with h|h
   ·exact vt.le (by omega) (hb ob h)
   ·simp only[List.mem_cons,List.not_mem_nil,or_false]at h;rcases h with rfl|rfl
    ·exact vt.le (by omega) (hb _ (List.mem_of_getElem? hv))
    ·exact vt.le (by omega) (hb _ (List.mem_of_getElem? hl))
end Go.Proofs.Pz
namespace Go.Ps
open Go.Mt Go.Sm
theorem qx.mono{en:List En}{f:Nm->Int×Nm}{p q:Nm->Prop}(hp:∀x,p x->q x){e:Xp}(h:qx en f p e):qx en f q e:=by
 induction h with
 |mk hk hl h ih=>
  refine .mk ih hl ?_;rcases h with h|h|h|⟨h,h2⟩|⟨h,h2⟩|h|h|h|h
  ·exact .inl h
  ·exact .inr (.inl h)
  ·exact .inr (.inr (.inl h))
  ·exact .inr (.inr (.inr (.inl ⟨h,hp _ h2⟩)))
  ·exact .inr (.inr (.inr (.inr (.inl ⟨h,hp _ h2⟩))))
  ·exact .inr (.inr (.inr (.inr (.inr (.inl h)))))
  ·exact .inr (.inr (.inr (.inr (.inr (.inr (.inl h))))))
  ·exact .inr (.inr (.inr (.inr (.inr (.inr (.inr (.inl h)))))))
  ·exact .inr (.inr (.inr (.inr (.inr (.inr (.inr (.inr h)))))))
theorem qD{α:Type}[DecidableEq α]:∀{k l:List α},k.Nodup->(∀x∈k,x∈l)->k.length<=l.length
 |[],l,_,_=>by simp
 |a::k,l,hn,hs=>by
  rw[List.nodup_cons]at hn;have ha:=hs a (by simp);have:=qD (l:=l.erase a) hn.2 λx hx=>(List.mem_erase_of_ne (λe=>hn.1 (by rw[<-e];exact hx))).2 (hs x (by simp[hx]))
  rw[List.length_erase_of_mem ha]at this;have:=List.length_pos_of_mem ha;simp only[List.length_cons];omega
def xI(f:Env)(n:Nat):Prop:=∃l:List Nm,l.length<=n/\∀x,(f x).isSome->x∈l
def xJ(e:Nm×Bd):D×M:=(.str e.1,.d (.agg (jX e.2)))
def rj(e:Nm×Bd):Va:=⟨e.1,e.2.tk,e.2.tn,[],false,fp,(0,0)⟩
theorem eS.mem{es:List (D×M)}{f:Env}(h:eS es f){e:Nm×Bd} :xJ e∈es↔f e.1=some e.2:=by
 constructor
 ·intro he;have:=qC h.k h.nd he;rw[h.l]at this;cases hf:f e.1 with
  |none=>rw[hf]at this;cases this
  |some b=>
   rw[hf]at this;injection this with this
   injection this with this;injection this with this
   obtain⟨x,b2⟩:=e;obtain⟨n1,d1,k1,t1⟩:=b;obtain⟨n2,d2,k2,t2⟩:=b2;simp only[jX,List.cons.injEq,D.str.injEq,D.int.injEq,Int.natCast_inj,true_and,and_true]at this;obtain⟨rfl,rfl,rfl,rfl⟩:=this;rfl
 ·intro hf;have hl:=h.l e.1;rw[hf]at hl;have key:∀{l:List (D×M)} {m:M},c9 e.1 l=some m->(D.str e.1,m)∈l:=by
   intro l m
   induction l with
   |nil=>intro h;simp[c9]at h
   |cons a r ih=>
    intro h;obtain⟨d,m'⟩:=a;cases d with
    |str s=>
     rw[eI]at h;by_cases e1:s=e.1
     ·rw[if_pos e1]at h;injection h with h;subst h;subst e1;exact List.mem_cons_self
     ·rw[if_neg e1]at h;exact List.mem_cons_of_mem _ (ih h)
    |_=>exact List.mem_cons_of_mem _ (ih (by simpa [c9] using h))
  exact key hl
theorem eS.len{es:List (D×M)}{f:Env}(h:eS es f){n:Nat}(hs:xI f n):es.length<=n:=by
 obtain⟨l,h1,h2⟩:=hs;obtain⟨kl,Ic⟩:∃kl:List Nm,es.map Prod.fst=kl.map D.str:=by
  have:∀l:List (D×M),(∀e∈l,∃s,e.1=.str s)->∃kl:List Nm,l.map Prod.fst=kl.map D.str:=by
   intro l
   induction l with
   |nil=>exactλ_=>⟨[],rfl⟩
   |cons a r ih=>
    intro h;obtain⟨s,hs⟩:=h a (by simp);obtain⟨kl,hk⟩:=ih λe he=>h e (by simp[he])
    exact⟨s::kl,by simp[hs,hk]⟩
  exact this es (cA.1 h.k)
 have Kq:=h.nd;rw[Ic]at Kq;have Jp:kl.Nodup:=List.Pairwise.of_map D.str (λa b h e=>h (by rw[e])) Kq;have h3:=qD (l:=l) Jp (by
  intro x hx;have:D.str x∈es.map Prod.fst:=by rw[Ic];exact List.mem_map_of_mem hx
  rw[List.mem_map]at this;obtain⟨e,he,h4⟩:=this;obtain⟨y,b,rfl⟩:=h.Ds he;injection h4 with h4;subst h4
  have:=(h.mem (e:=(y,b))).1 he;exact h2 y (by rw[this];rfl))
 have h4:=congrArg List.length Ic;simp only[List.length_map]at h4;omega
theorem Du{es G2:List (D×M)}{f:Env}(h:eS es f)(hp:G2.Perm es){l:List (Nm×Bd)}(hl:G2=l.map xJ):tv (l.map rj) f.ty/\∀x,(f x).isSome->A_ (l.map rj) x:=by
 constructor
 ·intro v hv;rw[List.mem_map]at hv;obtain⟨e,he,rfl⟩:=hv;have h1:xJ e∈es:=hp.mem_iff.1 (by rw[hl];exact List.mem_map_of_mem he);have h2:=h.mem.1 h1;simp only[rj,Env.ty,h2]
 ·intro x hx;obtain⟨b,hb⟩:=Option.isSome_iff_exists.1 hx;have h1:xJ (x,b)∈G2:=hp.mem_iff.2 (h.mem.2 hb);rw[hl,List.mem_map]at h1;obtain⟨e,he,h2⟩:=h1;injection h2 with h2 _;injection h2 with h2
  exact⟨rj e,List.mem_map_of_mem he,h2⟩
theorem Cx{F:Nat->Prop}{H K:Hp}{l:List As}{iv:Nat}(hF:∀i,F i->i=iv)(w:Wk F H l K)(h1:K[iv]?=H[iv]?):H.length<=K.length/\K.take H.length=H:=by
 obtain⟨_,_,st⟩:=w;refine⟨st.len,List.ext_getElem? λi=>?_⟩;rw[List.getElem?_take];by_cases h5:i<H.length
 ·rw[if_pos h5];by_cases h6:F i
  ·have:=hF i h6;subst this;exact h1
  ·exact st.fj i h5 h6
 ·rw[if_neg h5,List.getElem?_eq_none (by omega)]
theorem Seen.len{es:List (D×M)}{bs seen:List Nat}{G2:List (D×M)}(h:Seen es bs seen G2)(hl:bs.length=es.length):G2.length<=es.length:=by
 obtain⟨ns,h1,h2,h3⟩:=h;have h4:∀n∈ns,n∈List.range es.length:=by
  intro n hn;have:(es[n]?)∈ns.map (es[·]?):=List.mem_map.2 ⟨n,hn,rfl⟩;rw[<-h3,List.mem_map]at this;obtain⟨c,_,hc⟩:=this;exact List.mem_range.2 (List.getElem?_eq_some_iff.1 hc.symm).1
 have h5:=qD h1 h4;have h6:=congrArg List.length h3;simp only[List.length_map,List.length_range]at h5 h6;omega
end Go.Ps
namespace Go.Proofs.Pz
open Go.Mt Go.Sm Go.Ps Go.Proofs
open Tryz
theorem xK(e:Nm×Bd):(rj e).cells=[.str e.1,.int .u8 e.2.tk,.str e.2.tn,.sl [],.bool false,.int .u8 0,.int .u8 0,.int .i32 0,.str ⟨#[]⟩,.sl [],.sl [],.int .i64 0,.int .i64 0,.int .i64 0,.int .i64 0]:=by rw[Va.ai];rfl
theorem Dv{F:Nat->Prop}{H:Hp}{iv il im:Nat}{ev:List (D×M)}{f:Env}{p:Pg}{mv nd:M}(w:Wk F H [.ob iv (.map ev)] H)(Ie:eS ev f)(Nc:∀i,F i->i=iv)(JL:H[im]?=some (.box [.d (.sl (p.ao.map En.cells)),.d (.sl (p.nodes.map Nd.cells)),mv,nd]))
  (sc:List (Nm×Nm)) (G7:q_ p.ao) (JO:xI f 1000000) (e:Xp) (Gl:qx p.ao f.ty (λx=>(f x).isSome=true) e):
  CT prog 292 [.ref im 0,je iv il sc,.d (.agg e.cells)] H λr K=>r=.d (.agg (eT (cQ p.ao f.ty e)))/\H.length<=K.length/\K.take H.length=H:=by
 have NO:=w.ob;have FV:im≠iv:=by rintro rfl;rw[NO]at JL;cases JL
 have hlen:=Ie.len JO;have UU:xC e=gw e.kd e.op e.num e.nm e.names (e.kids.map Xp.cells) e.ps:=rfl;rw[e.ai];refine CT.aG func292 rfl ntmps292 rfl λs0 Oo=>?_
 repeat refine TC.seq ?_
 refine TC.region ?_;refine dw rfl rfl rfl rfl ?_;refine b_ rfl rfl ?_;refine aM rfl rfl ?_;refine TL.nil ?_
 repeat refine TC.seq ?_
 refine TC.region ?_;refine aa rfl rfl ?_;refine TL.nil ?_;have IM:=w.ob
 repeat refine TC.seq ?_
 refine TC.region ?_;refine aq rfl rfl ?_;refine aB rfl rfl rfl rfl ?_
 (refine qd rfl rfl rfl rfl IM Ie.k ?_;intro FT bs since Gr GW Kt KQ)
 refine TL.nil ?_;obtain⟨J,hJ⟩:∃J,J=H.length:=⟨_,rfl⟩;rw[<-hJ];have w:=(w.set (.map (dm since FT bs))).new (.iter (gf iv since []));rw[List.length_set,<-hJ]at w;have w:=(w.nil 15).pick [2,1,0];have Jp:(FT.map Prod.fst).Nodup:=(((ct.qB Gr).map Prod.fst).nodup_iff).2 Ie.nd;have IK:strKeys FT=true:=Gr.strs Ie.k;have KH:FT.length<=1000000:=by rw[Gr.len];exact hlen
 repeat refine TC.seq ?_
 refine TC.block ?_;refine TC.ep (λk s=>∃(seen:List Nat) (l:List (Nm×Bd)) (mc:M) (bx:List (Nat×List M)) (H1:Hp),s=⟨[(14,.m (.it J)),(7,.m mc),(6,.loc 6 0),(5,.m (.d (.bM (xC e) 0))),(4,.loc 4 0),(0,.m (.ref im 0))],bx,H1⟩/\
   Go.Mt.get bx 4=some [.mp iv,.mp il,.d (.sl (bN sc))]/\Go.Mt.get bx 6=some [.d (.int .u8 0),.d (.str ⟨#[]⟩)]/\
   Seen FT bs seen (l.map xJ)/\l.length<=1000000/\
   Wk F H [.ob iv (.map (dm since FT bs)),.ob J (.iter (gf iv since seen)),.acc 15 (aJ (l.map rj)) mc] H1/\k=iG bs seen) (iG bs []) _
  ⟨[],[],.d (.sl []),_,_,rfl,rfl,rfl,Seen.nil _ _,by simp,w,rfl⟩ rfl ?_
 clear w;rintro k s ⟨seen,l,mc,bx,H1,rfl,F9,G1,IC,Ib,w,rfl⟩;have hI:=w.ob;have JB:=(w.pick [1,0,2]).ob
 repeat refine TC.seq ?_
 refine TC.region ?_;refine td rfl rfl JB hI GW KQ (λHj=>?_) (λn e1 b he hb HN=>?_);rotate_left
 ·obtain⟨x,bd,rfl⟩:=Ie.Ds (Gr.mem.1 (List.mem_of_getElem? he));refine aR rfl rfl rfl ?_;refine TL.nil ?_
  repeat refine TC.seq ?_
  refine TC.cr rfl ?_;refine TC.skip ?_;have w:=(w.pick [1,0,2]).set (.iter (gf iv since (seen++[b])));have JB:=w.ob;have w:=w.pick [1,0,2];have hI:=w.ob;have w:=w.pick [2,0,1];obtain⟨KC,Iz⟩:=IC.step he hb HN Jp;have FJ:(l++[(x,bd)]).length<=1000000:=by
   have:=KC.len GW;simp only[List.length_append,List.length_map,List.length_singleton]at this⊢;omega
  repeat refine TC.seq ?_
  refine TC.block ?_
  repeat refine TC.seq ?_
  refine TC.region ?_;refine qe rfl rfl JB hI GW Kt he hb ?_;refine aR rfl rfl rfl ?_;refine aR rfl rfl rfl ?_;refine aM rfl rfl ?_;refine aa rfl rfl ?_;refine av rfl rfl rfl rfl rfl rfl ?_;refine TL.nil ?_
  repeat refine TC.seq ?_
  refine TC.region ?_;refine ah rfl rfl ?_;refine ah rfl rfl ?_;refine aq rfl rfl ?_;refine aY rfl rfl rfl rfl rfl ?_;refine bH rfl rfl rfl rfl rfl ?_;refine aD rfl rfl rfl rfl rfl rfl rfl rfl ?_;refine cK w rfl rfl rfl rfl rfl rfl (by exact cO rfl) (by simp[aJ];omega) ?_;refine aa rfl rfl ?_;refine TL.nil ?_;have w:=w.app [[.str x,.int .u8 bd.tk,.str bd.tn,.sl [],.bool false,.int .u8 0,.int .u8 0,.int .i32 0,.str ⟨#[]⟩,.sl [],.sl [],.int .i64 0,.int .i64 0,.int .i64 0,.int .i64 0]];have Ks:aJ ((l++[(x,bd)]).map rj)=aJ (l.map rj)++[[.str x,.int .u8 bd.tk,.str bd.tn,.sl [],.bool false,.int .u8 0,.int .u8 0,.int .i32 0,.str ⟨#[]⟩,.sl [],.sl [],.int .i64 0,.int .i64 0,.int .i64 0,.int .i64 0]]:=by
   simp only[aJ,List.map_append,List.map_cons,List.map_nil,xK]
  rw[<-Ks]at w;exact again (qz (List.mem_of_getElem? hb) HN) ⟨seen++[b],l++[(x,bd)],_,_,_,rfl,F9,G1,by rw[List.map_append];exact KC,FJ,w.pick [1,2,0],rfl⟩ rfl rfl
 refine aR rfl rfl rfl ?_;refine TL.nil ?_
 repeat refine TC.seq ?_
 refine TC.aC rfl ?_;refine TC.exit ?_;refine TC.pf hI GW IK Gr ?_;have w:=w.set (.map ev);have hp:=(IC.all Hj Kt GW).trans (ct.qB Gr);obtain⟨Ss,Su⟩:=Du Ie hp rfl;have hv:=(w.pick [2,0,1]).view (fP _);refine TC.bC 7 rfl hv ?_;have QQ:=uq G7 Ss (by rw[List.length_map];exact Ib) e (Gl.mono Su);rw[e.ai]at QQ;have HF:(H1.set iv (.map ev))[im]?=some (.box [.d (.sl (p.ao.map En.cells)),.d (.sl (p.nodes.map Nd.cells)),mv,nd]):=by
  obtain⟨_,_,st⟩:=w;rw[st.fj im (List.getElem?_eq_some_iff.1 JL).1 (λh=>FV (Nc im h))];exact JL
 repeat refine TC.seq ?_
 refine TC.draw mixed ?_;refine aH rfl rfl ?_;refine dL rfl rfl rfl ?_;refine fU rfl rfl ?_;refine Ap rfl rfl HF rfl rfl ?_;refine aH rfl rfl ?_;refine eB rfl rfl rfl ?_;refine kL (CT.Eh QQ) rfl rfl ?_;refine aH rfl rfl ?_;refine ik rfl rfl rfl ?_;refine ik rfl rfl rfl ?_;refine gm rfl ?_;refine cc rfl rfl rfl rfl rfl rfl ?_;refine eA rfl rfl ?_;refine TF.nil ⟨by kernel_rfl,?_⟩
 repeat refine TC.seq ?_
 refine TC.region ?_;refine aY rfl rfl rfl rfl rfl ?_;refine av rfl rfl G1 rfl rfl rfl ?_;refine TL.nil ?_;subst hJ;exact TC.ret ⟨_,rfl,rfl,Cx Nc w (w.ob.trans NO.symm)⟩
theorem Dw(iv il im:Nat)(f:Env)(p:Pg)(m:MS)(sc:List (Nm×Nm))(G7:q_ p.ao)(JO:xI f 1000000)(e:Xp)(Gl:qx p.ao f.ty (λx=>(f x).isSome=true) e):
  Dt prog 292 [.ref im 0,je iv il sc,.d (.agg e.cells)] [a_ iv f,dc im p m] λr l=>r=.d (.agg (eT (cQ p.ao f.ty e)))/\l=[a_ iv f,dc im p m]:=by
 intro H F hs;refine⟨_,H,⟨_,⟨rfl,rfl⟩,Wk.start hs⟩,?_⟩;have w:=Wk.start hs;obtain⟨mv,w⟩:=dc.open (w.pick [1,0]);have JL:=w.ob;obtain⟨F1,F2,h1,h2,h3,h4⟩:=hs;have w1:Wk F1 H [a_ iv f] H:=Wk.start (l9 h1);obtain⟨ev,hm,w1⟩:=a_.open w1;intro σ Oo vs hinv hH GR;have hb:HB H.length H:=by rw[<-hH];exact hinv.hb
 refine CT.drop (post:= λr' K'=>r'=.d (.agg (eT (cQ p.ao f.ty e)))/\K'=H) H.length (Nat.le_refl _) ((Dv w1 hm (a_.Cw h1) JL sc G7 JO e Gl).mono ?_) σ Oo vs hinv hH GR;rintro r k ⟨rfl,h5,h6⟩;exact⟨h5,.d _,by rw[h6];exact hb,rfl,h6⟩
end Go.Proofs.Pz
namespace Go.Ps
open Go.Mt Go.Sm
abbrev kx(v:Va):List Nm:=v.clock.map λo=>o.2
end Go.Ps
namespace Go.Proofs.Pz
open Go.Mt Go.Sm Go.Ps Go.Proofs
open Tryz
theorem y9(b:bJ)(hl:b.vars.length<=1000000)(hc:∀v∈b.vars,v.clock.length<=1000):
  Dt prog 213 [.d (.agg b.cells)] [] λr l=>r=.d (.sl (aU (b.vars.flatMap kx)))/\l=[]:=by
 intro H F hs;have w:=(Wk.start hs).nil 1;have hlen:(aJ b.vars).length=b.vars.length:=by simp[aJ]
 rw[b.ai];generalize b.vars=vs at hl hc hlen⊢;have Nf:∀i,((vs.take i).flatMap kx).length<=i*1000:=by
  intro i
  induction i with
  |zero=>simp
  |succ i ih=>
   by_cases h:i<vs.length
   ·rw[List.take_succ_eq_append_getElem h,List.flatMap_append,List.length_append];have:=hc _ (List.getElem_mem h);have:([vs[i]].flatMap kx).length<=1000:=by simpa [kx] using this
    omega
   ·rw[List.take_of_length_le (by omega)]at ih⊢;omega
 refine DT.aG func213 rfl ntmps213 rfl ?_
 repeat refine DC.seq ?_
 apply DC.ae
 ·intro s0 Oo;refine b_ rfl rfl ?_;refine aa rfl rfl ?_;exact TL.nil rfl
 repeat refine DC.seq ?_
 apply DC.ae
 ·intro s0 Oo;refine aa rfl rfl ?_;exact TL.nil rfl
 repeat refine DC.seq ?_
 apply DC.ae
 ·intro s0 Oo;refine az rfl rfl ?_;refine ax rfl rfl rfl ?_
  (refine bg rfl rfl rfl ?_;rw[hlen])
  refine ah rfl rfl ?_;exact TL.nil rfl
 refine DC.ca [(11,.m (.d (.int .i64 ((0:Nat):Int)))),(10,.m (.d (.int .i64 ((vs.length:Nat):Int)))),(9,.m (.d (.sl (aJ vs)))),(3,.m (.d (.sl [])))] _ _ rfl (λ_=>rfl) rfl ?_
 repeat refine DC.seq ?_
 refine DC.block ?_;refine DC.loop (λm s1=>∃(i:Nat) (mc:M) (bx:List (Nat×List M)) (H1:Hp),s1=⟨[(11,.m (.d (.int .i64 ((i:Nat):Int)))),(10,.m (.d (.int .i64 ((vs.length:Nat):Int)))),(9,.m (.d (.sl (aJ vs)))),(3,.m mc)],bx,H1⟩/\
   Wk F H [.acc 1 (aU ((vs.take i).flatMap kx)) mc] H1/\i<=vs.length/\m=vs.length-i) vs.length _
  ⟨0,.d (.sl []),_,_,rfl,w,by omega,rfl⟩ rfl ?_
 clear w;rintro m s1 ⟨i,mc,bx,H1,rfl,w,hi,rfl⟩
 repeat refine DC.seq ?_
 apply DC.ae
 ·intro s0 Oo;refine ak rfl rfl rfl rfl ?_;exact TL.nil rfl
 repeat refine DC.seq ?_
 refine DC.cond rfl (λGe=>?_) (λGe=>?_)
 ·have FH:i<vs.length:=by have:=of_decide_eq_true Ge;omega
  clear Ge;have FF:=kS FH;have Io:=Nf i;have FU:(vs.take (i+1)).flatMap kx=(vs.take i).flatMap kx++kx vs[i]:=by rw[List.take_succ_eq_append_getElem FH,List.flatMap_append];simp
  have Mf:=hc _ (List.getElem_mem FH);generalize vs[i]=v at FF FU Mf;generalize (vs.take i).flatMap kx=l0 at FU w Io;rw[v.ai]at FF;have NH:(bN v.clock).length=v.clock.length:=by simp[bN]
  refine DC.skip ?_
  repeat refine DC.seq ?_
  refine DC.block ?_
  repeat refine DC.seq ?_
  apply DC.ae
  ·intro s0 Oo;refine aO rfl rfl rfl (Int.natCast_nonneg i) FF rfl ?_;refine aW rfl rfl rfl ?_;refine aM rfl rfl ?_;refine av rfl rfl rfl rfl rfl rfl ?_;exact TL.nil rfl
  repeat refine DC.seq ?_
  apply DC.ae
  ·intro s0 Oo;refine aq rfl rfl ?_;refine aB rfl rfl rfl rfl ?_
   (refine bg rfl rfl rfl ?_;rw[NH])
   refine ah rfl rfl ?_;exact TL.nil rfl
  unfold kx at FU;generalize v.clock=ck at NH FU Mf;refine DC.ca [(18,.m (.d (.int .i64 ((0:Nat):Int)))),(17,.m (.d (.int .i64 ((ck.length:Nat):Int)))),(16,.m (.d (.sl (bN ck)))),(11,.m (.d (.int .i64 ((i:Nat):Int)))),(10,.m (.d (.int .i64 ((vs.length:Nat):Int)))),(9,.m (.d (.sl (aJ vs)))),(3,.m mc)] _ _ rfl (λ_=>rfl) rfl ?_
  repeat refine DC.seq ?_
  refine DC.block ?_;refine DC.loop (λm s1=>∃(j:Nat) (mc:M) (bx:List (Nat×List M)) (H1:Hp),s1=⟨[(18,.m (.d (.int .i64 ((j:Nat):Int)))),(17,.m (.d (.int .i64 ((ck.length:Nat):Int)))),(16,.m (.d (.sl (bN ck)))),(11,.m (.d (.int .i64 ((i:Nat):Int)))),(10,.m (.d (.int .i64 ((vs.length:Nat):Int)))),(9,.m (.d (.sl (aJ vs)))),(3,.m mc)],bx,H1⟩/\
    Wk F H [.acc 1 (aU (l0++(ck.take j).map λo=>o.2)) mc] H1/\j<=ck.length/\m=ck.length-j) ck.length _
   ⟨0,mc,_,_,rfl,by simpa using w,by omega,rfl⟩ rfl ?_
  clear w;rintro m s1 ⟨j,mc,bx,H1,rfl,w,hj,rfl⟩
  repeat refine DC.seq ?_
  apply DC.ae
  ·intro s0 Oo;refine ak rfl rfl rfl rfl ?_;exact TL.nil rfl
  repeat refine DC.seq ?_
  refine DC.cond rfl (λGe=>?_) (λGe=>?_)
  ·have Hs:j<ck.length:=by have:=of_decide_eq_true Ge;omega
   clear Ge;have G4:=pv Hs;have Hv:aU (l0++(ck.take (j+1)).map λo=>o.2)=aU (l0++(ck.take j).map λo=>o.2)++[[.str ck[j].2]]:=by rw[q8 _ _ _ _ _ Hs];simp[aU]
   generalize ck[j]=o at G4 Hv;refine DC.skip ?_
   repeat refine DC.seq ?_
   refine DC.block ?_
   repeat refine DC.seq ?_
   apply DC.ae
   ·intro s0 Oo;refine aO rfl rfl rfl (Int.natCast_nonneg j) G4 rfl ?_;refine aW rfl rfl rfl ?_;refine aM rfl rfl ?_;refine av rfl rfl rfl rfl rfl rfl ?_;exact TL.nil rfl
   repeat refine DC.seq ?_
   apply DC.ae
   ·intro s0 Oo;refine ah rfl rfl ?_;refine aq rfl rfl ?_;refine aB rfl rfl rfl rfl ?_;refine aD rfl rfl rfl rfl rfl rfl rfl rfl ?_;refine cK w rfl rfl rfl rfl rfl rfl (by exact cO rfl) (by simp[aU];omega) ?_;refine aa rfl rfl ?_;exact TL.nil rfl
   have w:=w.app [[.str o.2]]
   repeat refine DC.seq ?_
   apply DC.ae
   ·intro s0 Oo;refine aV rfl rfl rfl (by omega) ?_;refine ah rfl rfl ?_;exact TL.nil rfl
   exact cb (k':=ck.length-(j+1)) (by omega) ⟨j+1,_,_,_,rfl,by rw[Hv];exact w,by omega,rfl⟩ rfl rfl
  ·refine DC.exit ?_;obtain rfl:j=ck.length:=by have:=of_decide_eq_false Ge;omega
   rw[List.take_length]at w
   repeat refine DC.seq ?_
   apply DC.ae
   ·intro s0 Oo;refine aV rfl rfl rfl (by omega) ?_;refine ah rfl rfl ?_;exact TL.nil rfl
   exact cb (k':=vs.length-(i+1)) (by omega) ⟨i+1,_,_,_,rfl,by rw[FU];exact w,by omega,rfl⟩ rfl rfl
 ·refine DC.exit ?_;obtain rfl:i=vs.length:=by have:=of_decide_eq_false Ge;omega
  rw[List.take_length]at w;have hv:=w.view (et _)
  repeat refine DC.seq ?_
  apply DC.ae
  ·intro s0 Oo;refine ah rfl rfl ?_;refine aa rfl rfl ?_;exact TL.nil rfl
  refine DC.bC 2 rfl hv ?_;exact DC.ret ⟨_,rfl,_,⟨rfl,rfl⟩,w.drop⟩
theorem Bf(it im iv il:Nat)(p:Pg)(en:List En)(s:Sc)(m:MS)(q:aF)(h1:q.kd=1)(GV:lJ q.ex)(hs:cF s)(hn:m.n+dP q.ex+dP q.ex<1000000000)(hv:m.vars.length+dP q.ex+dP q.ex<=1000000)(hz:dP q.ex<=1000000)(hl:q.lhs.length<=1000000):
  Dt prog 215 [.ref im 0,je iv il s.ck,.d (.agg q.cells)] (dG it im iv il p ⟨s,m,[]⟩) λx l=>x=.d (.sl (bm (gi en q ⟨s,m,[]⟩).q))/\l=dG it im iv il p (gi en q ⟨s,m,[]⟩):=by
 intro H F hw;have Hc:gi en q ⟨s,m,[]⟩=⟨(cD ⟨s,m,[]⟩ q.ex).s,(cD ⟨s,m,[]⟩ q.ex).m,(cD ⟨s,m,[]⟩ q.ex).q++[.mk 1 (q.lhs.map (cD ⟨s,m,[]⟩ q.ex).s.vars.nm) ⟨#[]⟩ [] false (bT (cD ⟨s,m,[]⟩ q.ex).s q.ex) [] q.ps]⟩:=by
  cases q with|mk k lhs f args has e aj p=>
  rw[gi];simp only[aF.kd]at h1;rw[if_pos h1];rfl
 rw[Hc];obtain⟨_,K1,l',⟨mq,rfl,rfl⟩,w,Ge⟩:=Wk.call (r:=[]) (Wk.start hw) (mY it im iv il p s m q.ex GV hs hn hv hz);have FN:=bc.ef (r:=⟨s,m,[]⟩) hs q.ex;generalize cD ⟨s,m,[]⟩ q.ex=r at w Ge FN⊢;have HP:=FN.q
 dsimp only at HP
 obtain⟨_,K2,l',⟨rfl,rfl⟩,w,Gb⟩:=Wk.call (a:=[a_ iv r.s.vars]) (r:=[_,_,_,_]) (w.pick [3,0,1,2,4]) (u5 iv il s.ck r.s.vars q.lhs hl);have w:Wk F H (.acc 16 (bm r.q) mq::dG it im iv il p r) K2:=w.pick [1,2,3,0,4];rw[(bT r.s q.ex).ai,q.ex.ai]at Ge;rw[q.ai,q.ex.ai,h1];have hq:bm (r.q++[.mk 1 (q.lhs.map r.s.vars.nm) ⟨#[]⟩ [] false (bT r.s q.ex) [] q.ps])=bm r.q++[dN 1 (q.lhs.map r.s.vars.nm) ⟨#[]⟩ [] false (xC (bT r.s q.ex)) [] q.ps]:=by
  rw[dB];show bm r.q++[(aF.mk 1 (q.lhs.map r.s.vars.nm) ⟨#[]⟩ [] false (bT r.s q.ex) [] q.ps).cells]=_;rw[aF.cells,(bT r.s q.ex).ai];rfl
 have w2:=w.app [dN 1 (q.lhs.map r.s.vars.nm) ⟨#[]⟩ [] false (xC (bT r.s q.ex)) [] q.ps];rw[<-hq]at w2;have IR:=w2.view (cg _);refine DT.aG func215 rfl ntmps215 rfl ?_
 repeat refine DC.seq ?_
 apply DC.ae
 ·intro s0 Oo;refine dw rfl rfl rfl rfl ?_;refine b_ rfl rfl ?_;refine aa rfl rfl ?_;exact TL.nil rfl
 repeat refine DC.seq ?_
 apply DC.ae
 ·intro s0 Oo;refine az rfl rfl ?_;refine ax rfl rfl rfl ?_;exact TL.nil rfl
 repeat refine DC.seq ?_
 refine DC.block ?_
 repeat refine DC.seq ?_
 apply DC.ae
 ·intro s0 Oo;refine ak rfl rfl rfl (r:=.bool true) rfl ?_;refine aa rfl rfl ?_;exact TL.nil rfl
 repeat refine DC.seq ?_
 refine DC.cr rfl ?_
 repeat refine DC.seq ?_
 apply DC.ae
 ·intro s0 Oo;refine ah rfl rfl ?_;refine cy rfl rfl rfl rfl rfl ?_;refine az rfl rfl ?_;refine dj rfl rfl rfl ?_;refine bn Ge rfl rfl ?_;refine ah rfl rfl ?_;refine aR rfl rfl rfl ?_;refine aR rfl rfl rfl ?_;refine aM rfl rfl ?_;refine av rfl rfl rfl rfl rfl rfl ?_;refine aa rfl rfl ?_;exact TL.nil rfl
 repeat refine DC.seq ?_
 apply DC.da mixed
 ·intro s0 Oo;refine aH rfl rfl ?_;refine jx rfl rfl rfl rfl rfl ?_;refine bY rfl rfl ?_;refine cx rfl rfl rfl ?_;refine gq Gb rfl rfl ?_;refine bo rfl rfl rfl rfl rfl ?_;refine bY rfl rfl ?_;refine eY rfl rfl rfl ?_;refine dY rfl rfl rfl rfl rfl ?_;refine bj rfl rfl rfl rfl rfl rfl rfl rfl ?_;refine fV w rfl rfl rfl rfl rfl rfl rfl (by simp[bm]at HP⊢;omega) ?_;refine eA rfl rfl ?_;exact TF.nil ⟨by kernel_rfl,rfl⟩
 refine DC.bC 6 rfl IR ?_;exact DC.ret ⟨_,rfl,_,⟨rfl,rfl⟩,w2.drop⟩
end Go.Proofs.Pz
namespace Go.Ps
open Go.Mt Go.Sm
def R.pre(q:List aF)(r:R):R:=⟨r.s,r.m,q++r.q⟩
theorem y_(q:List aF)(r:R)(x:Nm):cH (r.pre q) x=(cH r x).pre q:=by
 rw[jy,jy];simp[R.pre]
theorem tB(q:List aF)(r:R)(x:Nm):eP (r.pre q) x=(eP r x).pre q:=by
 rw[iF,iF];simp[R.pre]
theorem tC(q:List aF):∀(l:List Nm) (r:R),l.foldl cH (r.pre q)=(l.foldl cH r).pre q
 |[],r=>rfl
 |x::l,r=>by rw[List.foldl_cons,List.foldl_cons,y_,tC q l]
theorem tD(q:List aF):∀(l:List Nm) (r:R),l.foldl eP (r.pre q)=(l.foldl eP r).pre q
 |[],r=>rfl
 |x::l,r=>by rw[List.foldl_cons,List.foldl_cons,tB,tD q l]
theorem iH(q:List aF)(r:R)(e:Xp):cD (r.pre q) e=(cD r e).pre q:=by
 unfold cD;rw[tC,tD]
theorem u9(q:List aF)(r:R)(e:Xp)(t:Int×Nm):d_ (r.pre q) e t=(d_ r e t).pre q:=by
 unfold d_;rw[iH];simp[R.pre]
theorem R.pre_nil(r:R):R.pre r.q ⟨r.s,r.m,[]⟩=r:=by simp[R.pre]
theorem bc.arg{r:R}(h:cF r.s)(xs:List Xp)(e:Xp):bc r (dO (r,xs) e).1 (dP e+dP e):=bc.ef h e
theorem bc.args:∀(l:List Xp) {r:R} (xs:List Xp),cF r.s->bc r (l.foldl dO (r,xs)).1 (dA l+dA l)/\(l.foldl dO (r,xs)).2.length=xs.length+l.length
 |[],r,xs,h=>⟨bc.refl h,rfl⟩
 |e::l,r,xs,h=>by
  have h1:=bc.arg h xs e;have hx:(dO (r,xs) e).2.length=xs.length+1:=by simp[dO]
  rw[List.foldl_cons];generalize dO (r,xs) e=a at h1 hx⊢;obtain⟨r1,Sv⟩:=a;have h1:bc r r1 (dP e+dP e):=h1;obtain⟨h2,h3⟩:=bc.args l (r:=r1) Sv h1.sc;have:=h1.trans h2;simp only[dA,List.length_cons]
  dsimp only at hx
  exact⟨⟨this.ck,this.sc,by have:=this.n;omega,by have:=this.vs;omega,by have:=this.q;omega⟩,by omega⟩
theorem Bg{l:List Xp}{i:Nat}(h:i<l.length):dA (l.take i)+dP l[i]<=dA l:=by
 have h1:dA l=dA (l.take (i+1))+dA (l.drop (i+1)):=by rw[<-ju,List.take_append_drop]
 rw[List.take_succ_eq_append_getElem h,ju]at h1;simp only[dA]at h1;omega
end Go.Ps
namespace Go.Proofs.Pz
open Go.Mt Go.Sm Go.Ps Go.Proofs
open Tryz
theorem Ab{X:bq}{ops:Array Oper}{rest:List Oper}{sl:List (Nat×V)}{bx:List (Nat×List M)}{H:Hp}{FQ:List Ef->St->Prop}{d ty:Nat}{pos:String}{af:Array Edge}{F0:Nat->Prop}{H0:Hp}{r:List As}{T e n nb:Nat}{x y:Operand}{m:M}{rs rows:List (List D)}{z:D}[ht:aL X.P T e][hs:bh X.P e n][hb:gp X.P e nb][hz:dt X.P e z](w:Wk F0 H0 (.acc n rs m::r) H)(hn:Nat.blt d X.n=true)(hx:ba sl x=some (.m m))(hy:ba sl y=some (.m (.d (.sl rows))))
  (h0:Nat.blt 0 n=true) (Ga:(aN z).length=n) (HN:Nat.ble nb 1000=true) (hl:∀r∈rows,r.length=n) (FZ:rs.length+rows.length<=100000000000)
  (k:TF X ops rest ⟨(d,.m (dT m H rows))::sl,bx,fo n m H rows⟩ λes zz=>FQ (⟨some d,.m (dT m H rows),[],[],none,true,some (fo n m H rows)⟩::es) zz):TF X ops (⟨some d,.call ⟨.builtin .append,#[x,y],#[T,T]⟩,ty,pos,af,none⟩::rest) ⟨sl,bx,H⟩ FQ:=by
 by_cases FV:rows=[]
 ·subst FV;have h1:=Nat.le_of_ble_eq_true HN;have h2:=Nat.mul_le_mul FZ h1;obtain⟨i,IN⟩:=w.uL;rcases IN with⟨rfl,rfl⟩|⟨h3,FD,rfl,h4⟩
  ·refine TF.cons (e:=⟨some d,.m (.d (.sl [])),[],[],none,true,some H⟩) (bK.vq rfl rfl (aQ hn) λFE ag=>?_) rfl k;have FN:=ag.H rfl;simp only at FN;have:=oO (X:=X) (st:=FE) (dst:=some d) (ty:=ty) (pos:=pos) (af:=af) (g:=none) (T:=T) ((ag.ev (x:=x) (by simp[Op.operands,Call.operands])).trans hx) ((ag.ev (x:=y) (by simp[Op.operands,Call.operands])).trans hy);rw[<-FN];exact this
  ·refine k_ hn hx hy h4 Ga hl (by simp only[List.length_nil]at*;omega) (by simp only[List.length_nil]at*;omega) ?_;simp only[dT,fo,h4]at k;exact k
 ·exact z6 w hn hx hy h0 Ga HN FV hl FZ k
abbrev Em(lhs:List Nm)(f:Nm)(ma:M)(has:Bool)(e:List D)(p:Int×Int):List M:=[.d (.int .u8 2),.d (.sl (aU lhs)),.d (.str f),ma,.d (.bool has)]++e.map M.d++[.d (.sl []),.d (.int .i64 p.1),.d (.int .i64 p.2)]
theorem za(it im iv il:Nat)(p:Pg)(en:List En)(s:Sc)(m:MS)(q:aF)(h1:q.kd=2)(GV:∀e∈q.args,lJ e)(Ng:lJ q.ex)(hs:cF s)(hn:m.n+dA q.args+dA q.args+dP q.ex+dP q.ex<1000000000)(hv:m.vars.length+dA q.args+dA q.args+dP q.ex+dP q.ex<=1000000)(hl:q.lhs.length<=1000000)(JN:q.args.length<=1000000):
  Dt prog 215 [.ref im 0,je iv il s.ck,.d (.agg q.cells)] (dG it im iv il p ⟨s,m,[]⟩) λx l=>x=.d (.sl (bm (gi en q ⟨s,m,[]⟩).q))/\l=dG it im iv il p (gi en q ⟨s,m,[]⟩):=by
 intro H F hw;have Hc:gi en q ⟨s,m,[]⟩=if q.has then⟨(cD (q.args.foldl dO (⟨s,m,[]⟩,[])).1 q.ex).s,(cD (q.args.foldl dO (⟨s,m,[]⟩,[])).1 q.ex).m,(cD (q.args.foldl dO (⟨s,m,[]⟩,[])).1 q.ex).q++[.mk 2 (q.lhs.map s.vars.nm) q.f (q.args.foldl dO (⟨s,m,[]⟩,[])).2 true (bT (cD (q.args.foldl dO (⟨s,m,[]⟩,[])).1 q.ex).s q.ex) [] q.ps]⟩
   else⟨(q.args.foldl dO (⟨s,m,[]⟩,[])).1.s,(q.args.foldl dO (⟨s,m,[]⟩,[])).1.m,(q.args.foldl dO (⟨s,m,[]⟩,[])).1.q++[.mk 2 (q.lhs.map s.vars.nm) q.f (q.args.foldl dO (⟨s,m,[]⟩,[])).2 false fp [] q.ps]⟩:=by
  cases q with|mk k lhs f args has e aj p=>
  rw[gi];simp only[aF.kd]at h1;rw[if_neg (by omega),if_pos h1];rfl
 rw[Hc];clear Hc;obtain⟨_,K2,l',⟨rfl,rfl⟩,w,Gb⟩:=Wk.call (a:=[a_ iv s.vars]) (r:=[_,_,_]) ((Wk.start hw).pick [2,0,1,3]) (u5 iv il s.ck s.vars q.lhs hl);have w:Wk F H (dG it im iv il p ⟨s,m,[]⟩) K2:=w.pick [1,2,0,3];have w:=((w.nil 8).pick [0,1,2,3,4]|>.nil 16);rw[q.ai,q.ex.ai,h1];have hlen:(q.args.map Xp.cells).length=q.args.length:=by simp
 have IS:= λi=>bc.args (q.args.take i) (r:=⟨s,m,[]⟩) [] hs
 refine DT.aG func215 rfl ntmps215 rfl ?_
 repeat refine DC.seq ?_
 apply DC.ae
 ·intro s0 Oo;refine dw rfl rfl rfl rfl ?_;refine b_ rfl rfl ?_;refine aa rfl rfl ?_;exact TL.nil rfl
 repeat refine DC.seq ?_
 apply DC.ae
 ·intro s0 Oo;refine az rfl rfl ?_;refine ax rfl rfl rfl ?_;exact TL.nil rfl
 repeat refine DC.seq ?_
 refine DC.block ?_
 repeat refine DC.seq ?_
 apply DC.ae
 ·intro s0 Oo;refine ak rfl rfl rfl (r:=.bool false) rfl ?_;refine aa rfl rfl ?_;exact TL.nil rfl
 repeat refine DC.seq ?_
 refine DC.aC rfl ?_
 repeat refine DC.seq ?_
 apply DC.ae
 ·intro s0 Oo;refine ak rfl rfl rfl (r:=.bool true) rfl ?_;refine aa rfl rfl ?_;exact TL.nil rfl
 repeat refine DC.seq ?_
 refine DC.cr rfl ?_
 repeat refine DC.seq ?_
 apply DC.ae
 ·intro s0 Oo;refine aa rfl rfl ?_;exact TL.nil rfl
 repeat refine DC.seq ?_
 apply DC.da mixed
 ·intro s0 Oo;refine jx rfl rfl rfl rfl rfl ?_;refine bY rfl rfl ?_;refine cx rfl rfl rfl ?_;refine gq Gb rfl rfl ?_;refine bY rfl rfl ?_;refine cx rfl rfl rfl ?_;refine bY rfl rfl ?_;refine cx rfl rfl rfl ?_;refine bY rfl rfl ?_;refine eY rfl rfl rfl ?_;refine dY rfl rfl rfl rfl rfl ?_;refine gm rfl ?_;refine cc rfl rfl rfl rfl rfl rfl ?_;exact TF.nil ⟨by kernel_rfl,rfl⟩
 repeat refine DC.seq ?_
 apply DC.ae
 ·intro s0 Oo;refine az rfl rfl ?_;refine ax rfl rfl rfl ?_
  (refine bg rfl rfl rfl ?_;rw[hlen])
  refine ah rfl rfl ?_;exact TL.nil rfl
 refine DC.ca [(59,.m (.d (.int .i64 ((0:Nat):Int)))),(58,.m (.d (.int .i64 ((q.args.length:Nat):Int)))),(57,.m (.d (.sl (q.args.map Xp.cells)))),(10,.loc 10 0),(9,.m (.d (.sl []))),(5,.m (.d (.bM (dN 2 q.lhs q.f (q.args.map Xp.cells) q.has (xC q.ex) (q.aj.map aT.cells) q.ps) 0))),(4,.loc 4 0),(0,.m (.ref im 0))] _ _ rfl (λ_=>rfl) rfl ?_
 repeat refine DC.seq ?_
 refine DC.block ?_;refine DC.loop (λk s1=>∃(i:Nat) (me ma:M) (bx:List (Nat×List M)) (H1:Hp),s1=⟨[(59,.m (.d (.int .i64 ((i:Nat):Int)))),(58,.m (.d (.int .i64 ((q.args.length:Nat):Int)))),(57,.m (.d (.sl (q.args.map Xp.cells)))),(10,.loc 10 0),(9,.m me),(5,.m (.d (.bM (dN 2 q.lhs q.f (q.args.map Xp.cells) q.has (xC q.ex) (q.aj.map aT.cells) q.ps) 0))),(4,.loc 4 0),(0,.m (.ref im 0))],bx,H1⟩/\
   Go.Mt.get bx 4=some [.mp iv,.mp il,.d (.sl (bN s.ck))]/\Go.Mt.get bx 10=some (Em (q.lhs.map s.vars.nm) q.f ma q.has (gw 0 0 0 ⟨#[]⟩ [] [] (0,0)) q.ps)/\
   Wk F H (.acc 16 (bm ((q.args.take i).foldl dO (⟨s,m,[]⟩,[])).1.q) me:: .acc 8 (((q.args.take i).foldl dO (⟨s,m,[]⟩,[])).2.map Xp.cells) ma::dG it im iv il p ((q.args.take i).foldl dO (⟨s,m,[]⟩,[])).1) H1/\i<=q.args.length/\k=q.args.length-i) q.args.length _
  ⟨0,.d (.sl []),.d (.sl []),_,_,rfl,rfl,rfl,w,by omega,rfl⟩ rfl ?_
 clear w Gb;rintro k s1 ⟨i,me,ma,bx,H1,rfl,F9,I2,w,hi,rfl⟩
 repeat refine DC.seq ?_
 apply DC.ae
 ·intro s0 Oo;refine ak rfl rfl rfl rfl ?_;exact TL.nil rfl
 repeat refine DC.seq ?_
 refine DC.cond rfl (λhc=>?_) (λhc=>?_)
 ·have FH:i<q.args.length:=by have:=of_decide_eq_true hc;omega
  clear hc;have FF:(q.args.map Xp.cells)[((i:Nat):Int).toNat]?=some q.args[i].cells:=by simp[FH]
  have Sw:=Bg FH;have FU:(q.args.take (i+1)).foldl dO (⟨s,m,[]⟩,[])=dO ((q.args.take i).foldl dO (⟨s,m,[]⟩,[])) q.args[i]:=by rw[List.take_succ_eq_append_getElem FH,List.foldl_append];rfl
  obtain⟨FN,Mh⟩:=IS i;have Og:=GV _ (List.getElem_mem FH);have Kn:(q.args.take i).length<=q.args.length:=by rw[List.length_take];omega
  generalize (q.args.take i).foldl dO (⟨s,m,[]⟩,[])=z at w FN Mh FU;obtain⟨r,xs⟩:=z;generalize q.args[i]=e at FF FU Og Sw;have Js:=FN.n;have IY:=FN.vs;have HP:=FN.q;have G5:r.s.ck=s.ck:=FN.ck;have JP:cF r.s:=FN.sc
  dsimp only[List.length_nil]at Js IY HP Mh w
  obtain⟨_,K3,l',⟨mq,rfl,rfl⟩,w,Ge⟩:=Wk.call (a:=dG it im iv il p ⟨r.s,r.m,[]⟩) (r:=[_,_]) (w.pick [2,3,4,5,0,1]) (mY it im iv il p r.s r.m e Og JP (by omega) (by omega) (by omega));have Ls:=bc.ef (r:=⟨r.s,r.m,[]⟩) JP e;have NG:cD r e=(cD ⟨r.s,r.m,[]⟩ e).pre r.q:=by rw[<-iH,R.pre_nil]
  simp only[dO,NG]at FU;generalize cD ⟨r.s,r.m,[]⟩ e=r1 at w Ge Ls FU;have Jt:=Ls.q
  dsimp only[List.length_nil]at Jt
  have Nh:=w.view (cg _);have w:Wk F H (.acc 16 (bm r.q) me:: .acc 8 (xs.map Xp.cells) ma::dG it im iv il p r1) K3:=(w.drop).pick [4,5,0,1,2,3];rw[G5,e.ai,(bT r1.s e).ai]at Ge;rw[e.ai]at FF;have w2:=w.app (bm r1.q);have w3:=w2.pick [1,0,2,3,4,5];refine DC.skip ?_
  repeat refine DC.seq ?_
  refine DC.block ?_
  repeat refine DC.seq ?_
  apply DC.ae
  ·intro s0 Oo;refine aO rfl rfl rfl (Int.natCast_nonneg i) FF rfl ?_;refine aW rfl rfl rfl ?_;refine aM rfl rfl ?_;refine av rfl rfl rfl rfl rfl rfl ?_;exact TL.nil rfl
  repeat refine DC.seq ?_
  apply DC.ae
  ·intro s0 Oo;refine ah rfl rfl ?_;refine cy rfl rfl F9 rfl rfl ?_;refine aY rfl rfl rfl rfl rfl ?_;refine bn Ge rfl rfl ?_;refine ah rfl rfl ?_;refine aR rfl rfl rfl ?_;refine aR rfl rfl rfl ?_;refine aM rfl rfl ?_;refine av rfl rfl rfl rfl rfl rfl ?_;refine aa rfl rfl ?_;exact TL.nil rfl
  refine DC.bC 14 rfl Nh ?_
  repeat refine DC.seq ?_
  apply DC.da mixed
  ·intro s0 Oo;refine aH rfl rfl ?_;refine aH rfl rfl ?_;refine Ab w rfl rfl rfl rfl rfl rfl (cg _) (by simp only[bm,List.length_map];omega) ?_;refine aP rfl rfl ?_;refine bw rfl rfl I2 rfl ?_;refine bo rfl rfl rfl rfl rfl ?_;refine bj rfl rfl rfl rfl rfl rfl rfl rfl ?_;refine fV w3 rfl rfl rfl rfl rfl rfl rfl (by rw[List.length_map];omega) ?_;refine eA rfl rfl ?_;refine aP rfl rfl ?_;refine cc rfl rfl I2 (cW _ _ _) rfl rfl ?_;exact TF.nil ⟨by kernel_rfl,rfl⟩
  have w4:=w3.app [xC (bT r1.s e)];rw[<-dB]at w4;have Sx:(xs++[bT r1.s e]).map Xp.cells=xs.map Xp.cells++[xC (bT r1.s e)]:=by rw[List.map_append];simp[(bT r1.s e).ai]
  rw[<-Sx]at w4
  repeat refine DC.seq ?_
  apply DC.ae
  ·intro s0 Oo;refine aV rfl rfl rfl (by omega) ?_;refine ah rfl rfl ?_;exact TL.nil rfl
  exact cb (k':=q.args.length-(i+1)) (by omega) ⟨i+1,_,_,_,_,rfl,F9,rfl,by rw[FU];exact w4.pick [1,0,2,3,4,5],by omega,rfl⟩ rfl rfl
 refine DC.exit ?_;obtain rfl:i=q.args.length:=by have:=of_decide_eq_false hc;omega
 obtain⟨FN,Mh⟩:=IS q.args.length;rw[List.take_length]at w FN Mh;clear IS hc;generalize q.args.foldl dO (⟨s,m,[]⟩,[])=z at w FN Mh⊢;obtain⟨r,xs⟩:=z;have Js:=FN.n;have IY:=FN.vs;have HP:=FN.q;have G5:r.s.ck=s.ck:=FN.ck;have JP:cF r.s:=FN.sc
 dsimp only[List.length_nil]at Js IY HP Mh w⊢
 cases hh:q.has with
 |false=>
  simp only[Bool.false_eq_true,if_false];rw[hh]at I2;have Ks:=(w.pick [1,0,2,3,4,5]).view (qy _)
  repeat refine DC.seq ?_
  apply DC.ae
  ·intro s0 Oo;refine az rfl rfl ?_;refine ax rfl rfl rfl ?_;exact TL.nil rfl
  repeat refine DC.seq ?_
  refine DC.aC rfl ?_;refine DC.skip ?_;refine DC.eK (FG:=(dN 2 (q.lhs.map s.vars.nm) q.f (xs.map Xp.cells) false (gw 0 0 0 ⟨#[]⟩ [] [] (0,0)) [] q.ps).map M.d) 10 I2 (db (db (db (pk Ks (db (db (db (db (db (db (db (db (db (db (db (db (qm _))))))))))))))))) ?_
  repeat refine DC.seq ?_
  apply DC.ae
  ·intro s0 Oo;refine ah rfl rfl ?_;refine aY rfl rfl rfl rfl rfl ?_;refine aD rfl rfl rfl rfl rfl rfl rfl rfl ?_;refine cK w rfl rfl rfl rfl rfl rfl (by exact cO rfl) (by simp only[bm,List.length_map,List.length_append,List.length_singleton];omega) ?_;refine aa rfl rfl ?_;exact TL.nil rfl
  have w2:=w.app [dN 2 (q.lhs.map s.vars.nm) q.f (xs.map Xp.cells) false (gw 0 0 0 ⟨#[]⟩ [] [] (0,0)) [] q.ps];have hq:bm (r.q++[.mk 2 (q.lhs.map s.vars.nm) q.f xs false fp [] q.ps])=bm (r.q)++[dN 2 (q.lhs.map s.vars.nm) q.f (xs.map Xp.cells) false (gw 0 0 0 ⟨#[]⟩ [] [] (0,0)) [] q.ps]:=by
   rw[dB];show bm (r.q)++[(aF.mk 2 (q.lhs.map s.vars.nm) q.f xs false fp [] q.ps).cells]=_;rw[aF.cells,(fp).ai];rfl
  rw[<-hq]at w2;have IR:=w2.view (cg _);refine DC.bC 6 rfl IR ?_;exact DC.ret ⟨_,rfl,_,⟨rfl,rfl⟩,(w2.drop).pick [0,1,2,3,4]|>.drop⟩
 |true=>
  simp only[if_true];rw[hh]at I2;obtain⟨_,K3,l',⟨mq,rfl,rfl⟩,w,Ge⟩:=Wk.call (a:=dG it im iv il p ⟨r.s,r.m,[]⟩) (r:=[_,_]) (w.pick [2,3,4,5,0,1]) (mY it im iv il p r.s r.m q.ex Ng JP (by omega) (by omega) (by omega));have Ls:=bc.ef (r:=⟨r.s,r.m,[]⟩) JP q.ex;have NG:cD r q.ex=(cD ⟨r.s,r.m,[]⟩ q.ex).pre r.q:=by rw[<-iH,R.pre_nil]
  rw[NG];generalize cD ⟨r.s,r.m,[]⟩ q.ex=r1 at w Ge Ls⊢
  dsimp only[R.pre]
  have Jt:=Ls.q
  dsimp only[List.length_nil]at Jt
  have Nh:=w.view (cg _);have w:Wk F H (.acc 16 (bm r.q) me:: .acc 8 (xs.map Xp.cells) ma::dG it im iv il p r1) K3:=(w.drop).pick [4,5,0,1,2,3];rw[G5,q.ex.ai,(bT r1.s q.ex).ai]at Ge;have w2:=w.app (bm r1.q);have Ks:=(w2.pick [1,0,2,3,4,5]).view (qy _)
  repeat refine DC.seq ?_
  apply DC.ae
  ·intro s0 Oo;refine az rfl rfl ?_;refine ax rfl rfl rfl ?_;exact TL.nil rfl
  repeat refine DC.seq ?_
  refine DC.cr rfl ?_
  repeat refine DC.seq ?_
  apply DC.ae
  ·intro s0 Oo;refine ah rfl rfl ?_;refine cy rfl rfl F9 rfl rfl ?_;refine az rfl rfl ?_;refine dj rfl rfl rfl ?_;refine bn Ge rfl rfl ?_;refine ah rfl rfl ?_;refine aR rfl rfl rfl ?_;refine aR rfl rfl rfl ?_;refine aM rfl rfl ?_;refine av rfl rfl rfl rfl rfl rfl ?_;refine aa rfl rfl ?_;exact TL.nil rfl
  refine DC.bC 16 rfl Nh ?_
  repeat refine DC.seq ?_
  apply DC.da mixed
  ·intro s0 Oo;refine aH rfl rfl ?_;refine aH rfl rfl ?_;refine Ab w rfl rfl rfl rfl rfl rfl (cg _) (by simp only[bm,List.length_map];omega) ?_;refine bo rfl rfl rfl rfl rfl ?_;refine eA rfl rfl ?_;refine aP rfl rfl ?_;refine cc rfl rfl I2 rfl rfl rfl ?_;exact TF.nil ⟨by kernel_rfl,rfl⟩
  rw[<-dB]at w2;clear w;have w:=w2;clear w2;refine DC.eK (FG:=(dN 2 (q.lhs.map s.vars.nm) q.f (xs.map Xp.cells) true (xC (bT r1.s q.ex)) [] q.ps).map M.d) 10 rfl (db (db (db (pk Ks (db (db (db (db (db (db (db (db (db (db (db (db (qm _))))))))))))))))) ?_
  repeat refine DC.seq ?_
  apply DC.ae
  ·intro s0 Oo;refine ah rfl rfl ?_;refine aY rfl rfl rfl rfl rfl ?_;refine aD rfl rfl rfl rfl rfl rfl rfl rfl ?_;refine cK w rfl rfl rfl rfl rfl rfl (by exact cO rfl) (by simp only[bm,List.length_map,List.length_append,List.length_singleton];omega) ?_;refine aa rfl rfl ?_;exact TL.nil rfl
  have w2:=w.app [dN 2 (q.lhs.map s.vars.nm) q.f (xs.map Xp.cells) true (xC (bT r1.s q.ex)) [] q.ps];have hq:bm (r.q++r1.q++[.mk 2 (q.lhs.map s.vars.nm) q.f xs true (bT r1.s q.ex) [] q.ps])=bm (r.q++r1.q)++[dN 2 (q.lhs.map s.vars.nm) q.f (xs.map Xp.cells) true (xC (bT r1.s q.ex)) [] q.ps]:=by
   rw[dB];show bm (r.q++r1.q)++[(aF.mk 2 (q.lhs.map s.vars.nm) q.f xs true (bT r1.s q.ex) [] q.ps).cells]=_;rw[aF.cells,(bT r1.s q.ex).ai];rfl
  rw[<-hq]at w2;have IR:=w2.view (cg _);refine DC.bC 6 rfl IR ?_;exact DC.ret ⟨_,rfl,_,⟨rfl,rfl⟩,(w2.drop).pick [0,1,2,3,4]|>.drop⟩
theorem Bh(en:List En)(n:Nm)(b:bJ)(u w:List Tr)(p:Int×Int)(ar:List aT)(s:Sc)(m:MS):yO en (.mk n b u w p::ar) s m=gx en false b s m:=by rw[yO.eq_def]
def qE(it im:Nat)(p:Pg)(en:List En)(own:Bool)(b:bJ)(s:Sc)(m:MS):Prop:=∀iv il,Dt prog 163 [.ref im 0,je iv il s.ck,.d (.agg b.cells),.d (.bool own)] (dG it im iv il p ⟨s,m,[]⟩) λx l=>x=.d (.sl (bm (gx en own b s m).2))/\l=[.ob it aZ,dc im p (gx en own b s m).1]
theorem xL(it im iv il:Nat)(p:Pg)(en:List En)(s:Sc)(m:MS)(q:aF)(a:aT)(ar:List aT)(h1:q.kd=5)(ha:q.aj=a::ar)(Ng:lJ q.ex)(hs:cF s)(hn:m.n+dP q.ex+dP q.ex<1000000000)(hv:m.vars.length+dP q.ex+dP q.ex<=1000000)(hz:dP q.ex<=1000000)
  (hb:qE it im p en false a.be (Ps.d_ ⟨s,m,[]⟩ q.ex (1,⟨#[]⟩)).s (Ps.d_ ⟨s,m,[]⟩ q.ex (1,⟨#[]⟩)).m):
  Dt prog 215 [.ref im 0,je iv il s.ck,.d (.agg q.cells)] (dG it im iv il p ⟨s,m,[]⟩) λx l=>x=.d (.sl (bm (gi en q ⟨s,m,[]⟩).q))/\l=dG it im iv il p (gi en q ⟨s,m,[]⟩):=by
 intro H F hw;have Hc:gi en q ⟨s,m,[]⟩=⟨(Ps.d_ ⟨s,m,[]⟩ q.ex (1,⟨#[]⟩)).s,(gx en false a.be (Ps.d_ ⟨s,m,[]⟩ q.ex (1,⟨#[]⟩)).s (Ps.d_ ⟨s,m,[]⟩ q.ex (1,⟨#[]⟩)).m).1,(Ps.d_ ⟨s,m,[]⟩ q.ex (1,⟨#[]⟩)).q++[.mk 5 [] ⟨#[]⟩ [] false (bk (nV (Ps.d_ ⟨s,m,[]⟩ q.ex (1,⟨#[]⟩)).m.n)) [.mk ⟨#[]⟩ (.mk [] (gx en false a.be (Ps.d_ ⟨s,m,[]⟩ q.ex (1,⟨#[]⟩)).s (Ps.d_ ⟨s,m,[]⟩ q.ex (1,⟨#[]⟩)).m).2) [] [] (0,0)] q.ps]⟩:=by
  cases q with|mk k lhs f args has e aj p=>
  rw[gi];simp only[aF.kd]at h1;simp only[aF.aj]at ha;subst ha;rw[if_neg (by omega),if_neg (by omega),if_pos h1];cases a with|mk an ab au aw ap=>
  simp only[Bh];rfl
 rw[Hc];clear Hc;obtain⟨_,K1,l',⟨mq,rfl,rfl⟩,w,Ge⟩:=Wk.call (r:=[]) (Wk.start hw) (u6 it im iv il p s m q.ex (1,⟨#[]⟩) Ng hs hn hv hz);have FN:=bc.val (r:=⟨s,m,[]⟩) hs q.ex (1,⟨#[]⟩);generalize Ps.d_ ⟨s,m,[]⟩ q.ex (1,⟨#[]⟩)=r at w Ge FN hb⊢;have HP:=FN.q;have G5:r.s.ck=s.ck:=FN.ck
 dsimp only[List.length_nil]at HP
 obtain⟨_,K2,l',⟨jv,jl,rfl,rfl⟩,w,Gb⟩:=Wk.call (a:=[a_ iv r.s.vars,a_ il r.s.aS]) (r:=[_,_,_]) (w.pick [3,4,0,1,2]) (u7 iv il r.s.vars r.s.aS s.ck (.d (.sl (bN s.ck))) rfl);obtain⟨_,K3,l',⟨rfl,rfl⟩,w,KT⟩:=Wk.call (a:=dG it im jv jl p ⟨r.s,r.m,[]⟩) (r:=[_,_,_]) (w.pick [5,6,2,3,0,1,4]) (hb jv jl);rw[G5]at KT;generalize gx en false a.be r.s r.m=z at w KT⊢;obtain⟨m2,qs⟩:=z
 dsimp only at w KT⊢
 have w:Wk F H (.acc 16 (bm r.q) mq::dG it im iv il p ⟨r.s,m2,[]⟩) K3:=w.pick [4,0,1,2,3];have FF:(q.aj.map aT.cells)[((0:Nat):Int).toNat]?=some a.cells:=by rw[ha];rfl
 rw[a.ai]at FF;rw[a.be.ai]at KT;rw[q.ex.ai]at Ge;rw[q.ai,q.ex.ai,h1];have Ix:=e9 (nV r.m.n);rw[(bk (nV r.m.n)).ai]at Ix;have w2:=w.app [dN 5 [] ⟨#[]⟩ [] false (gw 4 0 0 (nV r.m.n) [] [] (0,0)) [[.str ⟨#[]⟩,.sl [],.sl (bm qs),.sl [],.sl [],.int .i64 0,.int .i64 0]] q.ps];have hq:bm (r.q++[.mk 5 [] ⟨#[]⟩ [] false (bk (nV r.m.n)) [.mk ⟨#[]⟩ (.mk [] qs) [] [] (0,0)] q.ps])=bm r.q++[dN 5 [] ⟨#[]⟩ [] false (gw 4 0 0 (nV r.m.n) [] [] (0,0)) [[.str ⟨#[]⟩,.sl [],.sl (bm qs),.sl [],.sl [],.int .i64 0,.int .i64 0]] q.ps]:=by
  rw[dB];show bm r.q++[(aF.mk 5 [] ⟨#[]⟩ [] false (bk (nV r.m.n)) [.mk ⟨#[]⟩ (.mk [] qs) [] [] (0,0)] q.ps).cells]=_;rw[aF.cells,(bk (nV r.m.n)).ai,ol,List.map_cons,List.map_nil,aT.ai];rfl
 rw[<-hq]at w2;have IR:=w2.view (cg _);refine DT.aG func215 rfl ntmps215 rfl ?_
 repeat refine DC.seq ?_
 apply DC.ae
 ·intro s0 Oo;refine dw rfl rfl rfl rfl ?_;refine b_ rfl rfl ?_;refine aa rfl rfl ?_;exact TL.nil rfl
 repeat refine DC.seq ?_
 apply DC.ae
 ·intro s0 Oo;refine az rfl rfl ?_;refine ax rfl rfl rfl ?_;exact TL.nil rfl
 repeat refine DC.seq ?_
 refine DC.block ?_
 repeat refine DC.seq ?_
 apply DC.ae
 ·intro s0 Oo;refine ak rfl rfl rfl (r:=.bool false) rfl ?_;refine aa rfl rfl ?_;exact TL.nil rfl
 repeat refine DC.seq ?_
 refine DC.aC rfl ?_
 repeat refine DC.seq ?_
 apply DC.ae
 ·intro s0 Oo;refine ak rfl rfl rfl (r:=.bool false) rfl ?_;refine aa rfl rfl ?_;exact TL.nil rfl
 repeat refine DC.seq ?_
 refine DC.aC rfl ?_
 repeat refine DC.seq ?_
 apply DC.ae
 ·intro s0 Oo;refine ak rfl rfl rfl (r:=.bool true) rfl ?_;refine aa rfl rfl ?_;exact TL.nil rfl
 repeat refine DC.seq ?_
 refine DC.cr rfl ?_
 repeat refine DC.seq ?_
 apply DC.ae
 ·intro s0 Oo;refine ah rfl rfl ?_;refine cy rfl rfl rfl rfl rfl ?_;refine az rfl rfl ?_;refine dj rfl rfl rfl ?_;refine bH rfl rfl rfl rfl rfl ?_;refine bn Ge rfl rfl ?_;refine ah rfl rfl ?_;refine aR rfl rfl rfl ?_;refine aR rfl rfl rfl ?_;refine aa rfl rfl ?_;refine aa rfl rfl ?_;exact TL.nil rfl
 repeat refine DC.seq ?_
 apply DC.da mixed
 ·intro s0 Oo;refine aH rfl rfl ?_;refine jx rfl rfl rfl rfl rfl ?_;refine aP rfl rfl ?_;refine bw rfl rfl rfl rfl ?_;refine gq Gb rfl rfl ?_;refine bY rfl rfl ?_;refine cx rfl rfl rfl ?_;refine cM rfl rfl rfl (Int.natCast_nonneg 0) FF rfl ?_;refine bY rfl rfl ?_;refine eY rfl rfl rfl ?_;refine gq KT rfl rfl ?_;refine eA rfl rfl ?_;exact TF.nil ⟨by kernel_rfl,rfl⟩
 repeat refine DC.seq ?_
 apply DC.da mixed
 ·intro s0 Oo;refine aH rfl rfl ?_;refine aH rfl rfl ?_;refine bX Ix rfl rfl ?_;refine aH rfl rfl ?_;refine dY rfl rfl rfl rfl rfl ?_;refine dY rfl rfl rfl rfl rfl ?_;refine bj rfl rfl rfl rfl rfl rfl rfl rfl ?_;refine bY rfl rfl ?_;refine eY rfl rfl rfl ?_;refine dY rfl rfl rfl rfl rfl ?_;refine bj rfl rfl rfl rfl rfl rfl rfl rfl ?_;refine fV w rfl rfl rfl rfl rfl rfl rfl (by simp only[bm,List.length_map];omega) ?_;refine eA rfl rfl ?_;exact TF.nil ⟨by kernel_rfl,rfl⟩
 refine DC.bC 6 rfl IR ?_;exact DC.ret ⟨_,rfl,_,⟨rfl,rfl⟩,w2.drop⟩
end Go.Proofs.Pz
namespace Go.Ps
open Go.Mt Go.Sm
theorem Bi(q:List aF)(r:R)(xs:List Xp)(e:Xp):dO (r.pre q,xs) e=((dO (r,xs) e).1.pre q,(dO (r,xs) e).2):=by
 simp only[dO,iH];rfl
theorem tE(q:List aF):∀(l:List Xp) (r:R) (xs:List Xp),l.foldl dO (r.pre q,xs)=((l.foldl dO (r,xs)).1.pre q,(l.foldl dO (r,xs)).2)
 |[],r,xs=>rfl
 |e::l,r,xs=>by
  rw[List.foldl_cons,List.foldl_cons,Bi];exact tE q l _ _
theorem Bj(q:List aF)(s:Sc)(r:R)(x:Nm):di s (r.pre q) x=(di s r x).pre q:=rfl
theorem rl(q:List aF)(s:Sc):∀(l:List Nm) (r:R),l.foldl (di s) (r.pre q)=(l.foldl (di s) r).pre q
 |[],r=>rfl
 |x::l,r=>by rw[List.foldl_cons,List.foldl_cons,Bj,rl q s l]
theorem Bk(q:List aF)(p:Int×Int)(r:R)(x:Nm):eg p (r.pre q) x=(eg p r x).pre q:=by
 unfold eg;rw[tB];simp[R.pre]
theorem rm(q:List aF)(p:Int×Int):∀(l:List Nm) (r:R),l.foldl (eg p) (r.pre q)=(l.foldl (eg p) r).pre q
 |[],r=>rfl
 |x::l,r=>by rw[List.foldl_cons,List.foldl_cons,Bk,rm q p l]
theorem gO(en:List En)(c:Nm)(all:List Nm)(r:R)(vs:List (List Nm)):cd en c all [] r vs=(r,vs):=by rw[cd.eq_def]
theorem gG(en:List En)(c:Nm)(all:List Nm)(n:Nm)(b:bJ)(u w:List Tr)(p:Int×Int)(l:List aT)(r:R)(vs:List (List Nm)):cd en c all (.mk n b u w p::l) r vs=
  (let i0:R:=all.foldl (di r.s) ⟨⟨r.s.vars,r.s.aS,r.s.ck++[(n,c)]⟩,r.m,r.q⟩
  let i1:R:=(all.filter λx=> !(dh (cX b) x)).foldl (eg p) i0
  cd en c all l ⟨r.s,(gx en false b i1.s i1.m).1,i1.q++(gx en false b i1.s i1.m).2⟩ (vs++[all.map i0.s.vars.nm])):=by rw[cd.eq_def]
theorem u_(en:List En)(c:Nm)(all:List Nm)(q:List aF):∀(l:List aT) (r:R) (vs:List (List Nm)),cd en c all l (r.pre q) vs=((cd en c all l r vs).1.pre q,(cd en c all l r vs).2)
 |[],r,vs=>by rw[gO,gO]
 |.mk n b u w p::l,r,vs=>by
  rw[gG,gG]
  dsimp only
  have h0:all.foldl (di (r.pre q).s) ⟨⟨(r.pre q).s.vars,(r.pre q).s.aS,(r.pre q).s.ck++[(n,c)]⟩,(r.pre q).m,(r.pre q).q⟩=(all.foldl (di r.s) ⟨⟨r.s.vars,r.s.aS,r.s.ck++[(n,c)]⟩,r.m,r.q⟩).pre q:=
   rl q r.s all ⟨⟨r.s.vars,r.s.aS,r.s.ck++[(n,c)]⟩,r.m,r.q⟩
  rw[h0,rm];generalize all.foldl (di r.s) ⟨⟨r.s.vars,r.s.aS,r.s.ck++[(n,c)]⟩,r.m,r.q⟩=i0;generalize (all.filter λx=> !(dh (cX b) x)).foldl (eg p) i0=i1;have h1:(⟨(r.pre q).s,(gx en false b (i1.pre q).s (i1.pre q).m).1,(i1.pre q).q++(gx en false b (i1.pre q).s (i1.pre q).m).2⟩:R)=R.pre q ⟨r.s,(gx en false b i1.s i1.m).1,i1.q++(gx en false b i1.s i1.m).2⟩:=by
   simp[R.pre]
  rw[h1];exact u_ en c all q l _ _
theorem Cy(en:List En)(e:aF)(r:R)(q:List aF):gi en e (r.pre q)=(gi en e r).pre q:=by
 cases e with|mk k lhs f args has e aj p=>
 rw[gi,gi];by_cases h1:k=1
 ·simp only[if_pos h1,iH];simp[R.pre]
 rw[if_neg h1,if_neg h1];by_cases h2:k=2
 ·simp only[if_pos h2,tE];cases has with
  |true=>simp only[if_true,iH];simp[R.pre]
  |false=>simp[R.pre]
 rw[if_neg h2,if_neg h2];by_cases h5:k=5
 ·simp only[if_pos h5,u9];simp[R.pre]
 rw[if_neg h5,if_neg h5];have ht:(r.pre q).s=r.s:=rfl;simp only[ht,u9];have h3:∀x:R,(⟨(x.pre q).s,(x.pre q).m,(x.pre q).q⟩:R)=R.pre q ⟨x.s,x.m,x.q⟩:= λ_=>rfl
 rw[h3,u_];simp[R.pre]
theorem va(en:List En):∀(a b:List aF) (r:R),eu en (a++b) r=eu en b (eu en a r)
 |[],b,r=>by rw[eu.eq_def en []];rfl
 |e::a,b,r=>by rw[List.cons_append,eu.eq_def en (e::_),eu.eq_def en (e::a)];exact va en a b _
end Go.Ps
namespace Go.Proofs.Pz
open Go.Mt Go.Sm Go.Ps Go.Proofs
open Tryz
theorem zc(m0:M)(iv il:Nat)(sc:List (Nm×Nm)){f:Env}{es:List (D×M)}(hm:eS es f)(ck:List (Nm×Nm))(hl:ck.length<=1000000):
  Dt prog 209 [m0,je iv il sc,.d (.sl (bN ck))] [.ob iv (.map es)] λr l=>r=.d (.sl (bN (ck.map λo=>(o.1,f.nm o.2))))/\l=[.ob iv (.map es)]:=by
 intro H F hs;have w:=Wk.start hs;have w:=w.nil 2;have hlen:(bN ck).length=ck.length:=by simp[bN]
 refine DT.aG func209 rfl ntmps209 rfl ?_
 repeat refine DC.seq ?_
 apply DC.ae
 ·intro s0 Oo;refine dw rfl rfl rfl rfl ?_;refine aa rfl rfl ?_;exact TL.nil rfl
 repeat refine DC.seq ?_
 apply DC.ae
 ·intro s0 Oo;refine aa rfl rfl ?_;exact TL.nil rfl
 repeat refine DC.seq ?_
 apply DC.ae
 ·intro s0 Oo;refine ah rfl rfl ?_
  (refine bg rfl rfl rfl ?_;rw[hlen])
  refine ah rfl rfl ?_;exact TL.nil rfl
 refine DC.ca [(12,.m (.d (.int .i64 ((0:Nat):Int)))),(11,.m (.d (.int .i64 ((ck.length:Nat):Int)))),(10,.m (.d (.sl (bN ck)))),(7,.m (.d (.sl []))),(4,.loc 4 0)] _ _ rfl (λ_=>rfl) rfl ?_
 repeat refine DC.seq ?_
 refine DC.block ?_;refine DC.loop (λm s1=>∃(i:Nat) (mc:M) (bx:List (Nat×List M)) (H1:Hp),s1=⟨[(12,.m (.d (.int .i64 ((i:Nat):Int)))),(11,.m (.d (.int .i64 ((ck.length:Nat):Int)))),(10,.m (.d (.sl (bN ck)))),(7,.m mc),(4,.loc 4 0)],bx,H1⟩/\
   Go.Mt.get bx 4=some [.mp iv,.mp il,.d (.sl (bN sc))]/\
   Wk F H [.acc 2 (bN ((ck.take i).map λo=>(o.1,f.nm o.2))) mc,.ob iv (.map es)] H1/\i<=ck.length/\m=ck.length-i) ck.length _
  ⟨0,.d (.sl []),_,_,rfl,rfl,w,by omega,rfl⟩ rfl ?_
 clear w;rintro m s1 ⟨i,mc,bx,H1,rfl,F9,w,hi,rfl⟩
 repeat refine DC.seq ?_
 apply DC.ae
 ·intro s0 Oo;refine ak rfl rfl rfl rfl ?_;exact TL.nil rfl
 repeat refine DC.seq ?_
 refine DC.cond rfl (λhc=>?_) (λhc=>?_)
 ·have FH:i<ck.length:=by have:=of_decide_eq_true hc;omega
  clear hc;have FF:=pv FH;have FU:bN ((ck.take (i+1)).map λo=>(o.1,f.nm o.2))=bN ((ck.take i).map λo=>(o.1,f.nm o.2))++[[.str ck[i].1,.str (f.nm ck[i].2)]]:=by rw[q8 _ _ _ _ _ FH];simp[bN]
  generalize ck[i]=o at FF FU;have hH:=(w.pick [1,0]).ob;refine DC.skip ?_
  repeat refine DC.seq ?_
  refine DC.block ?_
  repeat refine DC.seq ?_
  apply DC.ae
  ·intro s0 Oo;refine aO rfl rfl rfl (Int.natCast_nonneg i) FF rfl ?_;refine aW rfl rfl rfl ?_;refine aM rfl rfl ?_;refine av rfl rfl rfl rfl rfl rfl ?_;exact TL.nil rfl
  repeat refine DC.seq ?_
  apply DC.ae
  ·intro s0 Oo;refine ah rfl rfl ?_;refine aq rfl rfl ?_;refine aB rfl rfl rfl rfl ?_;refine aq rfl rfl ?_;refine aB rfl rfl F9 rfl ?_;refine aq rfl rfl ?_;refine aB rfl rfl rfl rfl ?_;refine g_ hm hH rfl rfl rfl ?_;refine l_ rfl rfl rfl rfl ?_;refine bH rfl rfl rfl rfl rfl ?_;refine aD rfl rfl rfl rfl rfl rfl rfl rfl ?_;refine cK w rfl rfl rfl rfl rfl rfl (by exact cO rfl) (by simp[bN];omega) ?_;refine aa rfl rfl ?_;exact TL.nil rfl
  have w:=w.app [[.str o.1,.str (f.nm o.2)]]
  repeat refine DC.seq ?_
  apply DC.ae
  ·intro s0 Oo;refine aV rfl rfl rfl (by omega) ?_;refine ah rfl rfl ?_;exact TL.nil rfl
  exact cb (k':=ck.length-(i+1)) (by omega) ⟨i+1,_,_,_,rfl,F9,by rw[FU];exact w,by omega,rfl⟩ rfl rfl
 ·refine DC.exit ?_;obtain rfl:i=ck.length:=by have:=of_decide_eq_false hc;omega
  rw[List.take_length]at w
  repeat refine DC.seq ?_
  apply DC.ae
  ·intro s0 Oo;refine ah rfl rfl ?_;refine aa rfl rfl ?_;exact TL.nil rfl
  have hv:=w.view (iD _);refine DC.bC 6 rfl hv ?_;exact DC.ret ⟨_,rfl,_,⟨rfl,rfl⟩,w.drop⟩
theorem Bl{H:Hp}(m0:M)(iv il:Nat)(sc:List (Nm×Nm)){f:Env}{es:List (D×M)}(hm:eS es f)(L8:H[iv]?=some (.map es))(ck:List (Nm×Nm))(hl:ck.length<=1000000):
  CT prog 209 [m0,je iv il sc,.d (.sl (bN ck))] H λr K=>r=.d (.sl (bN (ck.map λo=>(o.1,f.nm o.2))))/\K=H:=by
 have hs:(Sep [.ob iv (.map es)]).p H (λi=>i=iv):=l9 ⟨L8,λj=>Iff.rfl⟩;obtain⟨r,K,⟨l',⟨rfl,rfl⟩,hw⟩,hc⟩:=zc m0 iv il sc hm ck hl H (λi=>i=iv) hs;have ht:=Cx (F:= λi=>i=iv) (iv:=iv) (λi h=>h) hw (hw.ob.trans L8.symm);intro σ Oo vs hinv hH GR;have hb:HB H.length H:=by rw[<-hH];exact hinv.hb
 refine CT.drop (post:= λr' K'=>r'=.d (.sl (bN (ck.map λo=>(o.1,f.nm o.2))))/\K'=H) H.length (Nat.le_refl _) (hc.mono ?_) σ Oo vs hinv hH GR;rintro r k ⟨rfl,rfl⟩;exact⟨ht.1,.d _,by rw[ht.2];exact hb,rfl,ht.2⟩
end Go.Proofs.Pz
