/- A part of the proof of the last text of this claim, without conditions. -/
import Derived.Test.YtbafhpblecdbbaaGreatDoorL
set_option maxRecDepth 4000
set_option linter.all false
namespace Go.Ps
open Go.Mt Go.Sm
theorem vd(en:List En)(c:Nm)(all:List Nm):∀(a b:List aT) (r:R) (vs:List (List Nm)),cd en c all (a++b) r vs=cd en c all b (cd en c all a r vs).1 (cd en c all a r vs).2
 |[],b,r,vs=>by rw[gO];rfl
 |.mk n bl u w p::a,b,r,vs=>by rw[List.cons_append,gG,gG];exact vd en c all a b _ _
theorem zi(en:List En)(c:Nm)(all:List Nm)(l:List aT)(a:aT)(r:R)(vs:List (List Nm)):cd en c all (l++[a]) r vs=
  (⟨(cd en c all l r vs).1.s,(gx en false a.be (hU all a.be a.ps (gH c all a.name (cd en c all l r vs).1)).s (hU all a.be a.ps (gH c all a.name (cd en c all l r vs).1)).m).1,
   (hU all a.be a.ps (gH c all a.name (cd en c all l r vs).1)).q++(gx en false a.be (hU all a.be a.ps (gH c all a.name (cd en c all l r vs).1)).s (hU all a.be a.ps (gH c all a.name (cd en c all l r vs).1)).m).2⟩,
  (cd en c all l r vs).2++[all.map (gH c all a.name (cd en c all l r vs).1).s.vars.nm]):=by
 rw[vd];cases a with|mk n b u w p=>
 rw[gG,gO];rfl
theorem tI(en:List En)(c:Nm)(all:List Nm):∀(l:List aT) (r:R) (vs:List (List Nm)),(cd en c all l r vs).2.length=vs.length+l.length
 |[],r,vs=>by rw[gO];rfl
 |.mk n bl u w p::l,r,vs=>by rw[gG,tI en c all l];simp;omega
theorem zj(l:List Nm):∀r∈cV l,r.length=8:=by intro r hr;simp only[cV,List.mem_map]at hr;obtain⟨v,_,rfl⟩:=hr;rw[Xp.ai];rfl
def tJ(n:Nat)(ns:List Nm)(vs:List (List Nm)):List (List Nm×List Nm):=(List.range n).map λj=>(ns,vs.map λv=>v[j]?.getD ⟨#[]⟩)
theorem pA(n:Nat)(ns:List Nm)(vs:List (List Nm)):(tJ n ns vs).length=n:=by simp[tJ]
theorem tK(n:Nat)(ns:List Nm)(vs:List (List Nm)){j:Nat}(h:j<(tJ n ns vs).length):(tJ n ns vs)[j]=(ns,vs.map λv=>v[j]?.getD ⟨#[]⟩):=by simp[tJ]
theorem tL(s:Sc):∀(l:List Nm) (r:R),(l.foldl (di s) r).q=r.q/\(l.foldl (di s) r).s.aS=r.s.aS/\(l.foldl (di s) r).s.ck=r.s.ck
 |[],r=>⟨rfl,rfl,rfl⟩
 |x::l,r=>by rw[List.foldl_cons];exact tL s l _
end Go.Ps
namespace Go.Proofs.Pz
open Go.Mt Go.Sm Go.Ps Go.Proofs
open Tryz
theorem zk(it im iv il:Nat)(p:Pg)(G7:q_ p.ao)(s:Sc)(m:MS)(q:aF)(h3:q.kd=3)(hs:cF s)(GV:lJ q.ex)(Gl:qx p.ao s.vars.ty (λx=>(s.vars x).isSome=true) q.ex)(JO:xI s.vars 1000000)
  (JN:q.aj.length<=1000) (Gr:∀a∈q.aj,vW a.be) (KP:lG q<=1000000) (Kq:(bV q).Nodup) (Lw:(bV q).length<=1000000) (GI:s.ck.length<100000)
  (hn:m.n+dP q.ex+dP q.ex+1<=900000) (hv:m.vars.length+dP q.ex+dP q.ex+1<=900000)
  (r1:R) (I':r1=Ps.d_ ⟨s,m,[]⟩ q.ex (cQ p.ao s.vars.ty q.ex))
  (hR:∀(k:Nat) (h:k<q.aj.length),(cd p.ao (nV r1.m.n) (bV q) (q.aj.take k) r1 []).1.s=r1.s/\(cd p.ao (nV r1.m.n) (bV q) (q.aj.take k) r1 []).1.m.n+3*(bV q).length<=900000/\
   (cd p.ao (nV r1.m.n) (bV q) (q.aj.take k) r1 []).1.m.vars.length+3*(bV q).length<=900000/\(cd p.ao (nV r1.m.n) (bV q) (q.aj.take k) r1 []).1.q.length<=100000000/\(cd p.ao (nV r1.m.n) (bV q) (q.aj.take (k+1)) r1 []).1.q.length<=100000000/\
   qE it im p p.ao false q.aj[k].be (hU (bV q) q.aj[k].be q.aj[k].ps (gH (nV r1.m.n) (bV q) q.aj[k].name (cd p.ao (nV r1.m.n) (bV q) (q.aj.take k) r1 []).1)).s (hU (bV q) q.aj[k].be q.aj[k].ps (gH (nV r1.m.n) (bV q) q.aj[k].name (cd p.ao (nV r1.m.n) (bV q) (q.aj.take k) r1 []).1)).m)
  (hZ:(cd p.ao (nV r1.m.n) (bV q) q.aj r1 []).1.s=r1.s/\(cd p.ao (nV r1.m.n) (bV q) q.aj r1 []).1.q.length<=100000000):
  Dt prog 260 [.ref im 0,je iv il s.ck,.d (.agg q.cells)] (dG it im iv il p ⟨s,m,[]⟩) λx l=>x=.d (.sl (bm (gi p.ao q ⟨s,m,[]⟩).q))/\l=dG it im iv il p (gi p.ao q ⟨s,m,[]⟩):=by
 intro H F hw;have Hc:gi p.ao q ⟨s,m,[]⟩=⟨(cd p.ao (nV r1.m.n) (bV q) q.aj r1 []).1.s,(cd p.ao (nV r1.m.n) (bV q) q.aj r1 []).1.m,(cd p.ao (nV r1.m.n) (bV q) q.aj r1 []).1.q++(List.range (bV q).length).map λi=>fG ((cd p.ao (nV r1.m.n) (bV q) q.aj r1 []).1.s.vars.nm ((bV q)[i]?.getD ⟨#[]⟩)) (.mk 13 0 0 (nV r1.m.n) (q.aj.map aT.name) ((cd p.ao (nV r1.m.n) (bV q) q.aj r1 []).2.map λvs=>bk (vs[i]?.getD ⟨#[]⟩)) q.ps) q.ps⟩:=by
  rw[I'];cases q with|mk k lhs f args has e aj ps=>
  rw[gi];simp only[aF.kd]at h3;rw[if_neg (by omega),if_neg (by omega),if_neg (by omega)];simp only[bV];rfl
 rw[Hc];clear Hc;obtain⟨_,K1,l',⟨rfl,rfl⟩,w,LJ⟩:=Wk.call (a:=[a_ iv s.vars,dc im p m]) (r:=[_,_]) ((Wk.start hw).pick [2,1,0,3]) (Dw iv il im s.vars p m s.ck G7 JO q.ex Gl);have w:Wk F H (dG it im iv il p ⟨s,m,[]⟩) K1:=w.pick [2,1,0,3];obtain⟨_,K2,l',⟨mq,rfl,rfl⟩,w,Ge⟩:=Wk.call (r:=[]) w (u6 it im iv il p s m q.ex (cQ p.ao s.vars.ty q.ex) GV hs (by omega) (by omega) (by omega));have FN:=bc.val (r:=⟨s,m,[]⟩) hs q.ex (cQ p.ao s.vars.ty q.ex);rw[<-I']at FN w Ge;clear I';have HP:=FN.q;have G5:r1.s.ck=s.ck:=FN.ck;have Km:=FN.sc
 dsimp only[List.length_nil]at HP
 have Hh:=Cp q JN Gr KP;obtain⟨all,Hj⟩:∃all,all=bV q:=⟨_,rfl⟩;obtain⟨c,Kp⟩:∃c,c=nV r1.m.n:=⟨_,rfl⟩;rw[<-Kp]at hR hZ Ge;rw[<-Hj]at hR hZ Hh Kq Lw;rw[<-Kp,<-Hj];clear Kp Hj hn hv Gl JO FN;obtain⟨ir,I6⟩:∃ir,ir=K2.length:=⟨_,rfl⟩;have HZ:(aU all).length=all.length:=by simp[aU]
 have Na:(q.aj.map aT.cells).length=q.aj.length:=by simp
 rw[q.ex.ai]at LJ Ge;rw[q.ai,q.ex.ai,h3]at Hh⊢;refine DT.aG func260 rfl ntmps260 rfl ?_
 repeat refine DC.seq ?_
 apply DC.ae
 ·intro s0 Oo;refine dw rfl rfl rfl rfl ?_;refine b_ rfl rfl ?_;refine aa rfl rfl ?_;exact TL.nil rfl
 repeat refine DC.seq ?_
 apply DC.ae
 ·intro s0 Oo;refine ah rfl rfl ?_;refine cy rfl rfl rfl rfl rfl ?_;refine az rfl rfl ?_;refine dj rfl rfl rfl ?_;refine bn LJ rfl rfl ?_;refine aM rfl rfl ?_;refine av rfl rfl rfl rfl rfl rfl ?_;exact TL.nil rfl
 repeat refine DC.seq ?_
 apply DC.ae
 ·intro s0 Oo;refine ah rfl rfl ?_;refine cy rfl rfl rfl rfl rfl ?_;refine az rfl rfl ?_;refine dj rfl rfl rfl ?_;refine aY rfl rfl rfl rfl rfl ?_;refine bn Ge rfl rfl ?_;refine ah rfl rfl ?_;refine aR rfl rfl rfl ?_;refine aR rfl rfl rfl ?_;refine aa rfl rfl ?_;refine aa rfl rfl ?_;exact TL.nil rfl
 repeat refine DC.seq ?_
 apply DC.ae
 ·intro s0 Oo;refine aW rfl rfl rfl ?_;refine bL Hh rfl rfl ?_;refine aa rfl rfl ?_;exact TL.nil rfl
 repeat refine DC.seq ?_
 apply DC.ae
 ·intro s0 Oo;refine ah rfl rfl ?_
  (refine bg rfl rfl rfl ?_;rw[HZ])
  refine vr (len:=all.length) rfl rfl rfl rfl (by rfl) (by omega) (by omega) ?_;refine aa rfl rfl ?_;exact TL.nil rfl
 repeat refine DC.seq ?_
 apply DC.ae
 ·intro s0 Oo;refine ah rfl rfl ?_
  (refine bg rfl rfl rfl ?_;rw[HZ])
  refine ah rfl rfl ?_;exact TL.nil rfl
 have w:=w.new (.row false 8 0 (cN c q.ps (List.replicate 0 mC)++br (List.replicate (all.length-0) zX)));rw[<-I6]at w;refine DC.ca [(45,.m (.d (.int .i64 ((0:Nat):Int)))),(44,.m (.d (.int .i64 ((all.length:Nat):Int)))),(11,.m (.bB ir 0 all.length)),(10,.m (.d (.sl (aU all)))),(9,.m mq),(8,.m (.d (.str c))),(5,.m (.d (.bM (dN 3 q.lhs q.f (q.args.map Xp.cells) q.has (xC q.ex) (q.aj.map aT.cells) q.ps) 0))),(4,.loc 4 0),(0,.m (.ref im 0))] _ (K2++[.row false 8 0 (cN c q.ps (List.replicate 0 mC)++br (List.replicate (all.length-0) zX))]) (by rw[I6];rfl) (λ_=>rfl) (by
  show K2++[Ob.row false 8 0 (cq 8 all.length zX)]=_;rw[xS (n:=8) (z:=zX) rfl (by omega)];rfl) ?_
 repeat refine DC.seq ?_
 refine DC.block ?_;refine DC.loop (λk s1=>∃(i:Nat) (bx:List (Nat×List M)) (H1:Hp),s1=⟨[(45,.m (.d (.int .i64 ((i:Nat):Int)))),(44,.m (.d (.int .i64 ((all.length:Nat):Int)))),(11,.m (.bB ir 0 all.length)),(10,.m (.d (.sl (aU all)))),(9,.m mq),(8,.m (.d (.str c))),(5,.m (.d (.bM (dN 3 q.lhs q.f (q.args.map Xp.cells) q.has (xC q.ex) (q.aj.map aT.cells) q.ps) 0))),(4,.loc 4 0),(0,.m (.ref im 0))],bx,H1⟩/\
   Go.Mt.get bx 4=some [.mp iv,.mp il,.d (.sl (bN s.ck))]/\
   Wk F H (.ob ir (.row false 8 0 (cN c q.ps (List.replicate i mC)++br (List.replicate (all.length-i) zX))):: .acc 16 (bm r1.q) mq::dG it im iv il p r1) H1/\i<=all.length/\k=all.length-i) all.length _
  ⟨0,_,_,rfl,rfl,w,by omega,rfl⟩ rfl ?_
 clear w LJ Ge;rintro k s1 ⟨i,bx,H1,rfl,F9,w,hi,rfl⟩
 repeat refine DC.seq ?_
 apply DC.ae
 ·intro s0 Oo;refine ak rfl rfl rfl rfl ?_;exact TL.nil rfl
 repeat refine DC.seq ?_
 refine DC.cond rfl (λhc=>?_) (λhc=>?_)
 ·have FH:i<all.length:=by have:=of_decide_eq_true hc;omega
  clear hc;have hH:=w.ob;have SA:=CC c q.ps FH;refine DC.skip ?_
  repeat refine DC.seq ?_
  refine DC.block ?_
  repeat refine DC.seq ?_
  apply DC.ae
  ·intro s0 Oo;refine ah rfl rfl ?_;refine aa rfl rfl ?_;exact TL.nil rfl
  repeat refine DC.seq ?_
  apply DC.ae
  ·intro s0 Oo;refine ah rfl rfl ?_;refine ah rfl rfl ?_;refine ah rfl rfl ?_;refine az rfl rfl ?_;refine dj rfl rfl rfl ?_;refine bH rfl rfl rfl rfl rfl ?_;refine Ar rfl rfl rfl hH (Int.natCast_nonneg i) (by omega) ?_;refine At rfl rfl hH rfl rfl SA ?_;exact TL.nil rfl
  have w2:=w.set (.row false 8 0 (cN c q.ps (List.replicate (i+1) mC)++br (List.replicate (all.length-(i+1)) zX)))
  repeat refine DC.seq ?_
  apply DC.ae
  ·intro s0 Oo;refine aV rfl rfl rfl (by omega) ?_;refine ah rfl rfl ?_;exact TL.nil rfl
  exact cb (k':=all.length-(i+1)) (by omega) ⟨i+1,_,_,rfl,F9,w2,by omega,rfl⟩ rfl rfl
 refine DC.exit ?_;obtain rfl:i=all.length:=by have:=of_decide_eq_false hc;omega
 rw[Nat.sub_self,List.replicate_zero,show br []=[]from rfl,List.append_nil]at w;have w:=w.perm (List.Perm.refl _);have w:=jY.init all.length w;clear hc;have w:Wk F H (.acc 16 (bm (cd p.ao c all (q.aj.take 0) r1 []).1.q) mq::jY ir c q.ps (List.replicate all.length mC)::dG it im iv il p (cd p.ao c all (q.aj.take 0) r1 []).1) H1:=by
  rw[List.take_zero,gO];exact w.pick [1,0,2,3,4,5]
 have Lc:(List.replicate all.length mC).map Prod.fst=tJ all.length ((q.aj.take 0).map aT.name) (cd p.ao c all (q.aj.take 0) r1 []).2:=by
  rw[List.take_zero,gO];simp[tJ,List.map_const']
 repeat refine DC.seq ?_
 apply DC.ae
 ·intro s0 Oo;refine az rfl rfl ?_;refine ax rfl rfl rfl ?_
  (refine bg rfl rfl rfl ?_;rw[Na])
  refine ah rfl rfl ?_;exact TL.nil rfl
 refine DC.ca [(59,.m (.d (.int .i64 ((0:Nat):Int)))),(58,.m (.d (.int .i64 ((q.aj.length:Nat):Int)))),(57,.m (.d (.sl (q.aj.map aT.cells)))),(11,.m (.bB ir 0 all.length)),(10,.m (.d (.sl (aU all)))),(9,.m mq),(8,.m (.d (.str c))),(5,.m (.d (.bM (dN 3 q.lhs q.f (q.args.map Xp.cells) q.has (xC q.ex) (q.aj.map aT.cells) q.ps) 0))),(4,.loc 4 0),(0,.m (.ref im 0))] _ _ rfl (λ_=>rfl) rfl ?_
 repeat refine DC.seq ?_
 refine DC.block ?_;refine DC.loop (λkk s1=>∃(k:Nat) (mq:M) (l:List Mr) (bx:List (Nat×List M)) (H1:Hp),s1=⟨[(59,.m (.d (.int .i64 ((k:Nat):Int)))),(58,.m (.d (.int .i64 ((q.aj.length:Nat):Int)))),(57,.m (.d (.sl (q.aj.map aT.cells)))),(11,.m (.bB ir 0 all.length)),(10,.m (.d (.sl (aU all)))),(9,.m mq),(8,.m (.d (.str c))),(5,.m (.d (.bM (dN 3 q.lhs q.f (q.args.map Xp.cells) q.has (xC q.ex) (q.aj.map aT.cells) q.ps) 0))),(4,.loc 4 0),(0,.m (.ref im 0))],bx,H1⟩/\Go.Mt.get bx 4=some [.mp iv,.mp il,.d (.sl (bN s.ck))]/\
   l.map Prod.fst=tJ all.length ((q.aj.take k).map aT.name) (cd p.ao c all (q.aj.take k) r1 []).2/\
   Wk F H (.acc 16 (bm (cd p.ao c all (q.aj.take k) r1 []).1.q) mq::jY ir c q.ps l::dG it im iv il p (cd p.ao c all (q.aj.take k) r1 []).1) H1/\k<=q.aj.length/\kk=q.aj.length-k) q.aj.length _
  ⟨0,mq,_,_,_,rfl,F9,Lc,w,by omega,rfl⟩ rfl ?_
 clear w F9 Lc;rintro kk s1 ⟨k,mq,l,bx,H1,rfl,F9,hl,w,hk,rfl⟩
 repeat refine DC.seq ?_
 apply DC.ae
 ·intro s0 Oo;refine ak rfl rfl rfl rfl ?_;exact TL.nil rfl
 repeat refine DC.seq ?_
 refine DC.cond rfl (λhc=>?_) (λhc=>?_)
 ·have FH:k<q.aj.length:=by have:=of_decide_eq_true hc;omega
  clear hc;have FF:(q.aj.map aT.cells)[((k:Nat):Int).toNat]?=some q.aj[k].cells:=by simp[FH]
  have Oj:=Gr _ (List.getElem_mem FH);have QX:=qw (List.getElem_mem FH);obtain⟨NP,Jp,QY,Ok,Ke,Lu⟩:=hR k FH;have FU:=zi p.ao c all (q.aj.take k) q.aj[k] r1 [];rw[<-List.take_succ_eq_append_getElem FH]at FU;rw[FU]at Ke;have Kz:(q.aj.take (k+1)).map aT.name=(q.aj.take k).map aT.name++[q.aj[k].name]:=by rw[List.take_succ_eq_append_getElem FH,List.map_append];rfl
  have QZ:((q.aj.take k).map aT.name).length<=1000:=by rw[List.length_map,List.length_take];omega
  have Nn:(cd p.ao c all (q.aj.take k) r1 []).2.length<=1000:=by rw[tI,List.length_take,List.length_nil];omega
  generalize (q.aj.take k).map aT.name=ns at hl Kz QZ;generalize cd p.ao c all (q.aj.take k) r1 []=z at w hl NP Jp QY Ok Ke Lu FU Nn;obtain⟨r,vs⟩:=z;generalize q.aj[k]=a at FF Oj QX Ke Lu FU Kz
  dsimp only at w hl NP Jp QY Ok Ke Lu FU Nn
  have Q0:cF r.s:=by rw[NP];exact Km
  have No:r.s.ck=s.ck:=by rw[NP];exact G5
  clear hR;rw[a.ai]at FF;obtain⟨H_,I3⟩:∃H_:R,H_=⟨⟨r.s.vars,r.s.aS,s.ck++[(a.name,c)]⟩,r.m,r.q⟩:=⟨_,rfl⟩;have IS:gH c all a.name r=all.foldl (di r.s) H_:=by
   rw[I3];show all.foldl (di r.s) ⟨⟨_,_,r.s.ck++_⟩,_,_⟩=_;rw[No]
  rw[IS]at Ke Lu FU;clear IS;obtain⟨mc,K3,l',rfl,w,Ge⟩:=Wk.call (a:=[]) w (th s.ck (by omega));have w:Wk F H (.acc 2 (bN s.ck) mc:: .acc 16 (bm r.q) mq::jY ir c q.ps l::dG it im iv il p r) K3:=w;have w2:=w.app [[.str a.name,.str c]];have Q1:bN s.ck++[[.str a.name,.str c]]=bN (s.ck++[(a.name,c)]):=by simp[bN]
  rw[Q1]at w2;obtain⟨_,K4,l',⟨jv,jl,rfl,rfl⟩,w4,Gb⟩:=Wk.call (a:=[a_ iv r.s.vars,a_ il r.s.aS]) (r:=[_,_,_,_,_]) (w2.pick [5,6,0,1,2,3,4]) (u7 iv il r.s.vars r.s.aS s.ck (dT mc K3 [[.str a.name,.str c]]) (cW _ _ _));have HA:=(w4.pick [4,0,1,2,3,5,6,7,8]).view (iD _);have w4:Wk F H [.acc 16 (bm r.q) mq,jY ir c q.ps l,.ob it aZ,dc im p r.m,a_ iv r.s.vars,a_ il r.s.aS,a_ jv r.s.vars,a_ jl r.s.aS] K4:=(w4.pick [4,5,6,7,8,0,1,2,3]).drop;have FX:(bN s.ck).length=s.ck.length:=by simp[bN]
  refine DC.skip ?_
  repeat refine DC.seq ?_
  refine DC.block ?_
  repeat refine DC.seq ?_
  apply DC.ae
  ·intro s0 Oo;refine aO rfl rfl rfl (Int.natCast_nonneg k) FF rfl ?_;refine aW rfl rfl rfl ?_;refine aM rfl rfl ?_;refine av rfl rfl rfl rfl rfl rfl ?_;exact TL.nil rfl
  repeat refine DC.seq ?_
  apply DC.ae
  ·intro s0 Oo;refine aq rfl rfl ?_;refine aB rfl rfl rfl rfl ?_;refine ah rfl rfl ?_;refine bH rfl rfl rfl rfl rfl ?_;refine aM rfl rfl ?_;refine av rfl rfl rfl rfl rfl rfl ?_;exact TL.nil rfl
  repeat refine DC.seq ?_
  apply DC.da mixed
  ·intro s0 Oo;refine jx rfl rfl F9 rfl rfl ?_;refine aP rfl rfl ?_;refine bw rfl rfl F9 rfl ?_;refine gq Ge rfl rfl ?_;refine bo rfl rfl rfl rfl rfl ?_;refine bj rfl rfl rfl rfl rfl rfl rfl rfl ?_;refine fV w rfl rfl rfl rfl rfl rfl rfl (by omega) ?_;refine gq Gb rfl rfl ?_;refine gm rfl ?_;refine cc rfl rfl rfl rfl rfl rfl ?_;exact TF.nil ⟨by kernel_rfl,rfl⟩
  obtain⟨G9,Np⟩:∃G9,G9=s.ck++[(a.name,c)]:=⟨_,rfl⟩;rw[<-Np]at HA I3;refine DC.qh 16 (FG:=[.mp jv,.mp jl,.d (.sl (bN G9))]) rfl rfl (D_ HA) ?_;have L1:(bN G9).length=G9.length:=by simp[bN]
  have SB:G9.length=s.ck.length+1:=by rw[Np];simp
  have M3:cF H_.s:=by
   have:=Q0.more (a.name,c) (by rw[No];omega);rw[No,<-Np]at this;rw[I3];exact this
  have TD:H_.m.n=r.m.n:=by rw[I3]
  have TG:H_.m.vars.length=r.m.vars.length:=by rw[I3]
  have Ol:H_.q=r.q:=by rw[I3]
  have Q2:H_.s.aS=r.s.aS:=by rw[I3]
  have Om:H_.s.ck=G9:=by rw[I3]
  have w4:Wk F H [.acc 16 (bm r.q) mq,jY ir c q.ps l,.ob it aZ,dc im p H_.m,a_ iv r.s.vars,a_ il r.s.aS,a_ jv H_.s.vars,a_ jl r.s.aS] K4:=by rw[I3];exact w4
  clear I3 w2 w Ge Gb HA;have hP:= λi=>bc.oz r.s (all.take i) M3
  have hQ:= λi=>tL r.s (all.take i) H_
  have hN:= λi=>xT r.s (all.take i) H_
  have On:=zh r.s all H_ Kq;have Oq:(all.foldl (di r.s) H_).q=r.q:=(tL r.s all H_).1.trans Ol;obtain⟨G,hG⟩:∃G,G=tJ all.length ns vs:=⟨_,rfl⟩;obtain⟨G',NQ⟩:∃G',G'=tJ all.length (ns++[a.name]) (vs++[all.map (all.foldl (di r.s) H_).s.vars.nm]):=⟨_,rfl⟩;have NR:G.length=all.length:=by rw[hG,pA]
  have Nq:G'.length=all.length:=by rw[NQ,pA]
  rw[<-hG]at hl
  repeat refine DC.seq ?_
  apply DC.ae
  ·intro s0 Oo;refine ah rfl rfl ?_
   (refine bg rfl rfl rfl ?_;rw[HZ])
   refine ah rfl rfl ?_;exact TL.nil rfl
  refine DC.ca [(77,.m (.d (.int .i64 ((0:Nat):Int)))),(76,.m (.d (.int .i64 ((all.length:Nat):Int)))),(75,.m (.d (.sl (aU all)))),(16,.loc 16 0),(14,.loc 14 0),(59,.m (.d (.int .i64 ((k:Nat):Int)))),(58,.m (.d (.int .i64 ((q.aj.length:Nat):Int)))),(57,.m (.d (.sl (q.aj.map aT.cells)))),(11,.m (.bB ir 0 all.length)),(10,.m (.d (.sl (aU all)))),(9,.m mq),(8,.m (.d (.str c))),(5,.m (.d (.bM (dN 3 q.lhs q.f (q.args.map Xp.cells) q.has (xC q.ex) (q.aj.map aT.cells) q.ps) 0))),(4,.loc 4 0),(0,.m (.ref im 0))] _ _ rfl (λ_=>rfl) rfl ?_
  repeat refine DC.seq ?_
  refine DC.block ?_;refine DC.loop (λii s1=>∃(i:Nat) (l:List Mr) (bx:List (Nat×List M)) (H1:Hp),s1=⟨[(77,.m (.d (.int .i64 ((i:Nat):Int)))),(76,.m (.d (.int .i64 ((all.length:Nat):Int)))),(75,.m (.d (.sl (aU all)))),(16,.loc 16 0),(14,.loc 14 0),(59,.m (.d (.int .i64 ((k:Nat):Int)))),(58,.m (.d (.int .i64 ((q.aj.length:Nat):Int)))),(57,.m (.d (.sl (q.aj.map aT.cells)))),(11,.m (.bB ir 0 all.length)),(10,.m (.d (.sl (aU all)))),(9,.m mq),(8,.m (.d (.str c))),(5,.m (.d (.bM (dN 3 q.lhs q.f (q.args.map Xp.cells) q.has (xC q.ex) (q.aj.map aT.cells) q.ps) 0))),(4,.loc 4 0),(0,.m (.ref im 0))],bx,H1⟩/\Go.Mt.get bx 4=some [.mp iv,.mp il,.d (.sl (bN s.ck))]/\Go.Mt.get bx 16=some [.mp jv,.mp jl,.d (.sl (bN G9))]/\Go.Mt.get bx 14=some ([.str a.name,.sl (aJ a.be.vars),.sl (a.be.eqs.map aF.cells),.sl (ic a.jb),.sl (ic a.jc),.int .i64 a.ps.1,.int .i64 a.ps.2].map M.d)/\
    l.map Prod.fst=G'.take i++G.drop i/\
    Wk F H [.acc 16 (bm r.q) mq,jY ir c q.ps l,.ob it aZ,dc im p ((all.take i).foldl (di r.s) H_).m,a_ iv r.s.vars,a_ il r.s.aS,a_ jv ((all.take i).foldl (di r.s) H_).s.vars,a_ jl r.s.aS] H1/\i<=all.length/\ii=all.length-i) all.length _
   ⟨0,l,_,_,rfl,F9,rfl,rfl,by rw[List.take_zero,List.nil_append,List.drop_zero];exact hl,w4,by omega,rfl⟩ rfl ?_
  clear w4 hl F9;rintro ii s1 ⟨i,l,bx,H1,rfl,F9,Hu,IB,hl,w,hi,rfl⟩
  repeat refine DC.seq ?_
  apply DC.ae
  ·intro s0 Oo;refine ak rfl rfl rfl rfl ?_;exact TL.nil rfl
  repeat refine DC.seq ?_
  refine DC.cond rfl (λhc=>?_) (λhc=>?_)
  ·have Gb:i<all.length:=by have:=of_decide_eq_true hc;omega
   clear hc;have G4:=fv Gb;have FN:=hP i;have IX:=hN i;have Q3:=hQ i;have Hv:(all.take (i+1)).foldl (di r.s) H_=di r.s ((all.take i).foldl (di r.s) H_) all[i]:=by rw[List.take_succ_eq_append_getElem Gb,List.foldl_append];rfl
   rw[List.length_take,Nat.min_eq_left (by omega)]at IX;have GR:=FN.vs;rw[List.length_take,Nat.min_eq_left (by omega)]at GR;generalize (all.take i).foldl (di r.s) H_=e at w FN IX Q3 Hv GR;obtain⟨l1,⟨ya,yb⟩,l2,rfl,Hr,HJ⟩:=CB hl (by rw[NR,Nq]) (by rw[NR];exact Gb);clear hl;obtain⟨ks,Ir⟩:∃ks,ks=vs.map λv=>v[i]?.getD ⟨#[]⟩:=⟨_,rfl⟩
   have e1:G[i]'(by rw[NR];exact Gb)=(ns,ks):=by simp only[hG,Ir,tK]
   have e2:G'[i]'(by rw[Nq];exact Gb)=(ns++[a.name],ks++[nV (e.m.n+1)]):=by
    simp only[NQ,Ir,tK,List.map_append,List.map_cons,List.map_nil,On];simp[Gb,IX]
   rw[e1]at w;rw[e2]at HJ;have Ic:ks.length<=1000:=by rw[Ir,List.length_map];exact Nn
   clear e1 e2 Ir;generalize all[i]=x at G4 Hv;subst Hr;have w:=w.pick [4,0,1,2,3,5,6,7];obtain⟨ev,IZ,w⟩:=a_.open w;have NS:=w.ob;obtain⟨_,K5,l',⟨rfl,rfl⟩,w5,Hq⟩:=Wk.call (a:=[.ob it aZ,dc im p e.m]) (r:=[_,_,_,_,_,_]) (w.pick [3,4,0,1,2,5,6,7]) (mX it im p e.m (by omega) (by omega) (r.s.vars.ty x) G9 (by omega));have w5:=w5.pick [6,0,1,2,3,4,5,7];obtain⟨ej,Nr,w5⟩:=a_.open w5;have Ij:=w5.ob;have Ot:=(w5.pick [3,0,1,2,4,5,6,7]).ob;refine DC.skip ?_
   repeat refine DC.seq ?_
   refine DC.block ?_
   repeat refine DC.seq ?_
   apply DC.ae
   ·intro s0 Oo;refine ah rfl rfl ?_;refine aO rfl rfl rfl (Int.natCast_nonneg l1.length) G4 rfl ?_;refine ax rfl rfl rfl ?_;refine aa rfl rfl ?_;refine aa rfl rfl ?_;exact TL.nil rfl
   repeat refine DC.seq ?_
   apply DC.ae
   ·intro s0 Oo;refine ah rfl rfl ?_;refine aq rfl rfl ?_;refine aB rfl rfl F9 rfl ?_;refine ah rfl rfl ?_;refine g_ IZ NS rfl rfl rfl ?_;refine B1 rfl rfl rfl rfl rfl ?_;refine aq rfl rfl ?_;refine aB rfl rfl Hu rfl ?_;refine bn Hq rfl rfl ?_;refine aa rfl rfl ?_;exact TL.nil rfl
   repeat refine DC.seq ?_
   apply DC.ae
   ·intro s0 Oo;refine aq rfl rfl ?_;refine aB rfl rfl Hu rfl ?_;refine ah rfl rfl ?_;refine ah rfl rfl ?_;refine aq rfl rfl ?_;refine aB rfl rfl Hu rfl ?_
    (refine bg rfl rfl rfl ?_;rw[L1])
    refine aq rfl rfl ?_;refine aB rfl rfl F9 rfl ?_;refine ah rfl rfl ?_;refine g_ IZ Ot rfl rfl rfl ?_;refine B1 rfl rfl rfl rfl rfl ?_;refine bH rfl rfl rfl rfl rfl ?_;refine eJ rfl rfl rfl Ij Nr.k ?_;exact TL.nil rfl
   have w6:=a_.close (Nr.set x ⟨nV (e.m.n+1),G9.length,(r.s.vars.ty x).1,(r.s.vars.ty x).2⟩) (w5.set (.map (cU x (.d (.agg (jX ⟨nV (e.m.n+1),G9.length,(r.s.vars.ty x).1,(r.s.vars.ty x).2⟩))) ej)));have w6:=w6.pick [3,0,1,2,4,5,6,7];have w6:=a_.close IZ w6;have w6:=w6.pick [5,0,1,2,3,4,6,7];generalize K5.set jv (.map (cU x (.d (.agg (jX ⟨nV (e.m.n+1),G9.length,(r.s.vars.ty x).1,(r.s.vars.ty x).2⟩))) ej))=K6 at w6⊢;clear w5 Ij Ot Hq w NS;have w6:=jY.open w6;have I0:=w6.ob;have Q4:(cN c q.ps (l1++((ns,ks),(ya,yb))::l2))[l1.length*8+4]?=some ya:=xQ c q.ps l1 l2 ((ns,ks),(ya,yb)) (by omega);have Q5:=CA c q.ps l1 l2 ((ns,ks),(ya,yb)) (ns++[a.name],ks) (dT ya K6 [[.str a.name]]);have w7:=w6.pick [1,0,2,3,4,5,6,7,8,9,10];have w8:=w7.app [[.str a.name]];have Kf:=(w8.pick [1,0,2,3,4,5,6,7,8,9,10]).ob
   repeat refine DC.seq ?_
   apply DC.da mixed
   ·intro s0 Oo;refine aH rfl rfl ?_;refine aH rfl rfl ?_;refine aH rfl rfl ?_;refine aH rfl rfl ?_;refine kJ rfl rfl rfl I0 (Int.natCast_nonneg _) (by omega) ?_;refine mI rfl rfl ?_;refine pK rfl rfl I0 Q4 ?_;refine aP rfl rfl ?_;refine bw rfl rfl IB rfl ?_;refine bj rfl rfl rfl rfl rfl rfl rfl rfl ?_;refine fV w7 rfl rfl rfl rfl rfl rfl rfl (by simp only[aU,List.length_map];omega) ?_;refine kJ rfl rfl rfl Kf (Int.natCast_nonneg _) (by omega) ?_;refine mI rfl rfl ?_;refine Au rfl rfl Kf (cW _ _ _) rfl Q5 ?_;exact TF.nil ⟨by kernel_rfl,rfl⟩
   have w8:=(w8.pick [1,0,2,3,4,5,6,7,8,9,10]).set (.row false 8 0 (cN c q.ps (l1++((ns++[a.name],ks),(dT ya K6 [[.str a.name]],yb))::l2)));have Q6:aU ns++[[.str a.name]]=aU (ns++[a.name]):=by simp[aU]
   dsimp only at w8
   rw[Q6]at w8;obtain⟨y1,MW⟩:∃y1,y1=dT ya K6 [[.str a.name]]:=⟨_,rfl⟩;obtain⟨K7,Q7⟩:∃K7,K7=(fo 1 ya K6 [[.str a.name]]).set ir (.row false 8 0 (cN c q.ps (l1++((ns++[a.name],ks),(dT ya K6 [[.str a.name]],yb))::l2))):=⟨_,rfl⟩;rw[<-Q7,<-MW]at w8;refine DC.ca [(19,.m (.d (.str (nV (e.m.n+1))))),(17,.m (.d (.int .i64 ((l1.length:Nat):Int)))),(77,.m (.d (.int .i64 ((l1.length:Nat):Int)))),(76,.m (.d (.int .i64 ((all.length:Nat):Int)))),(75,.m (.d (.sl (aU all)))),(16,.loc 16 0),(14,.loc 14 0),(59,.m (.d (.int .i64 ((k:Nat):Int)))),(58,.m (.d (.int .i64 ((q.aj.length:Nat):Int)))),(57,.m (.d (.sl (q.aj.map aT.cells)))),(11,.m (.bB ir 0 all.length)),(10,.m (.d (.sl (aU all)))),(9,.m mq),(8,.m (.d (.str c))),(5,.m (.d (.bM (dN 3 q.lhs q.f (q.args.map Xp.cells) q.has (xC q.ex) (q.aj.map aT.cells) q.ps) 0))),(4,.loc 4 0),(0,.m (.ref im 0))] _ K7 rfl (λ_=>rfl) Q7.symm ?_;clear I0 Kf Q4 Q5 w7 w6 Q6;have I0:=w8.ob;have Q8:(cN c q.ps (l1++((ns++[a.name],ks),(y1,yb))::l2))[l1.length*8+5]?=some yb:=xQ c q.ps l1 l2 ((ns++[a.name],ks),(y1,yb)) (by omega);have Ix:=e9 (nV (e.m.n+1));rw[(bk (nV (e.m.n+1))).ai]at Ix;have GB:e.s.ck=G9:=Q3.2.2.trans Om;have w8:=w8.pick [2,0,1,3,4,5,6,7,8,9,10];by_cases Q9:ks=[]
   ·subst Q9;have LS:=w8.DJ;subst LS;have w9:=(w8.drop).new (.row false 8 0 (br [zX]));have Pc:=w9.ob;have Kf:=(w9.pick [1,0,2,3,4,5,6,7,8,9,10]).ob;have Ja:cV [nV (e.m.n+1)]=[xC (bk (nV (e.m.n+1)))]:=by simp[cV,Xp.ai]
    have Pd:=w9.set (.row false 8 0 (br (cV [nV (e.m.n+1)])));have FV:K7.length≠ir:=by have:=(List.getElem?_eq_some_iff.1 I0).1;omega
    have Pe:cm (br [zX]) 0 ((xC (bk (nV (e.m.n+1)))).map M.d)=some (br (cV [nV (e.m.n+1)])):=by rw[Ja];rfl
    have Pf:=xR c q.ps l1 l2 ((ns++[a.name],[]),(y1,.d (.sl []))) (ns++[a.name],[nV (e.m.n+1)]) (.bB K7.length 0 1)
    repeat refine DC.seq ?_
    apply DC.uP 10 mixed
    case hlen=>rfl
    case hd=>rfl
    case h1=>
     intro s0 Oo;refine aH rfl rfl ?_;refine aH rfl rfl ?_;refine kJ rfl rfl rfl I0 (Int.natCast_nonneg _) (by omega) ?_;refine mI rfl rfl ?_;refine pK rfl rfl I0 Q8 ?_;refine aH rfl rfl ?_;refine bX Ix rfl rfl ?_;refine oL rfl rfl rfl ?_;refine bj rfl rfl rfl rfl rfl rfl rfl rfl ?_;refine nY false rfl rfl rfl rfl (by rfl) (by simp) (by exact cO rfl) (by decide) ?_;exact TF.nil ⟨by kernel_rfl,rfl⟩
    case J9=>kernel_rfl
    case hg=>kernel_rfl
    case t1=>exact inferInstance
    case t2=>exact inferInstance
    case t3=>exact inferInstance
    case t4=>exact inferInstance
    case t5=>exact inferInstance
    case t6=>exact inferInstance
    case t7=>exact inferInstance
    case OZ=>rfl
    case MW=>rfl
    case hj=>exact Pc
    case O0=>exact Int.natCast_nonneg _
    case Hr=>decide
    case GK=>rfl
    case Ge=>rfl
    case KE=>rfl
    case LR=>exact Pe
    case MQ=>rfl
    case LS=>rfl
    case I6=>exact Kf
    case O1=>exact Int.natCast_nonneg _
    case IF=>omega
    case GO=>rfl
    case Gb=>rfl
    case Gs=>rfl
    case KM=>exact Pf
    case FV=>exact FV
    case IL=>simp
    case ID=>decide
    case J_=>rfl
    case LP=>rfl
    case MV=>rfl
    have Ph:=(Pd.pick [1,0,2,3,4,5,6,7,8,9,10]).set (.row false 8 0 (cN c q.ps (l1++((ns++[a.name],[nV (e.m.n+1)]),(y1,.bB K7.length 0 1))::l2)));have NT:=Wk.DL (rs:=cV [nV (e.m.n+1)]) (Ph.pick [1,0,2,3,4,5,6,7,8,9,10]) (by simp[cV]);have Pj:=jY.close (x:=((ns++[a.name],[nV (e.m.n+1)]),(y1,.bB K7.length 0 1))) (NT.pick [1,2,0,3,4,5,6,7,8,9,10]);have Pk:=Pj.pick [5,0,3,4,1,6,2,7]
    repeat refine DC.seq ?_
    apply DC.ae
    ·intro s0 Oo;refine aV rfl rfl rfl (by omega) ?_;refine ah rfl rfl ?_;exact TL.nil rfl
    exact cb (k':=all.length-(l1.length+1)) (by omega) ⟨l1.length+1,_,_,_,rfl,F9,Hu,IB,HJ _,by
     rw[Hv];show Wk F H [.acc 16 (bm r.q) mq,jY ir c q.ps _,.ob it aZ,dc im p (e.m.fresh (r.s.vars.ty x) e.s.ck),a_ iv r.s.vars,a_ il r.s.aS,a_ jv (e.s.vars.set x ⟨nV (e.m.n+1),e.s.ck.length,(r.s.vars.ty x).1,(r.s.vars.ty x).2⟩),a_ jl r.s.aS] _;rw[GB];exact Pk,by omega,rfl⟩ rfl rfl
   ·obtain⟨j,FD,LS,w9⟩:=w8.DK (by intro h;apply Q9;simpa [cV] using h);subst LS;have Ij:=w9.ob;have Ns:(cV ks).length=ks.length:=by simp[cV]
    have w9:=w9.set (.row false 8 (FD+1) (br (cV ks)++br [zX]));have Pc:=w9.ob;have Kf:=(w9.pick [1,0,2,3,4,5,6,7,8,9,10]).ob;have FV:=w9.ne;have Ja:cV (ks++[nV (e.m.n+1)])=cV ks++[xC (bk (nV (e.m.n+1)))]:=by simp[cV,Xp.ai]
    have Q_:(cV (ks++[nV (e.m.n+1)])).length=(cV ks).length+1:=by simp[cV]
    have Pe:cm (br (cV ks)++br [zX]) (((((cV ks).length:Nat):Int)).toNat*8) ((xC (bk (nV (e.m.n+1)))).map M.d)=some (br (cV (ks++[nV (e.m.n+1)]))):=by
     rw[Ja];have h1:=rX (a:=br (cV ks)) (b:=[]) (new:=(xC (bk (nV (e.m.n+1)))).map M.d) (fj:=br [zX]) (off:=(cV ks).length*8) (by rw[ku (n:=8)];intro r hr;simp only[cV,List.mem_map]at hr;obtain⟨v,_,rfl⟩:=hr;rw[Xp.ai];rfl) rfl;rw[List.append_nil,List.append_nil]at h1;rw[Int.toNat_natCast,h1];simp[br]
    have Pd:=w9.set (.row false 8 (FD+1) (br (cV (ks++[nV (e.m.n+1)]))));have Pf:=xR c q.ps l1 l2 ((ns++[a.name],ks),(y1,.bB j FD (cV ks).length)) (ns++[a.name],ks++[nV (e.m.n+1)]) (.bB j (FD+1) ((cV ks).length+1))
    repeat refine DC.seq ?_
    apply DC.uP 10 mixed
    case hlen=>rfl
    case hd=>rfl
    case h1=>
     intro s0 Oo;refine aH rfl rfl ?_;refine aH rfl rfl ?_;refine kJ rfl rfl rfl I0 (Int.natCast_nonneg _) (by omega) ?_;refine mI rfl rfl ?_;refine pK rfl rfl I0 Q8 ?_;refine aH rfl rfl ?_;refine bX Ix rfl rfl ?_;refine CR rfl rfl ?_;refine bj rfl rfl rfl rfl rfl rfl rfl rfl ?_;refine k_ rfl rfl rfl Ij (by rfl) (by exact cO rfl) (by rw[Ns];simp only[List.length_singleton];omega) (by rw[Ns];simp only[List.length_singleton];omega) ?_;exact TF.nil ⟨by kernel_rfl,rfl⟩
    case J9=>kernel_rfl
    case hg=>kernel_rfl
    case t1=>exact inferInstance
    case t2=>exact inferInstance
    case t3=>exact inferInstance
    case t4=>exact inferInstance
    case t5=>exact inferInstance
    case t6=>exact inferInstance
    case t7=>exact inferInstance
    case OZ=>rfl
    case MW=>rfl
    case hj=>exact Pc
    case O0=>exact Int.natCast_nonneg _
    case Hr=>exact Int.ofNat_lt.2 (Nat.lt_succ_self _)
    case GK=>rfl
    case Ge=>rfl
    case KE=>rfl
    case LR=>exact Pe
    case MQ=>rfl
    case LS=>rfl
    case I6=>exact Kf
    case O1=>exact Int.natCast_nonneg _
    case IF=>omega
    case GO=>rfl
    case Gb=>rfl
    case Gs=>rfl
    case KM=>exact Pf
    case FV=>exact FV
    case IL=>simp
    case ID=>decide
    case J_=>rfl
    case LP=>rfl
    case MV=>rfl
    have Ph:=(Pd.pick [1,0,2,3,4,5,6,7,8,9,10]).set (.row false 8 0 (cN c q.ps (l1++((ns++[a.name],ks++[nV (e.m.n+1)]),(y1,.bB j (FD+1) ((cV ks).length+1)))::l2)));have NT:=Wk.DL (rs:=cV (ks++[nV (e.m.n+1)])) (Ph.pick [1,0,2,3,4,5,6,7,8,9,10]) (by simp[cV]);rw[Q_]at NT;have Pj:=jY.close (x:=((ns++[a.name],ks++[nV (e.m.n+1)]),(y1,.bB j (FD+1) ((cV ks).length+1)))) (NT.pick [1,2,0,3,4,5,6,7,8,9,10]);have Pk:=Pj.pick [5,0,3,4,1,6,2,7]
    repeat refine DC.seq ?_
    apply DC.ae
    ·intro s0 Oo;refine aV rfl rfl rfl (by omega) ?_;refine ah rfl rfl ?_;exact TL.nil rfl
    exact cb (k':=all.length-(l1.length+1)) (by omega) ⟨l1.length+1,_,_,_,rfl,F9,Hu,IB,HJ _,by
     rw[Hv];show Wk F H [.acc 16 (bm r.q) mq,jY ir c q.ps _,.ob it aZ,dc im p (e.m.fresh (r.s.vars.ty x) e.s.ck),a_ iv r.s.vars,a_ il r.s.aS,a_ jv (e.s.vars.set x ⟨nV (e.m.n+1),e.s.ck.length,(r.s.vars.ty x).1,(r.s.vars.ty x).2⟩),a_ jl r.s.aS] _;rw[GB];exact Pk,by omega,rfl⟩ rfl rfl
  refine DC.exit ?_;obtain rfl:i=all.length:=by have:=of_decide_eq_false hc;omega
  clear hc;have FN:=hP all.length;have KB:=(hQ all.length).2.1.trans Q2;have L2:=(hQ all.length).2.2.trans Om;rw[List.take_length]at w FN KB L2;rw[List.take_of_length_le (by omega),List.drop_of_length_le (by omega),List.append_nil]at hl;clear hP hQ hN On hG NR Nq;have Lo:=FN.n;have Lp:=FN.vs;have Jt:=FN.q;rw[Ol]at Jt;have L0:=FN.sc;generalize all.foldl (di r.s) H_=i0 at Oq w FN KB L2 NQ Ke Lu FU Lo Lp Jt L0;obtain⟨gl,Ra⟩:∃gl:List Mr,gl=l:=⟨_,rfl⟩;rw[<-Ra]at w hl;clear Ra l;have hL:= λj=>bc.zf a.ps ((all.take j).filter λx=> !(dh (cX a.be) x)) L0
  have HY:= λj=>List.length_filter_le (λx=> !(dh (cX a.be) x)) (all.take j)
  have w:Wk F H [.acc 16 (bm i0.q) mq,jY ir c q.ps gl,.ob it aZ,dc im p i0.m,a_ iv r.s.vars,a_ il r.s.aS,a_ jv i0.s.vars,a_ jl i0.s.aS] H1:=by
   rw[KB,show i0.q=r.q from Oq];exact w
  repeat refine DC.seq ?_
  apply DC.ae
  ·intro s0 Oo;refine ah rfl rfl ?_
   (refine bg rfl rfl rfl ?_;rw[HZ])
   refine ah rfl rfl ?_;exact TL.nil rfl
  refine DC.ca [(133,.m (.d (.int .i64 ((0:Nat):Int)))),(132,.m (.d (.int .i64 ((all.length:Nat):Int)))),(131,.m (.d (.sl (aU all)))),(16,.loc 16 0),(14,.loc 14 0),(59,.m (.d (.int .i64 ((k:Nat):Int)))),(58,.m (.d (.int .i64 ((q.aj.length:Nat):Int)))),(57,.m (.d (.sl (q.aj.map aT.cells)))),(11,.m (.bB ir 0 all.length)),(10,.m (.d (.sl (aU all)))),(9,.m mq),(8,.m (.d (.str c))),(5,.m (.d (.bM (dN 3 q.lhs q.f (q.args.map Xp.cells) q.has (xC q.ex) (q.aj.map aT.cells) q.ps) 0))),(4,.loc 4 0),(0,.m (.ref im 0))] _ _ rfl (λ_=>rfl) rfl ?_
  repeat refine DC.seq ?_
  refine DC.block ?_;refine DC.loop (λii s1=>∃(j:Nat) (mq:M) (bx:List (Nat×List M)) (H1:Hp),s1=⟨[(133,.m (.d (.int .i64 ((j:Nat):Int)))),(132,.m (.d (.int .i64 ((all.length:Nat):Int)))),(131,.m (.d (.sl (aU all)))),(16,.loc 16 0),(14,.loc 14 0),(59,.m (.d (.int .i64 ((k:Nat):Int)))),(58,.m (.d (.int .i64 ((q.aj.length:Nat):Int)))),(57,.m (.d (.sl (q.aj.map aT.cells)))),(11,.m (.bB ir 0 all.length)),(10,.m (.d (.sl (aU all)))),(9,.m mq),(8,.m (.d (.str c))),(5,.m (.d (.bM (dN 3 q.lhs q.f (q.args.map Xp.cells) q.has (xC q.ex) (q.aj.map aT.cells) q.ps) 0))),(4,.loc 4 0),(0,.m (.ref im 0))],bx,H1⟩/\Go.Mt.get bx 4=some [.mp iv,.mp il,.d (.sl (bN s.ck))]/\Go.Mt.get bx 16=some [.mp jv,.mp jl,.d (.sl (bN G9))]/\Go.Mt.get bx 14=some ([.str a.name,.sl (aJ a.be.vars),.sl (a.be.eqs.map aF.cells),.sl (ic a.jb),.sl (ic a.jc),.int .i64 a.ps.1,.int .i64 a.ps.2].map M.d)/\
    Wk F H [.acc 16 (bm (((all.take j).filter λx=> !(dh (cX a.be) x)).foldl (eg a.ps) i0).q) mq,jY ir c q.ps gl,.ob it aZ,dc im p (((all.take j).filter λx=> !(dh (cX a.be) x)).foldl (eg a.ps) i0).m,a_ iv r.s.vars,a_ il r.s.aS,a_ jv (((all.take j).filter λx=> !(dh (cX a.be) x)).foldl (eg a.ps) i0).s.vars,a_ jl (((all.take j).filter λx=> !(dh (cX a.be) x)).foldl (eg a.ps) i0).s.aS] H1/\j<=all.length/\ii=all.length-j) all.length _
   ⟨0,mq,_,_,rfl,F9,Hu,IB,w,by omega,rfl⟩ rfl ?_
  clear w F9 Hu IB;rintro ii s1 ⟨j,mq,bx,H1,rfl,F9,Hu,IB,w,hj,rfl⟩
  repeat refine DC.seq ?_
  apply DC.ae
  ·intro s0 Oo;refine ak rfl rfl rfl rfl ?_;exact TL.nil rfl
  repeat refine DC.seq ?_
  refine DC.cond rfl (λhc=>?_) (λhc=>?_)
  ·have Gb:j<all.length:=by have:=of_decide_eq_true hc;omega
   clear hc;have G4:=fv Gb;have GZ:=hL j;have Nt:=HY j;rw[List.length_take,Nat.min_eq_left (by omega)]at Nt;have Hv:((all.take (j+1)).filter λx=> !(dh (cX a.be) x)).foldl (eg a.ps) i0=if(!(dh (cX a.be) all[j]))=true then eg a.ps (((all.take j).filter λx=> !(dh (cX a.be) x)).foldl (eg a.ps) i0) all[j]else((all.take j).filter λx=> !(dh (cX a.be) x)).foldl (eg a.ps) i0:=by
    rw[List.take_succ_eq_append_getElem Gb,List.filter_append,List.foldl_append];by_cases hh:(!(dh (cX a.be) all[j]))=true
    ·rw[if_pos hh,List.filter_cons_of_pos (p:= λx=> !(dh (cX a.be) x)) hh];rfl
    ·rw[if_neg hh,List.filter_cons_of_neg (p:= λx=> !(dh (cX a.be) x)) hh];rfl
   have Nu:=GZ.n;have Nv:=GZ.vs;have Nw:=GZ.q;have GB:=GZ.ck.trans L2;have Pl:=GZ.sc;generalize ((all.take j).filter λx=> !(dh (cX a.be) x)).foldl (eg a.ps) i0=e at w GZ Hv Nu Nv Nw GB Pl;generalize all[j]=x at G4 Hv;have Nf:=xD a.be Oj (by omega);rw[a.be.ai]at Nf;have Kp:=jn (cX a.be) x (by have:=ov a.be;omega);refine DC.skip ?_
   repeat refine DC.seq ?_
   refine DC.block ?_
   repeat refine DC.seq ?_
   apply DC.ae
   ·intro s0 Oo;refine aO rfl rfl rfl (Int.natCast_nonneg j) G4 rfl ?_;refine ax rfl rfl rfl ?_;refine aa rfl rfl ?_;exact TL.nil rfl
   cases hh:dh (cX a.be) x with
   |true=>
    rw[hh]at Kp Hv
    repeat refine DC.seq ?_
    apply DC.ae
    ·intro s0 Oo;refine aq rfl rfl ?_;refine aY rfl rfl IB rfl rfl ?_;refine bL Nf rfl rfl ?_;refine ah rfl rfl ?_;refine bL Kp rfl rfl ?_;refine iZ rfl rfl ?_;exact TL.nil rfl
    repeat refine DC.seq ?_
    refine DC.aC rfl ?_;refine DC.skip ?_
    repeat refine DC.seq ?_
    apply DC.ae
    ·intro s0 Oo;refine aV rfl rfl rfl (by omega) ?_;refine ah rfl rfl ?_;exact TL.nil rfl
    exact cb (k':=all.length-(j+1)) (by omega) ⟨j+1,_,_,_,rfl,F9,Hu,IB,by rw[Hv];exact w,by omega,rfl⟩ rfl rfl
   |false=>
    rw[hh]at Kp Hv;simp only[Bool.not_false,if_true]at Hv;have KD:eg a.ps e x=⟨⟨e.s.vars,(cu e.s.aS G9 e.m x).1,e.s.ck⟩,(cu e.s.aS G9 e.m x).2.1,e.q++(cu e.s.aS G9 e.m x).2.2++[fG (e.s.vars.nm x) (bk ((cu e.s.aS G9 e.m x).1.nm x)) a.ps]⟩:=by
     unfold eg;rw[iF];dsimp only;rw[GB]
    rw[KD]at Hv;have JA:=jz e.s.aS e.s.ck e.m x Pl.l;rw[GB]at JA;have J9:∀b,e.s.aS x=some b->b.jm<=G9.length:= λb hb=>by rw[<-GB];exact Pl.l x b hb
    obtain⟨_,K5,l',⟨rfl,rfl⟩,w5,Hq⟩:=Wk.call (a:=[.ob it aZ,dc im p e.m,a_ jl e.s.aS]) (r:=[_,_,_,_,_]) (w.pick [2,3,7,0,1,4,5,6]) (pw it im p e.m jv jl G9 e.s.aS x (by omega) (by omega) (by omega) J9);generalize cu e.s.aS G9 e.m x=sf at w5 Hq Hv JA;obtain⟨lf,mf,qf⟩:=sf
    dsimp only at w5 Hq Hv JA
    have w5:=w5.pick [3,0,1,2,4,5,6,7];have w6:=w5.app (bm qf);rw[<-dB]at w6;have w7:=w6.pick [7,0,1,2,3,4,5,6];obtain⟨ej,Nr,w7⟩:=a_.open w7;have Ij:=w7.ob;have w7:=w7.pick [4,0,1,2,3,5,6,7];obtain⟨el,Lr,w7⟩:=a_.open w7;have SC:=w7.ob;have w7:=w7.pick [2,0,1,3,4,5,6,7];have Ix:=e9 (lf.nm x);rw[(bk (lf.nm x)).ai]at Ix;have Hh:=kQ (e.s.vars.nm x) (bk (lf.nm x)) a.ps;rw[cI,(bk (lf.nm x)).ai]at Hh;have TH:(bm qf).length<=1:=by have:=JA.2.2.2;simpa [bm] using this
    have TI:(bm e.q).length<=200000000:=by simp only[bm,List.length_map];omega
    have SD:(bm (e.q++qf)).length<=300000000:=by rw[dB,List.length_append];omega
    repeat refine DC.seq ?_
    apply DC.ae
    ·intro s0 Oo;refine aq rfl rfl ?_;refine aY rfl rfl IB rfl rfl ?_;refine bL Nf rfl rfl ?_;refine ah rfl rfl ?_;refine bL Kp rfl rfl ?_;refine iZ rfl rfl ?_;exact TL.nil rfl
    repeat refine DC.seq ?_
    refine DC.cr rfl ?_
    repeat refine DC.seq ?_
    apply DC.ae
    ·intro s0 Oo;refine ah rfl rfl ?_;refine ah rfl rfl ?_;refine cy rfl rfl Hu rfl rfl ?_;refine ah rfl rfl ?_;refine bn Hq rfl rfl ?_;refine cK w5 rfl rfl rfl rfl rfl rfl (cg _) (by omega) ?_;refine aa rfl rfl ?_;exact TL.nil rfl
    repeat refine DC.seq ?_
    apply DC.da mixed
    ·intro s0 Oo;refine aH rfl rfl ?_;refine aP rfl rfl ?_;refine bw rfl rfl Hu rfl ?_;refine aH rfl rfl ?_;refine pu Nr Ij rfl rfl rfl ?_;refine ta rfl rfl rfl rfl ?_;refine aP rfl rfl ?_;refine bw rfl rfl Hu rfl ?_;refine aH rfl rfl ?_;refine pu Lr SC rfl rfl rfl ?_;refine ta rfl rfl rfl rfl ?_;refine bX Ix rfl rfl ?_;refine aP rfl rfl ?_;refine bo rfl rfl IB rfl rfl ?_;refine bX Hh rfl rfl ?_;refine bj rfl rfl rfl rfl rfl rfl rfl rfl ?_;refine fV w7 rfl rfl rfl rfl rfl rfl rfl (by omega) ?_;refine eA rfl rfl ?_;exact TF.nil ⟨by kernel_rfl,rfl⟩
    have w8:=w7.app [dN 1 [e.s.vars.nm x] ⟨#[]⟩ [] false (xC (bk (lf.nm x))) [] a.ps];have L4:bm (e.q++qf)++[dN 1 [e.s.vars.nm x] ⟨#[]⟩ [] false (xC (bk (lf.nm x))) [] a.ps]=bm (e.q++qf++[fG (e.s.vars.nm x) (bk (lf.nm x)) a.ps]):=by
     rw[dB (e.q++qf)];show _=bm (e.q++qf)++[(fG (e.s.vars.nm x) (bk (lf.nm x)) a.ps).cells];rw[cI]
    rw[L4]at w8;have w8:=a_.close Lr (w8.pick [1,0,2,3,4,5,6,7]);have w8:=a_.close Nr (w8.pick [2,0,1,3,4,5,6,7])
    repeat refine DC.seq ?_
    apply DC.ae
    ·intro s0 Oo;refine aV rfl rfl rfl (by omega) ?_;refine ah rfl rfl ?_;exact TL.nil rfl
    exact cb (k':=all.length-(j+1)) (by omega) ⟨j+1,_,_,_,rfl,F9,Hu,IB,by rw[Hv];exact w8.pick [2,5,3,4,6,7,0,1],by omega,rfl⟩ rfl rfl
  refine DC.exit ?_;obtain rfl:j=all.length:=by have:=of_decide_eq_false hc;omega
  clear hc;have GZ:=hL all.length;have Nt:=HY all.length;rw[List.take_length]at w GZ Nt;clear hL HY
  dsimp only[hU]at Lu Ke FU
  have Nu:=GZ.n;have Nv:=GZ.vs;have Nw:=GZ.q;have GB:=GZ.ck.trans L2;generalize (all.filter λx=> !(dh (cX a.be) x)).foldl (eg a.ps) i0=i1 at w GZ Lu Ke FU Nu Nv Nw GB;obtain⟨_,K5,l',⟨rfl,rfl⟩,w5,Hq⟩:=Wk.call (a:=dG it im jv jl p ⟨i1.s,i1.m,[]⟩) (r:=[_,_,_,_]) (w.pick [2,3,6,7,0,1,4,5]) (Lu jv jl);rw[GB,a.be.ai]at Hq;generalize gx p.ao false a.be i1.s i1.m=zb at w5 Hq Ke FU;obtain⟨mb,qb⟩:=zb
  dsimp only at w5 Hq Ke FU
  have w5:Wk F H (.acc 16 (bm i1.q) mq::jY ir c q.ps gl::dG it im iv il p ⟨r.s,mb,[]⟩) K5:=w5.pick [2,3,0,1,4,5];have w6:=w5.app (bm qb);rw[<-dB]at w6;have TJ:(bm i1.q).length+(bm qb).length<=100000000:=by rw[List.length_append]at Ke;simp only[bm,List.length_map];omega
  repeat refine DC.seq ?_
  apply DC.ae
  ·intro s0 Oo;refine ah rfl rfl ?_;refine ah rfl rfl ?_;refine cy rfl rfl Hu rfl rfl ?_;refine aq rfl rfl ?_;refine aY rfl rfl IB rfl rfl ?_;refine bn Hq rfl rfl ?_;refine cK w5 rfl rfl rfl rfl rfl rfl (cg _) (by omega) ?_;refine aa rfl rfl ?_;exact TL.nil rfl
  repeat refine DC.seq ?_
  apply DC.ae
  ·intro s0 Oo;refine aV rfl rfl rfl (by omega) ?_;refine ah rfl rfl ?_;exact TL.nil rfl
  exact cb (k':=q.aj.length-(k+1)) (by omega) ⟨k+1,_,gl,_,_,rfl,F9,by rw[hl,NQ,Kz,FU],by rw[FU];exact w6,by omega,rfl⟩ rfl rfl
 refine DC.exit ?_;obtain rfl:k=q.aj.length:=by have:=of_decide_eq_false hc;omega
 clear hc hR;rw[List.take_length]at w hl;have Rb:(cd p.ao c all q.aj r1 []).2.length<=1000:=by rw[tI,List.length_nil];omega
 generalize cd p.ao c all q.aj r1 []=zz at w hl hZ Rb⊢;obtain⟨z,vz⟩:=zz
 dsimp only at w hl hZ Rb⊢
 have w:=uu.start (w.pick [1,0,2,3,4,5]);have SE:l.length=all.length:=by have:=congrArg List.length hl;rw[List.length_map,pA]at this;exact this
 repeat refine DC.seq ?_
 apply DC.ae
 ·intro s0 Oo;refine ah rfl rfl ?_
  (refine bg rfl rfl rfl ?_;rw[HZ])
  refine ah rfl rfl ?_;exact TL.nil rfl
 refine DC.ca [(177,.m (.d (.int .i64 ((0:Nat):Int)))),(176,.m (.d (.int .i64 ((all.length:Nat):Int)))),(175,.m (.d (.sl (aU all)))),(11,.m (.bB ir 0 all.length)),(9,.m mq),(8,.m (.d (.str c))),(5,.m (.d (.bM (dN 3 q.lhs q.f (q.args.map Xp.cells) q.has (xC q.ex) (q.aj.map aT.cells) q.ps) 0))),(4,.loc 4 0)] _ _ rfl (λ_=>rfl) rfl ?_
 repeat refine DC.seq ?_
 refine DC.block ?_;refine DC.loop (λii s1=>∃(i:Nat) (mq:M) (l:List Mr) (bx:List (Nat×List M)) (H1:Hp),s1=⟨[(177,.m (.d (.int .i64 ((i:Nat):Int)))),(176,.m (.d (.int .i64 ((all.length:Nat):Int)))),(175,.m (.d (.sl (aU all)))),(11,.m (.bB ir 0 all.length)),(9,.m mq),(8,.m (.d (.str c))),(5,.m (.d (.bM (dN 3 q.lhs q.f (q.args.map Xp.cells) q.has (xC q.ex) (q.aj.map aT.cells) q.ps) 0))),(4,.loc 4 0)],bx,H1⟩/\Go.Mt.get bx 4=some [.mp iv,.mp il,.d (.sl (bN s.ck))]/\
   l.map Prod.fst=(tJ all.length (q.aj.map aT.name) vz).drop i/\
   Wk F H (uu ir c q.ps i l:: .acc 16 (bm (z.q++(List.range i).map λi=>fG (z.s.vars.nm (all[i]?.getD ⟨#[]⟩)) (.mk 13 0 0 c (q.aj.map aT.name) (vz.map λvs=>bk (vs[i]?.getD ⟨#[]⟩)) q.ps) q.ps)) mq::dG it im iv il p ⟨z.s,z.m,[]⟩) H1/\i<=all.length/\ii=all.length-i) all.length _
  ⟨0,mq,l,_,_,rfl,F9,hl,by rw[List.range_zero,List.map_nil,List.append_nil];exact w,by omega,rfl⟩ rfl ?_
 clear w F9 hl SE;rintro ii s1 ⟨i,mq,l,bx,H1,rfl,F9,hl,w,hi,rfl⟩
 repeat refine DC.seq ?_
 apply DC.ae
 ·intro s0 Oo;refine ak rfl rfl rfl rfl ?_;exact TL.nil rfl
 repeat refine DC.seq ?_
 refine DC.cond rfl (λhc=>?_) (λhc=>?_)
 ·have Gb:i<all.length:=by have:=of_decide_eq_true hc;omega
  clear hc;have G4:=fv Gb;have SF:=pA all.length (q.aj.map aT.name) vz;rw[<-List.getElem_cons_drop (by rw[SF];exact Gb),tK]at hl;obtain⟨y,l2,rfl,hy,IF⟩:=List.map_eq_cons_iff.1 hl;obtain⟨y1,ya,yb⟩:=y
  dsimp only at hy
  subst hy;obtain⟨A,hA,w⟩:=uu.open w
  dsimp only at w
  have w:=w.pick [2,0,1,3,4,5,6,7,8];obtain⟨H2,w,Nx⟩:=w.B6;have IJ:=w.view (zj _);have H8:=(w.pick [2,0,1,3,4,5,6,7,8]).view (et _);have w:=(w.drop).pick [1,0,2,3,4,5,6,7];have w:=w.drop;have I0:=w.ob;have IZ:=CD (c:=c) (p:=q.ps) (x:=((q.aj.map aT.name,vz.map λv=>v[i]?.getD ⟨#[]⟩),(ya,yb))) (A:=A) (B:=cN c q.ps l2) H8 IJ;refine Nx (DC.qg I0 IZ.1 IZ.2 ?_);have w:=w.set (.row false 8 0 (A++(fH c q.ps ((q.aj.map aT.name,vz.map λv=>v[i]?.getD ⟨#[]⟩),(.d (.sl (aU (q.aj.map aT.name))),.d (.sl (cV (vz.map λv=>v[i]?.getD ⟨#[]⟩)))))++cN c q.ps l2)));generalize H2.set ir (.row false 8 0 (A++(fH c q.ps ((q.aj.map aT.name,vz.map λv=>v[i]?.getD ⟨#[]⟩),(.d (.sl (aU (q.aj.map aT.name))),.d (.sl (cV (vz.map λv=>v[i]?.getD ⟨#[]⟩)))))++cN c q.ps l2)))=H3 at w⊢;clear I0 IZ H8 IJ Nx;have I0:=w.ob;have w:=w.pick [5,0,1,2,3,4,6];obtain⟨ev,IZ,w⟩:=a_.open w;have NS:=w.ob;have w:=w.pick [3,0,1,2,4,5,6];have Hh:=kQ (z.s.vars.nm all[i]) (.mk 13 0 0 c (q.aj.map aT.name) (vz.map λv=>bk (v[i]?.getD ⟨#[]⟩)) q.ps) q.ps;have Ja:cV (vz.map λv=>v[i]?.getD ⟨#[]⟩)=(vz.map λv=>bk (v[i]?.getD ⟨#[]⟩)).map Xp.cells:=by simp[cV]
  rw[cI,Xp.ai]at Hh;rw[Ja]at w I0;have SG:((A++(fH c q.ps ((q.aj.map aT.name,vz.map λv=>v[i]?.getD ⟨#[]⟩),(.d (.sl (aU (q.aj.map aT.name))),.d (.sl ((vz.map λv=>bk (v[i]?.getD ⟨#[]⟩)).map Xp.cells))))++cN c q.ps l2)).drop ((((i:Nat):Int)).toNat*8)).take 8=fH c q.ps ((q.aj.map aT.name,vz.map λv=>v[i]?.getD ⟨#[]⟩),(.d (.sl (aU (q.aj.map aT.name))),.d (.sl ((vz.map λv=>bk (v[i]?.getD ⟨#[]⟩)).map Xp.cells)))):=by
   rw[Int.toNat_natCast,List.drop_append,hA,Nat.sub_self,List.drop_of_length_le (by omega),List.nil_append,List.drop_zero];rw[List.take_append_of_le_length (by simp[fH])];rfl
  have hle:(((i:Nat):Int)).toNat*8+8<=(A++(fH c q.ps ((q.aj.map aT.name,vz.map λv=>v[i]?.getD ⟨#[]⟩),(.d (.sl (aU (q.aj.map aT.name))),.d (.sl ((vz.map λv=>bk (v[i]?.getD ⟨#[]⟩)).map Xp.cells))))++cN c q.ps l2)).length:=by
   rw[Int.toNat_natCast,List.length_append,List.length_append,hA];simp[fH];try omega
  have U1:(bm (z.q++(List.range i).map λi=>fG (z.s.vars.nm (all[i]?.getD ⟨#[]⟩)) (.mk 13 0 0 c (q.aj.map aT.name) (vz.map λvs=>bk (vs[i]?.getD ⟨#[]⟩)) q.ps) q.ps)).length<=200000000:=by
   simp only[bm,List.length_map,List.length_append,List.length_range];omega
  refine DC.skip ?_
  repeat refine DC.seq ?_
  refine DC.block ?_
  repeat refine DC.seq ?_
  apply DC.ae
  ·intro s0 Oo;refine ah rfl rfl ?_;refine aO rfl rfl rfl (Int.natCast_nonneg i) G4 rfl ?_;refine ax rfl rfl rfl ?_;refine aa rfl rfl ?_;refine aa rfl rfl ?_;exact TL.nil rfl
  repeat refine DC.seq ?_
  apply DC.da mixed
  ·intro s0 Oo;refine aH rfl rfl ?_;refine aP rfl rfl ?_;refine bw rfl rfl F9 rfl ?_;refine aH rfl rfl ?_;refine pu IZ NS rfl rfl rfl ?_;refine ta rfl rfl rfl rfl ?_;refine aH rfl rfl ?_;refine aH rfl rfl ?_;refine kJ rfl rfl rfl I0 (Int.natCast_nonneg _) (by omega) ?_;refine Aq rfl rfl I0 SG hle rfl ?_;refine bY rfl rfl ?_;refine eY rfl rfl rfl ?_;refine bX Hh rfl rfl ?_;refine bj rfl rfl rfl rfl rfl rfl rfl rfl ?_;refine fV w rfl rfl rfl rfl rfl rfl rfl (by omega) ?_;refine eA rfl rfl ?_;exact TF.nil ⟨by kernel_rfl,rfl⟩
  have w2:=w.app [dN 1 [z.s.vars.nm all[i]] ⟨#[]⟩ [] false (xC (.mk 13 0 0 c (q.aj.map aT.name) (vz.map λv=>bk (v[i]?.getD ⟨#[]⟩)) q.ps)) [] q.ps];have L4:bm (z.q++(List.range i).map λi=>fG (z.s.vars.nm (all[i]?.getD ⟨#[]⟩)) (.mk 13 0 0 c (q.aj.map aT.name) (vz.map λvs=>bk (vs[i]?.getD ⟨#[]⟩)) q.ps) q.ps)++[dN 1 [z.s.vars.nm all[i]] ⟨#[]⟩ [] false (xC (.mk 13 0 0 c (q.aj.map aT.name) (vz.map λv=>bk (v[i]?.getD ⟨#[]⟩)) q.ps)) [] q.ps]=bm (z.q++(List.range (i+1)).map λi=>fG (z.s.vars.nm (all[i]?.getD ⟨#[]⟩)) (.mk 13 0 0 c (q.aj.map aT.name) (vz.map λvs=>bk (vs[i]?.getD ⟨#[]⟩)) q.ps) q.ps):=by
   rw[List.range_succ,List.map_append,<-List.append_assoc,dB (z.q++_)];show _=bm _++[(fG (z.s.vars.nm (all[i]?.getD ⟨#[]⟩)) (.mk 13 0 0 c (q.aj.map aT.name) (vz.map λvs=>bk (vs[i]?.getD ⟨#[]⟩)) q.ps) q.ps).cells];rw[cI,show all[i]?.getD ⟨#[]⟩=all[i] by simp[Gb]]
  rw[L4]at w2
  repeat refine DC.seq ?_
  apply DC.ae
  ·intro s0 Oo;refine aV rfl rfl rfl (by omega) ?_;refine ah rfl rfl ?_;exact TL.nil rfl
  have w3:=a_.close IZ (w2.pick [1,0,2,3,4,5,6]);have w3:=w3.pick [2,3,1,4,5,0,6];rw[<-List.append_assoc]at w3;have w3:=uu.close (k:=i+1) (by rw[List.length_append,hA];simp[fH];try omega) w3;exact cb (k':=all.length-(i+1)) (by omega) ⟨i+1,_,l2,_,_,rfl,F9,IF,w3,by omega,rfl⟩ rfl rfl
 refine DC.exit ?_;obtain rfl:i=all.length:=by have:=of_decide_eq_false hc;omega
 have w:=w.drop;have IR:=w.view (cg _)
 repeat refine DC.seq ?_
 apply DC.ae
 ·intro s0 Oo;refine ah rfl rfl ?_;refine aa rfl rfl ?_;exact TL.nil rfl
 refine DC.bC 6 rfl IR ?_;exact DC.ret ⟨_,rfl,_,⟨rfl,rfl⟩,w.drop⟩
end Go.Proofs.Pz
namespace Go.Ps
open Go.Mt Go.Sm
section
variable{en:List En}{T:TE}
theorem hY.get:∀{l:List aF},hY en T l->∀q∈l,wo en T q
 |[],_,q,h=>by simp at h
 |a::l,hw,q,h=>by
  rw[hY]at hw;rcases List.mem_cons.1 h with rfl|h
  ·exact hw.1
  ·exact hY.get hw.2 q h
theorem hY.take:∀{l:List aF} (i:Nat),hY en T l->hY en T (l.take i)
 |l,0,_=>by rw[List.take_zero,hY];trivial
 |[],i+1,h=>by rw[List.take_nil];exact h
 |a::l,i+1,hw=>by
  rw[hY]at hw;rw[List.take_succ_cons,hY];exact⟨hw.1,hY.take i hw.2⟩
theorem gy.get:∀{l:List aT},gy en T l->∀a∈l,rJ en T a.be
 |[],_,q,h=>by simp at h
 |.mk n b u w p::l,hw,q,h=>by
  rw[gy]at hw;rcases List.mem_cons.1 h with rfl|h
  ·exact hw.1
  ·exact gy.get hw.2 q h
theorem gy.take:∀{l:List aT} (i:Nat),gy en T l->gy en T (l.take i)
 |l,0,_=>by rw[List.take_zero,gy];trivial
 |[],i+1,h=>by rw[List.take_nil];exact h
 |.mk n b u w p::l,i+1,hw=>by
  rw[gy]at hw;rw[List.take_succ_cons,gy];exact⟨hw.1,gy.take i hw.2⟩
end
theorem tM:∀{l:List aF} {i:Nat} (h:i<l.length),mu (l.take i)+tG l[i]<=mu l
 |[],i,h=>by simp at h
 |a::l,0,h=>by rw[List.take_zero,mu,mu,List.getElem_cons_zero];omega
 |a::l,i+1,h=>by
  have:=tM (l:=l) (i:=i) (by simpa using h);rw[List.take_succ_cons,mu,mu,List.getElem_cons_succ];omega
theorem tN:∀(l:List aF) (i:Nat),mz (l.take i)<=mz l
 |l,0=>by rw[List.take_zero,mz];omega
 |[],i+1=>by rw[List.take_nil];omega
 |a::l,i+1=>by have:=tN l i;rw[List.take_succ_cons,mz,mz];omega
theorem ve:∀{l:List aF} {q:aF},q∈l->zg q<=mz l
 |[],q,h=>by simp at h
 |a::l,q,h=>by
  rw[mz];rcases List.mem_cons.1 h with rfl|h
  ·omega
  ·have:=ve h;omega
theorem oB(n:Nat):∀{l:List aT} {i:Nat} (h:i<l.length),fY n (l.take i)+(1+3*n+oA l[i].be)<=fY n l
 |[],i,h=>by simp at h
 |.mk _ b _ _ _::l,0,h=>by rw[List.take_zero,fY,fY,List.getElem_cons_zero];simp only[aT.be];omega
 |.mk _ b _ _ _::l,i+1,h=>by
  have:=oB n (l:=l) (i:=i) (by simpa using h);rw[List.take_succ_cons,fY,fY,List.getElem_cons_succ];omega
theorem xV(n:Nat):∀(l:List aT) (i:Nat),fY n (l.take i)<=fY n l
 |l,0=>by rw[List.take_zero,fY];omega
 |[],i+1=>by rw[List.take_nil];omega
 |.mk _ b _ _ _::l,i+1=>by have:=xV n l i;rw[List.take_succ_cons,fY,fY];omega
theorem oC:∀(l:List aT) (i:Nat),kT (l.take i)<=kT l
 |l,0=>by rw[List.take_zero,kT];omega
 |[],i+1=>by rw[List.take_nil];omega
 |.mk _ b _ _ _::l,i+1=>by have:=oC l i;rw[List.take_succ_cons,kT,kT];omega
theorem qF:∀{l:List aT} {a:aT},a∈l->1+xO a.be<=kT l
 |[],q,h=>by simp at h
 |.mk _ b _ _ _::l,q,h=>by
  rw[kT];rcases List.mem_cons.1 h with rfl|h
  ·simp only[aT.be];omega
  ·have:=qF h;omega
end Go.Ps
namespace Go.Proofs.Pz
open Go.Mt Go.Sm Go.Ps Go.Proofs
section
variable(it im:Nat)(p:Pg)(G7:q_ p.ao)
include G7
mutual
theorem Af:∀(b:bJ) (own:Bool) (s:Sc) (m:MS) (T:TE) (N:Nat),rJ p.ao T b->cF s->cw s T->hM T N->N+oA b<=900000->s.ck.length+xO b<=90000->m.n+oA b<=800000->m.vars.length+oA b<=800000->qE it im p p.ao own b s m
 |.mk vars eqs,own,s,m,T,N,hw,hs,ht,JO,hN,hd,hn,hv=>by
  rw[rJ]at hw;rw[oA]at hN hn hv;rw[xO]at hd;obtain⟨FX,Jr,KH,Pm⟩:=hw;intro iv il;refine Bm it im iv il p p.ao own (.mk vars eqs) s m hs (by omega) Jr FX (by simp only[bJ.vars];omega) (by simp only[bJ.vars];omega) KH ?_;intro i hi;have g1:=bc.open (r:=⟨s,m,[]⟩) hs own vars;have t1:=cw.open (r:=⟨s,m,[]⟩) own ht vars;have FL:i<eqs.length:=hi;show(eu p.ao (eqs.take i) (lx own ⟨s,m,[]⟩ vars)).s.ck=s.ck/\Ac it im p p.ao eqs[i] (eu p.ao (eqs.take i) (lx own ⟨s,m,[]⟩ vars))/\(gi p.ao eqs[i] (eu p.ao (eqs.take i) (lx own ⟨s,m,[]⟩ vars))).q.length<=100000000;have h1:=tM FL;have h2:=tN eqs i;have h3:=ve (List.getElem_mem FL);obtain⟨g2,t2⟩:=tH p.ao (eqs.take i) (lx own ⟨s,m,[]⟩ vars) _ g1.sc t1 (Pm.take i) (by rw[g1.ck];dsimp only;omega);have g3:=g1.trans g2;have GI:=g3.ck;have MV:=g3.n;have O3:=g3.vs;have O4:=g3.q
  dsimp only[List.length_nil]at GI MV O3 O4
  obtain⟨g4,_⟩:=Ae p.ao eqs[i] _ _ g2.sc t2 (Pm.get _ (List.getElem_mem FL)) (by rw[GI];omega);have SH:=g4.q;refine⟨GI,Ah eqs eqs[i] (List.getElem_mem FL) _ _ (N+vars.length) (Pm.get _ (List.getElem_mem FL)) g2.sc t2 (JO.Cz vars) (by omega) (by rw[GI];omega) (by omega) (by omega),?_⟩;exact Nat.le_trans SH (by omega)
theorem Ah:∀(l:List aF) (q:aF),q∈l->∀(r:Ps.R) (T:TE) (N:Nat),wo p.ao T q->cF r.s->cw r.s T->hM T N->N+tG q<=900000->r.s.ck.length+zg q<=90000->r.m.n+tG q<=800000->r.m.vars.length+tG q<=800000->Ac it im p p.ao q r
 |[],q,h=>by simp at h
 |a::l,q,h=>by
  rcases List.mem_cons.1 h with h|h
  ·rw[h];exact Eo a
  ·exact Ah l q h
theorem Eo:∀(q:aF) (r:Ps.R) (T:TE) (N:Nat),wo p.ao T q->cF r.s->cw r.s T->hM T N->N+tG q<=900000->r.s.ck.length+zg q<=90000->r.m.n+tG q<=800000->r.m.vars.length+tG q<=800000->Ac it im p p.ao q r
 |.mk k lhs f args has e aj ps,r,T,N,hw,hs,ht,JO,hN,hd,hn,hv=>by
  rw[wo]at hw;rw[tG]at hN hn hv;rw[zg]at hd;obtain⟨GV,KS,hk,Lt⟩:=hw;intro iv il;rcases hk with h1|h1|⟨h1,FV⟩|⟨h1,Gl,Hh,JN,Gr,KP,Kq⟩
  ·exact Bf it im iv il p p.ao r.s r.m (.mk k lhs f args has e aj ps) h1 GV hs (by simp only[aF.ex];omega) (by simp only[aF.ex];omega) (by simp only[aF.ex];omega) (by simp only[aF.lhs];omega)
  ·exact za it im iv il p p.ao r.s r.m (.mk k lhs f args has e aj ps) h1 KS GV hs (by simp only[aF.ex,aF.args];omega) (by simp only[aF.ex,aF.args];omega) (by simp only[aF.lhs];omega) (by simp only[aF.args];omega)
  ·have Hg:=bc.val (r:=⟨r.s,r.m,[]⟩) hs e (1,⟨#[]⟩);have Kg:=cw.val (r:=⟨r.s,r.m,[]⟩) ht e (1,⟨#[]⟩);have GI:=Hg.ck;have J_:=Hg.n;have H8:=Hg.vs
   dsimp only at GI J_ H8
   obtain⟨a,ar,KD⟩:∃a ar,aj=a::ar:=by
    cases Pn:aj with
    |nil=>exact absurd Pn FV
    |cons a ar=>exact⟨a,ar,rfl⟩
   have Po:a∈aj:=by rw[KD];simp
   have P7:=qF Po;have SI:1+3*(bE lhs aj).length+oA a.be<=fY (bE lhs aj).length aj:=by
    have h0:0<aj.length:=by rw[KD];simp
    have:=oB (bE lhs aj).length h0;have e:aj[0]=a:=by simp[KD]
    rw[e,List.take_zero,fY]at this;omega
   exact xL it im iv il p p.ao r.s r.m (.mk k lhs f args has e aj ps) a ar h1 KD GV hs (by simp only[aF.ex];omega) (by simp only[aF.ex];omega) (by simp only[aF.ex];omega)
    (tO aj a Po _ _ T N (Lt.get a Po) Hg.sc Kg JO (by omega) (by simp only[aF.ex];rw[GI];omega) (by simp only[aF.ex];omega) (by simp only[aF.ex];omega))
  ·have IE:=ht.ty;have Hg:=bc.val (r:=⟨r.s,r.m,[]⟩) hs e (cQ p.ao r.s.vars.ty e);have Kg:=cw.val (r:=⟨r.s,r.m,[]⟩) ht e (cQ p.ao r.s.vars.ty e);have Nj:=ht.EU JO;have Rc:qx p.ao r.s.vars.ty (λx=>(r.s.vars x).isSome=true) e:=by
    rw[IE];exact Gl.mono λx hx=>by rw[ht.some];exact hx
   obtain⟨r1,I'⟩:∃r1,r1=Ps.d_ ⟨r.s,r.m,[]⟩ e (cQ p.ao r.s.vars.ty e):=⟨_,rfl⟩;rw[<-I']at Hg Kg;have GI:=Hg.ck;have J_:=Hg.n;have H8:=Hg.vs;have NL:=Hg.q
   dsimp only[List.length_nil]at GI J_ H8 NL
   have Lw:(bE lhs aj).length<=800000:=by omega
   refine wl it im iv il p r.s r.m (.mk k lhs f args has e aj ps) h1 _ (zk it im iv il p G7 r.s r.m (.mk k lhs f args has e aj ps) h1 hs GV Rc (by obtain⟨l,q1,q2⟩:=Nj;exact⟨l,by omega,q2⟩) JN Gr (by rw[lG];exact KP) (by rw[bV];exact nj aj Kq) (by rw[bV];omega) (by omega)
    (by simp only[aF.ex];omega) (by simp only[aF.ex];omega) r1 I' ?_ ?_)
   ·rw[show bV (.mk k lhs f args has e aj ps)=bE lhs aj by rw[bV]];intro i hi;have FL:i<aj.length:=hi;show(cd p.ao (nV r1.m.n) (bE lhs aj) (aj.take i) r1 []).1.s=r1.s/\(cd p.ao (nV r1.m.n) (bE lhs aj) (aj.take i) r1 []).1.m.n+3*(bE lhs aj).length<=900000/\(cd p.ao (nV r1.m.n) (bE lhs aj) (aj.take i) r1 []).1.m.vars.length+3*(bE lhs aj).length<=900000/\
     (cd p.ao (nV r1.m.n) (bE lhs aj) (aj.take i) r1 []).1.q.length<=100000000/\(cd p.ao (nV r1.m.n) (bE lhs aj) (aj.take (i+1)) r1 []).1.q.length<=100000000/\
     qE it im p p.ao false aj[i].be (hU (bE lhs aj) aj[i].be aj[i].ps (gH (nV r1.m.n) (bE lhs aj) aj[i].name (cd p.ao (nV r1.m.n) (bE lhs aj) (aj.take i) r1 []).1)).s (hU (bE lhs aj) aj[i].be aj[i].ps (gH (nV r1.m.n) (bE lhs aj) aj[i].name (cd p.ao (nV r1.m.n) (bE lhs aj) (aj.take i) r1 []).1)).m
    have w1:=oB (bE lhs aj).length FL;have w2:=xV (bE lhs aj).length aj (i+1);have d1:=oC aj i;have d2:=oC aj (i+1);have d3:=qF (List.getElem_mem FL);obtain⟨z1,z2⟩:=mA p.ao (aj.take i) (nV r1.m.n) (bE lhs aj) r1 [] T Hg.sc Kg Hh (Lt.take i) (by rw[GI];omega);obtain⟨z3,_⟩:=mA p.ao (aj.take (i+1)) (nV r1.m.n) (bE lhs aj) r1 [] T Hg.sc Kg Hh (Lt.take (i+1)) (by rw[GI];omega);have zn:=z1.n;have zv:=z1.vs;have zq:=z1.q;have U2:=z3.q;generalize cd p.ao (nV r1.m.n) (bE lhs aj) (aj.take i) r1 []=z at z1 z2 zn zv zq⊢;obtain⟨z,vz⟩:=z
    dsimp only at z1 z2 zn zv zq⊢
    have Kl:z.s.ck=r.s.ck:=by rw[z2,GI]
    have tz:cw z.s T:=by rw[z2];exact Kg
    have g1:=bc.mh (r:=z) z1.sc (by rw[Kl];omega) (nV r1.m.n) (bE lhs aj) aj[i].name aj[i].be aj[i].ps;have ti:cw (hU (bE lhs aj) aj[i].be aj[i].ps (gH (nV r1.m.n) (bE lhs aj) aj[i].name z)).s T:=(cw.oz tz (bE lhs aj) (r:=⟨⟨z.s.vars,z.s.aS,z.s.ck++[(aj[i].name,nV r1.m.n)]⟩,z.m,z.q⟩) Hh (tz.vars rfl)).vars (mr _ _ _);have gc:=g1.ck;have gn:=g1.n;have gv:=g1.vs
    dsimp only at gc gn gv
    have SJ:=congrArg List.length gc;rw[List.length_append,List.length_singleton,Kl]at SJ;exact⟨z2,by omega,by omega,by omega,by omega,tO aj aj[i] (List.getElem_mem FL) _ _ T N (Lt.get _ (List.getElem_mem FL)) g1.sc ti JO (by omega) (by omega) (by omega) (by omega)⟩
   ·rw[show bV (.mk k lhs f args has e aj ps)=bE lhs aj by rw[bV]];obtain⟨z1,z2⟩:=mA p.ao aj (nV r1.m.n) (bE lhs aj) r1 [] T Hg.sc Kg Hh Lt (by rw[GI];omega);exact⟨z2,by have:=z1.q;simp only[aF.aj];omega⟩
theorem tO:∀(l:List aT) (a:aT),a∈l->∀(s:Sc) (m:MS) (T:TE) (N:Nat),rJ p.ao T a.be->cF s->cw s T->hM T N->N+oA a.be<=900000->s.ck.length+xO a.be<=90000->m.n+oA a.be<=800000->m.vars.length+oA a.be<=800000->qE it im p p.ao false a.be s m
 |[],a,h=>by simp at h
 |.mk n b u w p'::l,a,h=>by
  rcases List.mem_cons.1 h with rfl|h
  ·exact Af b false
  ·exact tO l a h
end
end
end Go.Proofs.Pz
namespace Go.Ps
open Go.Mt Go.Sm
theorem cw.uh{r:R}{T:TE}(h:cw r.s T)(v:Va):cw (fF r v).s (T.add v):=by
 unfold fF;refine cw.vars (s:={r.s with vars:=r.s.vars.set v.name ⟨v.name,0,v.tk,v.tn⟩}) ?_ (rr _ _ _);intro y;show((Env.set r.s.vars v.name _) y).map _=_;unfold Env.set TE.add;by_cases e:y=v.name
 ·rw[if_pos e,if_pos e];rfl
 ·rw[if_neg e,if_neg e];exact h y
theorem cw.vb:∀(l:List Va) {r:R} {T:TE},cw r.s T->cw (l.foldl fF r).s (l.foldl TE.add T)
 |[],r,T,h=>h
 |v::l,r,T,h=>by rw[List.foldl_cons,List.foldl_cons];exact cw.vb l (h.uh v)
abbrev T0:TE:= λ_=>none
theorem CE:hM T0 0:=⟨[],by simp,λx h=>by simp at h⟩
structure EV(en:List En)(d:Nd):Prop where
 l:d.ins.length+d.outs.length<=1000
 cl:∀v∈d.ins++d.outs,v.clock.length<=1000
 wf:rJ en ((d.ins++d.outs).foldl TE.add T0) d.b
 wt:oA d.b<=700000
 dp:xO d.b<=80000
structure DW(p:Pg):Prop where
 e:q_ p.ao
 n:p.nodes.length<=1000000
 d:∀d∈p.nodes,EV p.ao d
end Go.Ps
namespace Go.Proofs.Pz
open Go.Mt Go.Sm Go.Ps Go.Proofs
open Tryz
theorem Dy(it:Nat)(p:Pg)(hp:DW p):Dt prog 56 [.d (.agg p.cells)] [.ob it aZ] λx l=>x=.d (.agg (Eg p).cells)/\l=[.ob it aZ]:=by
 refine ur it p hp.n λd hd=>?_
 have h:=hp.d d hd;have hlen:(d.ins++d.outs).length<=1000:=by rw[List.length_append];exact h.l
 have g:=bc.vb (d.ins++d.outs) Ad;have t:=cw.vb (d.ins++d.outs) (r:=jV) (T:=T0) (λ_=>rfl);have su:=hM.Cz (d.ins++d.outs) CE;have gn:=g.n;have gv:=g.vs;have gc:=g.ck
 dsimp only[List.length_nil]at gn gv gc
 have SI:=h.wt;have U3:=h.dp;exact zd it p d h.l h.cl (λim=>Af it im p hp.e d.b true _ _ _ _ h.wf g.sc t su (by omega) (by rw[gc];simp only[List.length_nil];omega) (by omega) (by omega))
  (Nat.le_trans (wu p.ao d.b true _ _ _ g.sc t h.wf (by rw[gc];simp only[List.length_nil];omega)).q (by omega))
theorem lK:PT prog 60 [.sl []] (·=[.sl []]):=by
 refine PT.du (CT.aG func60 rfl ntmps60 rfl λs0 Oo=>?_)
 repeat refine TC.seq ?_
 refine TC.region ?_;refine aa rfl rfl ?_;refine TL.nil ?_
 repeat refine TC.seq ?_
 refine TC.region ?_;refine ah rfl rfl ?_
 (refine kn rfl rfl (λb=>?_))
 refine TL.nil ?_;cases b with
 |true=>
  repeat refine TC.seq ?_
  refine TC.cond rfl (λhc=>?_) (λhc=>by cases hc)
  repeat refine TC.seq ?_
  refine TC.region ?_;refine aa rfl rfl ?_;refine TL.nil ?_;exact TC.ret ⟨_,rfl,[_],rfl,rfl⟩
 |false=>
  repeat refine TC.seq ?_
  refine TC.cond rfl (λhc=>by cases hc) (λhc=>?_);refine TC.skip ?_
  repeat refine TC.seq ?_
  refine TC.region ?_;refine aD rfl rfl rfl rfl rfl rfl rfl rfl ?_;refine ah rfl rfl ?_;refine dC rfl rfl rfl ?_;refine aa rfl rfl ?_;refine TL.nil ?_;exact TC.ret ⟨_,rfl,[_],rfl,rfl⟩
theorem mD:PT prog 175 [.sl []] (·=[.sl []]):=by
 refine PT.du (CT.aG func175 rfl ntmps175 rfl λs0 Oo=>?_)
 repeat refine TC.seq ?_
 refine TC.region ?_;refine aa rfl rfl ?_;refine TL.nil ?_
 repeat refine TC.seq ?_
 refine TC.region ?_;refine ah rfl rfl ?_
 (refine kn rfl rfl (λb=>?_))
 refine TL.nil ?_;cases b with
 |true=>
  repeat refine TC.seq ?_
  refine TC.cond rfl (λhc=>?_) (λhc=>by cases hc)
  repeat refine TC.seq ?_
  refine TC.region ?_;refine aa rfl rfl ?_;refine TL.nil ?_;exact TC.ret ⟨_,rfl,[_],rfl,rfl⟩
 |false=>
  repeat refine TC.seq ?_
  refine TC.cond rfl (λhc=>by cases hc) (λhc=>?_);refine TC.skip ?_
  repeat refine TC.seq ?_
  refine TC.region ?_;refine aD rfl rfl rfl rfl rfl rfl rfl rfl ?_;refine ah rfl rfl ?_;refine dC rfl rfl rfl ?_;refine aa rfl rfl ?_;refine TL.nil ?_;exact TC.ret ⟨_,rfl,[_],rfl,rfl⟩
theorem ky:PT prog 206 [.sl []] (·=[.sl []]):=by
 refine PT.du (CT.aG func206 rfl ntmps206 rfl λs0 Oo=>?_)
 repeat refine TC.seq ?_
 refine TC.region ?_;refine aa rfl rfl ?_;refine TL.nil ?_
 repeat refine TC.seq ?_
 refine TC.region ?_;refine ah rfl rfl ?_
 (refine kn rfl rfl (λb=>?_))
 refine TL.nil ?_;cases b with
 |true=>
  repeat refine TC.seq ?_
  refine TC.cond rfl (λhc=>?_) (λhc=>by cases hc)
  repeat refine TC.seq ?_
  refine TC.region ?_;refine aa rfl rfl ?_;refine TL.nil ?_;exact TC.ret ⟨_,rfl,[_],rfl,rfl⟩
 |false=>
  repeat refine TC.seq ?_
  refine TC.cond rfl (λhc=>by cases hc) (λhc=>?_);refine TC.skip ?_
  repeat refine TC.seq ?_
  refine TC.region ?_;refine aD rfl rfl rfl rfl rfl rfl rfl rfl ?_;refine ah rfl rfl ?_;refine dC rfl rfl rfl ?_;refine aa rfl rfl ?_;refine TL.nil ?_;exact TC.ret ⟨_,rfl,[_],rfl,rfl⟩
theorem jW:PT prog 219 [.sl []] (·=[.sl []]):=by
 refine PT.du (CT.aG func219 rfl ntmps219 rfl λs0 Oo=>?_)
 repeat refine TC.seq ?_
 refine TC.region ?_;refine aa rfl rfl ?_;refine TL.nil ?_
 repeat refine TC.seq ?_
 refine TC.region ?_;refine ah rfl rfl ?_
 (refine kn rfl rfl (λb=>?_))
 refine TL.nil ?_;cases b with
 |true=>
  repeat refine TC.seq ?_
  refine TC.cond rfl (λhc=>?_) (λhc=>by cases hc)
  repeat refine TC.seq ?_
  refine TC.region ?_;refine aa rfl rfl ?_;refine TL.nil ?_;exact TC.ret ⟨_,rfl,[_],rfl,rfl⟩
 |false=>
  repeat refine TC.seq ?_
  refine TC.cond rfl (λhc=>by cases hc) (λhc=>?_);refine TC.skip ?_
  repeat refine TC.seq ?_
  refine TC.region ?_;refine aD rfl rfl rfl rfl rfl rfl rfl rfl ?_;refine ah rfl rfl ?_;refine dC rfl rfl rfl ?_;refine aa rfl rfl ?_;refine TL.nil ?_;exact TC.ret ⟨_,rfl,[_],rfl,rfl⟩
def Ai(f:Nat)(ds:List D):Option (List D):=match ds with
 |[.sl []]=>bif has [60,175,206,219] f then some [.sl []]else none
 |_=>none
theorem iI:∀f ds rs,Ai f ds=some rs->PT prog f ds (·=rs):=by
 intro f ds rs h;unfold Ai at h;split at h
 ·cases hc:has [60,175,206,219] f with
  |false=>rw[hc]at h;cases h
  |true=>
   rw[hc]at h;simp only[cond_true]at h;injection h with h;subst h
   have:=cJ.1 hc;simp only[List.mem_cons,List.not_mem_nil,or_false]at this;rcases this with rfl|rfl|rfl|rfl
   ·exact lK
   ·exact mD
   ·exact ky
   ·exact jW
 ·cases h
def vf(f:Nat):Bool:=has [40,42,51,60,91,95,99,100,101,102,118,131,155,165,175,179,187,206,219,229,253] f
def mZ(f t:Nat):Nat:=match get [(17,[(10,1),(30,1)]),(19,[(20,1)]),(32,[(3,1)]),(36,[(3,1)]),(40,[(14,1)]),(42,[(14,1)]),(57,[(8,1)]),(90,[(3,1)]),(91,[(18,1),(76,1)]),(93,[(24,1),(28,1),(52,1),(77,1)]),(94,[(3,1)]),(95,[(33,1)]),(97,[(45,1)]),(98,[(5,1)]),(101,[(9,1)]),(108,[(1,1),(3,1)]),(109,[(20,1)]),(110,[(15,1)]),(125,[(3,1)]),(127,[(3,1)]),(145,[(29,1),(59,1)]),(147,[(3,1),(8,1)]),(191,[(26,1)]),(192,[(4,1),(6,1),(9,1),(10,1)]),(200,[(2,1),(3,1),(4,1),(5,1),(9,1)]),(228,[(61,1)]),(230,[(4,1),(5,1),(6,1),(7,1),(9,1),(10,1),(20,1)]),(231,[(2,1),(3,1)]),(233,[(3,1)]),(237,[(4,1),(6,1),(9,1)]),(238,[(3,1),(4,1)]),(242,[(7,1)]),(243,[(9,1)]),(268,[(3,1)]),(272,[(3,1),(4,1),(5,1)]),(279,[(5,1),(7,1),(8,1),(11,1),(12,1)]),(280,[(15,1)]),(289,[(5,1)]),(297,[(3,1)]),(300,[(5,1)]),(306,[(12,1)]),(307,[(7,1),(11,1)]),(320,[(11,2),(11,1)])] f with
 |some l=>(match get l t with|some k=>k|none=>0)
 |none=>0
def Dz:D:=.agg [.sl [],.sl [[.str ⟨#[102]⟩,.sl [[.str ⟨#[99]⟩,.int .u8 1,.str ⟨#[]⟩,.sl [],.bool false,.int .u8 0,.int .u8 0,.int .i32 0,.str ⟨#[]⟩,.sl [],.sl [],.int .i64 0,.int .i64 0,.int .i64 0,.int .i64 0]],.sl [[.str ⟨#[120]⟩,.int .u8 2,.str ⟨#[]⟩,.sl [],.bool true,.int .u8 1,.int .u8 0,.int .i32 5,.str ⟨#[]⟩,.sl [],.sl [],.int .i64 0,.int .i64 0,.int .i64 0,.int .i64 0]],.sl [],.sl [[.int .u8 3,.sl [],.str ⟨#[]⟩,.sl [],.bool false,.int .u8 4,.int .u8 0,.int .i32 0,.str ⟨#[99]⟩,.sl [],.sl [],.int .i64 0,.int .i64 0,.sl [[.str ⟨#[116,114,117,101]⟩,.sl [],.sl [[.int .u8 1,.sl [[.str ⟨#[120]⟩]],.str ⟨#[]⟩,.sl [],.bool false,.int .u8 7,.int .u8 3,.int .i32 0,.str ⟨#[]⟩,.sl [],.sl [[.int .u8 5,.int .u8 0,.int .i32 0,.str ⟨#[120]⟩,.sl [],.sl [],.int .i64 0,.int .i64 0],[.int .u8 1,.int .u8 0,.int .i32 1,.str ⟨#[]⟩,.sl [],.sl [],.int .i64 0,.int .i64 0]],.int .i64 0,.int .i64 0,.sl [],.int .i64 0,.int .i64 0]],.sl [],.sl [],.int .i64 0,.int .i64 0],[.str ⟨#[102,97,108,115,101]⟩,.sl [],.sl [],.sl [],.sl [],.int .i64 0,.int .i64 0]],.int .i64 0,.int .i64 0]],.int .i64 0,.int .i64 0]]]
def DA:D:=.agg [.sl [],.sl [[.str ⟨#[102]⟩,.sl [[.str ⟨#[99]⟩,.int .u8 1,.str ⟨#[]⟩,.sl [],.bool false,.int .u8 0,.int .u8 0,.int .i32 0,.str ⟨#[]⟩,.sl [],.sl [],.int .i64 0,.int .i64 0,.int .i64 0,.int .i64 0]],.sl [[.str ⟨#[120]⟩,.int .u8 2,.str ⟨#[]⟩,.sl [],.bool false,.int .u8 0,.int .u8 0,.int .i32 0,.str ⟨#[]⟩,.sl [],.sl [],.int .i64 0,.int .i64 0,.int .i64 0,.int .i64 0]],.sl [[.str ⟨#[95,118,49]⟩,.int .u8 2,.str ⟨#[]⟩,.sl [],.bool false,.int .u8 0,.int .u8 0,.int .i32 0,.str ⟨#[]⟩,.sl [],.sl [],.int .i64 0,.int .i64 0,.int .i64 0,.int .i64 0],[.str ⟨#[95,118,50]⟩,.int .u8 1,.str ⟨#[]⟩,.sl [],.bool false,.int .u8 0,.int .u8 0,.int .i32 0,.str ⟨#[]⟩,.sl [],.sl [],.int .i64 0,.int .i64 0,.int .i64 0,.int .i64 0],[.str ⟨#[95,118,51]⟩,.int .u8 2,.str ⟨#[]⟩,.sl [[.str ⟨#[116,114,117,101]⟩,.str ⟨#[95,118,50]⟩]],.bool false,.int .u8 0,.int .u8 0,.int .i32 0,.str ⟨#[]⟩,.sl [],.sl [],.int .i64 0,.int .i64 0,.int .i64 0,.int .i64 0],[.str ⟨#[95,118,52]⟩,.int .u8 2,.str ⟨#[]⟩,.sl [[.str ⟨#[116,114,117,101]⟩,.str ⟨#[95,118,50]⟩]],.bool false,.int .u8 0,.int .u8 0,.int .i32 0,.str ⟨#[]⟩,.sl [],.sl [],.int .i64 0,.int .i64 0,.int .i64 0,.int .i64 0],[.str ⟨#[95,118,53]⟩,.int .u8 2,.str ⟨#[]⟩,.sl [[.str ⟨#[102,97,108,115,101]⟩,.str ⟨#[95,118,50]⟩]],.bool false,.int .u8 0,.int .u8 0,.int .i32 0,.str ⟨#[]⟩,.sl [],.sl [],.int .i64 0,.int .i64 0,.int .i64 0,.int .i64 0],[.str ⟨#[95,118,54]⟩,.int .u8 2,.str ⟨#[]⟩,.sl [[.str ⟨#[102,97,108,115,101]⟩,.str ⟨#[95,118,50]⟩]],.bool false,.int .u8 0,.int .u8 0,.int .i32 0,.str ⟨#[]⟩,.sl [],.sl [],.int .i64 0,.int .i64 0,.int .i64 0,.int .i64 0]],.sl [[.int .u8 1,.sl [[.str ⟨#[95,118,49]⟩]],.str ⟨#[]⟩,.sl [],.bool false,.int .u8 9,.int .u8 0,.int .i32 0,.str ⟨#[]⟩,.sl [],.sl [[.int .u8 1,.int .u8 0,.int .i32 5,.str ⟨#[]⟩,.sl [],.sl [],.int .i64 0,.int .i64 0],[.int .u8 4,.int .u8 0,.int .i32 0,.str ⟨#[120]⟩,.sl [],.sl [],.int .i64 0,.int .i64 0]],.int .i64 0,.int .i64 0,.sl [],.int .i64 0,.int .i64 0],[.int .u8 1,.sl [[.str ⟨#[95,118,50]⟩]],.str ⟨#[]⟩,.sl [],.bool false,.int .u8 4,.int .u8 0,.int .i32 0,.str ⟨#[99]⟩,.sl [],.sl [],.int .i64 0,.int .i64 0,.sl [],.int .i64 0,.int .i64 0],[.int .u8 1,.sl [[.str ⟨#[95,118,52]⟩]],.str ⟨#[]⟩,.sl [],.bool false,.int .u8 12,.int .u8 0,.int .i32 0,.str ⟨#[95,118,50]⟩,.sl [[.str ⟨#[116,114,117,101]⟩]],.sl [[.int .u8 4,.int .u8 0,.int .i32 0,.str ⟨#[95,118,49]⟩,.sl [],.sl [],.int .i64 0,.int .i64 0]],.int .i64 0,.int .i64 0,.sl [],.int .i64 0,.int .i64 0],[.int .u8 1,.sl [[.str ⟨#[95,118,51]⟩]],.str ⟨#[]⟩,.sl [],.bool false,.int .u8 7,.int .u8 3,.int .i32 0,.str ⟨#[]⟩,.sl [],.sl [[.int .u8 4,.int .u8 0,.int .i32 0,.str ⟨#[95,118,52]⟩,.sl [],.sl [],.int .i64 0,.int .i64 0],[.int .u8 1,.int .u8 0,.int .i32 1,.str ⟨#[]⟩,.sl [],.sl [],.int .i64 0,.int .i64 0]],.int .i64 0,.int .i64 0,.sl [],.int .i64 0,.int .i64 0],[.int .u8 1,.sl [[.str ⟨#[95,118,54]⟩]],.str ⟨#[]⟩,.sl [],.bool false,.int .u8 12,.int .u8 0,.int .i32 0,.str ⟨#[95,118,50]⟩,.sl [[.str ⟨#[102,97,108,115,101]⟩]],.sl [[.int .u8 4,.int .u8 0,.int .i32 0,.str ⟨#[95,118,49]⟩,.sl [],.sl [],.int .i64 0,.int .i64 0]],.int .i64 0,.int .i64 0,.sl [],.int .i64 0,.int .i64 0],[.int .u8 1,.sl [[.str ⟨#[95,118,53]⟩]],.str ⟨#[]⟩,.sl [],.bool false,.int .u8 4,.int .u8 0,.int .i32 0,.str ⟨#[95,118,54]⟩,.sl [],.sl [],.int .i64 0,.int .i64 0,.sl [],.int .i64 0,.int .i64 0],[.int .u8 1,.sl [[.str ⟨#[120]⟩]],.str ⟨#[]⟩,.sl [],.bool false,.int .u8 13,.int .u8 0,.int .i32 0,.str ⟨#[95,118,50]⟩,.sl [[.str ⟨#[116,114,117,101]⟩],[.str ⟨#[102,97,108,115,101]⟩]],.sl [[.int .u8 4,.int .u8 0,.int .i32 0,.str ⟨#[95,118,51]⟩,.sl [],.sl [],.int .i64 0,.int .i64 0],[.int .u8 4,.int .u8 0,.int .i32 0,.str ⟨#[95,118,53]⟩,.sl [],.sl [],.int .i64 0,.int .i64 0]],.int .i64 0,.int .i64 0,.sl [],.int .i64 0,.int .i64 0]],.int .i64 0,.int .i64 0]]]
def Fg:List M:=[.d (.sl []),.d (.sl [[.str ⟨#[102]⟩,.sl [[.str ⟨#[99]⟩,.int .u8 1,.str ⟨#[]⟩,.sl [],.bool false,.int .u8 0,.int .u8 0,.int .i32 0,.str ⟨#[]⟩,.sl [],.sl [],.int .i64 0,.int .i64 0,.int .i64 0,.int .i64 0]],.sl [[.str ⟨#[120]⟩,.int .u8 2,.str ⟨#[]⟩,.sl [],.bool false,.int .u8 0,.int .u8 0,.int .i32 0,.str ⟨#[]⟩,.sl [],.sl [],.int .i64 0,.int .i64 0,.int .i64 0,.int .i64 0]],.sl [[.str ⟨#[95,118,49]⟩,.int .u8 2,.str ⟨#[]⟩,.sl [],.bool false,.int .u8 0,.int .u8 0,.int .i32 0,.str ⟨#[]⟩,.sl [],.sl [],.int .i64 0,.int .i64 0,.int .i64 0,.int .i64 0],[.str ⟨#[95,118,50]⟩,.int .u8 1,.str ⟨#[]⟩,.sl [],.bool false,.int .u8 0,.int .u8 0,.int .i32 0,.str ⟨#[]⟩,.sl [],.sl [],.int .i64 0,.int .i64 0,.int .i64 0,.int .i64 0],[.str ⟨#[95,118,51]⟩,.int .u8 2,.str ⟨#[]⟩,.sl [[.str ⟨#[116,114,117,101]⟩,.str ⟨#[95,118,50]⟩]],.bool false,.int .u8 0,.int .u8 0,.int .i32 0,.str ⟨#[]⟩,.sl [],.sl [],.int .i64 0,.int .i64 0,.int .i64 0,.int .i64 0],[.str ⟨#[95,118,52]⟩,.int .u8 2,.str ⟨#[]⟩,.sl [[.str ⟨#[116,114,117,101]⟩,.str ⟨#[95,118,50]⟩]],.bool false,.int .u8 0,.int .u8 0,.int .i32 0,.str ⟨#[]⟩,.sl [],.sl [],.int .i64 0,.int .i64 0,.int .i64 0,.int .i64 0],[.str ⟨#[95,118,53]⟩,.int .u8 2,.str ⟨#[]⟩,.sl [[.str ⟨#[102,97,108,115,101]⟩,.str ⟨#[95,118,50]⟩]],.bool false,.int .u8 0,.int .u8 0,.int .i32 0,.str ⟨#[]⟩,.sl [],.sl [],.int .i64 0,.int .i64 0,.int .i64 0,.int .i64 0],[.str ⟨#[95,118,54]⟩,.int .u8 2,.str ⟨#[]⟩,.sl [[.str ⟨#[102,97,108,115,101]⟩,.str ⟨#[95,118,50]⟩]],.bool false,.int .u8 0,.int .u8 0,.int .i32 0,.str ⟨#[]⟩,.sl [],.sl [],.int .i64 0,.int .i64 0,.int .i64 0,.int .i64 0]],.sl [[.int .u8 1,.sl [[.str ⟨#[95,118,49]⟩]],.str ⟨#[]⟩,.sl [],.bool false,.int .u8 9,.int .u8 0,.int .i32 0,.str ⟨#[]⟩,.sl [],.sl [[.int .u8 1,.int .u8 0,.int .i32 5,.str ⟨#[]⟩,.sl [],.sl [],.int .i64 0,.int .i64 0],[.int .u8 4,.int .u8 0,.int .i32 0,.str ⟨#[120]⟩,.sl [],.sl [],.int .i64 0,.int .i64 0]],.int .i64 0,.int .i64 0,.sl [],.int .i64 0,.int .i64 0],[.int .u8 1,.sl [[.str ⟨#[95,118,50]⟩]],.str ⟨#[]⟩,.sl [],.bool false,.int .u8 4,.int .u8 0,.int .i32 0,.str ⟨#[99]⟩,.sl [],.sl [],.int .i64 0,.int .i64 0,.sl [],.int .i64 0,.int .i64 0],[.int .u8 1,.sl [[.str ⟨#[95,118,52]⟩]],.str ⟨#[]⟩,.sl [],.bool false,.int .u8 12,.int .u8 0,.int .i32 0,.str ⟨#[95,118,50]⟩,.sl [[.str ⟨#[116,114,117,101]⟩]],.sl [[.int .u8 4,.int .u8 0,.int .i32 0,.str ⟨#[95,118,49]⟩,.sl [],.sl [],.int .i64 0,.int .i64 0]],.int .i64 0,.int .i64 0,.sl [],.int .i64 0,.int .i64 0],[.int .u8 1,.sl [[.str ⟨#[95,118,51]⟩]],.str ⟨#[]⟩,.sl [],.bool false,.int .u8 7,.int .u8 3,.int .i32 0,.str ⟨#[]⟩,.sl [],.sl [[.int .u8 4,.int .u8 0,.int .i32 0,.str ⟨#[95,118,52]⟩,.sl [],.sl [],.int .i64 0,.int .i64 0],[.int .u8 1,.int .u8 0,.int .i32 1,.str ⟨#[]⟩,.sl [],.sl [],.int .i64 0,.int .i64 0]],.int .i64 0,.int .i64 0,.sl [],.int .i64 0,.int .i64 0],[.int .u8 1,.sl [[.str ⟨#[95,118,54]⟩]],.str ⟨#[]⟩,.sl [],.bool false,.int .u8 12,.int .u8 0,.int .i32 0,.str ⟨#[95,118,50]⟩,.sl [[.str ⟨#[102,97,108,115,101]⟩]],.sl [[.int .u8 4,.int .u8 0,.int .i32 0,.str ⟨#[95,118,49]⟩,.sl [],.sl [],.int .i64 0,.int .i64 0]],.int .i64 0,.int .i64 0,.sl [],.int .i64 0,.int .i64 0],[.int .u8 1,.sl [[.str ⟨#[95,118,53]⟩]],.str ⟨#[]⟩,.sl [],.bool false,.int .u8 4,.int .u8 0,.int .i32 0,.str ⟨#[95,118,54]⟩,.sl [],.sl [],.int .i64 0,.int .i64 0,.sl [],.int .i64 0,.int .i64 0],[.int .u8 1,.sl [[.str ⟨#[120]⟩]],.str ⟨#[]⟩,.sl [],.bool false,.int .u8 13,.int .u8 0,.int .i32 0,.str ⟨#[95,118,50]⟩,.sl [[.str ⟨#[116,114,117,101]⟩],[.str ⟨#[102,97,108,115,101]⟩]],.sl [[.int .u8 4,.int .u8 0,.int .i32 0,.str ⟨#[95,118,51]⟩,.sl [],.sl [],.int .i64 0,.int .i64 0],[.int .u8 4,.int .u8 0,.int .i32 0,.str ⟨#[95,118,53]⟩,.sl [],.sl [],.int .i64 0,.int .i64 0]],.int .i64 0,.int .i64 0,.sl [],.int .i64 0,.int .i64 0]],.int .i64 0,.int .i64 0]]),.d (.str ⟨#[102]⟩),.d (.sl [[.str ⟨#[99]⟩,.int .u8 1,.str ⟨#[]⟩,.sl [],.bool false,.int .u8 0,.int .u8 0,.int .i32 0,.str ⟨#[]⟩,.sl [],.sl [],.int .i64 0,.int .i64 0,.int .i64 0,.int .i64 0]]),.d (.sl [[.str ⟨#[120]⟩,.int .u8 2,.str ⟨#[]⟩,.sl [],.bool false,.int .u8 0,.int .u8 0,.int .i32 0,.str ⟨#[]⟩,.sl [],.sl [],.int .i64 0,.int .i64 0,.int .i64 0,.int .i64 0]]),.d (.sl [[.str ⟨#[95,118,49]⟩,.int .u8 2,.str ⟨#[]⟩,.sl [],.bool false,.int .u8 0,.int .u8 0,.int .i32 0,.str ⟨#[]⟩,.sl [],.sl [],.int .i64 0,.int .i64 0,.int .i64 0,.int .i64 0],[.str ⟨#[95,118,50]⟩,.int .u8 1,.str ⟨#[]⟩,.sl [],.bool false,.int .u8 0,.int .u8 0,.int .i32 0,.str ⟨#[]⟩,.sl [],.sl [],.int .i64 0,.int .i64 0,.int .i64 0,.int .i64 0],[.str ⟨#[95,118,51]⟩,.int .u8 2,.str ⟨#[]⟩,.sl [[.str ⟨#[116,114,117,101]⟩,.str ⟨#[95,118,50]⟩]],.bool false,.int .u8 0,.int .u8 0,.int .i32 0,.str ⟨#[]⟩,.sl [],.sl [],.int .i64 0,.int .i64 0,.int .i64 0,.int .i64 0],[.str ⟨#[95,118,52]⟩,.int .u8 2,.str ⟨#[]⟩,.sl [[.str ⟨#[116,114,117,101]⟩,.str ⟨#[95,118,50]⟩]],.bool false,.int .u8 0,.int .u8 0,.int .i32 0,.str ⟨#[]⟩,.sl [],.sl [],.int .i64 0,.int .i64 0,.int .i64 0,.int .i64 0],[.str ⟨#[95,118,53]⟩,.int .u8 2,.str ⟨#[]⟩,.sl [[.str ⟨#[102,97,108,115,101]⟩,.str ⟨#[95,118,50]⟩]],.bool false,.int .u8 0,.int .u8 0,.int .i32 0,.str ⟨#[]⟩,.sl [],.sl [],.int .i64 0,.int .i64 0,.int .i64 0,.int .i64 0],[.str ⟨#[95,118,54]⟩,.int .u8 2,.str ⟨#[]⟩,.sl [[.str ⟨#[102,97,108,115,101]⟩,.str ⟨#[95,118,50]⟩]],.bool false,.int .u8 0,.int .u8 0,.int .i32 0,.str ⟨#[]⟩,.sl [],.sl [],.int .i64 0,.int .i64 0,.int .i64 0,.int .i64 0]]),.d (.sl [[.int .u8 1,.sl [[.str ⟨#[95,118,49]⟩]],.str ⟨#[]⟩,.sl [],.bool false,.int .u8 9,.int .u8 0,.int .i32 0,.str ⟨#[]⟩,.sl [],.sl [[.int .u8 1,.int .u8 0,.int .i32 5,.str ⟨#[]⟩,.sl [],.sl [],.int .i64 0,.int .i64 0],[.int .u8 4,.int .u8 0,.int .i32 0,.str ⟨#[120]⟩,.sl [],.sl [],.int .i64 0,.int .i64 0]],.int .i64 0,.int .i64 0,.sl [],.int .i64 0,.int .i64 0],[.int .u8 1,.sl [[.str ⟨#[95,118,50]⟩]],.str ⟨#[]⟩,.sl [],.bool false,.int .u8 4,.int .u8 0,.int .i32 0,.str ⟨#[99]⟩,.sl [],.sl [],.int .i64 0,.int .i64 0,.sl [],.int .i64 0,.int .i64 0],[.int .u8 1,.sl [[.str ⟨#[95,118,52]⟩]],.str ⟨#[]⟩,.sl [],.bool false,.int .u8 12,.int .u8 0,.int .i32 0,.str ⟨#[95,118,50]⟩,.sl [[.str ⟨#[116,114,117,101]⟩]],.sl [[.int .u8 4,.int .u8 0,.int .i32 0,.str ⟨#[95,118,49]⟩,.sl [],.sl [],.int .i64 0,.int .i64 0]],.int .i64 0,.int .i64 0,.sl [],.int .i64 0,.int .i64 0],[.int .u8 1,.sl [[.str ⟨#[95,118,51]⟩]],.str ⟨#[]⟩,.sl [],.bool false,.int .u8 7,.int .u8 3,.int .i32 0,.str ⟨#[]⟩,.sl [],.sl [[.int .u8 4,.int .u8 0,.int .i32 0,.str ⟨#[95,118,52]⟩,.sl [],.sl [],.int .i64 0,.int .i64 0],[.int .u8 1,.int .u8 0,.int .i32 1,.str ⟨#[]⟩,.sl [],.sl [],.int .i64 0,.int .i64 0]],.int .i64 0,.int .i64 0,.sl [],.int .i64 0,.int .i64 0],[.int .u8 1,.sl [[.str ⟨#[95,118,54]⟩]],.str ⟨#[]⟩,.sl [],.bool false,.int .u8 12,.int .u8 0,.int .i32 0,.str ⟨#[95,118,50]⟩,.sl [[.str ⟨#[102,97,108,115,101]⟩]],.sl [[.int .u8 4,.int .u8 0,.int .i32 0,.str ⟨#[95,118,49]⟩,.sl [],.sl [],.int .i64 0,.int .i64 0]],.int .i64 0,.int .i64 0,.sl [],.int .i64 0,.int .i64 0],[.int .u8 1,.sl [[.str ⟨#[95,118,53]⟩]],.str ⟨#[]⟩,.sl [],.bool false,.int .u8 4,.int .u8 0,.int .i32 0,.str ⟨#[95,118,54]⟩,.sl [],.sl [],.int .i64 0,.int .i64 0,.sl [],.int .i64 0,.int .i64 0],[.int .u8 1,.sl [[.str ⟨#[120]⟩]],.str ⟨#[]⟩,.sl [],.bool false,.int .u8 13,.int .u8 0,.int .i32 0,.str ⟨#[95,118,50]⟩,.sl [[.str ⟨#[116,114,117,101]⟩],[.str ⟨#[102,97,108,115,101]⟩]],.sl [[.int .u8 4,.int .u8 0,.int .i32 0,.str ⟨#[95,118,51]⟩,.sl [],.sl [],.int .i64 0,.int .i64 0],[.int .u8 4,.int .u8 0,.int .i32 0,.str ⟨#[95,118,53]⟩,.sl [],.sl [],.int .i64 0,.int .i64 0]],.int .i64 0,.int .i64 0,.sl [],.int .i64 0,.int .i64 0]]),.d (.int .i64 0),.d (.int .i64 0),.bB 2 0 1,.bB 3 0 1,.bB 4 0 1,.d (.int .i64 1)]
def qG(n:Int):Hp:=[aZ,.box Fg,.row false 1 0 [.d (.int .i32 n)],.row false 1 0 [.d (.bool false)],.row false 1 0 [.d .fB],.box [.ref 1 0,.d .fB,.d (.bool false),.d (.sl []),.d (.sl [])],.box [.ref 1 0]]
def CF:D->List D
 |.agg [_,.sl (r::_)]=>(r.drop 3).take 2
 |_=>[]
theorem mE:PT prog 39 [] (·=[Dz]):=PT.s9 iI (cG:=vf) (de:=mZ) (rounds:=1000) (k:=100) (by kernel_rfl)
theorem Bo:PT prog 89 [.agg (CF Dz)] (·=[.bool false]):=PT.s9 iI (cG:=vf) (de:=mZ) (rounds:=1000) (k:=100) (by kernel_rfl)
theorem Bp:PT prog 89 [.agg (CF DA)] (·=[.bool true]):=PT.s9 iI (cG:=vf) (de:=mZ) (rounds:=1000) (k:=100) (by kernel_rfl)
theorem vg:CT prog 40 [.d DA,.d (.str ⟨#[102]⟩)] [aZ] λa b=>a=.bz [.ref 6 0,.d (.int .i64 0)]/\b=qG 5:=
 CT.vP iI (cG:=vf) (de:=mZ) (rounds:=1000) (k:=100) 7 rfl (by kernel_rfl) rfl rfl
theorem tP(n:Int):CT prog 41 [.ref 6 0,.d (.sl [[.int .i32 0]])] (qG n) λa b=>a=.bz [.d (.sl [[.int .i32 n]]),.d (.int .i64 0)]/\b=qG n:=
 CT.vP iI (cG:=vf) (de:=mZ) (rounds:=1000) (k:=100) 7 rfl (by kernel_rfl) rfl rfl
theorem CG(n:Int):CT prog 41 [.ref 6 0,.d (.sl [[.int .i32 1]])] (qG n) λa b=>a=.bz [.d (.sl [[.int .i32 (IntKind.i32.wrap (n+1))]]),.d (.int .i64 0)]/\b=qG (IntKind.i32.wrap (n+1)):=
 CT.vP iI (cG:=vf) (de:=mZ) (rounds:=1000) (k:=100) 7 rfl (by kernel_rfl) rfl rfl
abbrev nC:Nm:=⟨#[99]⟩
abbrev xW:Nm:=⟨#[120]⟩
abbrev qH:Xp:=.mk 7 3 0 ⟨#[]⟩ [] [.mk 5 0 0 xW [] [] (0,0),DM 1] (0,0)
abbrev EW:bJ:=.mk [] [.mk 3 [] ⟨#[]⟩ [] false (bk nC) [.mk ⟨#[116,114,117,101]⟩ (.mk [] [fG xW qH (0,0)]) [] [] (0,0),.mk ⟨#[102,97,108,115,101]⟩ (.mk [] []) [] [] (0,0)] (0,0)]
abbrev EX:Va:=⟨nC,1,⟨#[]⟩,[],false,fp,(0,0)⟩
abbrev EY:Va:=⟨xW,2,⟨#[]⟩,[],true,DM 5,(0,0)⟩
def na:Pg:=⟨[],[⟨⟨#[102]⟩,[EX],[EY],EW,(0,0)⟩]⟩
theorem oD:D.agg na.cells=Dz:=by kernel_rfl
theorem zl:D.agg (Eg (Cg na)).cells=DA:=by kernel_rfl
theorem ww:Cg na=na:=by kernel_rfl
theorem EZ:(dD na.nodes ⟨0,[]⟩).2.n=0:=by kernel_rfl
theorem Fh:yT (.mk [] [fG xW qH (0,0)]):=
 .mk (by simp[bJ.vars]) (by simp[bJ.eqs]) (λq hq=>by
  simp only[bJ.eqs,List.mem_singleton]at hq;subst hq;exact⟨by simp[aF.aj],λh=>absurd h (by simp[aF.kd]),λa ha=>by simp[aF.aj]at ha⟩) (λq hq a ha=>by
  simp only[bJ.eqs,List.mem_singleton]at hq;subst hq;simp[aF.aj]at ha)
theorem Fi:yT (.mk [] []):=.mk (by simp[bJ.vars]) (by simp[bJ.eqs]) (λq hq=>by simp[bJ.eqs]at hq) (λq hq=>by simp[bJ.eqs]at hq)
theorem Ep:DV na where
 e:=by simp[na]
 n:=by simp[na]
 m:=by rw[EZ];omega
 b:=by
  intro d hd;simp only[na,List.mem_singleton]at hd;subst hd;refine .mk (by simp[bJ.vars]) (by simp[bJ.eqs]) (λq hq=>?_) (λq hq a ha=>?_)
  ·simp only[bJ.eqs,List.mem_singleton]at hq;subst hq;refine⟨by simp[aF.aj],λh=>absurd h (by simp[aF.kd]),λa ha=>?_⟩;simp only[aF.aj,List.mem_cons,List.not_mem_nil,or_false]at ha;rcases ha with rfl|rfl
   ·exact⟨by decide,by simp[aT.jb],by simp[aT.jc],by simp[aT.jb],by simp[aT.jc]⟩
   ·exact⟨by decide,by simp[aT.jb],by simp[aT.jc],by simp[aT.jb],by simp[aT.jc]⟩
  ·simp only[bJ.eqs,List.mem_singleton]at hq;subst hq;simp only[aF.aj,List.mem_cons,List.not_mem_nil,or_false]at ha;rcases ha with rfl|rfl
   ·exact Fh
   ·exact Fi
theorem tQ{e:Xp}(hk:e.kids=[])(hn:e.names=[])(h:e.kd≠12):lJ e:=.mk (λh2=>absurd h2 h) (by rw[hk];simp) (by rw[hn];simp) (by rw[hk];simp)
theorem CH:lJ qH:=.mk (λh=>absurd h (by simp[Xp.kd])) (by simp[Xp.kids]) (by simp[Xp.names]) (λk hk=>by
 simp only[Xp.kids,List.mem_cons,List.not_mem_nil,or_false]at hk;rcases hk with rfl|rfl
 ·exact tQ rfl rfl (by simp[Xp.kd])
 ·exact tQ rfl rfl (by simp[Xp.kd]))
theorem vh(k op n:Int)(s:Nm)(p:Int×Int)(h:k≠9):yL (.mk k op n s [] [] p):=.mk (λh2=>absurd h2 h) (by simp) (by simp) (by simp)
theorem Bq:yL qH:=.mk (λh=>by cases h) (by simp) (by simp) (λk hk=>by
 simp only[List.mem_cons,List.not_mem_nil,or_false]at hk;rcases hk with rfl|rfl
 ·exact vh _ _ _ _ _ (by decide)
 ·exact vh _ _ _ _ _ (by decide))
theorem E0:vW (.mk [] [fG xW qH (0,0)]):=
 .mk (by simp) (by simp) (λq hq a ha=>by simp only[List.mem_singleton]at hq;subst hq;simp[aF.aj]at ha) (λq hq=>by simp only[List.mem_singleton]at hq;subst hq;simp[aF.aj])
  (λq hq=>by simp only[List.mem_singleton]at hq;subst hq;exact⟨Bq,by simp[aF.args],by simp[aF.args]⟩) (λq hq=>by simp only[List.mem_singleton]at hq;subst hq;simp[aF.lhs]) (λq hq a ha=>by simp only[List.mem_singleton]at hq;subst hq;simp[aF.aj]at ha)
theorem E1:vW (.mk [] []):=.mk (by simp) (by simp) (by simp) (by simp) (by simp) (by simp) (by simp)
abbrev Er:TE:=([EX]++[EY]).foldl TE.add T0
theorem Es:rJ [] Er EW:=by
 rw[rJ];refine⟨by simp,by simp,by simp,?_⟩;rw[hY,hY];refine⟨?_,trivial⟩;rw[wo];refine⟨tQ rfl rfl (by simp[Xp.kd]),by simp,.inr (.inr (.inr ⟨rfl,.mk (by simp[Xp.kids]) (by simp[Xp.kids]) (.inr (.inr (.inr (.inl ⟨rfl,show(Er nC).isSome=true by kernel_rfl⟩)))),?_,by simp,?_,by simp[jd,ml,iE,lA,lG],by simp⟩)),?_⟩
 ·have e:∀a,bE [] [.mk ⟨#[116,114,117,101]⟩ (.mk [] [fG xW qH (0,0)]) [] [] (0,0),.mk ⟨#[102,97,108,115,101]⟩ (.mk [] []) [] [] (0,0)]=a->a=[xW]:=by rintro a rfl;kernel_rfl
  intro x hx;rw[e _ rfl,List.mem_singleton]at hx;subst hx;show(Er xW).isSome=true
  kernel_rfl
 ·intro a ha;simp only[List.mem_cons,List.not_mem_nil,or_false]at ha;rcases ha with rfl|rfl
  ·exact E0
  ·exact E1
 ·rw[gy,gy,gy,rJ,rJ,List.foldl_nil,hY,hY,wo,gy];exact⟨⟨by simp,by simp,by simp,⟨CH,by simp,.inl rfl,trivial⟩,trivial⟩,⟨by simp,by simp,by simp,trivial⟩,trivial⟩
theorem Et:DW na where
 e:=⟨by simp[na],by simp[na]⟩
 n:=by simp[na]
 d:=by
  intro d hd;simp only[na,List.mem_singleton]at hd;subst hd;exact⟨by simp,by simp,Es,Nat.le_of_ble_eq_true (by kernel_rfl),Nat.le_of_ble_eq_true (by kernel_rfl)⟩
theorem Aj{f:Nat}{ms:List M}{v:D}(h:Dt prog f ms [.ob 0 aZ] λx l=>x=.d v/\l=[.ob 0 aZ]):CT prog f ms [aZ] λr K=>r=.d v/\K=[aZ]:=by
 obtain⟨x,K,⟨l,⟨rfl,rfl⟩,w⟩,hc⟩:=h [aZ] (·=0) (l9 ⟨rfl,λj=>Iff.rfl⟩);have h0:=w.ob;refine CT.drop 1 (Nat.le_refl _) (hc.mono ?_);rintro r k ⟨rfl,rfl⟩;have hl:1<=k.length:=(List.getElem?_eq_some_iff.1 h0).1;have ht:k.take 1=[aZ]:=by
  cases k with
  |nil=>simp at hl
  |cons a r=>simp at h0;subst h0;rfl
 rw[ht];exact⟨hl,.d _,λob HM=>by rw[List.mem_singleton]at HM;subst HM;exact rM (by kernel_rfl),rfl,rfl⟩
theorem xX:CT prog 38 [.d Dz] [aZ] λr K=>r=.bz [.d DA,.d (.bool true)]/\K=[aZ]:=by
 have h1:=Aj (ul 0 na Ep);have h2:=Aj (Dy 0 (Cg na) (by rw[ww];exact Et));rw[oD,ww,oD]at h1;rw[zl,ww,oD]at h2;refine CT.aG func38 rfl ntmps38 rfl λs0 Oo=>?_
 repeat refine TC.seq ?_
 refine TC.region ?_;refine b_ rfl rfl ?_;refine aM rfl rfl ?_;refine aa rfl rfl ?_;refine TL.nil ?_
 repeat refine TC.seq ?_
 refine TC.region ?_;refine aW rfl rfl rfl ?_
 (refine dF h1 rfl rfl ?_;rintro _ _ ⟨rfl,rfl⟩)
 (refine dF h2 rfl rfl ?_;rintro _ _ ⟨rfl,rfl⟩)
 refine av rfl rfl rfl rfl rfl rfl ?_;refine aa rfl rfl ?_;refine TL.nil ?_;exact TC.ret ⟨_,rfl,rfl,rfl⟩
theorem Ak{n:Int}(h0:0<=n)(h:n<=1000):IntKind.i32.wrap n=n:=IntWalk.i32_in _ ⟨by omega,by omega⟩
theorem DX{w w':Int}(h:w=w'):iK .neq .i32 w w'=some (.bool false):=by subst h;simp[iK]
theorem tR(n m:Int)(h0:0<=n)(h:n<=900)(hm:n+1=m):CT prog 41 [.ref 6 0,.d (.sl [[.int .i32 1]])] (qG n) λa b=>a=.bz [.d (.sl [[.int .i32 m]]),.d (.int .i64 0)]/\b=qG m:=by
 have:=CG n;rw[Ak (by omega) (by omega),hm]at this;exact this
theorem vi(n:Int):1<=(qG n).length/\(qG n).take 1=[aZ]:=⟨by show 1<=7;omega,rfl⟩
theorem CI:HB 1 [aZ]:= λob HM=>by rw[List.mem_singleton]at HM;subst HM;exact rM (by kernel_rfl)
theorem Br:CT prog 37 [] [aZ] λr K=>r=.d (.bool true)/\∃n,K=qG n:=by
 refine CT.aG func37 rfl ntmps37 rfl λs0 Oo=>?_
 repeat refine TC.seq ?_
 refine TC.region ?_;refine aa rfl rfl ?_;refine TL.nil ?_
 repeat refine TC.seq ?_
 refine TC.region ?_;refine bL mE rfl rfl ?_
 (refine dF xX rfl rfl ?_;rintro _ _ ⟨rfl,rfl⟩)
 refine ah rfl rfl ?_;refine aR rfl rfl rfl ?_;refine aR rfl rfl rfl ?_;refine aM rfl rfl ?_;refine av rfl rfl rfl rfl rfl rfl ?_;refine aa rfl rfl ?_;refine TL.nil ?_
 repeat refine TC.seq ?_
 refine TC.region ?_;refine ah rfl rfl ?_;refine iZ rfl rfl ?_;refine ah rfl rfl ?_;refine aE rfl ?_;refine aq rfl rfl ?_;refine aE rfl ?_;refine aB rfl rfl rfl rfl ?_;refine aE rfl ?_;refine bg rfl rfl rfl ?_;refine aE rfl ?_;refine ak rfl rfl rfl (r:=.bool false) rfl ?_;refine fE rfl rfl rfl ?_;refine ah rfl rfl ?_;refine aE rfl ?_;refine bL mE rfl rfl ?_;refine aE rfl ?_;refine l_ rfl rfl rfl rfl ?_;refine aE rfl ?_;refine aO rfl rfl rfl (by decide) rfl rfl ?_;refine aE rfl ?_;refine az rfl rfl ?_;refine aE rfl ?_;refine dj rfl rfl rfl ?_;refine aE rfl ?_;refine bL Bo rfl rfl ?_;refine fE rfl rfl rfl ?_;refine ah rfl rfl ?_;refine aE rfl ?_;refine aq rfl rfl ?_;refine aE rfl ?_;refine aB rfl rfl rfl rfl ?_;refine aE rfl ?_;refine aO rfl rfl rfl (by decide) rfl rfl ?_;refine aE rfl ?_;refine az rfl rfl ?_;refine aE rfl ?_;refine dj rfl rfl rfl ?_;refine aE rfl ?_;refine bL Bp rfl rfl ?_;refine aE rfl ?_;refine iZ rfl rfl ?_;refine fE rfl rfl rfl ?_;refine TL.nil ?_
 repeat refine TC.seq ?_
 refine TC.aC rfl ?_;refine TC.skip ?_
 repeat refine TC.seq ?_
 refine TC.region ?_;refine aY rfl rfl rfl rfl rfl ?_
 (refine dF vg rfl rfl ?_;rintro _ _ ⟨rfl,rfl⟩)
 refine ah rfl rfl ?_;refine aR rfl rfl rfl ?_;refine aR rfl rfl rfl ?_;refine aa rfl rfl ?_;refine aa rfl rfl ?_;refine TL.nil ?_
 repeat refine TC.seq ?_
 refine TC.region ?_;refine aD rfl rfl rfl rfl rfl rfl rfl rfl ?_;refine aa rfl rfl ?_;refine TL.nil ?_
 repeat refine TC.seq ?_
 refine TC.region ?_;refine aa rfl rfl ?_;refine TL.nil ?_
 repeat refine TC.seq ?_
 refine TC.block ?_;refine TC.ep (λk s=>∃(i n:Int) (bx:List (Nat×List M)),s=⟨[(6,.m (.d (.int .i64 i))),(5,.m (.d (.sl [[.int .i32 5],[.int .i32 6],[.int .i32 6],[.int .i32 7]]))),(4,.m (.d (.int .i64 0))),(3,.m (.ref 6 0))],bx,qG n⟩/\
   ((i=0/\n=5/\k=4)\/(i=1/\n=5/\k=3)\/(i=2/\n=6/\k=2)\/(i=3/\n=6/\k=1)\/(i=4/\n=7/\k=0))) 4 _
  ⟨0,5,_,rfl,.inl ⟨rfl,rfl,rfl⟩⟩ rfl ?_
 rintro k s ⟨i,n,bx,rfl,h⟩;rcases h with⟨rfl,rfl,rfl⟩|⟨rfl,rfl,rfl⟩|⟨rfl,rfl,rfl⟩|⟨rfl,rfl,rfl⟩|⟨rfl,rfl,rfl⟩
 ·repeat refine TC.seq ?_
  refine TC.region ?_;refine ah rfl rfl ?_;refine ak rfl rfl rfl (r:=.bool true) rfl ?_;refine ah rfl rfl ?_;refine aE rfl ?_;refine ah rfl rfl ?_;refine aE rfl ?_;refine ak rfl rfl rfl (r:=.bool true) rfl ?_;refine fE rfl rfl rfl ?_;refine TL.nil ?_
  repeat refine TC.seq ?_
  refine TC.cr rfl ?_;refine TC.skip ?_
  repeat refine TC.seq ?_
  refine TC.block ?_
  repeat refine TC.seq ?_
  refine TC.region ?_;refine ah rfl rfl ?_;refine ah rfl rfl ?_;refine vp rfl rfl rfl rfl ?_;refine oN rfl rfl ?_;refine aD rfl rfl rfl rfl rfl rfl rfl rfl ?_
  (refine dF (tP 5) rfl rfl ?_;rintro _ _ ⟨rfl,rfl⟩)
  refine ah rfl rfl ?_;refine aR rfl rfl rfl ?_;refine aR rfl rfl rfl ?_;refine aa rfl rfl ?_;refine aa rfl rfl ?_;refine TL.nil ?_
  repeat refine TC.seq ?_
  refine TC.draw mixed ?_;refine aH rfl rfl ?_;refine ga rfl rfl rfl (r:=.bool false) rfl ?_;refine aH rfl rfl ?_;refine ay rfl rfl ?_;refine aH rfl rfl ?_;refine ay rfl rfl ?_;refine oL rfl rfl rfl ?_;refine ay rfl rfl ?_;refine ga rfl rfl rfl (r:=.bool false) rfl ?_;refine fT rfl rfl rfl ?_;refine aH rfl rfl ?_;refine ay rfl rfl ?_;refine aH rfl rfl ?_;refine ay rfl rfl ?_;refine cM rfl rfl rfl (by decide) rfl rfl ?_;refine ay rfl rfl ?_;refine cx rfl rfl rfl ?_;refine ay rfl rfl ?_;refine aH rfl rfl ?_;refine ay rfl rfl ?_;refine aH rfl rfl ?_;refine ay rfl rfl ?_;refine cM rfl rfl rfl (by decide) rfl rfl ?_;refine ay rfl rfl ?_;refine cx rfl rfl rfl ?_;refine ay rfl rfl ?_;refine ga rfl rfl rfl (r:=.bool false) rfl ?_;refine fT rfl rfl rfl ?_;refine TF.nil ⟨by kernel_rfl,?_⟩
  repeat refine TC.seq ?_
  refine TC.aC rfl ?_;refine TC.skip ?_
  repeat refine TC.seq ?_
  refine TC.region ?_;refine ah rfl rfl ?_;refine aV rfl rfl rfl (by omega) ?_;refine aa rfl rfl ?_;refine TL.nil ?_;exact again (k':=3) (by decide) ⟨1,5,_,rfl,.inr (.inl ⟨rfl,rfl,rfl⟩)⟩ rfl rfl
 ·repeat refine TC.seq ?_
  refine TC.region ?_;refine ah rfl rfl ?_;refine ak rfl rfl rfl (r:=.bool true) rfl ?_;refine ah rfl rfl ?_;refine aE rfl ?_;refine ah rfl rfl ?_;refine aE rfl ?_;refine ak rfl rfl rfl (r:=.bool true) rfl ?_;refine fE rfl rfl rfl ?_;refine TL.nil ?_
  repeat refine TC.seq ?_
  refine TC.cr rfl ?_;refine TC.skip ?_
  repeat refine TC.seq ?_
  refine TC.block ?_
  repeat refine TC.seq ?_
  refine TC.region ?_;refine ah rfl rfl ?_;refine ah rfl rfl ?_;refine vp rfl rfl rfl rfl ?_;refine oN rfl rfl ?_;refine aD rfl rfl rfl rfl rfl rfl rfl rfl ?_
  (refine dF (tR 5 6 (by decide) (by decide) rfl) rfl rfl ?_;rintro _ _ ⟨rfl,rfl⟩)
  refine ah rfl rfl ?_;refine aR rfl rfl rfl ?_;refine aR rfl rfl rfl ?_;refine aa rfl rfl ?_;refine aa rfl rfl ?_;refine TL.nil ?_
  repeat refine TC.seq ?_
  refine TC.draw mixed ?_;refine aH rfl rfl ?_;refine ga rfl rfl rfl (r:=.bool false) rfl ?_;refine aH rfl rfl ?_;refine ay rfl rfl ?_;refine aH rfl rfl ?_;refine ay rfl rfl ?_;refine oL rfl rfl rfl ?_;refine ay rfl rfl ?_;refine ga rfl rfl rfl (r:=.bool false) rfl ?_;refine fT rfl rfl rfl ?_;refine aH rfl rfl ?_;refine ay rfl rfl ?_;refine aH rfl rfl ?_;refine ay rfl rfl ?_;refine cM rfl rfl rfl (by decide) rfl rfl ?_;refine ay rfl rfl ?_;refine cx rfl rfl rfl ?_;refine ay rfl rfl ?_;refine aH rfl rfl ?_;refine ay rfl rfl ?_;refine aH rfl rfl ?_;refine ay rfl rfl ?_;refine cM rfl rfl rfl (by decide) rfl rfl ?_;refine ay rfl rfl ?_;refine cx rfl rfl rfl ?_;refine ay rfl rfl ?_;refine ga rfl rfl rfl (r:=.bool false) rfl ?_;refine fT rfl rfl rfl ?_;refine TF.nil ⟨by kernel_rfl,?_⟩
  repeat refine TC.seq ?_
  refine TC.aC rfl ?_;refine TC.skip ?_
  repeat refine TC.seq ?_
  refine TC.region ?_;refine ah rfl rfl ?_;refine aV rfl rfl rfl (by omega) ?_;refine aa rfl rfl ?_;refine TL.nil ?_;exact again (k':=2) (by decide) ⟨2,6,_,rfl,.inr (.inr (.inl ⟨rfl,rfl,rfl⟩))⟩ rfl rfl
 ·repeat refine TC.seq ?_
  refine TC.region ?_;refine ah rfl rfl ?_;refine ak rfl rfl rfl (r:=.bool true) rfl ?_;refine ah rfl rfl ?_;refine aE rfl ?_;refine ah rfl rfl ?_;refine aE rfl ?_;refine ak rfl rfl rfl (r:=.bool true) rfl ?_;refine fE rfl rfl rfl ?_;refine TL.nil ?_
  repeat refine TC.seq ?_
  refine TC.cr rfl ?_;refine TC.skip ?_
  repeat refine TC.seq ?_
  refine TC.block ?_
  repeat refine TC.seq ?_
  refine TC.region ?_;refine ah rfl rfl ?_;refine ah rfl rfl ?_;refine vp rfl rfl rfl rfl ?_;refine oN rfl rfl ?_;refine aD rfl rfl rfl rfl rfl rfl rfl rfl ?_
  (refine dF (tP 6) rfl rfl ?_;rintro _ _ ⟨rfl,rfl⟩)
  refine ah rfl rfl ?_;refine aR rfl rfl rfl ?_;refine aR rfl rfl rfl ?_;refine aa rfl rfl ?_;refine aa rfl rfl ?_;refine TL.nil ?_
  repeat refine TC.seq ?_
  refine TC.draw mixed ?_;refine aH rfl rfl ?_;refine ga rfl rfl rfl (r:=.bool false) rfl ?_;refine aH rfl rfl ?_;refine ay rfl rfl ?_;refine aH rfl rfl ?_;refine ay rfl rfl ?_;refine oL rfl rfl rfl ?_;refine ay rfl rfl ?_;refine ga rfl rfl rfl (r:=.bool false) rfl ?_;refine fT rfl rfl rfl ?_;refine aH rfl rfl ?_;refine ay rfl rfl ?_;refine aH rfl rfl ?_;refine ay rfl rfl ?_;refine cM rfl rfl rfl (by decide) rfl rfl ?_;refine ay rfl rfl ?_;refine cx rfl rfl rfl ?_;refine ay rfl rfl ?_;refine aH rfl rfl ?_;refine ay rfl rfl ?_;refine aH rfl rfl ?_;refine ay rfl rfl ?_;refine cM rfl rfl rfl (by decide) rfl rfl ?_;refine ay rfl rfl ?_;refine cx rfl rfl rfl ?_;refine ay rfl rfl ?_;refine ga rfl rfl rfl (r:=.bool false) rfl ?_;refine fT rfl rfl rfl ?_;refine TF.nil ⟨by kernel_rfl,?_⟩
  repeat refine TC.seq ?_
  refine TC.aC rfl ?_;refine TC.skip ?_
  repeat refine TC.seq ?_
  refine TC.region ?_;refine ah rfl rfl ?_;refine aV rfl rfl rfl (by omega) ?_;refine aa rfl rfl ?_;refine TL.nil ?_;exact again (k':=1) (by decide) ⟨3,6,_,rfl,.inr (.inr (.inr (.inl ⟨rfl,rfl,rfl⟩)))⟩ rfl rfl
 ·repeat refine TC.seq ?_
  refine TC.region ?_;refine ah rfl rfl ?_;refine ak rfl rfl rfl (r:=.bool true) rfl ?_;refine ah rfl rfl ?_;refine aE rfl ?_;refine ah rfl rfl ?_;refine aE rfl ?_;refine ak rfl rfl rfl (r:=.bool true) rfl ?_;refine fE rfl rfl rfl ?_;refine TL.nil ?_
  repeat refine TC.seq ?_
  refine TC.cr rfl ?_;refine TC.skip ?_
  repeat refine TC.seq ?_
  refine TC.block ?_
  repeat refine TC.seq ?_
  refine TC.region ?_;refine ah rfl rfl ?_;refine ah rfl rfl ?_;refine vp rfl rfl rfl rfl ?_;refine oN rfl rfl ?_;refine aD rfl rfl rfl rfl rfl rfl rfl rfl ?_
  (refine dF (tR 6 7 (by decide) (by decide) rfl) rfl rfl ?_;rintro _ _ ⟨rfl,rfl⟩)
  refine ah rfl rfl ?_;refine aR rfl rfl rfl ?_;refine aR rfl rfl rfl ?_;refine aa rfl rfl ?_;refine aa rfl rfl ?_;refine TL.nil ?_
  repeat refine TC.seq ?_
  refine TC.draw mixed ?_;refine aH rfl rfl ?_;refine ga rfl rfl rfl (r:=.bool false) rfl ?_;refine aH rfl rfl ?_;refine ay rfl rfl ?_;refine aH rfl rfl ?_;refine ay rfl rfl ?_;refine oL rfl rfl rfl ?_;refine ay rfl rfl ?_;refine ga rfl rfl rfl (r:=.bool false) rfl ?_;refine fT rfl rfl rfl ?_;refine aH rfl rfl ?_;refine ay rfl rfl ?_;refine aH rfl rfl ?_;refine ay rfl rfl ?_;refine cM rfl rfl rfl (by decide) rfl rfl ?_;refine ay rfl rfl ?_;refine cx rfl rfl rfl ?_;refine ay rfl rfl ?_;refine aH rfl rfl ?_;refine ay rfl rfl ?_;refine aH rfl rfl ?_;refine ay rfl rfl ?_;refine cM rfl rfl rfl (by decide) rfl rfl ?_;refine ay rfl rfl ?_;refine cx rfl rfl rfl ?_;refine ay rfl rfl ?_;refine ga rfl rfl rfl (r:=.bool false) rfl ?_;refine fT rfl rfl rfl ?_;refine TF.nil ⟨by kernel_rfl,?_⟩
  repeat refine TC.seq ?_
  refine TC.aC rfl ?_;refine TC.skip ?_
  repeat refine TC.seq ?_
  refine TC.region ?_;refine ah rfl rfl ?_;refine aV rfl rfl rfl (by omega) ?_;refine aa rfl rfl ?_;refine TL.nil ?_;exact again (k':=0) (by decide) ⟨4,7,_,rfl,.inr (.inr (.inr (.inr ⟨rfl,rfl,rfl⟩)))⟩ rfl rfl
 ·repeat refine TC.seq ?_
  refine TC.region ?_;refine ah rfl rfl ?_;refine ak rfl rfl rfl (r:=.bool false) rfl ?_;refine ah rfl rfl ?_;refine fb rfl rfl ?_;refine fb rfl rfl ?_;refine fE rfl rfl rfl ?_;refine TL.nil ?_
  repeat refine TC.seq ?_
  refine TC.aC rfl ?_;refine TC.exit ?_
  repeat refine TC.seq ?_
  refine TC.region ?_;refine ah rfl rfl ?_;refine ak rfl rfl rfl (r:=.bool true) rfl ?_;refine aa rfl rfl ?_;refine TL.nil ?_;exact TC.ret ⟨_,rfl,rfl,_,rfl⟩
theorem xY:CT prog 37 [] [aZ] λr K=>r=.d (.bool true)/\K=[aZ]:=by
 refine CT.drop 1 (Nat.le_refl _) (Br.mono ?_);rintro r k ⟨rfl,n,rfl⟩;obtain⟨h1,h2⟩:=vi n;exact⟨h1,.d _,by rw[h2];exact CI,rfl,h2⟩
theorem Fj(cs:List Bool)(v:D)(IX:D7 cs v):CT prog 10 [.d v] [aZ] λr K=>r=.d (.bool true)/\(K=[aZ]\/∃n,K=qG n):=by
 obtain⟨hlen,hv⟩:=IX;refine CT.aG func10 rfl ntmps10 rfl λs0 Oo=>?_
 repeat refine TC.seq ?_
 refine TC.region ?_;refine aa rfl rfl ?_;refine TL.nil ?_
 repeat refine TC.seq ?_
 refine TC.region ?_
 (refine dF xY rfl rfl ?_;rintro _ _ ⟨rfl,rfl⟩)
 refine iZ rfl rfl ?_;refine ah rfl rfl ?_;refine aE rfl ?_;refine ah rfl rfl ?_;refine aE rfl ?_;refine bg rfl rfl hlen ?_;refine aE rfl ?_;refine ak rfl rfl rfl rfl ?_;refine fE rfl rfl rfl ?_;refine TL.nil ?_
 repeat refine TC.seq ?_
 refine TC.cond rfl (λhc=>?_) (λhc=>?_)
 ·repeat refine TC.seq ?_
  refine TC.region ?_
  (refine dF xY rfl rfl ?_;rintro _ _ ⟨rfl,rfl⟩)
  refine aa rfl rfl ?_;refine TL.nil ?_;exact TC.ret ⟨_,rfl,rfl,.inl rfl⟩
 have hle:cs.length<=60:=by have:=of_decide_eq_false hc;omega
 clear hc;refine TC.skip ?_
 repeat refine TC.seq ?_
 refine TC.region ?_;refine bL mE rfl rfl ?_
 (refine dF xX rfl rfl ?_;rintro _ _ ⟨rfl,rfl⟩)
 refine ah rfl rfl ?_;refine aR rfl rfl rfl ?_;refine aR rfl rfl rfl ?_;refine aM rfl rfl ?_;refine av rfl rfl rfl rfl rfl rfl ?_;refine aa rfl rfl ?_;refine TL.nil ?_
 repeat refine TC.seq ?_
 refine TC.region ?_;refine aY rfl rfl rfl rfl rfl ?_
 (refine dF vg rfl rfl ?_;rintro _ _ ⟨rfl,rfl⟩)
 refine ah rfl rfl ?_;refine aR rfl rfl rfl ?_;refine aR rfl rfl rfl ?_;refine aa rfl rfl ?_;refine aa rfl rfl ?_;refine TL.nil ?_
 repeat refine TC.seq ?_
 refine TC.region ?_;refine aa rfl rfl ?_;refine TL.nil ?_
 repeat refine TC.seq ?_
 refine TC.region ?_;refine aa rfl rfl ?_;refine TL.nil ?_
 repeat refine TC.seq ?_
 refine TC.block ?_;refine TC.ep (λk s=>∃(i:Nat) (n:Int) (bx:List (Nat×List M)),s=⟨[(8,.m (.d (.int .i64 i))),(7,.m (.d (.int .i32 n))),(5,.m (.ref 6 0)),(0,.m (.d v))],bx,qG n⟩/\i<=cs.length/\5<=n/\n<=5+i/\k=cs.length-i) cs.length _
  ⟨0,5,_,rfl,by omega,by omega,by omega,rfl⟩ rfl ?_
 rintro k s ⟨i,n,bx,rfl,hi,U7,J_,rfl⟩;have hw:=Ak (n:=n+1) (by omega) (by omega)
 repeat refine TC.seq ?_
 refine TC.region ?_;refine ah rfl rfl ?_;refine ah rfl rfl ?_;refine bg rfl rfl hlen ?_;refine ak rfl rfl rfl rfl ?_;refine TL.nil ?_
 repeat refine TC.seq ?_
 refine TC.cond rfl (λhc=>?_) (λhc=>?_)
 ·have FH:i<cs.length:=by have:=of_decide_eq_true hc;omega
  clear hc;have Jy:v=.sl (gX cs):=by
   rcases hv with h|h
   ·subst h;simp at FH
   ·exact h
  subst Jy;have FF:cs[i]?=some cs[i]:=by simp[FH]
  generalize cs[i]=c at FF;refine TC.skip ?_
  repeat refine TC.seq ?_
  refine TC.block ?_
  repeat refine TC.seq ?_
  refine TC.region ?_;refine aa rfl rfl ?_;refine TL.nil ?_;cases c with
  |true=>
   repeat refine TC.seq ?_
   refine TC.region ?_;refine ah rfl rfl ?_;refine ah rfl rfl ?_;refine aO rfl rfl rfl (Int.natCast_nonneg i) (r:=[.bool true]) (qX FF) rfl ?_;refine ax rfl rfl rfl ?_;refine TL.nil ?_
   repeat refine TC.seq ?_
   refine TC.cr rfl ?_
   repeat refine TC.seq ?_
   refine TC.region ?_;refine aa rfl rfl ?_;refine TL.nil ?_
   repeat refine TC.seq ?_
   refine TC.region ?_;refine ah rfl rfl ?_
   (refine ak (r:=.int .i32 (n+1)) rfl rfl rfl (by show some (D.int .i32 (IntKind.i32.wrap (n+1)))=_;rw[hw]) ?_)
   refine aa rfl rfl ?_;refine TL.nil ?_
   repeat refine TC.seq ?_
   refine TC.region ?_;refine ah rfl rfl ?_;refine ah rfl rfl ?_;refine aD rfl rfl rfl rfl rfl rfl rfl rfl ?_
   (refine dF (tR n (n+1) (by omega) (by omega) rfl) rfl rfl ?_;rintro _ _ ⟨rfl,rfl⟩)
   refine ah rfl rfl ?_;refine aR rfl rfl rfl ?_;refine aR rfl rfl rfl ?_;refine aa rfl rfl ?_;refine aa rfl rfl ?_;refine TL.nil ?_
   repeat refine TC.seq ?_
   refine TC.region ?_;refine ah rfl rfl ?_;refine ak rfl rfl rfl (r:=.bool false) rfl ?_;refine ah rfl rfl ?_;refine aE rfl ?_;refine ah rfl rfl ?_;refine aE rfl ?_;refine aO rfl rfl rfl (by decide) rfl rfl ?_;refine aE rfl ?_;refine ax rfl rfl rfl ?_;refine aE rfl ?_;refine ah rfl rfl ?_;refine aE rfl ?_;refine ak (r:=.bool false) rfl rfl rfl (DX rfl) ?_;refine fE rfl rfl rfl ?_;refine TL.nil ?_
   repeat refine TC.seq ?_
   refine TC.aC rfl ?_;refine TC.skip ?_
   repeat refine TC.seq ?_
   refine TC.region ?_;refine ah rfl rfl ?_;refine aV rfl rfl rfl (by omega) ?_;refine aa rfl rfl ?_;refine TL.nil ?_;exact again (k':=cs.length-(i+1)) (by omega) ⟨i+1,n+1,_,rfl,by omega,by omega,by omega,rfl⟩ rfl rfl
  |false=>
   repeat refine TC.seq ?_
   refine TC.region ?_;refine ah rfl rfl ?_;refine ah rfl rfl ?_;refine aO rfl rfl rfl (Int.natCast_nonneg i) (r:=[.bool false]) (qX FF) rfl ?_;refine ax rfl rfl rfl ?_;refine TL.nil ?_
   repeat refine TC.seq ?_
   refine TC.aC rfl ?_;refine TC.skip ?_
   repeat refine TC.seq ?_
   refine TC.region ?_;refine ah rfl rfl ?_;refine ah rfl rfl ?_;refine aD rfl rfl rfl rfl rfl rfl rfl rfl ?_
   (refine dF (tP n) rfl rfl ?_;rintro _ _ ⟨rfl,rfl⟩)
   refine ah rfl rfl ?_;refine aR rfl rfl rfl ?_;refine aR rfl rfl rfl ?_;refine aa rfl rfl ?_;refine aa rfl rfl ?_;refine TL.nil ?_
   repeat refine TC.seq ?_
   refine TC.region ?_;refine ah rfl rfl ?_;refine ak rfl rfl rfl (r:=.bool false) rfl ?_;refine ah rfl rfl ?_;refine aE rfl ?_;refine ah rfl rfl ?_;refine aE rfl ?_;refine aO rfl rfl rfl (by decide) rfl rfl ?_;refine aE rfl ?_;refine ax rfl rfl rfl ?_;refine aE rfl ?_;refine ah rfl rfl ?_;refine aE rfl ?_;refine ak (r:=.bool false) rfl rfl rfl (DX rfl) ?_;refine fE rfl rfl rfl ?_;refine TL.nil ?_
   repeat refine TC.seq ?_
   refine TC.aC rfl ?_;refine TC.skip ?_
   repeat refine TC.seq ?_
   refine TC.region ?_;refine ah rfl rfl ?_;refine aV rfl rfl rfl (by omega) ?_;refine aa rfl rfl ?_;refine TL.nil ?_;exact again (k':=cs.length-(i+1)) (by omega) ⟨i+1,n,_,rfl,by omega,by omega,by omega,rfl⟩ rfl rfl
 ·refine TC.exit ?_
  repeat refine TC.seq ?_
  refine TC.region ?_;refine aa rfl rfl ?_;refine TL.nil ?_;exact TC.ret ⟨_,rfl,rfl,.inr ⟨_,rfl⟩⟩
theorem mF(cs:List Bool)(v:D)(IX:D7 cs v):CT prog 10 [.d v] [aZ] λr K=>r=.d (.bool true)/\K=[aZ]:=by
 refine CT.drop 1 (Nat.le_refl _) ((Fj cs v IX).mono ?_);rintro r k ⟨rfl,rfl|⟨n,rfl⟩⟩
 ·exact⟨Nat.le_refl _,.d _,CI,rfl,rfl⟩
 ·obtain⟨h1,h2⟩:=vi n;exact⟨h1,.d _,by rw[h2];exact CI,rfl,h2⟩
end Go.Proofs.Pz
