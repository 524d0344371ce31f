/- A part of the proof of the last text of this claim, without conditions. -/
import Derived.Test.YtbafhpblecdbbaaGreatDoorI
set_option maxRecDepth 4000
set_option linter.all false
namespace Go.Ps
open Go.Mt Go.Sm
mutual
def dP:Xp->Nat
 |.mk _ _ _ _ _ kids _=>1+dA kids
def dA:List Xp->Nat
 |[]=>0
 |e::l=>dP e+dA l
end
mutual
theorem mW:∀(e:Xp) (l:List Nm),(jT e l).length<=l.length+dP e
 |.mk k op n x names kids p,l=>by
  rw[jT,dP];split
  ·have:=jU kids (dl l x);have:=gN l x;omega
  ·split
   ·have:=jU kids l;have:=gN (dz kids l) x;omega
   ·have:=jU kids l;omega
theorem jU:∀(r:List Xp) (l:List Nm),(dz r l).length<=l.length+dA r
 |[],l=>by rw[dz];omega
 |e::r,l=>by rw[dz,dA];have:=mW e l;have:=jU r (jT e l);omega
end
mutual
theorem ow:∀(e:Xp) (l:List Nm),(iC e l).length<=l.length+dP e
 |.mk k op n x names kids p,l=>by
  rw[iC,dP];split
  ·have:=ko kids (dl l x);have:=gN l x;omega
  ·have:=ko kids l;omega
theorem ko:∀(r:List Xp) (l:List Nm),(eV r l).length<=l.length+dA r
 |[],l=>by rw[eV];omega
 |e::r,l=>by rw[eV,dA];have:=ow e l;have:=ko r (iC e l);omega
end
inductive lJ:Xp->Prop where
 |mk {e:Xp} (KJ:e.kd=12->∃a,e.kids=[a]) (h1:e.kids.length<=1000000) (h2:e.names.length<=1000000) (h3:∀k∈e.kids,lJ k):lJ e
theorem z'(e:Xp):dP e=1+dA e.kids:=by cases e;rw[dP];rfl
theorem ju(a b:List Xp):dA (a++b)=dA a+dA b:=by
 induction a with
 |nil=>simp[dA]
 |cons x a ih=>simp only[List.cons_append,dA,ih];omega
theorem tu:∀(a b:List Xp) (l:List Nm),dz (a++b) l=dz b (dz a l)
 |[],b,l=>by simp[dz]
 |e::a,b,l=>by simp[dz,tu a b]
theorem re:∀(a b:List Xp) (l:List Nm),eV (a++b) l=eV b (eV a l)
 |[],b,l=>by simp[eV]
 |e::a,b,l=>by simp[eV,re a b]
theorem Cq(e:Xp)(l:List Nm):jT e l=if e.kd=4\/e.kd=13 then dz e.kids (dl l e.nm)else if e.kd=12 then dl (dz e.kids l) e.nm else dz e.kids l:=by cases e;rw[jT];rfl
theorem A9(e:Xp)(l:List Nm):iC e l=eV e.kids (if e.kd=5 then dl l e.nm else l):=by cases e;rw[iC];rfl
end Go.Ps
namespace Go.Proofs.Pz
open Go.Mt Go.Sm Go.Ps Go.Proofs
open Tryz
theorem wg(l:List Nm)(x:Nm)(hl:l.length<=1000000)(m:M):Dt prog 179 [m,.d (.str x)] [.acc 1 (aU l) m] λr l'=>l'=[.acc 1 (aU (dl l x)) r]:=by
 intro H F hs;have w:=Wk.start hs;have hv:=w.view (et l);have hc:=jn l x hl;refine DT.aG func179 rfl ntmps179 rfl ?_;cases hh:dh l x with
 |true=>
  rw[hh]at hc;have e:dl l x=l:=by rw[dl,if_pos hh]
  rw[e]
  repeat refine DC.seq ?_
  apply DC.ae
  ·intro s0 Oo;refine aa rfl rfl ?_;exact TL.nil rfl
  repeat refine DC.seq ?_
  apply DC.ae
  ·intro s0 Oo;refine ah rfl rfl ?_;refine ah rfl rfl ?_
   (refine TL.bC 5 rfl hv ?_;refine bL hc rfl rfl ?_)
   exact TL.nil rfl
  repeat refine DC.seq ?_
  refine DC.cond rfl (λhc=>?_) (λhc=>by cases hc)
  repeat refine DC.seq ?_
  apply DC.ae
  ·intro s0 Oo;refine ah rfl rfl ?_;refine aa rfl rfl ?_;exact TL.nil rfl
  exact DC.ret ⟨_,rfl,_,rfl,w⟩
 |false=>
  rw[hh]at hc;have e:aU (dl l x)=aU l++[[.str x]]:=by rw[dl,if_neg (by rw[hh];simp)];simp[aU]
  rw[e]
  repeat refine DC.seq ?_
  apply DC.ae
  ·intro s0 Oo;refine aa rfl rfl ?_;exact TL.nil rfl
  repeat refine DC.seq ?_
  apply DC.ae
  ·intro s0 Oo;refine ah rfl rfl ?_;refine ah rfl rfl ?_
   (refine TL.bC 5 rfl hv ?_;refine bL hc rfl rfl ?_)
   exact TL.nil rfl
  repeat refine DC.seq ?_
  refine DC.cond rfl (λhc=>by cases hc) (λhc=>?_);refine DC.skip ?_
  repeat refine DC.seq ?_
  apply DC.ae
  ·intro s0 Oo;refine ah rfl rfl ?_;refine ah rfl rfl ?_;refine aD rfl rfl rfl rfl rfl rfl rfl rfl ?_;refine cK w rfl rfl rfl rfl rfl rfl (by exact cO rfl) (by simp only[List.length_map,List.length_singleton];omega) ?_;refine aa rfl rfl ?_;exact TL.nil rfl
  exact DC.ret ⟨_,rfl,_,rfl,w.app [[.str x]]⟩
theorem uY(e:Xp)(l:List Nm)(m:M)(GV:lJ e)(hl:l.length+dP e<=1000000):Dt prog 182 [m,.d (.agg e.cells)] [.acc 1 (aU l) m] λr l'=>l'=[.acc 1 (aU (iC e l)) r]:=by
 have ih:∀k∈e.kids,∀(l:List Nm) (m:M),l.length+dP k<=1000000->Dt prog 182 [m,.d (.agg k.cells)] [.acc 1 (aU l) m] λr l'=>l'=[.acc 1 (aU (iC k l)) r]:=
  λk hk l m h=>
   have:=Xp.rT hk
   uY k l m (by cases GV with|mk _ _ _ h3=>exact h3 k hk) h
 have Ic:e.kids.length<=1000000:=by cases GV with|mk _ h1 _ _=>exact h1
 rw[z']at hl;intro H F hs;have w:=Wk.start hs;rw[A9,e.ai];have hlen:(e.kids.map Xp.cells).length=e.kids.length:=by simp
 obtain⟨l1,Hr⟩:∃l1,l1=if e.kd=5 then dl l e.nm else l:=⟨_,rfl⟩
 have QK:l1.length<=l.length+1:=by rw[Hr];split;exact gN l e.nm;omega
 rw[<-Hr];refine DT.aG func182 rfl ntmps182 rfl ?_
 repeat refine DC.seq ?_
 apply DC.ae
 ·intro s0 Oo;refine b_ rfl rfl ?_;refine aa rfl rfl ?_;exact TL.nil rfl
 obtain⟨m1,K1,w1,Iq⟩:∃m1 K1,Wk F H [.acc 1 (aU l1) m1] K1/\(if e.kd=5 then CT prog 179 [m,.d (.str e.nm)] H λr' K'=>r'=m1/\K'=K1 else m1=m/\K1=H):=by
  by_cases h5:e.kd=5
  ·obtain⟨x,K,l',GC,w,hc⟩:=Wk.call (r:=[]) w (wg l e.nm (by omega) m);subst GC;refine⟨x,K,?_,by rw[if_pos h5];exact hc⟩;rw[Hr,if_pos h5];exact w
  ·exact⟨m,H,by rw[Hr,if_neg h5];exact w,by rw[if_neg h5];exact⟨rfl,rfl⟩⟩
 clear w;refine DC.seq ?_;refine DC.EB ⟨[(3,.m (.d (.bM (xC e) 0))),(0,.m m1)],[],K1⟩ ?_ ?_
 ·by_cases h5:e.kd=5
  ·rw[if_pos h5]at Iq;have b5:(e.kd==5)=true:=by simp[h5]
   repeat refine DC.seq ?_
   apply DC.ae
   ·intro s0 Oo;refine az rfl rfl ?_;refine ax rfl rfl rfl ?_
    (refine ak rfl rfl rfl (r:=.bool true) (by show some (D.bool (e.kd==5))=_;rw[b5]) ?_)
    exact TL.nil rfl
   repeat refine DC.seq ?_
   refine DC.cond rfl (λhc=>?_) (λhc=>by cases hc)
   repeat refine DC.seq ?_
   apply DC.ae
   ·intro s0 Oo;refine ah rfl rfl ?_;refine az rfl rfl ?_;refine ax rfl rfl rfl ?_;refine bn Iq rfl rfl ?_;refine aa rfl rfl ?_;exact TL.nil rfl
   exact oh rfl rfl
  ·rw[if_neg h5]at Iq;obtain⟨rfl,rfl⟩:=Iq;have b5:(e.kd==5)=false:=by simp[h5]
   repeat refine DC.seq ?_
   apply DC.ae
   ·intro s0 Oo;refine az rfl rfl ?_;refine ax rfl rfl rfl ?_
    (refine ak rfl rfl rfl (r:=.bool false) (by show some (D.bool (e.kd==5))=_;rw[b5]) ?_)
    exact TL.nil rfl
   repeat refine DC.seq ?_
   refine DC.cond rfl (λhc=>by cases hc) (λhc=>?_);refine DC.skip ?_;exact oh rfl rfl
 clear Iq;have Ir:xC e=gw e.kd e.op e.num e.nm e.names (e.kids.map Xp.cells) e.ps:=rfl;rw[Ir];clear Ir;generalize e.kids=ks at ih Ic hl hlen⊢
 repeat refine DC.seq ?_
 apply DC.ae
 ·intro s0 Oo;refine az rfl rfl ?_;refine ax rfl rfl rfl ?_
  (refine bg rfl rfl rfl ?_;rw[hlen])
  refine ah rfl rfl ?_;exact TL.nil rfl
 refine DC.rename [(17,.m (.d (.int .i64 ((0:Nat):Int)))),(16,.m (.d (.int .i64 ((ks.length:Nat):Int)))),(15,.m (.d (.sl (ks.map Xp.cells)))),(0,.m m1)] _ rfl rfl ?_
 repeat refine DC.seq ?_
 refine DC.block ?_;refine DC.loop (λm s1=>∃(i:Nat) (m0:M) (bx:List (Nat×List M)) (H1:Hp),s1=⟨[(17,.m (.d (.int .i64 ((i:Nat):Int)))),(16,.m (.d (.int .i64 ((ks.length:Nat):Int)))),(15,.m (.d (.sl (ks.map Xp.cells)))),(0,.m m0)],bx,H1⟩/\
   Wk F H [.acc 1 (aU (eV (ks.take i) l1)) m0] H1/\i<=ks.length/\m=ks.length-i) ks.length _
  ⟨0,m1,_,_,rfl,by rw[List.take_zero,eV];exact w1,by omega,rfl⟩ rfl ?_
 clear w1;rintro m s1 ⟨i,m0,bx,H1,rfl,w,hi,rfl⟩
 repeat refine DC.seq ?_
 apply DC.ae
 ·intro s0 Oo;refine ak rfl rfl rfl rfl ?_;exact TL.nil rfl
 repeat refine DC.seq ?_
 refine DC.cond rfl (λhc=>?_) (λhc=>?_)
 ·have FH:i<ks.length:=by have:=of_decide_eq_true hc;omega
  clear hc;have FF:(ks.map Xp.cells)[((i:Nat):Int).toNat]?=some ks[i].cells:=by simp[FH]
  have FU:eV (ks.take (i+1)) l1=iC ks[i] (eV (ks.take i) l1):=by rw[List.take_succ_eq_append_getElem FH,re];simp[eV]
  have HZ:=ko (ks.take i) l1;have Gd:dA (ks.take i)+dP ks[i]<=dA ks:=by
   have h1:dA ks=dA (ks.take (i+1))+dA (ks.drop (i+1)):=by rw[<-ju,List.take_append_drop]
   rw[List.take_succ_eq_append_getElem FH,ju]at h1;simp only[dA]at h1;omega
  obtain⟨x,K2,l',GC,w,FX⟩:=Wk.call (r:=[]) w (ih _ (List.getElem_mem FH) _ m0 (by omega));subst GC;generalize ks[i]=k at FF FU FX w;rw[k.ai]at FF FX;refine DC.skip ?_
  repeat refine DC.seq ?_
  refine DC.block ?_
  repeat refine DC.seq ?_
  apply DC.ae
  ·intro s0 Oo;refine aO rfl rfl rfl (Int.natCast_nonneg i) FF rfl ?_;refine aW rfl rfl rfl ?_;refine aM rfl rfl ?_;refine av rfl rfl rfl rfl rfl rfl ?_;exact TL.nil rfl
  repeat refine DC.seq ?_
  apply DC.ae
  ·intro s0 Oo;refine ah rfl rfl ?_;refine aY rfl rfl rfl rfl rfl ?_;refine bn FX rfl rfl ?_;refine aa rfl rfl ?_;exact TL.nil rfl
  repeat refine DC.seq ?_
  apply DC.ae
  ·intro s0 Oo;refine aV rfl rfl rfl (by omega) ?_;refine ah rfl rfl ?_;exact TL.nil rfl
  exact cb (k':=ks.length-(i+1)) (by omega) ⟨i+1,_,_,_,rfl,by rw[FU];exact w,by omega,rfl⟩ rfl rfl
 ·refine DC.exit ?_;have FH:i=ks.length:=by have:=of_decide_eq_false hc;omega
  subst FH;rw[List.take_length]at w
  repeat refine DC.seq ?_
  apply DC.ae
  ·intro s0 Oo;refine ah rfl rfl ?_;refine aa rfl rfl ?_;exact TL.nil rfl
  exact DC.ret ⟨_,rfl,_,rfl,w⟩
termination_by SizeOf.sizeOf e
theorem uZ(e:Xp)(l:List Nm)(m:M)(GV:lJ e)(hl:l.length+dP e<=1000000):Dt prog 130 [m,.d (.agg e.cells),.d (.bool false)] [.acc 1 (aU l) m] λr l'=>l'=[.acc 1 (aU (jT e l)) r]:=by
 have ih:∀k∈e.kids,∀(l:List Nm) (m:M),l.length+dP k<=1000000->Dt prog 130 [m,.d (.agg k.cells),.d (.bool false)] [.acc 1 (aU l) m] λr l'=>l'=[.acc 1 (aU (jT k l)) r]:=
  λk hk l m h=>
   have:=Xp.rT hk
   uZ k l m (by cases GV with|mk _ _ _ h3=>exact h3 k hk) h
 have Ic:e.kids.length<=1000000:=by cases GV with|mk _ h1 _ _=>exact h1
 have KJ:e.kd=12->∃a,e.kids=[a]:=by cases GV with|mk h _ _ _=>exact h
 rw[z']at hl;intro H F hs;have w:=Wk.start hs;rw[Cq,e.ai];have hlen:(e.kids.map Xp.cells).length=e.kids.length:=by simp
 refine DT.aG func130 rfl ntmps130 rfl ?_;by_cases Kb:e.kd=12
 ·obtain⟨a,ha⟩:=KJ Kb;have b4:(e.kd==4)=false:=by simp[Kb]
  have LV:(e.kd==13)=false:=by simp[Kb]
  have M8:(e.kd==12)=true:=by simp[Kb]
  rw[ha]at ih hl;simp only[dA]at hl;obtain⟨x,K,l',GC,w,Ge⟩:=Wk.call (r:=[]) w (ih a (by simp) l m (by omega));subst GC;have JN:=mW a l;obtain⟨x2,K2,l',GC,w,Gb⟩:=Wk.call (r:=[]) w (wg (jT a l) e.nm (by omega) x);subst GC;have FF:(e.kids.map Xp.cells)[((0:Nat):Int).toNat]?=some a.cells:=by rw[ha];rfl
  rw[a.ai]at FF Ge;have I1:(if e.kd=4\/e.kd=13 then dz e.kids (dl l e.nm)else if e.kd=12 then dl (dz e.kids l) e.nm else dz e.kids l)=dl (jT a l) e.nm:=by
   rw[if_neg (by omega),if_pos Kb,ha];simp[dz]
  rw[I1]
  repeat refine DC.seq ?_
  apply DC.ae
  ·intro s0 Oo;refine b_ rfl rfl ?_;refine aa rfl rfl ?_;exact TL.nil rfl
  repeat refine DC.seq ?_
  apply DC.ae
  ·intro s0 Oo;refine az rfl rfl ?_;refine ax rfl rfl rfl ?_;exact TL.nil rfl
  repeat refine DC.seq ?_
  refine DC.block ?_
  repeat refine DC.seq ?_
  apply DC.ae
  ·intro s0 Oo
   (refine ak rfl rfl rfl (r:=.bool false) (by show some (D.bool (e.kd==4))=_;rw[b4]) ?_)
   refine aa rfl rfl ?_;exact TL.nil rfl
  repeat refine DC.seq ?_
  refine DC.cond rfl (λhc=>by cases hc) (λhc=>?_)
  repeat refine DC.seq ?_
  apply DC.ae
  ·intro s0 Oo
   (refine ak rfl rfl rfl (r:=.bool false) (by show some (D.bool (e.kd==13))=_;rw[LV]) ?_)
   refine aa rfl rfl ?_;exact TL.nil rfl
  repeat refine DC.seq ?_
  refine DC.cond rfl (λhc=>by cases hc) (λhc=>?_)
  repeat refine DC.seq ?_
  apply DC.ae
  ·intro s0 Oo
   (refine ak rfl rfl rfl (r:=.bool true) (by show some (D.bool (e.kd==12))=_;rw[M8]) ?_)
   refine aa rfl rfl ?_;exact TL.nil rfl
  repeat refine DC.seq ?_
  refine DC.cond rfl (λ_=>?_) (λhc=>by cases hc)
  repeat refine DC.seq ?_
  apply DC.ae
  ·intro s0 Oo;refine ah rfl rfl ?_;refine az rfl rfl ?_;refine ax rfl rfl rfl ?_;refine aO rfl rfl rfl (Int.natCast_nonneg 0) FF rfl ?_;refine aW rfl rfl rfl ?_;refine ah rfl rfl ?_;refine bn Ge rfl rfl ?_;refine aa rfl rfl ?_;exact TL.nil rfl
  repeat refine DC.seq ?_
  apply DC.ae
  ·intro s0 Oo;refine ah rfl rfl ?_;refine az rfl rfl ?_;refine ax rfl rfl rfl ?_;refine bn Gb rfl rfl ?_;refine aa rfl rfl ?_;exact TL.nil rfl
  exact DC.ret ⟨_,rfl,_,rfl,w⟩
 obtain⟨l1,Hr⟩:∃l1,l1=if e.kd=4\/e.kd=13 then dl l e.nm else l:=⟨_,rfl⟩
 have QK:l1.length<=l.length+1:=by rw[Hr];split;exact gN l e.nm;omega
 have I1:(if e.kd=4\/e.kd=13 then dz e.kids (dl l e.nm)else if e.kd=12 then dl (dz e.kids l) e.nm else dz e.kids l)=dz e.kids l1:=by
  rw[Hr];simp only[if_neg Kb];split<;>rfl
 rw[I1]
 repeat refine DC.seq ?_
 apply DC.ae
 ·intro s0 Oo;refine b_ rfl rfl ?_;refine aa rfl rfl ?_;exact TL.nil rfl
 obtain⟨m1,K1,w1,Iq⟩:∃m1 K1,Wk F H [.acc 1 (aU l1) m1] K1/\(if e.kd=4\/e.kd=13 then CT prog 179 [m,.d (.str e.nm)] H λr' K'=>r'=m1/\K'=K1 else m1=m/\K1=H):=by
  by_cases h5:e.kd=4\/e.kd=13
  ·obtain⟨x,K,l',GC,w,hc⟩:=Wk.call (r:=[]) w (wg l e.nm (by omega) m);subst GC;refine⟨x,K,?_,by rw[if_pos h5];exact hc⟩;rw[Hr,if_pos h5];exact w
  ·exact⟨m,H,by rw[Hr,if_neg h5];exact w,by rw[if_neg h5];exact⟨rfl,rfl⟩⟩
 clear w;refine DC.seq ?_;refine DC.EB ⟨[(4,.m (.d (.bM (xC e) 0))),(0,.m m1),(2,.m (.d (.bool false)))],[],K1⟩ ?_ ?_
 ·by_cases h4:e.kd=4
  ·rw[if_pos (.inl h4)]at Iq;have b4:(e.kd==4)=true:=by simp[h4]
   repeat refine DC.seq ?_
   apply DC.ae
   ·intro s0 Oo;refine az rfl rfl ?_;refine ax rfl rfl rfl ?_;exact TL.nil rfl
   repeat refine DC.seq ?_
   refine DC.block ?_
   repeat refine DC.seq ?_
   apply DC.ae
   ·intro s0 Oo
    (refine ak rfl rfl rfl (r:=.bool true) (by show some (D.bool (e.kd==4))=_;rw[b4]) ?_)
    refine aa rfl rfl ?_;exact TL.nil rfl
   repeat refine DC.seq ?_
   refine DC.cond rfl (λhc=>?_) (λhc=>by cases hc);refine DC.skip ?_
   repeat refine DC.seq ?_
   refine DC.cond rfl (λhc=>?_) (λhc=>by cases hc)
   repeat refine DC.seq ?_
   apply DC.ae
   ·intro s0 Oo;refine ah rfl rfl ?_;refine az rfl rfl ?_;refine ax rfl rfl rfl ?_;refine bn Iq rfl rfl ?_;refine aa rfl rfl ?_;exact TL.nil rfl
   exact oh rfl rfl
  have b4:(e.kd==4)=false:=by simp[h4]
  by_cases O7:e.kd=13
  ·rw[if_pos (.inr O7)]at Iq;have LV:(e.kd==13)=true:=by simp[O7]
   repeat refine DC.seq ?_
   apply DC.ae
   ·intro s0 Oo;refine az rfl rfl ?_;refine ax rfl rfl rfl ?_;exact TL.nil rfl
   repeat refine DC.seq ?_
   refine DC.block ?_
   repeat refine DC.seq ?_
   apply DC.ae
   ·intro s0 Oo
    (refine ak rfl rfl rfl (r:=.bool false) (by show some (D.bool (e.kd==4))=_;rw[b4]) ?_)
    refine aa rfl rfl ?_;exact TL.nil rfl
   repeat refine DC.seq ?_
   refine DC.cond rfl (λhc=>by cases hc) (λhc=>?_)
   repeat refine DC.seq ?_
   apply DC.ae
   ·intro s0 Oo
    (refine ak rfl rfl rfl (r:=.bool true) (by show some (D.bool (e.kd==13))=_;rw[LV]) ?_)
    refine aa rfl rfl ?_;exact TL.nil rfl
   repeat refine DC.seq ?_
   refine DC.cond rfl (λhc=>?_) (λhc=>by cases hc)
   repeat refine DC.seq ?_
   apply DC.ae
   ·intro s0 Oo;refine ah rfl rfl ?_;refine az rfl rfl ?_;refine ax rfl rfl rfl ?_;refine bn Iq rfl rfl ?_;refine aa rfl rfl ?_;exact TL.nil rfl
   exact oh rfl rfl
  have LV:(e.kd==13)=false:=by simp[O7]
  have M8:(e.kd==12)=false:=by simp[Kb]
  rw[if_neg (by omega)]at Iq;obtain⟨rfl,rfl⟩:=Iq
  repeat refine DC.seq ?_
  apply DC.ae
  ·intro s0 Oo;refine az rfl rfl ?_;refine ax rfl rfl rfl ?_;exact TL.nil rfl
  repeat refine DC.seq ?_
  refine DC.block ?_
  repeat refine DC.seq ?_
  apply DC.ae
  ·intro s0 Oo
   (refine ak rfl rfl rfl (r:=.bool false) (by show some (D.bool (e.kd==4))=_;rw[b4]) ?_)
   refine aa rfl rfl ?_;exact TL.nil rfl
  repeat refine DC.seq ?_
  refine DC.cond rfl (λhc=>by cases hc) (λhc=>?_)
  repeat refine DC.seq ?_
  apply DC.ae
  ·intro s0 Oo
   (refine ak rfl rfl rfl (r:=.bool false) (by show some (D.bool (e.kd==13))=_;rw[LV]) ?_)
   refine aa rfl rfl ?_;exact TL.nil rfl
  repeat refine DC.seq ?_
  refine DC.cond rfl (λhc=>by cases hc) (λhc=>?_)
  repeat refine DC.seq ?_
  apply DC.ae
  ·intro s0 Oo
   (refine ak rfl rfl rfl (r:=.bool false) (by show some (D.bool (e.kd==12))=_;rw[M8]) ?_)
   refine aa rfl rfl ?_;exact TL.nil rfl
  repeat refine DC.seq ?_
  refine DC.cond rfl (λhc=>by cases hc) (λhc=>?_);by_cases H5:e.kd=10
  ·have O8:(e.kd==10)=true:=by simp[H5]
   repeat refine DC.seq ?_
   apply DC.ae
   ·intro s0 Oo
    (refine ak rfl rfl rfl (r:=.bool true) (by show some (D.bool (e.kd==10))=_;rw[O8]) ?_)
    refine aa rfl rfl ?_;exact TL.nil rfl
   repeat refine DC.seq ?_
   refine DC.cond rfl (λhc=>?_) (λhc=>by cases hc)
   repeat refine DC.seq ?_
   apply DC.ae
   ·intro s0 Oo;refine ah rfl rfl ?_;exact TL.nil rfl
   repeat refine DC.seq ?_
   refine DC.cond rfl (λhc=>by cases hc) (λhc=>?_);refine DC.skip ?_;exact oh rfl rfl
  have O8:(e.kd==10)=false:=by simp[H5]
  repeat refine DC.seq ?_
  apply DC.ae
  ·intro s0 Oo
   (refine ak rfl rfl rfl (r:=.bool false) (by show some (D.bool (e.kd==10))=_;rw[O8]) ?_)
   refine aa rfl rfl ?_;exact TL.nil rfl
  repeat refine DC.seq ?_
  refine DC.cond rfl (λhc=>by cases hc) (λhc=>?_);by_cases h9:e.kd=9
  ·have b9:(e.kd==9)=true:=by simp[h9]
   repeat refine DC.seq ?_
   apply DC.ae
   ·intro s0 Oo
    (refine ak rfl rfl rfl (r:=.bool true) (by show some (D.bool (e.kd==9))=_;rw[b9]) ?_)
    refine aa rfl rfl ?_;exact TL.nil rfl
   repeat refine DC.seq ?_
   refine DC.cond rfl (λhc=>?_) (λhc=>by cases hc)
   repeat refine DC.seq ?_
   apply DC.ae
   ·intro s0 Oo;refine ah rfl rfl ?_;exact TL.nil rfl
   repeat refine DC.seq ?_
   refine DC.cond rfl (λhc=>by cases hc) (λhc=>?_);refine DC.skip ?_;exact oh rfl rfl
  have b9:(e.kd==9)=false:=by simp[h9]
  repeat refine DC.seq ?_
  apply DC.ae
  ·intro s0 Oo
   (refine ak rfl rfl rfl (r:=.bool false) (by show some (D.bool (e.kd==9))=_;rw[b9]) ?_)
   refine aa rfl rfl ?_;exact TL.nil rfl
  repeat refine DC.seq ?_
  refine DC.cond rfl (λhc=>by cases hc) (λhc=>?_);refine DC.skip ?_;exact oh rfl rfl
 clear Iq;have Ir:xC e=gw e.kd e.op e.num e.nm e.names (e.kids.map Xp.cells) e.ps:=rfl;rw[Ir];clear Ir I1 KJ;generalize e.kids=ks at ih Ic hl hlen⊢
 repeat refine DC.seq ?_
 apply DC.ae
 ·intro s0 Oo;refine az rfl rfl ?_;refine ax rfl rfl rfl ?_
  (refine bg rfl rfl rfl ?_;rw[hlen])
  refine ah rfl rfl ?_;exact TL.nil rfl
 refine DC.rename [(48,.m (.d (.int .i64 ((0:Nat):Int)))),(47,.m (.d (.int .i64 ((ks.length:Nat):Int)))),(46,.m (.d (.sl (ks.map Xp.cells)))),(0,.m m1),(2,.m (.d (.bool false)))] _ rfl rfl ?_
 repeat refine DC.seq ?_
 refine DC.block ?_;refine DC.loop (λm s1=>∃(i:Nat) (m0:M) (bx:List (Nat×List M)) (H1:Hp),s1=⟨[(48,.m (.d (.int .i64 ((i:Nat):Int)))),(47,.m (.d (.int .i64 ((ks.length:Nat):Int)))),(46,.m (.d (.sl (ks.map Xp.cells)))),(0,.m m0),(2,.m (.d (.bool false)))],bx,H1⟩/\
   Wk F H [.acc 1 (aU (dz (ks.take i) l1)) m0] H1/\i<=ks.length/\m=ks.length-i) ks.length _
  ⟨0,m1,_,_,rfl,by rw[List.take_zero,dz];exact w1,by omega,rfl⟩ rfl ?_
 clear w1;rintro m s1 ⟨i,m0,bx,H1,rfl,w,hi,rfl⟩
 repeat refine DC.seq ?_
 apply DC.ae
 ·intro s0 Oo;refine ak rfl rfl rfl rfl ?_;exact TL.nil rfl
 repeat refine DC.seq ?_
 refine DC.cond rfl (λhc=>?_) (λhc=>?_)
 ·have FH:i<ks.length:=by have:=of_decide_eq_true hc;omega
  clear hc;have FF:(ks.map Xp.cells)[((i:Nat):Int).toNat]?=some ks[i].cells:=by simp[FH]
  have FU:dz (ks.take (i+1)) l1=jT ks[i] (dz (ks.take i) l1):=by rw[List.take_succ_eq_append_getElem FH,tu];simp[dz]
  have HZ:=jU (ks.take i) l1;have Gd:dA (ks.take i)+dP ks[i]<=dA ks:=by
   have h1:dA ks=dA (ks.take (i+1))+dA (ks.drop (i+1)):=by rw[<-ju,List.take_append_drop]
   rw[List.take_succ_eq_append_getElem FH,ju]at h1;simp only[dA]at h1;omega
  obtain⟨x,K2,l',GC,w,FX⟩:=Wk.call (r:=[]) w (ih _ (List.getElem_mem FH) _ m0 (by omega));subst GC;generalize ks[i]=k at FF FU FX w;rw[k.ai]at FF FX;refine DC.skip ?_
  repeat refine DC.seq ?_
  refine DC.block ?_
  repeat refine DC.seq ?_
  apply DC.ae
  ·intro s0 Oo;refine aO rfl rfl rfl (Int.natCast_nonneg i) FF rfl ?_;refine aW rfl rfl rfl ?_;refine aM rfl rfl ?_;refine av rfl rfl rfl rfl rfl rfl ?_;exact TL.nil rfl
  repeat refine DC.seq ?_
  apply DC.ae
  ·intro s0 Oo;refine ah rfl rfl ?_;refine aY rfl rfl rfl rfl rfl ?_;refine ah rfl rfl ?_;refine bn FX rfl rfl ?_;refine aa rfl rfl ?_;exact TL.nil rfl
  repeat refine DC.seq ?_
  apply DC.ae
  ·intro s0 Oo;refine aV rfl rfl rfl (by omega) ?_;refine ah rfl rfl ?_;exact TL.nil rfl
  exact cb (k':=ks.length-(i+1)) (by omega) ⟨i+1,_,_,_,rfl,by rw[FU];exact w,by omega,rfl⟩ rfl rfl
 ·refine DC.exit ?_;have FH:i=ks.length:=by have:=of_decide_eq_false hc;omega
  subst FH;rw[List.take_length]at w
  repeat refine DC.seq ?_
  apply DC.ae
  ·intro s0 Oo;refine ah rfl rfl ?_;refine aa rfl rfl ?_;exact TL.nil rfl
  exact DC.ret ⟨_,rfl,_,rfl,w⟩
termination_by SizeOf.sizeOf e
theorem Dq(e:Xp)(GV:lJ e)(hl:dP e<=1000000):Dt prog 83 [.d (.agg e.cells)] [] λr l'=>r=.d (.sl (aU (jT e [])))/\l'=[]:=by
 intro H F hs;have w:=(Wk.start hs).nil 1;obtain⟨x,K,l',GC,w,hc⟩:=Wk.call (r:=[]) w (uZ e [] (.d (.sl [])) GV (by simpa using hl));subst GC;have hv:=w.view (et _);rw[e.ai]at hc⊢;refine DT.aG func83 rfl ntmps83 rfl ?_
 repeat refine DC.seq ?_
 apply DC.ae
 ·intro s0 Oo;refine b_ rfl rfl ?_;refine aa rfl rfl ?_;exact TL.nil rfl
 repeat refine DC.seq ?_
 apply DC.ae
 ·intro s0 Oo;refine aW rfl rfl rfl ?_;refine bn hc rfl rfl ?_;refine aa rfl rfl ?_;exact TL.nil rfl
 refine DC.bC 2 rfl hv ?_;exact DC.ret ⟨_,rfl,[],⟨rfl,rfl⟩,w.drop⟩
theorem yX(e:Xp)(GV:lJ e)(hl:dP e<=1000000):Dt prog 137 [.d (.agg e.cells)] [] λr l'=>r=.d (.sl (aU (iC e [])))/\l'=[]:=by
 intro H F hs;have w:=(Wk.start hs).nil 1;obtain⟨x,K,l',GC,w,hc⟩:=Wk.call (r:=[]) w (uY e [] (.d (.sl [])) GV (by simpa using hl));subst GC;have hv:=w.view (et _);rw[e.ai]at hc⊢;refine DT.aG func137 rfl ntmps137 rfl ?_
 repeat refine DC.seq ?_
 apply DC.ae
 ·intro s0 Oo;refine b_ rfl rfl ?_;refine aa rfl rfl ?_;exact TL.nil rfl
 repeat refine DC.seq ?_
 apply DC.ae
 ·intro s0 Oo;refine aW rfl rfl rfl ?_;refine bn hc rfl rfl ?_;refine aa rfl rfl ?_;exact TL.nil rfl
 refine DC.bC 2 rfl hv ?_;exact DC.ret ⟨_,rfl,[],⟨rfl,rfl⟩,w.drop⟩
end Go.Proofs.Pz
namespace Go.Ps
open Go.Mt Go.Sm
abbrev eT(t:Int×Nm):List D:=[.int .u8 t.1,.str t.2]
def tv(vs:List Va)(f:Nm->Int×Nm):Prop:=∀v∈vs,(v.tk,v.tn)=f v.name
def A_(vs:List Va)(x:Nm):Prop:=∃v∈vs,v.name=x
def ox(op:Int):Int:=if op=1\/op=8\/op=9\/op=10 then 1 else if 2<=op/\op<=7 then 2 else if 13<=op/\op<=16 then 2 else 0
theorem wi{vs:List Va}{f:Nm->Int×Nm}{x:Nm}(he:tv vs f)(hx:A_ vs x):∃(i:Nat) (h:i<vs.length),oq vs x=some i/\(vs[i].tk,vs[i].tn)=f x:=by
 obtain⟨v,hv,rfl⟩:=hx;rcases uX vs (λu=>decide (u.name=v.name))with⟨h1,h2⟩|⟨i,h,h1,h2⟩
 ·rw[List.find?_eq_none]at h2;exact absurd (h2 v hv) (by simp)
 ·refine⟨i,h,?_,?_⟩
  ·exact h1
  ·have:=List.find?_some h2;rw[he _ (List.getElem_mem h),of_decide_eq_true this]
theorem kS{vs:List Va}{i:Nat}(h:i<vs.length):(aJ vs)[((i:Nat):Int).toNat]?=some vs[i].cells:=by simp[aJ,h]
end Go.Ps
namespace Go.Proofs.Pz
open Go.Mt Go.Sm Go.Ps Go.Proofs
open Tryz
instance:qR prog 53:=⟨by kernel_rfl⟩
theorem Cr{vs:List Va}{f:Nm->Int×Nm}(he:tv vs f)(hl:vs.length<=1000000){x:Nm}(hx:A_ vs x):PT prog 317 [.sl (aJ vs),.str x] (·=[.agg (eT (f x))]):=by
 obtain⟨i,hi,h1,h2⟩:=wi he hx;have hf:=pq vs x hl;rw[h1]at hf;have FF:=kS hi;rw[<-h2];generalize vs[i]=v at FF h2;rw[Va.ai]at FF;refine PT.du (CT.aG func317 rfl ntmps317 rfl λs0 Oo=>?_)
 repeat refine TC.seq ?_
 refine TC.region ?_;refine aM rfl rfl ?_;refine TL.nil ?_
 repeat refine TC.seq ?_
 refine TC.region ?_;refine ah rfl rfl ?_;refine ah rfl rfl ?_;refine ah rfl rfl ?_;refine bL hf rfl rfl ?_;refine aO rfl rfl rfl (Int.natCast_nonneg i) FF rfl ?_;refine az rfl rfl ?_;refine dj rfl rfl rfl ?_;refine av rfl rfl rfl rfl rfl rfl ?_;refine TL.nil ?_;exact TC.ret ⟨_,rfl,[_],rfl,rfl⟩
theorem uo(op:Int)(h:1<=op/\op<=16):PT prog 126 [.int .u8 op] (·=[.int .u8 (ox op),.int .u8 (tg op)]):=by
 have key:∀i o:Int,ox op=i->tg op=o->(wN prog pc (λ_=>false) (λ_ _=>0) 10 2 126 [.d (.int .u8 op)] []=.ok (fD [.d (.int .u8 i),.d (.int .u8 o)],[],[]))->PT prog 126 [.int .u8 op] (·=[.int .u8 (ox op),.int .u8 (tg op)]):=by
  intro i o hi ho h;rw[hi,ho];exact PT.zL yz h rfl
 have hc:op=1\/op=2\/op=3\/op=4\/op=5\/op=6\/op=7\/op=8\/op=9\/op=10\/op=11\/op=12\/op=13\/op=14\/op=15\/op=16:=by omega
 rcases hc with rfl|rfl|rfl|rfl|rfl|rfl|rfl|rfl|rfl|rfl|rfl|rfl|rfl|rfl|rfl|rfl
 ·exact key 1 1 rfl rfl (by kernel_rfl)
 iterate 6 exact key 2 2 rfl rfl (by kernel_rfl)
 iterate 3 exact key 1 1 rfl rfl (by kernel_rfl)
 iterate 2 exact key 0 1 rfl rfl (by kernel_rfl)
 iterate 4 exact key 2 1 rfl rfl (by kernel_rfl)
theorem wj{a b:Int×Nm}(h:a=b):(!(decide (a.1=b.1)&&decide (a.2=b.2)))=false:=by subst h;simp
theorem pt(e:Xp)(ts:List (Int×Nm))(t0:Int×Nm)(h0:ts.head?=some t0)(IL:1<=e.op/\e.op<=16)(hl:ts.length<=1000000)(h:∀t∈ts,(ox e.op≠0->t.1=ox e.op)/\t=t0):
  PT prog 318 [.agg e.cells,.sl (ts.map eT)] (·=[.agg (eT (tg e.op,⟨#[]⟩))]):=by
 have hn:=uo e.op IL;rw[e.ai];refine PT.du (CT.aG func318 rfl ntmps318 rfl λs0 Oo=>?_)
 repeat refine TC.seq ?_
 refine TC.region ?_;refine b_ rfl rfl ?_;refine aM rfl rfl ?_;refine TL.nil ?_
 repeat refine TC.seq ?_
 refine TC.region ?_;refine az rfl rfl ?_;refine ax rfl rfl rfl ?_
 (refine CO hn rfl rfl ?_;rintro _ rfl)
 refine ah rfl rfl ?_;refine aR rfl rfl rfl ?_;refine aR rfl rfl rfl ?_;refine aa rfl rfl ?_;refine aa rfl rfl ?_;refine TL.nil ?_;have hlen:(ts.map eT).length=ts.length:=by simp
 have M9:(ts.map eT)[((0:Nat):Int).toNat]?=some (eT t0):=by cases ts with|nil=>cases h0|cons a r=>injection h0 with h0;subst h0;rfl
 repeat refine TC.seq ?_
 refine TC.region ?_;refine ah rfl rfl ?_
 (refine bg rfl rfl rfl ?_;rw[hlen])
 refine ah rfl rfl ?_;refine TL.nil ?_
 repeat refine TC.seq ?_
 refine TC.block ?_;refine TC.ep (λk s=>∃(i:Nat) (bx:List (Nat×List M)),s=⟨[(17,.m (.d (.int .i64 i))),(16,.m (.d (.int .i64 (ts.length:Nat)))),(15,.m (.d (.sl (ts.map eT)))),(6,.m (.d (.int .u8 (tg e.op)))),(5,.m (.d (.int .u8 (ox e.op)))),(4,.loc 4 0),(2,.m (.d (.bM (xC e) 0))),(1,.m (.d (.sl (ts.map eT))))],bx,[]⟩/\Go.Mt.get bx 4=some [.d (.int .u8 0),.d (.str ⟨#[]⟩)]/\i<=ts.length/\k=ts.length-i) ts.length _
  ⟨0,_,rfl,rfl,by omega,rfl⟩ rfl ?_
 rintro k s ⟨i,bx,rfl,F9,hi,rfl⟩
 repeat refine TC.seq ?_
 refine TC.region ?_;refine ak rfl rfl rfl rfl ?_;refine TL.nil ?_
 repeat refine TC.seq ?_
 refine TC.cond rfl (λhc=>?_) (λhc=>?_)
 ·have FH:i<ts.length:=by have:=of_decide_eq_true hc;omega
  clear hc;have FF:(ts.map eT)[((i:Nat):Int).toNat]?=some (eT ts[i]):=by simp[FH]
  obtain⟨L5,Gi⟩:=h _ (List.getElem_mem FH);generalize ts[i]=t at FF L5 Gi;have FV:=wj Gi;refine TC.skip ?_
  repeat refine TC.seq ?_
  refine TC.block ?_
  repeat refine TC.seq ?_
  refine TC.region ?_;refine aO rfl rfl rfl (Int.natCast_nonneg i) FF rfl ?_;refine aW rfl rfl rfl ?_;refine aM rfl rfl ?_;refine av rfl rfl rfl rfl rfl rfl ?_;refine TL.nil ?_;by_cases hz:ox e.op=0
  ·have b0:(ox e.op !=0)=false:=by simp[hz]
   repeat refine TC.seq ?_
   refine TC.draw mixed ?_;refine aH rfl rfl ?_
   (refine ga rfl rfl rfl (r:=.bool false) (by show some (D.bool (ox e.op !=0))=_;rw[b0]) ?_)
   refine aH rfl rfl ?_;refine kb rfl rfl rfl rfl ?_;refine kb rfl rfl rfl rfl ?_;refine kb rfl rfl rfl rfl ?_;refine kb rfl rfl rfl rfl ?_;refine fT rfl rfl rfl ?_;refine aH rfl rfl ?_;refine ay rfl rfl ?_;refine bo rfl rfl rfl rfl rfl ?_;refine ay rfl rfl ?_;refine aH rfl rfl ?_;refine ay rfl rfl ?_;refine cM rfl rfl rfl (Int.natCast_nonneg 0) M9 rfl ?_;refine ay rfl rfl ?_;refine eB rfl rfl rfl ?_;refine ay rfl rfl ?_;refine pd rfl rfl rfl ?_;rw[FV];refine fT rfl rfl rfl ?_;refine TF.nil ⟨by kernel_rfl,?_⟩
   repeat refine TC.seq ?_
   refine TC.cond rfl (λhc=>by cases hc) (λhc=>?_);refine TC.skip ?_
   repeat refine TC.seq ?_
   refine TC.region ?_;refine aV rfl rfl rfl (by omega) ?_;refine ah rfl rfl ?_;refine TL.nil ?_;exact again (k':=ts.length-(i+1)) (by omega) ⟨i+1,_,rfl,F9,by omega,rfl⟩ rfl rfl
  ·have b0:(ox e.op !=0)=true:=by simp[hz]
   have b1:(t.1 !=ox e.op)=false:=by simp[L5 hz]
   repeat refine TC.seq ?_
   refine TC.draw mixed ?_;refine aH rfl rfl ?_
   (refine ga rfl rfl rfl (r:=.bool true) (by show some (D.bool (ox e.op !=0))=_;rw[b0]) ?_)
   refine aH rfl rfl ?_;refine ay rfl rfl ?_;refine aP rfl rfl ?_;refine ay rfl rfl ?_;refine bw rfl rfl rfl rfl ?_;refine ay rfl rfl ?_;refine aH rfl rfl ?_;refine ay rfl rfl ?_;refine ga rfl rfl rfl (r:=.bool false) (by show some (D.bool (t.1 !=ox e.op))=_;rw[b1]) ?_;refine fT rfl rfl rfl ?_;refine aH rfl rfl ?_;refine ay rfl rfl ?_;refine bo rfl rfl rfl rfl rfl ?_;refine ay rfl rfl ?_;refine aH rfl rfl ?_;refine ay rfl rfl ?_;refine cM rfl rfl rfl (Int.natCast_nonneg 0) M9 rfl ?_;refine ay rfl rfl ?_;refine eB rfl rfl rfl ?_;refine ay rfl rfl ?_;refine pd rfl rfl rfl ?_;rw[FV];refine fT rfl rfl rfl ?_;refine TF.nil ⟨by kernel_rfl,?_⟩
   repeat refine TC.seq ?_
   refine TC.cond rfl (λhc=>by cases hc) (λhc=>?_);refine TC.skip ?_
   repeat refine TC.seq ?_
   refine TC.region ?_;refine aV rfl rfl rfl (by omega) ?_;refine ah rfl rfl ?_;refine TL.nil ?_;exact again (k':=ts.length-(i+1)) (by omega) ⟨i+1,_,rfl,F9,by omega,rfl⟩ rfl rfl
 ·refine TC.exit ?_
  repeat refine TC.seq ?_
  refine TC.region ?_;refine ah rfl rfl ?_;refine bH rfl rfl rfl rfl rfl ?_;refine av rfl rfl F9 rfl rfl rfl ?_;refine TL.nil ?_;exact TC.ret ⟨_,rfl,[_],rfl,rfl⟩
end Go.Proofs.Pz
namespace Go.Ps
open Go.Mt Go.Sm
def ES(en:List En)(f:Nm->Int×Nm)(vs:Nm->Prop)(e:Xp):Prop:=
 e.kd=1\/e.kd=2\/(e.kd=3/\∃t∈en,dh t.fh e.nm=true)\/(e.kd=4/\vs e.nm)\/(e.kd=5/\vs e.nm)\/
 ((e.kd=6\/e.kd=7)/\(1<=e.op/\e.op<=16)/\∃a r,e.kids=a::r/\∀k∈e.kids,(ox e.op≠0->(cQ en f k).1=ox e.op)/\cQ en f k=cQ en f a)\/
 (e.kd=8/\∃a b c,e.kids=[a,b,c]/\(cQ en f a).1=1/\cQ en f b=cQ en f c)\/
 ((e.kd=9\/e.kd=11)/\∃a b,e.kids=[a,b]/\cQ en f a=cQ en f b)\/(e.kd=10/\∃a,e.kids=[a])
inductive qx(en:List En)(f:Nm->Int×Nm)(vs:Nm->Prop):Xp->Prop where
 |mk {e:Xp} (hk:∀k∈e.kids,qx en f vs k) (hl:e.kids.length<=1000000) (h:ES en f vs e):qx en f vs e
theorem Dr(en:List En)(f:Nm->Int×Nm)(e:Xp):cQ en f e=if e.kd=1 then(2,⟨#[]⟩)else if e.kd=2 then(1,⟨#[]⟩)else if e.kd=3 then(3,rU en e.nm)else if e.kd=4\/e.kd=5 then f e.nm
  else if e.kd=6\/e.kd=7 then(tg e.op,⟨#[]⟩)
  else match e.kids with
   |[]=>(0,⟨#[]⟩)
   |a::r=>if e.kd=8 then(match r with|[]=>(0,⟨#[]⟩)|b::_=>cQ en f b)else cQ en f a:=by
 cases e with|mk k op n x names kids p=>
 rw[cQ.eq_def];rfl
theorem yY{en:List En}{x:Nm}(h:∃t∈en,dh t.fh x=true):∃(i:Nat) (hi:i<en.length),en.findIdx? (λe=>dh e.fh x)=some i/\rU en x=en[i].name:=by
 obtain⟨t,ht,hh⟩:=h;rcases uX en (λu=>dh u.fh x)with⟨h1,h2⟩|⟨i,h,h1,h2⟩
 ·rw[List.find?_eq_none]at h2;exact absurd hh (h2 t ht)
 ·exact⟨i,h,h1,by rw[rU,h2]⟩
theorem A'(l:List (Int×Nm)):∀r∈l.map eT,r.length=2:=by
 intro r hr;rw[List.mem_map]at hr;obtain⟨t,_,rfl⟩:=hr;rfl
end Go.Ps
namespace Go.Proofs.Pz
open Go.Mt Go.Sm Go.Ps Go.Proofs
open Tryz
theorem xE{en:List En}(G7:q_ en)(M_:List (List D)){vs:List Va}{f:Nm->Int×Nm}(he:tv vs f)(Jr:vs.length<=1000000)(e:Xp)(Gl:qx en f (A_ vs) e):
  Dt prog 313 [.d (.bM [.sl (en.map En.cells),.sl M_] 0),.d (.sl (aJ vs)),.d (.agg e.cells)] [] λr l'=>r=.d (.agg (eT (cQ en f e)))/\l'=[]:=by
 have ih:∀k∈e.kids,Dt prog 313 [.d (.bM [.sl (en.map En.cells),.sl M_] 0),.d (.sl (aJ vs)),.d (.agg k.cells)] [] λr l'=>r=.d (.agg (eT (cQ en f k)))/\l'=[]:=
  λk hk=>
   have:=Xp.rT hk
   xE G7 M_ he Jr k (by cases Gl with|mk h1 _ _=>exact h1 k hk)
 obtain⟨Ic,LB⟩:e.kids.length<=1000000/\ES en f (A_ vs) e:=by cases Gl with|mk _ h1 h2=>exact⟨h1,h2⟩
 intro H F hs;have w:=(Wk.start hs).nil 2;have hlen:(e.kids.map Xp.cells).length=e.kids.length:=by simp
 rw[e.ai];refine DT.aG func313 rfl ntmps313 rfl ?_
 repeat refine DC.seq ?_
 apply DC.ae
 ·intro s0 Oo;refine b_ rfl rfl ?_;refine aM rfl rfl ?_;exact TL.nil rfl
 repeat refine DC.seq ?_
 apply DC.ae
 ·intro s0 Oo;refine aa rfl rfl ?_;exact TL.nil rfl
 repeat refine DC.seq ?_
 apply DC.ae
 ·intro s0 Oo;refine az rfl rfl ?_;refine ax rfl rfl rfl ?_
  (refine bg rfl rfl rfl ?_;rw[hlen])
  refine ah rfl rfl ?_;exact TL.nil rfl
 refine DC.ca [(13,.m (.d (.int .i64 ((0:Nat):Int)))),(12,.m (.d (.int .i64 ((e.kids.length:Nat):Int)))),(11,.m (.d (.sl (e.kids.map Xp.cells)))),(7,.m (.d (.sl []))),(6,.loc 6 0),(5,.m (.d (.bM (xC e) 0))),(1,.m (.d (.sl (aJ vs)))),(0,.m (.d (.bM [.sl (en.map En.cells),.sl M_] 0)))] _ _ rfl (λ_=>rfl) rfl ?_
 repeat refine DC.seq ?_
 refine DC.block ?_;refine DC.loop (λm s1=>∃(i:Nat) (mc:M) (bx:List (Nat×List M)) (H1:Hp),s1=⟨[(13,.m (.d (.int .i64 ((i:Nat):Int)))),(12,.m (.d (.int .i64 ((e.kids.length:Nat):Int)))),(11,.m (.d (.sl (e.kids.map Xp.cells)))),(7,.m mc),(6,.loc 6 0),(5,.m (.d (.bM (xC e) 0))),(1,.m (.d (.sl (aJ vs)))),(0,.m (.d (.bM [.sl (en.map En.cells),.sl M_] 0)))],bx,H1⟩/\
   Go.Mt.get bx 6=some [.d (.int .u8 0),.d (.str ⟨#[]⟩)]/\
   Wk F H [.acc 2 (((e.kids.take i).map (cQ en f)).map eT) mc] H1/\i<=e.kids.length/\m=e.kids.length-i) e.kids.length _
  ⟨0,.d (.sl []),_,_,rfl,rfl,w,by omega,rfl⟩ rfl ?_
 clear w;rintro m s1 ⟨i,mc,bx,H1,rfl,G1,w,hi,rfl⟩
 repeat refine DC.seq ?_
 apply DC.ae
 ·intro s0 Oo;refine ak rfl rfl rfl rfl ?_;exact TL.nil rfl
 repeat refine DC.seq ?_
 refine DC.cond rfl (λhc=>?_) (λhc=>?_)
 ·have FH:i<e.kids.length:=by have:=of_decide_eq_true hc;omega
  clear hc;have FF:(e.kids.map Xp.cells)[((i:Nat):Int).toNat]?=some e.kids[i].cells:=by simp[FH]
  have FU:((e.kids.take (i+1)).map (cQ en f)).map eT=((e.kids.take i).map (cQ en f)).map eT++[eT (cQ en f e.kids[i])]:=by rw[q8 _ _ _ _ _ FH,List.map_append];rfl
  obtain⟨x,K2,l',⟨rfl,rfl⟩,w,FX⟩:=Wk.call (a:=[]) w (ih _ (List.getElem_mem FH));generalize e.kids[i]=k at FF FU FX w;rw[k.ai]at FF FX;refine DC.skip ?_
  repeat refine DC.seq ?_
  refine DC.block ?_
  repeat refine DC.seq ?_
  apply DC.ae
  ·intro s0 Oo;refine aO rfl rfl rfl (Int.natCast_nonneg i) FF rfl ?_;refine aW rfl rfl rfl ?_;refine aM rfl rfl ?_;refine av rfl rfl rfl rfl rfl rfl ?_;exact TL.nil rfl
  repeat refine DC.seq ?_
  apply DC.ae
  ·intro s0 Oo;refine ah rfl rfl ?_;refine ah rfl rfl ?_;refine ah rfl rfl ?_;refine aY rfl rfl rfl rfl rfl ?_;refine bn FX rfl rfl ?_;refine aD rfl rfl rfl rfl rfl rfl rfl rfl ?_;refine cK w rfl rfl rfl rfl rfl rfl (by exact cO rfl) (by simp only[List.length_map,List.length_take,List.length_singleton];omega) ?_;refine aa rfl rfl ?_;exact TL.nil rfl
  have w:=w.app [eT (cQ en f k)]
  repeat refine DC.seq ?_
  apply DC.ae
  ·intro s0 Oo;refine aV rfl rfl rfl (by omega) ?_;refine ah rfl rfl ?_;exact TL.nil rfl
  exact cb (k':=e.kids.length-(i+1)) (by omega) ⟨i+1,_,_,_,rfl,G1,by rw[FU];exact w,by omega,rfl⟩ rfl rfl
 ·refine DC.exit ?_;obtain rfl:i=e.kids.length:=by have:=of_decide_eq_false hc;omega
  rw[List.take_length]at w;have hv:=w.view (A' _);refine DC.bC 7 rfl hv ?_;have Kc:=w.drop;clear hv w
  repeat refine DC.seq ?_
  apply DC.ae
  ·intro s0 Oo;refine az rfl rfl ?_;refine ax rfl rfl rfl ?_;exact TL.nil rfl
  rw[Dr];have Ir:xC e=gw e.kd e.op e.num e.nm e.names (e.kids.map Xp.cells) e.ps:=rfl;rw[Ir];clear Ir ih Gl;rcases LB with h|h|⟨h,t,ht,hh⟩|⟨h,hx⟩|⟨h,hx⟩|⟨h,IL,a,r,ha,hr⟩|⟨h,a,b,c,ha,h1,h2⟩|⟨h,a,b,ha,h1⟩|⟨h,a,ha⟩
  ·rw[h];simp only[if_true]
   repeat refine DC.seq ?_
   refine DC.block ?_
   repeat refine DC.seq ?_
   apply DC.ae
   ·intro s0 Oo;refine ak rfl rfl rfl (r:=.bool false) rfl ?_;refine aa rfl rfl ?_;exact TL.nil rfl
   repeat refine DC.seq ?_
   refine DC.aC rfl ?_
   repeat refine DC.seq ?_
   apply DC.ae
   ·intro s0 Oo;refine ak rfl rfl rfl (r:=.bool false) rfl ?_;refine aa rfl rfl ?_;exact TL.nil rfl
   repeat refine DC.seq ?_
   refine DC.aC rfl ?_
   repeat refine DC.seq ?_
   apply DC.ae
   ·intro s0 Oo;refine ak rfl rfl rfl (r:=.bool false) rfl ?_;refine aa rfl rfl ?_;exact TL.nil rfl
   repeat refine DC.seq ?_
   refine DC.aC rfl ?_
   repeat refine DC.seq ?_
   apply DC.ae
   ·intro s0 Oo;refine ak rfl rfl rfl (r:=.bool false) rfl ?_;refine aa rfl rfl ?_;exact TL.nil rfl
   repeat refine DC.seq ?_
   refine DC.aC rfl ?_;refine DC.skip ?_
   repeat refine DC.seq ?_
   apply DC.ae
   ·intro s0 Oo;refine az rfl rfl ?_;refine ax rfl rfl rfl ?_;exact TL.nil rfl
   repeat refine DC.seq ?_
   refine DC.block ?_
   repeat refine DC.seq ?_
   apply DC.ae
   ·intro s0 Oo;refine ak rfl rfl rfl (r:=.bool true) rfl ?_;refine aa rfl rfl ?_;exact TL.nil rfl
   repeat refine DC.seq ?_
   refine DC.cr rfl ?_
   repeat refine DC.seq ?_
   apply DC.ae
   ·intro s0 Oo;refine bH rfl rfl rfl rfl rfl ?_;refine av rfl rfl G1 rfl rfl rfl ?_;exact TL.nil rfl
   exact DC.ret ⟨_,rfl,_,⟨rfl,rfl⟩,Kc⟩
  ·rw[h];rw[if_neg (by omega),if_pos rfl]
   repeat refine DC.seq ?_
   refine DC.block ?_
   repeat refine DC.seq ?_
   apply DC.ae
   ·intro s0 Oo;refine ak rfl rfl rfl (r:=.bool false) rfl ?_;refine aa rfl rfl ?_;exact TL.nil rfl
   repeat refine DC.seq ?_
   refine DC.aC rfl ?_
   repeat refine DC.seq ?_
   apply DC.ae
   ·intro s0 Oo;refine ak rfl rfl rfl (r:=.bool false) rfl ?_;refine aa rfl rfl ?_;exact TL.nil rfl
   repeat refine DC.seq ?_
   refine DC.aC rfl ?_
   repeat refine DC.seq ?_
   apply DC.ae
   ·intro s0 Oo;refine ak rfl rfl rfl (r:=.bool false) rfl ?_;refine aa rfl rfl ?_;exact TL.nil rfl
   repeat refine DC.seq ?_
   refine DC.aC rfl ?_
   repeat refine DC.seq ?_
   apply DC.ae
   ·intro s0 Oo;refine ak rfl rfl rfl (r:=.bool false) rfl ?_;refine aa rfl rfl ?_;exact TL.nil rfl
   repeat refine DC.seq ?_
   refine DC.aC rfl ?_;refine DC.skip ?_
   repeat refine DC.seq ?_
   apply DC.ae
   ·intro s0 Oo;refine az rfl rfl ?_;refine ax rfl rfl rfl ?_;exact TL.nil rfl
   repeat refine DC.seq ?_
   refine DC.block ?_
   repeat refine DC.seq ?_
   apply DC.ae
   ·intro s0 Oo;refine ak rfl rfl rfl (r:=.bool false) rfl ?_;refine aa rfl rfl ?_;exact TL.nil rfl
   repeat refine DC.seq ?_
   refine DC.aC rfl ?_
   repeat refine DC.seq ?_
   apply DC.ae
   ·intro s0 Oo;refine ak rfl rfl rfl (r:=.bool true) rfl ?_;refine aa rfl rfl ?_;exact TL.nil rfl
   repeat refine DC.seq ?_
   refine DC.cr rfl ?_
   repeat refine DC.seq ?_
   apply DC.ae
   ·intro s0 Oo;refine bH rfl rfl rfl rfl rfl ?_;refine av rfl rfl G1 rfl rfl rfl ?_;exact TL.nil rfl
   exact DC.ret ⟨_,rfl,_,⟨rfl,rfl⟩,Kc⟩
  ·rw[h];rw[if_neg (by omega),if_neg (by omega),if_pos rfl];obtain⟨i,hi,HK,Jh⟩:=yY ⟨t,ht,hh⟩;rw[Jh];have NN:=we G7 e.nm;rw[HK]at NN;have FF:=Cm hi;generalize en[i]=t1 at FF;unfold En.cells at FF
   repeat refine DC.seq ?_
   refine DC.block ?_
   repeat refine DC.seq ?_
   apply DC.ae
   ·intro s0 Oo;refine ak rfl rfl rfl (r:=.bool false) rfl ?_;refine aa rfl rfl ?_;exact TL.nil rfl
   repeat refine DC.seq ?_
   refine DC.aC rfl ?_
   repeat refine DC.seq ?_
   apply DC.ae
   ·intro s0 Oo;refine ak rfl rfl rfl (r:=.bool false) rfl ?_;refine aa rfl rfl ?_;exact TL.nil rfl
   repeat refine DC.seq ?_
   refine DC.aC rfl ?_
   repeat refine DC.seq ?_
   apply DC.ae
   ·intro s0 Oo;refine ak rfl rfl rfl (r:=.bool false) rfl ?_;refine aa rfl rfl ?_;exact TL.nil rfl
   repeat refine DC.seq ?_
   refine DC.aC rfl ?_
   repeat refine DC.seq ?_
   apply DC.ae
   ·intro s0 Oo;refine ak rfl rfl rfl (r:=.bool false) rfl ?_;refine aa rfl rfl ?_;exact TL.nil rfl
   repeat refine DC.seq ?_
   refine DC.aC rfl ?_;refine DC.skip ?_
   repeat refine DC.seq ?_
   apply DC.ae
   ·intro s0 Oo;refine az rfl rfl ?_;refine ax rfl rfl rfl ?_;exact TL.nil rfl
   repeat refine DC.seq ?_
   refine DC.block ?_
   repeat refine DC.seq ?_
   apply DC.ae
   ·intro s0 Oo;refine ak rfl rfl rfl (r:=.bool false) rfl ?_;refine aa rfl rfl ?_;exact TL.nil rfl
   repeat refine DC.seq ?_
   refine DC.aC rfl ?_
   repeat refine DC.seq ?_
   apply DC.ae
   ·intro s0 Oo;refine ak rfl rfl rfl (r:=.bool false) rfl ?_;refine aa rfl rfl ?_;exact TL.nil rfl
   repeat refine DC.seq ?_
   refine DC.aC rfl ?_
   repeat refine DC.seq ?_
   apply DC.ae
   ·intro s0 Oo;refine ak rfl rfl rfl (r:=.bool true) rfl ?_;refine aa rfl rfl ?_;exact TL.nil rfl
   repeat refine DC.seq ?_
   refine DC.cr rfl ?_
   repeat refine DC.seq ?_
   apply DC.da mixed
   ·intro s0 Oo;refine aH rfl rfl ?_;refine dL rfl rfl rfl ?_;refine bY rfl rfl ?_;refine bY rfl rfl ?_;refine cx rfl rfl rfl ?_;refine aH rfl rfl ?_;refine dL rfl rfl rfl ?_;refine bY rfl rfl ?_;refine bY rfl rfl ?_;refine cx rfl rfl rfl ?_;refine bY rfl rfl ?_;refine cx rfl rfl rfl ?_;refine bX NN rfl rfl ?_;refine cM rfl rfl rfl (Int.natCast_nonneg i) FF rfl ?_;refine bY rfl rfl ?_;refine cx rfl rfl rfl ?_;refine dY rfl rfl rfl rfl rfl ?_;refine cc rfl rfl G1 rfl rfl rfl ?_;exact TF.nil ⟨by kernel_rfl,rfl⟩
   exact DC.ret ⟨_,rfl,_,⟨rfl,rfl⟩,Kc⟩
  ·rw[h];rw[if_neg (by omega),if_neg (by omega),if_neg (by omega),if_pos (.inl rfl)];obtain⟨i,hi,h1,_⟩:=wi he hx;have hf:=pq vs e.nm Jr;rw[h1]at hf;have O9:=Cr he Jr hx;have JI:decide (((i:Nat):Int)<0)=false:=decide_eq_false (by omega)
   repeat refine DC.seq ?_
   refine DC.block ?_
   repeat refine DC.seq ?_
   apply DC.ae
   ·intro s0 Oo;refine ak rfl rfl rfl (r:=.bool true) rfl ?_;refine aa rfl rfl ?_;exact TL.nil rfl
   repeat refine DC.seq ?_
   refine DC.cr rfl ?_;refine DC.skip ?_
   repeat refine DC.seq ?_
   refine DC.cr rfl ?_
   repeat refine DC.seq ?_
   apply DC.ae
   ·intro s0 Oo;refine ah rfl rfl ?_;refine az rfl rfl ?_;refine ax rfl rfl rfl ?_;refine bL hf rfl rfl ?_
    (refine ak rfl rfl rfl (r:=.bool false) (by show some (D.bool (decide (((i:Nat):Int)<0)))=_;rw[JI]) ?_)
    exact TL.nil rfl
   repeat refine DC.seq ?_
   refine DC.aC rfl ?_;refine DC.skip ?_
   repeat refine DC.seq ?_
   apply DC.ae
   ·intro s0 Oo;refine az rfl rfl ?_;refine ax rfl rfl rfl ?_;exact TL.nil rfl
   repeat refine DC.seq ?_
   refine DC.block ?_
   repeat refine DC.seq ?_
   apply DC.ae
   ·intro s0 Oo;refine ak rfl rfl rfl (r:=.bool false) rfl ?_;refine aa rfl rfl ?_;exact TL.nil rfl
   repeat refine DC.seq ?_
   refine DC.aC rfl ?_
   repeat refine DC.seq ?_
   apply DC.ae
   ·intro s0 Oo;refine ak rfl rfl rfl (r:=.bool false) rfl ?_;refine aa rfl rfl ?_;exact TL.nil rfl
   repeat refine DC.seq ?_
   refine DC.aC rfl ?_
   repeat refine DC.seq ?_
   apply DC.ae
   ·intro s0 Oo;refine ak rfl rfl rfl (r:=.bool false) rfl ?_;refine aa rfl rfl ?_;exact TL.nil rfl
   repeat refine DC.seq ?_
   refine DC.aC rfl ?_
   repeat refine DC.seq ?_
   apply DC.ae
   ·intro s0 Oo;refine ak rfl rfl rfl (r:=.bool true) rfl ?_;refine aa rfl rfl ?_;exact TL.nil rfl
   repeat refine DC.seq ?_
   refine DC.cr rfl ?_;refine DC.skip ?_
   repeat refine DC.seq ?_
   refine DC.cr rfl ?_
   repeat refine DC.seq ?_
   apply DC.ae
   ·intro s0 Oo;refine ah rfl rfl ?_;refine az rfl rfl ?_;refine ax rfl rfl rfl ?_;refine bL O9 rfl rfl ?_;refine av rfl rfl G1 rfl rfl rfl ?_;exact TL.nil rfl
   exact DC.ret ⟨_,rfl,_,⟨rfl,rfl⟩,Kc⟩
  ·rw[h];rw[if_neg (by omega),if_neg (by omega),if_neg (by omega),if_pos (.inr rfl)];obtain⟨i,hi,h1,_⟩:=wi he hx;have hf:=pq vs e.nm Jr;rw[h1]at hf;have O9:=Cr he Jr hx;have JI:decide (((i:Nat):Int)<0)=false:=decide_eq_false (by omega)
   repeat refine DC.seq ?_
   refine DC.block ?_
   repeat refine DC.seq ?_
   apply DC.ae
   ·intro s0 Oo;refine ak rfl rfl rfl (r:=.bool false) rfl ?_;refine aa rfl rfl ?_;exact TL.nil rfl
   repeat refine DC.seq ?_
   refine DC.aC rfl ?_
   repeat refine DC.seq ?_
   apply DC.ae
   ·intro s0 Oo;refine ak rfl rfl rfl (r:=.bool true) rfl ?_;refine aa rfl rfl ?_;exact TL.nil rfl
   repeat refine DC.seq ?_
   refine DC.cr rfl ?_;refine DC.skip ?_
   repeat refine DC.seq ?_
   refine DC.cr rfl ?_
   repeat refine DC.seq ?_
   apply DC.ae
   ·intro s0 Oo;refine ah rfl rfl ?_;refine az rfl rfl ?_;refine ax rfl rfl rfl ?_;refine bL hf rfl rfl ?_
    (refine ak rfl rfl rfl (r:=.bool false) (by show some (D.bool (decide (((i:Nat):Int)<0)))=_;rw[JI]) ?_)
    exact TL.nil rfl
   repeat refine DC.seq ?_
   refine DC.aC rfl ?_;refine DC.skip ?_
   repeat refine DC.seq ?_
   apply DC.ae
   ·intro s0 Oo;refine az rfl rfl ?_;refine ax rfl rfl rfl ?_;exact TL.nil rfl
   repeat refine DC.seq ?_
   refine DC.block ?_
   repeat refine DC.seq ?_
   apply DC.ae
   ·intro s0 Oo;refine ak rfl rfl rfl (r:=.bool false) rfl ?_;refine aa rfl rfl ?_;exact TL.nil rfl
   repeat refine DC.seq ?_
   refine DC.aC rfl ?_
   repeat refine DC.seq ?_
   apply DC.ae
   ·intro s0 Oo;refine ak rfl rfl rfl (r:=.bool false) rfl ?_;refine aa rfl rfl ?_;exact TL.nil rfl
   repeat refine DC.seq ?_
   refine DC.aC rfl ?_
   repeat refine DC.seq ?_
   apply DC.ae
   ·intro s0 Oo;refine ak rfl rfl rfl (r:=.bool false) rfl ?_;refine aa rfl rfl ?_;exact TL.nil rfl
   repeat refine DC.seq ?_
   refine DC.aC rfl ?_
   repeat refine DC.seq ?_
   apply DC.ae
   ·intro s0 Oo;refine ak rfl rfl rfl (r:=.bool false) rfl ?_;refine aa rfl rfl ?_;exact TL.nil rfl
   repeat refine DC.seq ?_
   refine DC.aC rfl ?_
   repeat refine DC.seq ?_
   apply DC.ae
   ·intro s0 Oo;refine ak rfl rfl rfl (r:=.bool true) rfl ?_;refine aa rfl rfl ?_;exact TL.nil rfl
   repeat refine DC.seq ?_
   refine DC.cr rfl ?_
   repeat refine DC.seq ?_
   apply DC.ae
   ·intro s0 Oo;refine ah rfl rfl ?_;refine az rfl rfl ?_;refine ax rfl rfl rfl ?_;refine bL O9 rfl rfl ?_;refine av rfl rfl G1 rfl rfl rfl ?_;exact TL.nil rfl
   exact DC.ret ⟨_,rfl,_,⟨rfl,rfl⟩,Kc⟩
  ·rcases h with h|h
   ·rw[if_neg (by omega),if_neg (by omega),if_neg (by omega),if_neg (by omega),if_pos (.inl h)];have Kd:=pt e (e.kids.map (cQ en f)) (cQ en f a) (by rw[ha];rfl) IL (by rw[List.length_map];exact Ic) (by intro t ht;rw[List.mem_map]at ht;obtain⟨k,hk,rfl⟩:=ht;exact hr k hk);rw[e.ai]at Kd;rw[h]at Kd⊢
    repeat refine DC.seq ?_
    refine DC.block ?_
    repeat refine DC.seq ?_
    apply DC.ae
    ·intro s0 Oo;refine ak rfl rfl rfl (r:=.bool false) rfl ?_;refine aa rfl rfl ?_;exact TL.nil rfl
    repeat refine DC.seq ?_
    refine DC.aC rfl ?_
    repeat refine DC.seq ?_
    apply DC.ae
    ·intro s0 Oo;refine ak rfl rfl rfl (r:=.bool false) rfl ?_;refine aa rfl rfl ?_;exact TL.nil rfl
    repeat refine DC.seq ?_
    refine DC.aC rfl ?_
    repeat refine DC.seq ?_
    apply DC.ae
    ·intro s0 Oo;refine ak rfl rfl rfl (r:=.bool false) rfl ?_;refine aa rfl rfl ?_;exact TL.nil rfl
    repeat refine DC.seq ?_
    refine DC.aC rfl ?_
    repeat refine DC.seq ?_
    apply DC.ae
    ·intro s0 Oo;refine ak rfl rfl rfl (r:=.bool false) rfl ?_;refine aa rfl rfl ?_;exact TL.nil rfl
    repeat refine DC.seq ?_
    refine DC.aC rfl ?_;refine DC.skip ?_
    repeat refine DC.seq ?_
    apply DC.ae
    ·intro s0 Oo;refine az rfl rfl ?_;refine ax rfl rfl rfl ?_;exact TL.nil rfl
    repeat refine DC.seq ?_
    refine DC.block ?_
    repeat refine DC.seq ?_
    apply DC.ae
    ·intro s0 Oo;refine ak rfl rfl rfl (r:=.bool false) rfl ?_;refine aa rfl rfl ?_;exact TL.nil rfl
    repeat refine DC.seq ?_
    refine DC.aC rfl ?_
    repeat refine DC.seq ?_
    apply DC.ae
    ·intro s0 Oo;refine ak rfl rfl rfl (r:=.bool false) rfl ?_;refine aa rfl rfl ?_;exact TL.nil rfl
    repeat refine DC.seq ?_
    refine DC.aC rfl ?_
    repeat refine DC.seq ?_
    apply DC.ae
    ·intro s0 Oo;refine ak rfl rfl rfl (r:=.bool false) rfl ?_;refine aa rfl rfl ?_;exact TL.nil rfl
    repeat refine DC.seq ?_
    refine DC.aC rfl ?_
    repeat refine DC.seq ?_
    apply DC.ae
    ·intro s0 Oo;refine ak rfl rfl rfl (r:=.bool false) rfl ?_;refine aa rfl rfl ?_;exact TL.nil rfl
    repeat refine DC.seq ?_
    refine DC.aC rfl ?_
    repeat refine DC.seq ?_
    apply DC.ae
    ·intro s0 Oo;refine ak rfl rfl rfl (r:=.bool false) rfl ?_;refine aa rfl rfl ?_;exact TL.nil rfl
    repeat refine DC.seq ?_
    refine DC.aC rfl ?_
    repeat refine DC.seq ?_
    apply DC.ae
    ·intro s0 Oo;refine ak rfl rfl rfl (r:=.bool true) rfl ?_;refine aa rfl rfl ?_;exact TL.nil rfl
    repeat refine DC.seq ?_
    refine DC.cr rfl ?_;refine DC.skip ?_
    repeat refine DC.seq ?_
    refine DC.cr rfl ?_
    repeat refine DC.seq ?_
    apply DC.ae
    ·intro s0 Oo;refine aW rfl rfl rfl ?_;refine ah rfl rfl ?_;refine bL Kd rfl rfl ?_;refine av rfl rfl G1 rfl rfl rfl ?_;exact TL.nil rfl
    exact DC.ret ⟨_,rfl,_,⟨rfl,rfl⟩,Kc⟩
   ·rw[if_neg (by omega),if_neg (by omega),if_neg (by omega),if_neg (by omega),if_pos (.inr h)];have Kd:=pt e (e.kids.map (cQ en f)) (cQ en f a) (by rw[ha];rfl) IL (by rw[List.length_map];exact Ic) (by intro t ht;rw[List.mem_map]at ht;obtain⟨k,hk,rfl⟩:=ht;exact hr k hk);rw[e.ai]at Kd;rw[h]at Kd⊢
    repeat refine DC.seq ?_
    refine DC.block ?_
    repeat refine DC.seq ?_
    apply DC.ae
    ·intro s0 Oo;refine ak rfl rfl rfl (r:=.bool false) rfl ?_;refine aa rfl rfl ?_;exact TL.nil rfl
    repeat refine DC.seq ?_
    refine DC.aC rfl ?_
    repeat refine DC.seq ?_
    apply DC.ae
    ·intro s0 Oo;refine ak rfl rfl rfl (r:=.bool false) rfl ?_;refine aa rfl rfl ?_;exact TL.nil rfl
    repeat refine DC.seq ?_
    refine DC.aC rfl ?_
    repeat refine DC.seq ?_
    apply DC.ae
    ·intro s0 Oo;refine ak rfl rfl rfl (r:=.bool false) rfl ?_;refine aa rfl rfl ?_;exact TL.nil rfl
    repeat refine DC.seq ?_
    refine DC.aC rfl ?_
    repeat refine DC.seq ?_
    apply DC.ae
    ·intro s0 Oo;refine ak rfl rfl rfl (r:=.bool false) rfl ?_;refine aa rfl rfl ?_;exact TL.nil rfl
    repeat refine DC.seq ?_
    refine DC.aC rfl ?_;refine DC.skip ?_
    repeat refine DC.seq ?_
    apply DC.ae
    ·intro s0 Oo;refine az rfl rfl ?_;refine ax rfl rfl rfl ?_;exact TL.nil rfl
    repeat refine DC.seq ?_
    refine DC.block ?_
    repeat refine DC.seq ?_
    apply DC.ae
    ·intro s0 Oo;refine ak rfl rfl rfl (r:=.bool false) rfl ?_;refine aa rfl rfl ?_;exact TL.nil rfl
    repeat refine DC.seq ?_
    refine DC.aC rfl ?_
    repeat refine DC.seq ?_
    apply DC.ae
    ·intro s0 Oo;refine ak rfl rfl rfl (r:=.bool false) rfl ?_;refine aa rfl rfl ?_;exact TL.nil rfl
    repeat refine DC.seq ?_
    refine DC.aC rfl ?_
    repeat refine DC.seq ?_
    apply DC.ae
    ·intro s0 Oo;refine ak rfl rfl rfl (r:=.bool false) rfl ?_;refine aa rfl rfl ?_;exact TL.nil rfl
    repeat refine DC.seq ?_
    refine DC.aC rfl ?_
    repeat refine DC.seq ?_
    apply DC.ae
    ·intro s0 Oo;refine ak rfl rfl rfl (r:=.bool false) rfl ?_;refine aa rfl rfl ?_;exact TL.nil rfl
    repeat refine DC.seq ?_
    refine DC.aC rfl ?_
    repeat refine DC.seq ?_
    apply DC.ae
    ·intro s0 Oo;refine ak rfl rfl rfl (r:=.bool false) rfl ?_;refine aa rfl rfl ?_;exact TL.nil rfl
    repeat refine DC.seq ?_
    refine DC.aC rfl ?_
    repeat refine DC.seq ?_
    apply DC.ae
    ·intro s0 Oo;refine ak rfl rfl rfl (r:=.bool false) rfl ?_;refine aa rfl rfl ?_;exact TL.nil rfl
    repeat refine DC.seq ?_
    refine DC.aC rfl ?_
    repeat refine DC.seq ?_
    apply DC.ae
    ·intro s0 Oo;refine ak rfl rfl rfl (r:=.bool true) rfl ?_;refine aa rfl rfl ?_;exact TL.nil rfl
    repeat refine DC.seq ?_
    refine DC.cr rfl ?_
    repeat refine DC.seq ?_
    apply DC.ae
    ·intro s0 Oo;refine aW rfl rfl rfl ?_;refine ah rfl rfl ?_;refine bL Kd rfl rfl ?_;refine av rfl rfl G1 rfl rfl rfl ?_;exact TL.nil rfl
    exact DC.ret ⟨_,rfl,_,⟨rfl,rfl⟩,Kc⟩
  ·rw[if_neg (by omega),if_neg (by omega),if_neg (by omega),if_neg (by omega),if_neg (by omega)];have IE:(match e.kids with|[]=>((0:Int),(⟨#[]⟩:Nm))|a::r=>if e.kd=8 then(match r with|[]=>(0,⟨#[]⟩)|b::_=>cQ en f b)else cQ en f a)=cQ en f b:=by rw[ha,h];rfl
   rw[IE,h];have KU:((e.kids.map (cQ en f)).map eT)[((0:Nat):Int).toNat]?=some (eT (cQ en f a)):=by rw[ha];rfl
   have Md:((e.kids.map (cQ en f)).map eT)[((1:Nat):Int).toNat]?=some (eT (cQ en f b)):=by rw[ha];rfl
   have Lz:((e.kids.map (cQ en f)).map eT)[((2:Nat):Int).toNat]?=some (eT (cQ en f c)):=by rw[ha];rfl
   have b1:((cQ en f a).1 !=1)=false:=by simp[h1]
   have FV:=wj h2
   repeat refine DC.seq ?_
   refine DC.block ?_
   repeat refine DC.seq ?_
   apply DC.ae
   ·intro s0 Oo;refine ak rfl rfl rfl (r:=.bool false) rfl ?_;refine aa rfl rfl ?_;exact TL.nil rfl
   repeat refine DC.seq ?_
   refine DC.aC rfl ?_
   repeat refine DC.seq ?_
   apply DC.ae
   ·intro s0 Oo;refine ak rfl rfl rfl (r:=.bool false) rfl ?_;refine aa rfl rfl ?_;exact TL.nil rfl
   repeat refine DC.seq ?_
   refine DC.aC rfl ?_
   repeat refine DC.seq ?_
   apply DC.ae
   ·intro s0 Oo;refine ak rfl rfl rfl (r:=.bool false) rfl ?_;refine aa rfl rfl ?_;exact TL.nil rfl
   repeat refine DC.seq ?_
   refine DC.aC rfl ?_
   repeat refine DC.seq ?_
   apply DC.ae
   ·intro s0 Oo;refine ak rfl rfl rfl (r:=.bool false) rfl ?_;refine aa rfl rfl ?_;exact TL.nil rfl
   repeat refine DC.seq ?_
   refine DC.aC rfl ?_;refine DC.skip ?_
   repeat refine DC.seq ?_
   apply DC.ae
   ·intro s0 Oo;refine az rfl rfl ?_;refine ax rfl rfl rfl ?_;exact TL.nil rfl
   repeat refine DC.seq ?_
   refine DC.block ?_
   repeat refine DC.seq ?_
   apply DC.ae
   ·intro s0 Oo;refine ak rfl rfl rfl (r:=.bool false) rfl ?_;refine aa rfl rfl ?_;exact TL.nil rfl
   repeat refine DC.seq ?_
   refine DC.aC rfl ?_
   repeat refine DC.seq ?_
   apply DC.ae
   ·intro s0 Oo;refine ak rfl rfl rfl (r:=.bool false) rfl ?_;refine aa rfl rfl ?_;exact TL.nil rfl
   repeat refine DC.seq ?_
   refine DC.aC rfl ?_
   repeat refine DC.seq ?_
   apply DC.ae
   ·intro s0 Oo;refine ak rfl rfl rfl (r:=.bool false) rfl ?_;refine aa rfl rfl ?_;exact TL.nil rfl
   repeat refine DC.seq ?_
   refine DC.aC rfl ?_
   repeat refine DC.seq ?_
   apply DC.ae
   ·intro s0 Oo;refine ak rfl rfl rfl (r:=.bool false) rfl ?_;refine aa rfl rfl ?_;exact TL.nil rfl
   repeat refine DC.seq ?_
   refine DC.aC rfl ?_
   repeat refine DC.seq ?_
   apply DC.ae
   ·intro s0 Oo;refine ak rfl rfl rfl (r:=.bool false) rfl ?_;refine aa rfl rfl ?_;exact TL.nil rfl
   repeat refine DC.seq ?_
   refine DC.aC rfl ?_
   repeat refine DC.seq ?_
   apply DC.ae
   ·intro s0 Oo;refine ak rfl rfl rfl (r:=.bool false) rfl ?_;refine aa rfl rfl ?_;exact TL.nil rfl
   repeat refine DC.seq ?_
   refine DC.aC rfl ?_
   repeat refine DC.seq ?_
   apply DC.ae
   ·intro s0 Oo;refine ak rfl rfl rfl (r:=.bool false) rfl ?_;refine aa rfl rfl ?_;exact TL.nil rfl
   repeat refine DC.seq ?_
   refine DC.aC rfl ?_
   repeat refine DC.seq ?_
   apply DC.ae
   ·intro s0 Oo;refine ak rfl rfl rfl (r:=.bool true) rfl ?_;refine aa rfl rfl ?_;exact TL.nil rfl
   repeat refine DC.seq ?_
   refine DC.cr rfl ?_
   repeat refine DC.seq ?_
   apply DC.da mixed
   ·intro s0 Oo;refine aH rfl rfl ?_;refine cM rfl rfl rfl (Int.natCast_nonneg 0) KU rfl ?_;refine bY rfl rfl ?_;refine cx rfl rfl rfl ?_
    (refine ga rfl rfl rfl (r:=.bool false) (by show some (D.bool ((cQ en f a).1 !=1))=_;rw[b1]) ?_)
    refine aH rfl rfl ?_;refine ay rfl rfl ?_;refine aH rfl rfl ?_;refine ay rfl rfl ?_;refine cM rfl rfl rfl (Int.natCast_nonneg 1) Md rfl ?_;refine ay rfl rfl ?_;refine eB rfl rfl rfl ?_;refine ay rfl rfl ?_;refine aH rfl rfl ?_;refine ay rfl rfl ?_;refine cM rfl rfl rfl (Int.natCast_nonneg 2) Lz rfl ?_;refine ay rfl rfl ?_;refine eB rfl rfl rfl ?_;refine ay rfl rfl ?_;refine pd rfl rfl rfl ?_;rw[FV];refine fT rfl rfl rfl ?_;exact TF.nil ⟨by kernel_rfl,rfl⟩
   repeat refine DC.seq ?_
   refine DC.aC rfl ?_;refine DC.skip ?_
   repeat refine DC.seq ?_
   apply DC.ae
   ·intro s0 Oo;refine ah rfl rfl ?_;refine aO rfl rfl rfl (Int.natCast_nonneg 1) Md rfl ?_;refine aW rfl rfl rfl ?_;refine av rfl rfl G1 rfl rfl rfl ?_;exact TL.nil rfl
   exact DC.ret ⟨_,rfl,_,⟨rfl,rfl⟩,Kc⟩
  ·rcases h with h|h
   ·rw[if_neg (by omega),if_neg (by omega),if_neg (by omega),if_neg (by omega),if_neg (by omega)];have IE:(match e.kids with|[]=>((0:Int),(⟨#[]⟩:Nm))|a::r=>if e.kd=8 then(match r with|[]=>(0,⟨#[]⟩)|b::_=>cQ en f b)else cQ en f a)=cQ en f a:=by rw[ha,h];rfl
    rw[IE,h];have KU:((e.kids.map (cQ en f)).map eT)[((0:Nat):Int).toNat]?=some (eT (cQ en f a)):=by rw[ha];rfl
    have Md:((e.kids.map (cQ en f)).map eT)[((1:Nat):Int).toNat]?=some (eT (cQ en f b)):=by rw[ha];rfl
    have FV:=wj h1
    repeat refine DC.seq ?_
    refine DC.block ?_
    repeat refine DC.seq ?_
    apply DC.ae
    ·intro s0 Oo;refine ak rfl rfl rfl (r:=.bool false) rfl ?_;refine aa rfl rfl ?_;exact TL.nil rfl
    repeat refine DC.seq ?_
    refine DC.aC rfl ?_
    repeat refine DC.seq ?_
    apply DC.ae
    ·intro s0 Oo;refine ak rfl rfl rfl (r:=.bool false) rfl ?_;refine aa rfl rfl ?_;exact TL.nil rfl
    repeat refine DC.seq ?_
    refine DC.aC rfl ?_
    repeat refine DC.seq ?_
    apply DC.ae
    ·intro s0 Oo;refine ak rfl rfl rfl (r:=.bool false) rfl ?_;refine aa rfl rfl ?_;exact TL.nil rfl
    repeat refine DC.seq ?_
    refine DC.aC rfl ?_
    repeat refine DC.seq ?_
    apply DC.ae
    ·intro s0 Oo;refine ak rfl rfl rfl (r:=.bool false) rfl ?_;refine aa rfl rfl ?_;exact TL.nil rfl
    repeat refine DC.seq ?_
    refine DC.aC rfl ?_;refine DC.skip ?_
    repeat refine DC.seq ?_
    apply DC.ae
    ·intro s0 Oo;refine az rfl rfl ?_;refine ax rfl rfl rfl ?_;exact TL.nil rfl
    repeat refine DC.seq ?_
    refine DC.block ?_
    repeat refine DC.seq ?_
    apply DC.ae
    ·intro s0 Oo;refine ak rfl rfl rfl (r:=.bool false) rfl ?_;refine aa rfl rfl ?_;exact TL.nil rfl
    repeat refine DC.seq ?_
    refine DC.aC rfl ?_
    repeat refine DC.seq ?_
    apply DC.ae
    ·intro s0 Oo;refine ak rfl rfl rfl (r:=.bool false) rfl ?_;refine aa rfl rfl ?_;exact TL.nil rfl
    repeat refine DC.seq ?_
    refine DC.aC rfl ?_
    repeat refine DC.seq ?_
    apply DC.ae
    ·intro s0 Oo;refine ak rfl rfl rfl (r:=.bool false) rfl ?_;refine aa rfl rfl ?_;exact TL.nil rfl
    repeat refine DC.seq ?_
    refine DC.aC rfl ?_
    repeat refine DC.seq ?_
    apply DC.ae
    ·intro s0 Oo;refine ak rfl rfl rfl (r:=.bool false) rfl ?_;refine aa rfl rfl ?_;exact TL.nil rfl
    repeat refine DC.seq ?_
    refine DC.aC rfl ?_
    repeat refine DC.seq ?_
    apply DC.ae
    ·intro s0 Oo;refine ak rfl rfl rfl (r:=.bool false) rfl ?_;refine aa rfl rfl ?_;exact TL.nil rfl
    repeat refine DC.seq ?_
    refine DC.aC rfl ?_
    repeat refine DC.seq ?_
    apply DC.ae
    ·intro s0 Oo;refine ak rfl rfl rfl (r:=.bool false) rfl ?_;refine aa rfl rfl ?_;exact TL.nil rfl
    repeat refine DC.seq ?_
    refine DC.aC rfl ?_
    repeat refine DC.seq ?_
    apply DC.ae
    ·intro s0 Oo;refine ak rfl rfl rfl (r:=.bool false) rfl ?_;refine aa rfl rfl ?_;exact TL.nil rfl
    repeat refine DC.seq ?_
    refine DC.aC rfl ?_
    repeat refine DC.seq ?_
    apply DC.ae
    ·intro s0 Oo;refine ak rfl rfl rfl (r:=.bool false) rfl ?_;refine aa rfl rfl ?_;exact TL.nil rfl
    repeat refine DC.seq ?_
    refine DC.aC rfl ?_
    repeat refine DC.seq ?_
    apply DC.ae
    ·intro s0 Oo;refine ak rfl rfl rfl (r:=.bool true) rfl ?_;refine aa rfl rfl ?_;exact TL.nil rfl
    repeat refine DC.seq ?_
    refine DC.cr rfl ?_;refine DC.skip ?_
    repeat refine DC.seq ?_
    refine DC.cr rfl ?_
    repeat refine DC.seq ?_
    apply DC.da mixed
    ·intro s0 Oo;refine aH rfl rfl ?_;refine cM rfl rfl rfl (Int.natCast_nonneg 0) KU rfl ?_;refine eB rfl rfl rfl ?_;refine aH rfl rfl ?_;refine cM rfl rfl rfl (Int.natCast_nonneg 1) Md rfl ?_;refine eB rfl rfl rfl ?_
     (refine pd rfl rfl rfl ?_;rw[FV])
     exact TF.nil ⟨by kernel_rfl,rfl⟩
    repeat refine DC.seq ?_
    refine DC.aC rfl ?_;refine DC.skip ?_
    repeat refine DC.seq ?_
    apply DC.ae
    ·intro s0 Oo;refine ah rfl rfl ?_;refine aO rfl rfl rfl (Int.natCast_nonneg 0) KU rfl ?_;refine aW rfl rfl rfl ?_;refine av rfl rfl G1 rfl rfl rfl ?_;exact TL.nil rfl
    exact DC.ret ⟨_,rfl,_,⟨rfl,rfl⟩,Kc⟩
   ·rw[if_neg (by omega),if_neg (by omega),if_neg (by omega),if_neg (by omega),if_neg (by omega)];have IE:(match e.kids with|[]=>((0:Int),(⟨#[]⟩:Nm))|a::r=>if e.kd=8 then(match r with|[]=>(0,⟨#[]⟩)|b::_=>cQ en f b)else cQ en f a)=cQ en f a:=by rw[ha,h];rfl
    rw[IE,h];have KU:((e.kids.map (cQ en f)).map eT)[((0:Nat):Int).toNat]?=some (eT (cQ en f a)):=by rw[ha];rfl
    have Md:((e.kids.map (cQ en f)).map eT)[((1:Nat):Int).toNat]?=some (eT (cQ en f b)):=by rw[ha];rfl
    have FV:=wj h1
    repeat refine DC.seq ?_
    refine DC.block ?_
    repeat refine DC.seq ?_
    apply DC.ae
    ·intro s0 Oo;refine ak rfl rfl rfl (r:=.bool false) rfl ?_;refine aa rfl rfl ?_;exact TL.nil rfl
    repeat refine DC.seq ?_
    refine DC.aC rfl ?_
    repeat refine DC.seq ?_
    apply DC.ae
    ·intro s0 Oo;refine ak rfl rfl rfl (r:=.bool false) rfl ?_;refine aa rfl rfl ?_;exact TL.nil rfl
    repeat refine DC.seq ?_
    refine DC.aC rfl ?_
    repeat refine DC.seq ?_
    apply DC.ae
    ·intro s0 Oo;refine ak rfl rfl rfl (r:=.bool false) rfl ?_;refine aa rfl rfl ?_;exact TL.nil rfl
    repeat refine DC.seq ?_
    refine DC.aC rfl ?_
    repeat refine DC.seq ?_
    apply DC.ae
    ·intro s0 Oo;refine ak rfl rfl rfl (r:=.bool false) rfl ?_;refine aa rfl rfl ?_;exact TL.nil rfl
    repeat refine DC.seq ?_
    refine DC.aC rfl ?_;refine DC.skip ?_
    repeat refine DC.seq ?_
    apply DC.ae
    ·intro s0 Oo;refine az rfl rfl ?_;refine ax rfl rfl rfl ?_;exact TL.nil rfl
    repeat refine DC.seq ?_
    refine DC.block ?_
    repeat refine DC.seq ?_
    apply DC.ae
    ·intro s0 Oo;refine ak rfl rfl rfl (r:=.bool false) rfl ?_;refine aa rfl rfl ?_;exact TL.nil rfl
    repeat refine DC.seq ?_
    refine DC.aC rfl ?_
    repeat refine DC.seq ?_
    apply DC.ae
    ·intro s0 Oo;refine ak rfl rfl rfl (r:=.bool false) rfl ?_;refine aa rfl rfl ?_;exact TL.nil rfl
    repeat refine DC.seq ?_
    refine DC.aC rfl ?_
    repeat refine DC.seq ?_
    apply DC.ae
    ·intro s0 Oo;refine ak rfl rfl rfl (r:=.bool false) rfl ?_;refine aa rfl rfl ?_;exact TL.nil rfl
    repeat refine DC.seq ?_
    refine DC.aC rfl ?_
    repeat refine DC.seq ?_
    apply DC.ae
    ·intro s0 Oo;refine ak rfl rfl rfl (r:=.bool false) rfl ?_;refine aa rfl rfl ?_;exact TL.nil rfl
    repeat refine DC.seq ?_
    refine DC.aC rfl ?_
    repeat refine DC.seq ?_
    apply DC.ae
    ·intro s0 Oo;refine ak rfl rfl rfl (r:=.bool false) rfl ?_;refine aa rfl rfl ?_;exact TL.nil rfl
    repeat refine DC.seq ?_
    refine DC.aC rfl ?_
    repeat refine DC.seq ?_
    apply DC.ae
    ·intro s0 Oo;refine ak rfl rfl rfl (r:=.bool false) rfl ?_;refine aa rfl rfl ?_;exact TL.nil rfl
    repeat refine DC.seq ?_
    refine DC.aC rfl ?_
    repeat refine DC.seq ?_
    apply DC.ae
    ·intro s0 Oo;refine ak rfl rfl rfl (r:=.bool false) rfl ?_;refine aa rfl rfl ?_;exact TL.nil rfl
    repeat refine DC.seq ?_
    refine DC.aC rfl ?_
    repeat refine DC.seq ?_
    apply DC.ae
    ·intro s0 Oo;refine ak rfl rfl rfl (r:=.bool false) rfl ?_;refine aa rfl rfl ?_;exact TL.nil rfl
    repeat refine DC.seq ?_
    refine DC.aC rfl ?_
    repeat refine DC.seq ?_
    apply DC.ae
    ·intro s0 Oo;refine ak rfl rfl rfl (r:=.bool false) rfl ?_;refine aa rfl rfl ?_;exact TL.nil rfl
    repeat refine DC.seq ?_
    refine DC.aC rfl ?_
    repeat refine DC.seq ?_
    apply DC.ae
    ·intro s0 Oo;refine ak rfl rfl rfl (r:=.bool true) rfl ?_;refine aa rfl rfl ?_;exact TL.nil rfl
    repeat refine DC.seq ?_
    refine DC.cr rfl ?_
    repeat refine DC.seq ?_
    apply DC.da mixed
    ·intro s0 Oo;refine aH rfl rfl ?_;refine cM rfl rfl rfl (Int.natCast_nonneg 0) KU rfl ?_;refine eB rfl rfl rfl ?_;refine aH rfl rfl ?_;refine cM rfl rfl rfl (Int.natCast_nonneg 1) Md rfl ?_;refine eB rfl rfl rfl ?_
     (refine pd rfl rfl rfl ?_;rw[FV])
     exact TF.nil ⟨by kernel_rfl,rfl⟩
    repeat refine DC.seq ?_
    refine DC.aC rfl ?_;refine DC.skip ?_
    repeat refine DC.seq ?_
    apply DC.ae
    ·intro s0 Oo;refine ah rfl rfl ?_;refine aO rfl rfl rfl (Int.natCast_nonneg 0) KU rfl ?_;refine aW rfl rfl rfl ?_;refine av rfl rfl G1 rfl rfl rfl ?_;exact TL.nil rfl
    exact DC.ret ⟨_,rfl,_,⟨rfl,rfl⟩,Kc⟩
  ·rw[if_neg (by omega),if_neg (by omega),if_neg (by omega),if_neg (by omega),if_neg (by omega)];have IE:(match e.kids with|[]=>((0:Int),(⟨#[]⟩:Nm))|a::r=>if e.kd=8 then(match r with|[]=>(0,⟨#[]⟩)|b::_=>cQ en f b)else cQ en f a)=cQ en f a:=by rw[ha,h];rfl
   rw[IE,h];have KU:((e.kids.map (cQ en f)).map eT)[((0:Nat):Int).toNat]?=some (eT (cQ en f a)):=by rw[ha];rfl
   repeat refine DC.seq ?_
   refine DC.block ?_
   repeat refine DC.seq ?_
   apply DC.ae
   ·intro s0 Oo;refine ak rfl rfl rfl (r:=.bool false) rfl ?_;refine aa rfl rfl ?_;exact TL.nil rfl
   repeat refine DC.seq ?_
   refine DC.aC rfl ?_
   repeat refine DC.seq ?_
   apply DC.ae
   ·intro s0 Oo;refine ak rfl rfl rfl (r:=.bool false) rfl ?_;refine aa rfl rfl ?_;exact TL.nil rfl
   repeat refine DC.seq ?_
   refine DC.aC rfl ?_
   repeat refine DC.seq ?_
   apply DC.ae
   ·intro s0 Oo;refine ak rfl rfl rfl (r:=.bool false) rfl ?_;refine aa rfl rfl ?_;exact TL.nil rfl
   repeat refine DC.seq ?_
   refine DC.aC rfl ?_
   repeat refine DC.seq ?_
   apply DC.ae
   ·intro s0 Oo;refine ak rfl rfl rfl (r:=.bool false) rfl ?_;refine aa rfl rfl ?_;exact TL.nil rfl
   repeat refine DC.seq ?_
   refine DC.aC rfl ?_;refine DC.skip ?_
   repeat refine DC.seq ?_
   apply DC.ae
   ·intro s0 Oo;refine az rfl rfl ?_;refine ax rfl rfl rfl ?_;exact TL.nil rfl
   repeat refine DC.seq ?_
   refine DC.block ?_
   repeat refine DC.seq ?_
   apply DC.ae
   ·intro s0 Oo;refine ak rfl rfl rfl (r:=.bool false) rfl ?_;refine aa rfl rfl ?_;exact TL.nil rfl
   repeat refine DC.seq ?_
   refine DC.aC rfl ?_
   repeat refine DC.seq ?_
   apply DC.ae
   ·intro s0 Oo;refine ak rfl rfl rfl (r:=.bool false) rfl ?_;refine aa rfl rfl ?_;exact TL.nil rfl
   repeat refine DC.seq ?_
   refine DC.aC rfl ?_
   repeat refine DC.seq ?_
   apply DC.ae
   ·intro s0 Oo;refine ak rfl rfl rfl (r:=.bool false) rfl ?_;refine aa rfl rfl ?_;exact TL.nil rfl
   repeat refine DC.seq ?_
   refine DC.aC rfl ?_
   repeat refine DC.seq ?_
   apply DC.ae
   ·intro s0 Oo;refine ak rfl rfl rfl (r:=.bool false) rfl ?_;refine aa rfl rfl ?_;exact TL.nil rfl
   repeat refine DC.seq ?_
   refine DC.aC rfl ?_
   repeat refine DC.seq ?_
   apply DC.ae
   ·intro s0 Oo;refine ak rfl rfl rfl (r:=.bool false) rfl ?_;refine aa rfl rfl ?_;exact TL.nil rfl
   repeat refine DC.seq ?_
   refine DC.aC rfl ?_
   repeat refine DC.seq ?_
   apply DC.ae
   ·intro s0 Oo;refine ak rfl rfl rfl (r:=.bool false) rfl ?_;refine aa rfl rfl ?_;exact TL.nil rfl
   repeat refine DC.seq ?_
   refine DC.aC rfl ?_
   repeat refine DC.seq ?_
   apply DC.ae
   ·intro s0 Oo;refine ak rfl rfl rfl (r:=.bool false) rfl ?_;refine aa rfl rfl ?_;exact TL.nil rfl
   repeat refine DC.seq ?_
   refine DC.aC rfl ?_
   repeat refine DC.seq ?_
   apply DC.ae
   ·intro s0 Oo;refine ak rfl rfl rfl (r:=.bool false) rfl ?_;refine aa rfl rfl ?_;exact TL.nil rfl
   repeat refine DC.seq ?_
   refine DC.aC rfl ?_
   repeat refine DC.seq ?_
   apply DC.ae
   ·intro s0 Oo;refine ak rfl rfl rfl (r:=.bool false) rfl ?_;refine aa rfl rfl ?_;exact TL.nil rfl
   repeat refine DC.seq ?_
   refine DC.aC rfl ?_
   repeat refine DC.seq ?_
   apply DC.ae
   ·intro s0 Oo;refine ak rfl rfl rfl (r:=.bool false) rfl ?_;refine aa rfl rfl ?_;exact TL.nil rfl
   repeat refine DC.seq ?_
   refine DC.aC rfl ?_
   repeat refine DC.seq ?_
   apply DC.ae
   ·intro s0 Oo;refine ak rfl rfl rfl (r:=.bool false) rfl ?_;refine aa rfl rfl ?_;exact TL.nil rfl
   repeat refine DC.seq ?_
   refine DC.aC rfl ?_
   repeat refine DC.seq ?_
   apply DC.ae
   ·intro s0 Oo;refine ak rfl rfl rfl (r:=.bool false) rfl ?_;refine aa rfl rfl ?_;exact TL.nil rfl
   repeat refine DC.seq ?_
   refine DC.aC rfl ?_;refine DC.skip ?_
   repeat refine DC.seq ?_
   apply DC.ae
   ·intro s0 Oo;refine ah rfl rfl ?_;refine aO rfl rfl rfl (Int.natCast_nonneg 0) KU rfl ?_;refine aW rfl rfl rfl ?_;refine av rfl rfl G1 rfl rfl rfl ?_;exact TL.nil rfl
   exact DC.ret ⟨_,rfl,_,⟨rfl,rfl⟩,Kc⟩
termination_by SizeOf.sizeOf e
noncomputable def Aa:iy:=jR prog pc (λ_=>false) (gV prog pc (λ_=>false) (λ_ _=>0) 10 BL 0) (λ_=>0)
theorem Cs:gD Aa:=by
 refine⟨λf ms H r H' us h=>?_,λf ds rs h=>?_,λf ds rs h=>by cases h⟩
 ·simp only[Aa,jR,gV]at h;cases h
 ·simp only[Aa,jR,gV,pc]at h;cases h
theorem ET{sl:List (Nat×V)}{bx:List (Nat×List M)}{L:Hp}{A B:M}{cs:List M}(h6:Go.Mt.get sl 6=some (.m (.ref 0 0)))(h7:Go.Mt.get sl 7=some (.m (.ref 1 0)))(h0:L[0]?=some (.box cs))(hA:ch prog 53 cs 0=some A)(h1:L[1]?=some (.box [B]))(hB:ch prog 382 [B] 0=some B):
  kA prog f307 ⟨sl,bx,L⟩=some (fD [A,B]):=by
 show(j8 prog ⟨sl,bx,L⟩ [.cell 6 53,.cell 7 382]).map fD=_;simp only[j8,rK,h6,h7,h0,h1,hA,hB];rfl
theorem yZ(H:Hp):sO prog Aa 10 312 [.ref 1 0] H=.ok (H,[]):=by kernel_rfl
theorem uq{p:Pg}(G7:q_ p.ao){vs:List Va}{f:Nm->Int×Nm}(he:tv vs f)(Jr:vs.length<=1000000)(e:Xp)(Gl:qx p.ao f (A_ vs) e):
  PT prog 307 [.agg p.cells,.sl (aJ vs),.agg e.cells] (·=[.agg (eT (cQ p.ao f e)),.jA]):=by
 have h:=xE G7 (p.nodes.map Nd.cells) he Jr e Gl [.box [.d (.int .u8 0),.d (.str ⟨#[]⟩)],.box [.d .jA]] (λ_=>False) (λ_ h=>h);obtain⟨r,K,⟨l',⟨rfl,rfl⟩,hw⟩,hc⟩:=h;obtain⟨Fx,_,FN⟩:=hw;have IK:=FN.fj 0 (by simp) (λh=>h);have L5:=FN.fj 1 (by simp) (λh=>h);have Ic:2<=K.length:=FN.len;rw[e.ai]at hc⊢;refine PT.du (CT.AN (rounds:=10) (g:=312) (FR:=[.ref 1 0]) Cs rfl func307 rfl (by intro a b h;cases h) ntmps307 rfl
  (MO:=⟨[(7,.m (.ref 1 0)),(6,.m (.ref 0 0)),(5,.m (.d (.bM (gw e.kd e.op e.num e.nm e.names (e.kids.map Xp.cells) e.ps) 0))),(3,.m (.d (.bM [.sl (p.ao.map En.cells),.sl (p.nodes.map Nd.cells)] 0))),(0,.m (.d (.agg [.sl (p.ao.map En.cells),.sl (p.nodes.map Nd.cells)]))),(1,.m (.d (.sl (aJ vs)))),(2,.m (.d (.agg (gw e.kd e.op e.num e.nm e.names (e.kids.map Xp.cells) e.ps))))],[],[.box [.d (.int .u8 0),.d (.str ⟨#[]⟩)],.box [.d .jA]]⟩)
  (by kernel_rfl) (λs0 Oo=>?_) (λs0 Oo d=>?_))
 ·repeat refine TC.seq ?_
  refine TC.region ?_;refine b_ rfl rfl ?_;refine b_ rfl rfl ?_;refine uy rfl ?_;refine uy rfl ?_;refine TL.nil ?_;exact⟨rfl,rfl⟩
 repeat refine TC.seq ?_
 refine TC.region ?_;refine aW rfl rfl rfl ?_;refine bH rfl rfl rfl rfl rfl ?_;refine b_ rfl rfl ?_;refine aa rfl rfl ?_;refine TL.nil ?_;have Sl:=IK;have Sn:(K.set 0 (.box ((eT (cQ p.ao f e)).map M.d)))[1]?=some (.box [.d .jA]):=by rw[List.getElem?_set_ne (by decide)];exact L5
 repeat refine TC.seq ?_
 refine TC.region ?_;refine ah rfl rfl ?_;refine ah rfl rfl ?_;refine aW rfl rfl rfl ?_;refine bn hc rfl rfl ?_;refine kK rfl rfl Sl rfl rfl rfl ?_;refine kK rfl rfl Sn rfl rfl rfl ?_;refine TL.nil ?_;refine TC.ret ⟨.inr rfl,_,[],_,yZ _,ET rfl rfl (cs:=(eT (cQ p.ao f e)).map M.d) ?_ rfl ?_ rfl,[_,_],rfl,rfl⟩
 ·exact(List.getElem?_set_ne (by decide)).trans (List.getElem?_set_self (by omega))
 ·exact List.getElem?_set_self (by rw[List.length_set];omega)
end Go.Proofs.Pz
namespace Go.Ps
open Go.Mt Go.Sm
def dc(im:Nat)(p:Pg)(m:MS):As:=.ex λmv:M=>Sep [.ob im (.box [.d (.sl (p.ao.map En.cells)),.d (.sl (p.nodes.map Nd.cells)),mv,.d (.int .i64 ((m.n:Nat):Int))]),.acc 15 (aJ m.vars) mv]
theorem dc.close{F0:Nat->Prop}{H0 H:Hp}{im:Nat}{p:Pg}{m:MS}{mv:M}{r:List As}(w:Wk F0 H0 (.ob im (.box [.d (.sl (p.ao.map En.cells)),.d (.sl (p.nodes.map Nd.cells)),mv,.d (.int .i64 ((m.n:Nat):Int))]):: .acc 15 (aJ m.vars) mv::r) H):Wk F0 H0 (dc im p m::r) H:=
 Wk.close (φ:= λmv:M=>Sep [.ob im (.box [.d (.sl (p.ao.map En.cells)),.d (.sl (p.nodes.map Nd.cells)),mv,.d (.int .i64 ((m.n:Nat):Int))]),.acc 15 (aJ m.vars) mv]) mv (Wk.join (a:=[_,_]) w)
theorem dc.open{F0:Nat->Prop}{H0 H:Hp}{im:Nat}{p:Pg}{m:MS}{r:List As}(w:Wk F0 H0 (dc im p m::r) H):∃mv,Wk F0 H0 (.ob im (.box [.d (.sl (p.ao.map En.cells)),.d (.sl (p.nodes.map Nd.cells)),mv,.d (.int .i64 ((m.n:Nat):Int))]):: .acc 15 (aJ m.vars) mv::r) H:=by
 obtain⟨mv,w⟩:=w.open;exact⟨mv,w.split⟩
abbrev jX(b:Bd):List D:=[.str b.name,.int .i64 ((b.jm:Nat):Int),.int .u8 b.tk,.str b.tn]
def Env.dp(f:Env)(x:Nm):Nat:=match f x with|some b=>b.jm|none=>0
structure eS(es:List (D×M))(f:Env):Prop where
 k:strKeys es=true
 nd:(es.map Prod.fst).Nodup
 l:∀x,c9 x es=(f x).map λb=>M.d (.agg (jX b))
def a_(i:Nat)(f:Env):As:=.ex λes:List (D×M)=>Sep [.ob i (.map es),.fact (eS es f)]
theorem a_.close{F0:Nat->Prop}{H0 H:Hp}{i:Nat}{f:Env}{es:List (D×M)}{r:List As}(h:eS es f)(w:Wk F0 H0 (.ob i (.map es)::r) H):Wk F0 H0 (a_ i f::r) H:=
 Wk.close (φ:= λes:List (D×M)=>Sep [.ob i (.map es),.fact (eS es f)]) es (Wk.join (a:=[_,_]) ((Wk.BY h w).perm (List.Perm.swap _ _ _)))
theorem a_.open{F0:Nat->Prop}{H0 H:Hp}{i:Nat}{f:Env}{r:List As}(w:Wk F0 H0 (a_ i f::r) H):∃es,eS es f/\Wk F0 H0 (.ob i (.map es)::r) H:=by
 obtain⟨es,w⟩:=w.open;have w:=Wk.split (a:=[_,_]) w;have hp:([As.ob i (.map es),.fact (eS es f)]++r).Perm (.fact (eS es f):: .ob i (.map es)::r):=List.Perm.swap _ _ _;have w:=w.perm hp;exact⟨es,w.jM,w.drop⟩
abbrev je(iv il:Nat)(ck:List (Nm×Nm)):M:=.agg [.mp iv,.mp il,.d (.sl (bN ck))]
theorem tw(x y:Nm)(v:M):∀{es:List (D×M)},strKeys es=true->c9 y (cU x v es)=if y=x then some v else c9 y es
 |[],_=>by
  rw[cU,eI];by_cases h:y=x
  ·subst h;simp
  ·rw[if_neg (Ne.symm h),if_neg h]
 |(d,m)::r,h=>by
  cases d with
  |str s=>
   have ih:=tw x y v (es:=r) (by simpa [strKeys] using h);rw[jJ];by_cases h1:s=x
   ·subst h1;rw[if_pos rfl,eI,eI];by_cases h2:y=s
    ·subst h2;simp
    ·rw[if_neg (Ne.symm h2),if_neg h2,if_neg (Ne.symm h2)]
   ·rw[if_neg h1,eI,eI,ih];by_cases h2:s=y
    ·subst h2;rw[if_pos rfl,if_pos rfl,if_neg h1]
    ·rw[if_neg h2,if_neg h2]
  |_=>simp[strKeys]at h
theorem eS.set{es:List (D×M)}{f:Env}(h:eS es f)(x:Nm)(b:Bd):eS (cU x (.d (.agg (jX b))) es) (f.set x b):=by
 have hs:=cA.1 h.k;have hk:strKeys (cU x (.d (.agg (jX b))) es)=true/\((cU x (.d (.agg (jX b))) es).map Prod.fst).Nodup:=by
  rcases k7 (k:=x) (v:=.d (.agg (jX b))) hs with h1|⟨h1,h2⟩
  ·refine⟨cA.2 λe he=>?_,by rw[h1];exact h.nd⟩;have:e.1∈es.map Prod.fst:=h1▸List.mem_map_of_mem he;rw[List.mem_map]at this;obtain⟨e',h3,h4⟩:=this;rw[<-h4];exact hs e' h3
  ·refine⟨cA.2 λe he=>?_,by rw[h1,List.nodup_append];exact⟨h.nd,by simp,by intro a ha b hb;rw[List.mem_singleton]at hb;subst hb;exactλe=>h2 (e▸ha)⟩⟩;have:e.1∈es.map Prod.fst++[.str x]:=h1▸List.mem_map_of_mem he;rw[List.mem_append,List.mem_singleton]at this;rcases this with h3|h3
   ·rw[List.mem_map]at h3;obtain⟨e',h3,h4⟩:=h3;rw[<-h4];exact hs e' h3
   ·exact⟨x,h3⟩
 refine⟨hk.1,hk.2,λy=>?_⟩;rw[tw x y _ h.k,h.l];unfold Env.set;by_cases h1:y=x
 ·rw[if_pos h1,if_pos h1];rfl
 ·rw[if_neg h1,if_neg h1]
theorem eS.nil:eS [] (λ_=>none):=⟨rfl,by simp,λ_=>rfl⟩
end Go.Ps
namespace Go.Proofs.Pz
open Go.Mt Go.Sm Go.Ps Go.Proofs
open Tryz
section
variable{X:bq}{ops:Array Oper}{rest:List Oper}{post:St->Prop}{FQ:List Ef->St->Prop}{sl:List (Nat×V)}{bx:List (Nat×List M)}{H:Hp}{d ty:Nat}{pos:String}{af:Array Edge}
theorem u4{P:Program}{t n off:Nat}{cs F8:List M}[ht:cL P t n](hs:sub cs off n=some F8):ch P t cs off=some (pack F8):=by
 obtain⟨h1,h2⟩:=sub_eq hs;simp only[ch,ht.agg,ht.size,Nat.ble_eq_true_of_le h1,cond_true];rw[h2]
theorem cy{T n:Nat}{x:Operand}{t off:Nat}{cs F8:List M}[ht:cL X.P T n](hn:Nat.blt d X.n=true)(hx:ba sl x=some (.loc t off))(hb:Go.Mt.get bx t=some cs)(hs:sub cs off n=some F8)(hr:cT F8=none)
  (k:TL X ops rest ⟨(d,.m (.agg F8))::sl,bx,H⟩ post):TL X ops (⟨some d,.load T x,ty,pos,af,none⟩::rest) ⟨sl,bx,H⟩ post:=
 TL.o1 rfl rfl hn (kC hx hb (by rw[u4 hs];simp[pack,hr])) k
theorem jx{T n:Nat}{x:Operand}{t off:Nat}{cs F8:List M}[ht:cL X.P T n](hn:Nat.blt d X.n=true)(hx:ba sl x=some (.loc t off))(hb:Go.Mt.get bx t=some cs)(hs:sub cs off n=some F8)(hr:cT F8=none)
  (k:TF X ops rest ⟨(d,.m (.agg F8))::sl,bx,H⟩ λes zz=>FQ (⟨some d,.m (.agg F8),[t],[],none,false,none⟩::es) zz):TF X ops (⟨some d,.load T x,ty,pos,af,none⟩::rest) ⟨sl,bx,H⟩ FQ:=
 TF.cons (e:=⟨some d,.m (.agg F8),[t],[],none,false,none⟩) (bK.quiet rfl rfl (aQ hn) λFE ag=>kC ((ag.ev (x:=x) (by simp[Op.operands,Call.operands])).trans hx) ((ag.bx t (by simp)).trans hb) (by rw[u4 hs];simp[pack,hr])) rfl k
abbrev Ct(f:Env)(x:Nm):List D:=[.str (f.nm x),.int .i64 ((f.dp x:Nat):Int),.int .u8 (f.ty x).1,.str (f.ty x).2]
theorem Cu{es:List (D×M)}{f:Env}(h:eS es f)(x:Nm):(match c9 x es with|some m=>m|none=>.d (.agg [.str ⟨#[]⟩,.int .i64 0,.int .u8 0,.str ⟨#[]⟩]))=M.d (.agg (Ct f x)):=by
 rw[h.l];unfold Ct Env.nm Env.dp Env.ty;cases f x<;>rfl
theorem g_{T e:Nat}{x y:Operand}{i:Nat}{kk:Nm}{es:List (D×M)}{f:Env}[ht:gz X.P T e][hz:dt X.P e (.agg [.str ⟨#[]⟩,.int .i64 0,.int .u8 0,.str ⟨#[]⟩])](hm:eS es f)(hH:H[i]?=some (.map es))(hn:Nat.blt d X.n=true)(hx:ba sl x=some (.m (.mp i)))(hy:ba sl y=some (.m (.d (.str kk))))
  (k:TL X ops rest ⟨(d,.m (.d (.agg (Ct f kk))))::sl,bx,H⟩ post):TL X ops (⟨some d,.lookup T x y false,ty,pos,af,none⟩::rest) ⟨sl,bx,H⟩ post:=
 x_ hn hx hy hH hm.k (by rw[<-Cu hm]at k;exact k)
theorem pu{T e:Nat}{x y:Operand}{i:Nat}{kk:Nm}{es:List (D×M)}{f:Env}[ht:gz X.P T e][hz:dt X.P e (.agg [.str ⟨#[]⟩,.int .i64 0,.int .u8 0,.str ⟨#[]⟩])](hm:eS es f)(hH:H[i]?=some (.map es))(hn:Nat.blt d X.n=true)(hx:ba sl x=some (.m (.mp i)))(hy:ba sl y=some (.m (.d (.str kk))))
  (k:TF X ops rest ⟨(d,.m (.d (.agg (Ct f kk))))::sl,bx,H⟩ λes zz=>FQ (⟨some d,.m (.d (.agg (Ct f kk))),[],[],none,true,none⟩::es) zz):TF X ops (⟨some d,.lookup T x y false,ty,pos,af,none⟩::rest) ⟨sl,bx,H⟩ FQ:=
 yd hn hx hy hH hm.k (by rw[<-Cu hm]at k;exact k)
end
theorem y7{X:bq}{ops:Array Oper}{rest:List Oper}{FQ:List Ef->St->Prop}{sl:List (Nat×V)}{bx:List (Nat×List M)}{H:Hp}{d ty:Nat}{pos:String}{af:Array Edge}{x y:Operand}{xt yt:Nat}{s u:ByteArray}(hn:Nat.blt d X.n=true)(hx:ba sl x=some (.m (.d (.str s))))(hy:ba sl y=some (.m (.d (.str u))))(hs:Nat.ble s.size 1000=true)(hu:u.size<=4000000000)
  (k:TF X ops rest ⟨(d,(.m (.d (.str (s++u)))))::sl,bx,H⟩ λes zz=>FQ (⟨some d,(.m (.d (.str (s++u)))),[],[],none,false,none⟩::es) zz):TF X ops (⟨some d,.binOp .add xt x y yt,ty,pos,af,none⟩::rest) ⟨sl,bx,H⟩ FQ:=
 Ao hn hx hy (by have:=Nat.le_of_ble_eq_true hs;omega) k
theorem mX(it im:Nat)(p:Pg)(m:MS)(hn:m.n<1000000000)(hv:m.vars.length<=1000000)(t:Int×Nm)(ck:List (Nm×Nm))(GI:ck.length<=1000000):
  Dt prog 210 [.ref im 0,.d (.agg (eT t)),.d (.sl (bN ck))] [.ob it aZ,dc im p m] λr l=>r=.d (.str (nV (m.n+1)))/\l=[.ob it aZ,dc im p (m.fresh t ck)]:=by
 intro H F hs;have w:=Wk.start hs;have w:Wk F H [dc im p m,.ob it aZ] H:=w.pick [1,0];obtain⟨mv,w⟩:=dc.open w;have HF:=w.ob;have hk:((m.n:Nat):Int)+1=((m.n+1:Nat):Int):=by omega
 have I_:m.n+1<=1000000000:=by omega
 unfold MS.fresh;generalize LB:m.n+1=k at hk I_⊢;refine DT.aG func210 rfl ntmps210 rfl ?_
 repeat refine DC.seq ?_
 apply DC.ae
 ·intro s0 Oo;refine b_ rfl rfl ?_;refine aa rfl rfl ?_;exact TL.nil rfl
 repeat refine DC.seq ?_
 apply DC.ae
 ·intro s0 Oo;refine ah rfl rfl ?_;refine eG rfl rfl rfl ?_;refine fS rfl rfl ?_;refine jq rfl rfl HF rfl ?_
  (refine aV rfl rfl rfl (by omega) ?_;rw[hk])
  refine eG rfl rfl rfl ?_;refine fS rfl rfl ?_;refine kK rfl rfl HF rfl rfl rfl ?_;exact TL.nil rfl
 have w:=w.set (.box [.d (.sl (p.ao.map En.cells)),.d (.sl (p.nodes.map Nd.cells)),mv,.d (.int .i64 ((k:Nat):Int))]);have HF:=w.ob;have w:Wk F H [.ob it aZ,.acc 15 (aJ m.vars) mv,.ob im (.box [.d (.sl (p.ao.map En.cells)),.d (.sl (p.nodes.map Nd.cells)),mv,.d (.int .i64 ((k:Nat):Int))])] _:=w.pick [2,1,0];have MY:=w.ob;have MZ:=tj I_ MY;have hd:=Nat.le_trans (pj k I_) (by omega:21<=4000000000);obtain⟨mc,K1,l',GC,w,FX⟩:=Wk.call (a:=[]) w (th ck (by omega));subst GC;have Mb:=w.Ch;have HA:=w.view (iD ck)
 repeat refine DC.seq ?_
 apply DC.da mixed
 ·intro s0 Oo;refine aH rfl rfl ?_;refine dL rfl rfl rfl ?_;refine fU rfl rfl ?_;refine kI rfl rfl HF rfl ?_;refine kL MZ rfl rfl ?_;refine y7 rfl rfl rfl rfl hd ?_;refine eB rfl rfl rfl ?_;refine aH rfl rfl ?_;refine gq FX rfl rfl ?_;refine uV (cs:=[.d (.str (nV k)),.d (.int .u8 t.1),.d (.str t.2),mc,.d (.bool false),.d (.int .u8 0),.d (.int .u8 0),.d (.int .i32 0),.d (.str ⟨#[]⟩),.d (.sl []),.d (.sl []),.d (.int .i64 0),.d (.int .i64 0),.d (.int .i64 0),.d (.int .i64 0)]) rfl rfl rfl (by simp only[gU];rw[Mb];rfl) ?_;refine gm rfl ?_;refine cc rfl rfl rfl (fX _) rfl rfl ?_;exact TF.nil ⟨by kernel_rfl,rfl⟩
 refine DC.eK (FG:=[.d (.str (nV k)),.d (.int .u8 t.1),.d (.str t.2),.d (.sl (bN ck)),.d (.bool false),.d (.int .u8 0),.d (.int .u8 0),.d (.int .i32 0),.d (.str ⟨#[]⟩),.d (.sl []),.d (.sl []),.d (.int .i64 0),.d (.int .i64 0),.d (.int .i64 0),.d (.int .i64 0)]) 7 rfl (db (db (db (pk HA (db (db (db (db (db (db (db (db (db (db (db (qm _)))))))))))))))) ?_;have w:Wk F H [.acc 15 (aJ m.vars) mv,.ob im (.box [.d (.sl (p.ao.map En.cells)),.d (.sl (p.nodes.map Nd.cells)),mv,.d (.int .i64 ((k:Nat):Int))]),.ob it aZ] K1:=(w.drop).pick [1,2,0];have HF:=(w.pick [1,0,2]).ob;obtain⟨row,M'⟩:∃row:List D,row=[.str (nV k),.int .u8 t.1,.str t.2,.sl (bN ck),.bool false,.int .u8 0,.int .u8 0,.int .i32 0,.str ⟨#[]⟩,.sl [],.sl [],.int .i64 0,.int .i64 0,.int .i64 0,.int .i64 0]:=⟨_,rfl⟩;have Ks:aJ (m.vars++[⟨nV k,t.1,t.2,ck,false,fp,(0,0)⟩])=aJ m.vars++[row]:=by
  rw[M'];simp only[aJ,List.map_append,List.map_cons,List.map_nil];rw[Va.ai];rfl
 have w2:=w.app [row];have I':=(w2.pick [1,0,2]).ob;rw[M']at w2 I'
 repeat refine DC.seq ?_
 apply DC.da mixed
 ·intro s0 Oo;refine aH rfl rfl ?_;refine aH rfl rfl ?_;refine dL rfl rfl rfl ?_;refine fU rfl rfl ?_;refine kI rfl rfl HF rfl ?_;refine bo rfl rfl rfl rfl rfl ?_;refine bj rfl rfl rfl rfl rfl rfl rfl rfl ?_;refine fV w rfl rfl rfl rfl rfl rfl rfl (by simp[aJ];omega) ?_;refine dL rfl rfl rfl ?_;refine fU rfl rfl ?_;refine pL rfl rfl I' (cW _ _ _) rfl rfl ?_;exact TF.nil ⟨by kernel_rfl,rfl⟩
 repeat refine DC.seq ?_
 apply DC.ae
 ·intro s0 Oo;refine aq rfl rfl ?_;refine aB rfl rfl rfl rfl ?_;refine aa rfl rfl ?_;exact TL.nil rfl
 rw[M']at Ks;rw[<-Ks]at w2;have w3:Wk F H [dc im p ⟨k,m.vars++[⟨nV k,t.1,t.2,ck,false,fp,(0,0)⟩]⟩,.ob it aZ] _:=dc.close ((w2.pick [1,0,2]).set _);exact DC.ret ⟨_,rfl,_,⟨rfl,rfl⟩,w3.pick [1,0]⟩
end Go.Proofs.Pz
namespace Go.Ps
open Go.Mt Go.Sm
def cu(f:Env)(ck:List (Nm×Nm))(m:MS)(x:Nm):Env×MS×List aF:=
 match f x with
 |none=>(f,m,[])
 |some b=>if b.jm=ck.length then(f,m,[])else
  (f.set x ⟨nV (m.n+1),ck.length,b.tk,b.tn⟩,m.fresh (b.tk,b.tn) ck,[fG (nV (m.n+1)) ((ck.drop b.jm).foldl jS (bk b.name)) (0,0)])
theorem jy(r:R)(x:Nm):cH r x=⟨{r.s with vars:=(cu r.s.vars r.s.ck r.m x).1},(cu r.s.vars r.s.ck r.m x).2.1,r.q++(cu r.s.vars r.s.ck r.m x).2.2⟩:=by
 obtain⟨s,m,q⟩:=r;unfold cH cu vY;cases h:s.vars x with
 |none=>simp[h]
 |some b=>by_cases h2:b.jm=s.ck.length<;>simp[h,h2]
theorem iF(r:R)(x:Nm):eP r x=⟨{r.s with aS:=(cu r.s.aS r.s.ck r.m x).1},(cu r.s.aS r.s.ck r.m x).2.1,r.q++(cu r.s.aS r.s.ck r.m x).2.2⟩:=by
 obtain⟨s,m,q⟩:=r;unfold eP cu vY;cases h:s.aS x with
 |none=>simp[h]
 |some b=>by_cases h2:b.jm=s.ck.length<;>simp[h,h2]
theorem pv{l:List (Nm×Nm)}{i:Nat}(h:i<l.length):(bN l)[((i:Nat):Int).toNat]?=some [.str l[i].1,.str l[i].2]:=by simp[bN,h]
end Go.Ps
namespace Go.Proofs.Pz
open Go.Mt Go.Sm Go.Ps Go.Proofs
open Tryz
theorem Ba(m0:M)(iv il:Nat)(sc:List (Nm×Nm))(f:Env)(ck:List (Nm×Nm))(hl:ck.length<=1000000):
  Dt prog 209 [m0,je iv il sc,.d (.sl (bN ck))] [a_ iv f] λr l=>r=.d (.sl (bN (ck.map λo=>(o.1,f.nm o.2))))/\l=[a_ iv f]:=by
 intro H F hs;have w:=Wk.start hs;obtain⟨es,hm,w⟩:=a_.open w;have w:=w.nil 2;have hlen:(bN ck).length=ck.length:=by simp[bN]
 refine DT.aG func209 rfl ntmps209 rfl ?_
 repeat refine DC.seq ?_
 apply DC.ae
 ·intro s0 Oo;refine dw rfl rfl rfl rfl ?_;refine aa rfl rfl ?_;exact TL.nil rfl
 repeat refine DC.seq ?_
 apply DC.ae
 ·intro s0 Oo;refine aa rfl rfl ?_;exact TL.nil rfl
 repeat refine DC.seq ?_
 apply DC.ae
 ·intro s0 Oo;refine ah rfl rfl ?_
  (refine bg rfl rfl rfl ?_;rw[hlen])
  refine ah rfl rfl ?_;exact TL.nil rfl
 refine DC.ca [(12,.m (.d (.int .i64 ((0:Nat):Int)))),(11,.m (.d (.int .i64 ((ck.length:Nat):Int)))),(10,.m (.d (.sl (bN ck)))),(7,.m (.d (.sl []))),(4,.loc 4 0)] _ _ rfl (λ_=>rfl) rfl ?_
 repeat refine DC.seq ?_
 refine DC.block ?_;refine DC.loop (λm s1=>∃(i:Nat) (mc:M) (bx:List (Nat×List M)) (H1:Hp),s1=⟨[(12,.m (.d (.int .i64 ((i:Nat):Int)))),(11,.m (.d (.int .i64 ((ck.length:Nat):Int)))),(10,.m (.d (.sl (bN ck)))),(7,.m mc),(4,.loc 4 0)],bx,H1⟩/\
   Go.Mt.get bx 4=some [.mp iv,.mp il,.d (.sl (bN sc))]/\
   Wk F H [.acc 2 (bN ((ck.take i).map λo=>(o.1,f.nm o.2))) mc,.ob iv (.map es)] H1/\i<=ck.length/\m=ck.length-i) ck.length _
  ⟨0,.d (.sl []),_,_,rfl,rfl,w,by omega,rfl⟩ rfl ?_
 clear w;rintro m s1 ⟨i,mc,bx,H1,rfl,F9,w,hi,rfl⟩
 repeat refine DC.seq ?_
 apply DC.ae
 ·intro s0 Oo;refine ak rfl rfl rfl rfl ?_;exact TL.nil rfl
 repeat refine DC.seq ?_
 refine DC.cond rfl (λhc=>?_) (λhc=>?_)
 ·have FH:i<ck.length:=by have:=of_decide_eq_true hc;omega
  clear hc;have FF:=pv FH;have FU:bN ((ck.take (i+1)).map λo=>(o.1,f.nm o.2))=bN ((ck.take i).map λo=>(o.1,f.nm o.2))++[[.str ck[i].1,.str (f.nm ck[i].2)]]:=by rw[q8 _ _ _ _ _ FH];simp[bN]
  generalize ck[i]=o at FF FU;have hH:=(w.pick [1,0]).ob;refine DC.skip ?_
  repeat refine DC.seq ?_
  refine DC.block ?_
  repeat refine DC.seq ?_
  apply DC.ae
  ·intro s0 Oo;refine aO rfl rfl rfl (Int.natCast_nonneg i) FF rfl ?_;refine aW rfl rfl rfl ?_;refine aM rfl rfl ?_;refine av rfl rfl rfl rfl rfl rfl ?_;exact TL.nil rfl
  repeat refine DC.seq ?_
  apply DC.ae
  ·intro s0 Oo;refine ah rfl rfl ?_;refine aq rfl rfl ?_;refine aB rfl rfl rfl rfl ?_;refine aq rfl rfl ?_;refine aB rfl rfl F9 rfl ?_;refine aq rfl rfl ?_;refine aB rfl rfl rfl rfl ?_;refine g_ hm hH rfl rfl rfl ?_;refine l_ rfl rfl rfl rfl ?_;refine bH rfl rfl rfl rfl rfl ?_;refine aD rfl rfl rfl rfl rfl rfl rfl rfl ?_;refine cK w rfl rfl rfl rfl rfl rfl (by exact cO rfl) (by simp[bN];omega) ?_;refine aa rfl rfl ?_;exact TL.nil rfl
  have w:=w.app [[.str o.1,.str (f.nm o.2)]]
  repeat refine DC.seq ?_
  apply DC.ae
  ·intro s0 Oo;refine aV rfl rfl rfl (by omega) ?_;refine ah rfl rfl ?_;exact TL.nil rfl
  exact cb (k':=ck.length-(i+1)) (by omega) ⟨i+1,_,_,_,rfl,F9,by rw[FU];exact w,by omega,rfl⟩ rfl rfl
 ·refine DC.exit ?_;obtain rfl:i=ck.length:=by have:=of_decide_eq_false hc;omega
  rw[List.take_length]at w
  repeat refine DC.seq ?_
  apply DC.ae
  ·intro s0 Oo;refine ah rfl rfl ?_;refine aa rfl rfl ?_;exact TL.nil rfl
  have hv:=w.view (iD _);refine DC.bC 6 rfl hv ?_;have w2:Wk F H [a_ iv f] H1:=a_.close hm w.drop;exact DC.ret ⟨_,rfl,_,⟨rfl,rfl⟩,w2⟩
theorem u5(iv il:Nat)(sc:List (Nm×Nm))(f:Env)(l:List Nm)(hl:l.length<=1000000):
  Dt prog 257 [je iv il sc,.d (.sl (aU l))] [a_ iv f] λr l'=>r=.d (.sl (aU (l.map f.nm)))/\l'=[a_ iv f]:=by
 intro H F hs;have w:=Wk.start hs;obtain⟨es,hm,w⟩:=a_.open w;have w:=w.nil 1;have hlen:(aU l).length=l.length:=by simp[aU]
 refine DT.aG func257 rfl ntmps257 rfl ?_
 repeat refine DC.seq ?_
 apply DC.ae
 ·intro s0 Oo;refine dw rfl rfl rfl rfl ?_;refine aa rfl rfl ?_;exact TL.nil rfl
 repeat refine DC.seq ?_
 apply DC.ae
 ·intro s0 Oo;refine aa rfl rfl ?_;exact TL.nil rfl
 repeat refine DC.seq ?_
 apply DC.ae
 ·intro s0 Oo;refine ah rfl rfl ?_
  (refine bg rfl rfl rfl ?_;rw[hlen])
  refine ah rfl rfl ?_;exact TL.nil rfl
 refine DC.ca [(10,.m (.d (.int .i64 ((0:Nat):Int)))),(9,.m (.d (.int .i64 ((l.length:Nat):Int)))),(8,.m (.d (.sl (aU l)))),(5,.m (.d (.sl []))),(2,.loc 2 0)] _ _ rfl (λ_=>rfl) rfl ?_
 repeat refine DC.seq ?_
 refine DC.block ?_;refine DC.loop (λm s1=>∃(i:Nat) (mc:M) (bx:List (Nat×List M)) (H1:Hp),s1=⟨[(10,.m (.d (.int .i64 ((i:Nat):Int)))),(9,.m (.d (.int .i64 ((l.length:Nat):Int)))),(8,.m (.d (.sl (aU l)))),(5,.m mc),(2,.loc 2 0)],bx,H1⟩/\
   Go.Mt.get bx 2=some [.mp iv,.mp il,.d (.sl (bN sc))]/\
   Wk F H [.acc 1 (aU ((l.take i).map f.nm)) mc,.ob iv (.map es)] H1/\i<=l.length/\m=l.length-i) l.length _
  ⟨0,.d (.sl []),_,_,rfl,rfl,w,by omega,rfl⟩ rfl ?_
 clear w;rintro m s1 ⟨i,mc,bx,H1,rfl,Gs,w,hi,rfl⟩
 repeat refine DC.seq ?_
 apply DC.ae
 ·intro s0 Oo;refine ak rfl rfl rfl rfl ?_;exact TL.nil rfl
 repeat refine DC.seq ?_
 refine DC.cond rfl (λhc=>?_) (λhc=>?_)
 ·have FH:i<l.length:=by have:=of_decide_eq_true hc;omega
  clear hc;have FF:=fv FH;have FU:aU ((l.take (i+1)).map f.nm)=aU ((l.take i).map f.nm)++[[.str (f.nm l[i])]]:=by rw[q8 _ _ _ _ _ FH];simp[aU]
  generalize l[i]=o at FF FU;have hH:=(w.pick [1,0]).ob;refine DC.skip ?_
  repeat refine DC.seq ?_
  refine DC.block ?_
  repeat refine DC.seq ?_
  apply DC.ae
  ·intro s0 Oo;refine aO rfl rfl rfl (Int.natCast_nonneg i) FF rfl ?_;refine ax rfl rfl rfl ?_;refine aa rfl rfl ?_;exact TL.nil rfl
  repeat refine DC.seq ?_
  apply DC.ae
  ·intro s0 Oo;refine ah rfl rfl ?_;refine aq rfl rfl ?_;refine aB rfl rfl Gs rfl ?_;refine ah rfl rfl ?_;refine g_ hm hH rfl rfl rfl ?_;refine l_ rfl rfl rfl rfl ?_;refine aD rfl rfl rfl rfl rfl rfl rfl rfl ?_;refine cK w rfl rfl rfl rfl rfl rfl (by exact cO rfl) (by simp[aU];omega) ?_;refine aa rfl rfl ?_;exact TL.nil rfl
  have w:=w.app [[.str (f.nm o)]]
  repeat refine DC.seq ?_
  apply DC.ae
  ·intro s0 Oo;refine aV rfl rfl rfl (by omega) ?_;refine ah rfl rfl ?_;exact TL.nil rfl
  exact cb (k':=l.length-(i+1)) (by omega) ⟨i+1,_,_,_,rfl,Gs,by rw[FU];exact w,by omega,rfl⟩ rfl rfl
 ·refine DC.exit ?_;obtain rfl:i=l.length:=by have:=of_decide_eq_false hc;omega
  rw[List.take_length]at w
  repeat refine DC.seq ?_
  apply DC.ae
  ·intro s0 Oo;refine ah rfl rfl ?_;refine aa rfl rfl ?_;exact TL.nil rfl
  have hv:=w.view (et _);refine DC.bC 4 rfl hv ?_;have w2:Wk F H [a_ iv f] H1:=a_.close hm w.drop;exact DC.ret ⟨_,rfl,_,⟨rfl,rfl⟩,w2⟩
theorem tx(it im:Nat)(p:Pg)(m:MS)(iv il ix:Nat)(ck:List (Nm×Nm))(f:Env)(x:Nm)(hn:m.n<1000000000)(hv:m.vars.length<=1000000)(GI:ck.length<=1000000)(hd:∀b,f x=some b->b.jm<=ck.length):
  Dt prog 255 [.ref im 0,je iv il ck,.mp ix,.d (.str x)] [.ob it aZ,dc im p m,a_ ix f] λr l=>r=.d (.sl (bm (cu f ck m x).2.2))/\l=[.ob it aZ,dc im p (cu f ck m x).2.1,a_ ix (cu f ck m x).1]:=by
 intro H F hs;have w:=Wk.start hs;have w:Wk F H [a_ ix f,.ob it aZ,dc im p m] H:=w.pick [2,0,1];obtain⟨es,hm,w⟩:=a_.open w;have hH:=w.ob;have Mc:=hm.l x;have hlen:(bN ck).length=ck.length:=by simp[bN]
 unfold cu;cases hf:f x with
 |none=>
  rw[hf]at Mc;refine DT.aG func255 rfl ntmps255 rfl ?_
  repeat refine DC.seq ?_
  apply DC.ae
  ·intro s0 Oo;refine dw rfl rfl rfl rfl ?_;refine aa rfl rfl ?_;exact TL.nil rfl
  repeat refine DC.seq ?_
  apply DC.ae
  ·intro s0 Oo;refine ah rfl rfl ?_;refine ah rfl rfl ?_
   (refine sx rfl rfl rfl hH hm.k ?_;rw[Mc])
   refine ah rfl rfl ?_;refine aR rfl rfl rfl ?_;refine aR rfl rfl rfl ?_;refine aM rfl rfl ?_;refine av rfl rfl rfl rfl rfl rfl ?_;refine aa rfl rfl ?_;exact TL.nil rfl
  repeat refine DC.seq ?_
  apply DC.ae
  ·intro s0 Oo;refine ah rfl rfl ?_;refine iZ rfl rfl ?_;refine ah rfl rfl ?_;refine fb rfl rfl ?_;refine fb rfl rfl ?_;refine fb rfl rfl ?_;refine fb rfl rfl ?_;refine fb rfl rfl ?_;refine fb rfl rfl ?_;refine fE rfl rfl rfl ?_;exact TL.nil rfl
  repeat refine DC.seq ?_
  refine DC.cr rfl ?_
  repeat refine DC.seq ?_
  apply DC.ae
  ·intro s0 Oo;refine aa rfl rfl ?_;exact TL.nil rfl
  have w2:Wk F H [a_ ix f,.ob it aZ,dc im p m] H:=a_.close hm w;exact DC.ret ⟨_,rfl,_,⟨rfl,rfl⟩,w2.pick [1,2,0]⟩
 |some b=>
  rw[hf]at Mc;have So:=hd b hf
  dsimp only
  refine DT.aG func255 rfl ntmps255 rfl ?_
  repeat refine DC.seq ?_
  apply DC.ae
  ·intro s0 Oo;refine dw rfl rfl rfl rfl ?_;refine aa rfl rfl ?_;exact TL.nil rfl
  repeat refine DC.seq ?_
  apply DC.ae
  ·intro s0 Oo;refine ah rfl rfl ?_;refine ah rfl rfl ?_
   (refine sx rfl rfl rfl hH hm.k ?_;rw[Mc])
   refine ah rfl rfl ?_;refine aR rfl rfl rfl ?_;refine aR rfl rfl rfl ?_;refine aM rfl rfl ?_;refine av rfl rfl rfl rfl rfl rfl ?_;refine aa rfl rfl ?_;exact TL.nil rfl
  by_cases hb:b.jm=ck.length
  ·rw[if_pos hb];have he:(((b.jm:Nat):Int)==((ck.length:Nat):Int))=true:=by simp[hb]
   repeat refine DC.seq ?_
   apply DC.ae
   ·intro s0 Oo;refine ah rfl rfl ?_;refine iZ rfl rfl ?_;refine ah rfl rfl ?_;refine aE rfl ?_;refine aq rfl rfl ?_;refine aE rfl ?_;refine aB rfl rfl rfl rfl ?_;refine aE rfl ?_;refine aq rfl rfl ?_;refine aE rfl ?_;refine aB rfl rfl rfl rfl ?_;refine aE rfl ?_;refine bg rfl rfl rfl ?_;rw[hlen];refine aE rfl ?_;refine ak rfl rfl rfl (r:=.bool true) (by show some (D.bool (((b.jm:Nat):Int)==((ck.length:Nat):Int)))=_;rw[he]) ?_;refine fE rfl rfl rfl ?_;exact TL.nil rfl
   repeat refine DC.seq ?_
   refine DC.cr rfl ?_
   repeat refine DC.seq ?_
   apply DC.ae
   ·intro s0 Oo;refine aa rfl rfl ?_;exact TL.nil rfl
   have w2:Wk F H [a_ ix f,.ob it aZ,dc im p m] H:=a_.close hm w;exact DC.ret ⟨_,rfl,_,⟨rfl,rfl⟩,w2.pick [1,2,0]⟩
  rw[if_neg hb];have he:(((b.jm:Nat):Int)==((ck.length:Nat):Int))=false:=by simp;omega
  repeat refine DC.seq ?_
  apply DC.ae
  ·intro s0 Oo;refine ah rfl rfl ?_;refine iZ rfl rfl ?_;refine ah rfl rfl ?_;refine aE rfl ?_;refine aq rfl rfl ?_;refine aE rfl ?_;refine aB rfl rfl rfl rfl ?_;refine aE rfl ?_;refine aq rfl rfl ?_;refine aE rfl ?_;refine aB rfl rfl rfl rfl ?_;refine aE rfl ?_;refine bg rfl rfl rfl ?_;rw[hlen];refine aE rfl ?_;refine ak rfl rfl rfl (r:=.bool false) (by show some (D.bool (((b.jm:Nat):Int)==((ck.length:Nat):Int)))=_;rw[he]) ?_;refine fE rfl rfl rfl ?_;exact TL.nil rfl
  repeat refine DC.seq ?_
  refine DC.aC rfl ?_;refine DC.skip ?_;have Ix:=e9 b.name;rw[(bk b.name).ai]at Ix
  repeat refine DC.seq ?_
  apply DC.ae
  ·intro s0 Oo;refine aq rfl rfl ?_;refine aB rfl rfl rfl rfl ?_;refine bL Ix rfl rfl ?_;refine aM rfl rfl ?_;refine av rfl rfl rfl rfl rfl rfl ?_;exact TL.nil rfl
  obtain⟨L,hL⟩:∃L,L=ck.drop b.jm:=⟨_,rfl⟩;have Sp:L.length=ck.length-b.jm:=by rw[hL,List.length_drop]
  have NK:(bN ck).drop b.jm=bN L:=by rw[hL];simp[bN]
  have MI:D9 ((bN ck).drop b.jm)=.sl (bN L):=by
   rw[NK];cases L with
   |nil=>simp at Sp;omega
   |cons a r=>rfl
  have O_:(bN L).length=L.length:=by simp[bN]
  have FV:bN ck≠[]:=by intro e;have:=congrArg List.length e;rw[hlen,List.length_nil]at this;omega
  repeat refine DC.seq ?_
  apply DC.ae
  ·intro s0 Oo;refine aq rfl rfl ?_;refine aB rfl rfl rfl rfl ?_;refine aq rfl rfl ?_;refine aB rfl rfl rfl rfl ?_
   (refine yC rfl rfl rfl FV (by rw[hlen];exact So) (iD ck) ?_;rw[MI])
   (refine bg rfl rfl rfl ?_;rw[O_])
   refine ah rfl rfl ?_;exact TL.nil rfl
  rw[<-hL];refine DC.ca [(40,.m (.d (.int .i64 ((0:Nat):Int)))),(39,.m (.d (.int .i64 ((L.length:Nat):Int)))),(38,.m (.d (.sl (bN L)))),(11,.loc 11 0),(9,.loc 9 0),(5,.loc 5 0),(0,.m (.ref im 0)),(2,.m (.mp ix)),(3,.m (.d (.str x)))] _ _ rfl (λ_=>rfl) rfl ?_
  repeat refine DC.seq ?_
  refine DC.block ?_;refine DC.loop (λm s1=>∃(i:Nat) (bx:List (Nat×List M)),s1=⟨[(40,.m (.d (.int .i64 ((i:Nat):Int)))),(39,.m (.d (.int .i64 ((L.length:Nat):Int)))),(38,.m (.d (.sl (bN L)))),(11,.loc 11 0),(9,.loc 9 0),(5,.loc 5 0),(0,.m (.ref im 0)),(2,.m (.mp ix)),(3,.m (.d (.str x)))],bx,H⟩/\
    Go.Mt.get bx 5=some [.mp iv,.mp il,.d (.sl (bN ck))]/\Go.Mt.get bx 9=some ((jX b).map M.d)/\Go.Mt.get bx 11=some ((xC ((L.take i).foldl jS (bk b.name))).map M.d)/\i<=L.length/\m=L.length-i) L.length _
   ⟨0,_,rfl,rfl,rfl,rfl,by omega,rfl⟩ rfl ?_
  rintro m1 s1 ⟨i,bx,rfl,Gz,Ma,KA,hi,rfl⟩
  repeat refine DC.seq ?_
  apply DC.ae
  ·intro s0 Oo;refine ak rfl rfl rfl rfl ?_;exact TL.nil rfl
  repeat refine DC.seq ?_
  refine DC.cond rfl (λhc=>?_) (λhc=>?_)
  ·have FH:i<L.length:=by have:=of_decide_eq_true hc;omega
   clear hc;have FF:=pv FH;have FU:(L.take (i+1)).foldl jS (bk b.name)=jS ((L.take i).foldl jS (bk b.name)) L[i]:=by rw[List.take_succ_eq_append_getElem FH,List.foldl_append];rfl
   generalize (L.take i).foldl jS (bk b.name)=E at KA FU;generalize L[i]=o at FF FU;have hw:=AY E o;rw[E.ai,(jS E o).ai]at hw;refine DC.skip ?_
   repeat refine DC.seq ?_
   refine DC.block ?_
   repeat refine DC.seq ?_
   apply DC.ae
   ·intro s0 Oo;refine aO rfl rfl rfl (Int.natCast_nonneg i) FF rfl ?_;refine aW rfl rfl rfl ?_;refine aM rfl rfl ?_;refine av rfl rfl rfl rfl rfl rfl ?_;exact TL.nil rfl
   repeat refine DC.seq ?_
   apply DC.ae
   ·intro s0 Oo;refine aY rfl rfl KA rfl rfl ?_;refine aY rfl rfl rfl rfl rfl ?_;refine bL hw rfl rfl ?_;refine av rfl rfl KA rfl rfl rfl ?_;exact TL.nil rfl
   repeat refine DC.seq ?_
   apply DC.ae
   ·intro s0 Oo;refine aV rfl rfl rfl (by omega) ?_;refine ah rfl rfl ?_;exact TL.nil rfl
   exact cb (k':=L.length-(i+1)) (by omega) ⟨i+1,_,rfl,Gz,Ma,by rw[FU];rfl,by omega,rfl⟩ rfl rfl
  ·refine DC.exit ?_;obtain rfl:i=L.length:=by have:=of_decide_eq_false hc;omega
   rw[List.take_length]at KA;generalize L.foldl jS (bk b.name)=E at KA⊢;obtain⟨_,K,l',⟨rfl,rfl⟩,w,FX⟩:=Wk.call (a:=[.ob it aZ,dc im p m]) (w.pick [1,2,0]) (mX it im p m hn hv (b.tk,b.tn) ck GI);have w:Wk F H [.ob ix (.map es),.ob it aZ,dc im p (m.fresh (b.tk,b.tn) ck)] K:=w.pick [2,0,1];have hH:=w.ob;have Hh:=kQ (nV (m.n+1)) E (0,0);rw[cI,E.ai]at Hh
   repeat refine DC.seq ?_
   apply DC.ae
   ·intro s0 Oo;refine ah rfl rfl ?_;refine aq rfl rfl ?_;refine aY rfl rfl Ma rfl rfl ?_;refine aq rfl rfl ?_;refine aB rfl rfl Gz rfl ?_;refine bn FX rfl rfl ?_;refine aa rfl rfl ?_;exact TL.nil rfl
   repeat refine DC.seq ?_
   apply DC.ae
   ·intro s0 Oo;refine ah rfl rfl ?_;refine ah rfl rfl ?_;refine ah rfl rfl ?_;refine aq rfl rfl ?_;refine aB rfl rfl Gz rfl ?_
    (refine bg rfl rfl rfl ?_;rw[hlen])
    refine aq rfl rfl ?_;refine aY rfl rfl Ma rfl rfl ?_;refine bH rfl rfl rfl rfl rfl ?_;refine eJ rfl rfl rfl hH hm.k ?_;exact TL.nil rfl
   repeat refine DC.seq ?_
   apply DC.ae
   ·intro s0 Oo;refine ah rfl rfl ?_;refine aY rfl rfl KA rfl rfl ?_;refine bH rfl rfl rfl rfl rfl ?_;refine bL Hh rfl rfl ?_;refine aD rfl rfl rfl rfl rfl rfl rfl rfl ?_;refine aa rfl rfl ?_;exact TL.nil rfl
   have w2:=a_.close (hm.set x ⟨nV (m.n+1),ck.length,b.tk,b.tn⟩) (w.set (.map (cU x (.d (.agg (jX ⟨nV (m.n+1),ck.length,b.tk,b.tn⟩))) es)));refine DC.ret ⟨_,rfl,_,⟨?_,rfl⟩,w2.pick [1,2,0]⟩;show _=M.d (D.sl [(fG (nV (m.n+1)) E (0,0)).cells]);rw[cI];rfl
theorem xF(it im:Nat)(p:Pg)(m:MS)(iv il:Nat)(ck:List (Nm×Nm))(f:Env)(x:Nm)(hn:m.n<1000000000)(hv:m.vars.length<=1000000)(GI:ck.length<=1000000)(hd:∀b,f x=some b->b.jm<=ck.length):
  Dt prog 214 [.ref im 0,je iv il ck,.d (.str x)] [.ob it aZ,dc im p m,a_ iv f] λr l=>r=.d (.sl (bm (cu f ck m x).2.2))/\l=[.ob it aZ,dc im p (cu f ck m x).2.1,a_ iv (cu f ck m x).1]:=by
 intro H F hs;obtain⟨_,K,l',⟨rfl,rfl⟩,w,FX⟩:=Wk.call (r:=[]) (Wk.start hs) (tx it im p m iv il iv ck f x hn hv GI hd);refine DT.aG func214 rfl ntmps214 rfl ?_
 repeat refine DC.seq ?_
 apply DC.ae
 ·intro s0 Oo;refine dw rfl rfl rfl rfl ?_;refine aa rfl rfl ?_;exact TL.nil rfl
 repeat refine DC.seq ?_
 apply DC.ae
 ·intro s0 Oo;refine ah rfl rfl ?_;refine cy rfl rfl rfl rfl rfl ?_;refine aq rfl rfl ?_;refine aB rfl rfl rfl rfl ?_;refine ah rfl rfl ?_;refine bn FX rfl rfl ?_;refine aa rfl rfl ?_;exact TL.nil rfl
 exact DC.ret ⟨_,rfl,_,⟨rfl,rfl⟩,w⟩
theorem pw(it im:Nat)(p:Pg)(m:MS)(iv il:Nat)(ck:List (Nm×Nm))(f:Env)(x:Nm)(hn:m.n<1000000000)(hv:m.vars.length<=1000000)(GI:ck.length<=1000000)(hd:∀b,f x=some b->b.jm<=ck.length):
  Dt prog 290 [.ref im 0,je iv il ck,.d (.str x)] [.ob it aZ,dc im p m,a_ il f] λr l=>r=.d (.sl (bm (cu f ck m x).2.2))/\l=[.ob it aZ,dc im p (cu f ck m x).2.1,a_ il (cu f ck m x).1]:=by
 intro H F hs;obtain⟨_,K,l',⟨rfl,rfl⟩,w,FX⟩:=Wk.call (r:=[]) (Wk.start hs) (tx it im p m iv il il ck f x hn hv GI hd);refine DT.aG func290 rfl ntmps290 rfl ?_
 repeat refine DC.seq ?_
 apply DC.ae
 ·intro s0 Oo;refine dw rfl rfl rfl rfl ?_;refine aa rfl rfl ?_;exact TL.nil rfl
 repeat refine DC.seq ?_
 apply DC.ae
 ·intro s0 Oo;refine ah rfl rfl ?_;refine cy rfl rfl rfl rfl rfl ?_;refine aq rfl rfl ?_;refine aB rfl rfl rfl rfl ?_;refine ah rfl rfl ?_;refine bn FX rfl rfl ?_;refine aa rfl rfl ?_;exact TL.nil rfl
 exact DC.ret ⟨_,rfl,_,⟨rfl,rfl⟩,w⟩
end Go.Proofs.Pz
