/- A part of the proof of the last text of this claim, without conditions. -/
import Derived.Test.YtbafhpblecdbbaaGreatDoorF
import Derived.Deep.Matrix
import Derived.SizedLaws
set_option maxRecDepth 4000
set_option linter.all false
namespace Go.Mt
section ops
variable{X:bq}{st:St}{dst:Option Nat}{ty:Nat}{pos:String}{af:Array Edge}{g:Option (Nat×Bool)}
end ops
section rules
variable{X:bq}{ops:Array Oper}{rest:List Oper}{post:St->Prop}{sl:List (Nat×V)}{bx:List (Nat×List M)}{H:Hp}{d ty:Nat}{pos:String}{af:Array Edge}
end rules
def DT(P:Program)(f:Nat)(ms:List M)(H:Hp)(post:M->Hp->Prop):Prop:=∃r K,post r K/\CT P f ms H λr' K'=>r'=r/\K'=K
def DC(P:Program)(n B:Nat)(c:Code)(st:St)(post:Exit->St->Prop):Prop:=
 ∃e s,post e s/\∀s0 Oo,s0.H.length<=B->TC ⟨P,n,s0,Oo,[]⟩ c st λe' s'=>e'=e/\s'=s
section
variable{P:Program}{n B:Nat}{st:St}{post:Exit->St->Prop}
theorem DC.mono{c:Code}{q:Exit->St->Prop}(h:DC P n B c st post)(k:∀e s,post e s->q e s):DC P n B c st q:=by
 obtain⟨e,s,h1,h2⟩:=h;exact⟨e,s,k _ _ h1,h2⟩
theorem DC.seq{x y:Code}(h:DC P n B x st (after post λs=>DC P n B y s post)):DC P n B (.seq x y) st post:=by
 obtain⟨e,s,h1,h2⟩:=h;cases e with
 |normal=>
  obtain⟨e2,s2,h3,h4⟩:=h1;exact⟨e2,s2,h3,λs0 Oo hb=>TC.seq ((h2 s0 Oo hb).mono λe' s' ⟨a,b⟩=>by subst a;subst b;exact h4 s0 Oo hb)⟩
 |_=>exact⟨_,s,h1,λs0 Oo hb=>TC.seq ((h2 s0 Oo hb).mono λe' s' ⟨a,b⟩=>by subst a;subst b;exact⟨rfl,rfl⟩)⟩
theorem DC.skip(h:post .normal st):DC P n B .skip st post:=⟨_,_,h,λ_ _ _=>TC.skip ⟨rfl,rfl⟩⟩
theorem DC.exit{id:Nat}(h:post (.exit id) st):DC P n B (.exit id) st post:=⟨_,_,h,λ_ _ _=>TC.exit ⟨rfl,rfl⟩⟩
theorem DC.ret(h:post .ret st):DC P n B .ret st post:=⟨_,_,h,λ_ _ _=>TC.ret ⟨rfl,rfl⟩⟩
theorem DC.block{id:Nat}{c:Code}(h:DC P n B c st (lM id post)):DC P n B (.block id c) st post:=by
 obtain⟨e,s,h1,h2⟩:=h;by_cases he:e=.exit id
 ·subst he;simp only[lM,if_true]at h1;refine⟨.normal,s,h1,λs0 Oo hb=>TC.block ((h2 s0 Oo hb).mono λe' s' ⟨a,b⟩=>?_)⟩;subst a;subst b;simp[lM]
 ·refine⟨e,s,?_,λs0 Oo hb=>TC.block ((h2 s0 Oo hb).mono λe' s' ⟨a,b⟩=>?_)⟩
  ·cases e with
   |exit i=>simp only[lM]at h1;rw[if_neg (by rintro rfl;exact he rfl)]at h1;exact h1
   |_=>exact h1
  ·subst a;subst b;cases e' with
   |exit i=>show(if i=id then _ else _);rw[if_neg (by rintro rfl;exact he rfl)];exact⟨rfl,rfl⟩
   |_=>exact⟨rfl,rfl⟩
theorem DC.cond{c:Operand}{x y:Code}{b:Bool}(hc:st.ev c=some (.m (.d (.bool b))))(ht:b=true->DC P n B x st post)(hf:b=false->DC P n B y st post):DC P n B (.cond c x y) st post:=by
 cases b with
 |true=>
  obtain⟨e,s,h1,h2⟩:=ht rfl;exact⟨e,s,h1,λs0 Oo hb=>TC.cond hc (λ_=>h2 s0 Oo hb) (λh=>by cases h)⟩
 |false=>
  obtain⟨e,s,h1,h2⟩:=hf rfl;exact⟨e,s,h1,λs0 Oo hb=>TC.cond hc (λh=>by cases h) (λ_=>h2 s0 Oo hb)⟩
theorem DC.region{id:Nat}{ops:List Oper}(h:∃s,(∀s0 Oo,TL ⟨P,n,s0,Oo,[]⟩ ops.toArray ops st λs'=>s'=s)/\post .normal s):DC P n B (.region id ops.toArray false) st post:=by
 obtain⟨s,h1,h2⟩:=h;refine⟨.normal,s,h2,λs0 Oo _=>TC.region ?_⟩;show TL _ _ _ _ (λs'=>Exit.normal=Exit.normal/\s'=s);rw[show(λs':St=>Exit.normal=Exit.normal/\s'=s)=(λs'=>s'=s)from funext λs'=>by simp];exact h1 s0 Oo
theorem DC.draw{id:Nat}{ops:List Oper}(hm:P.follows .mixedOrders=true)(h:∃s,(∀s0 Oo,TF ⟨P,n,s0,Oo,[]⟩ ops.toArray ops st λes FM=>gk ops st.sl es=true/\FM=s)/\post .normal s):DC P n B (.region id ops.toArray true) st post:=by
 obtain⟨s,h1,h2⟩:=h;refine⟨.normal,s,h2,λs0 Oo _=>TC.draw hm ?_⟩;obtain⟨es,FM,h3,h4,h5⟩:=h1 s0 Oo;exact⟨es,FM,h3,h4,rfl,h5⟩
theorem DC.ae{id:Nat}{ops:List Oper}{s:St}(h1:∀s0 Oo,TL ⟨P,n,s0,Oo,[]⟩ ops.toArray ops st λs'=>s'=s)(h2:post .normal s):DC P n B (.region id ops.toArray false) st post:=DC.region ⟨s,h1,h2⟩
theorem DC.da{id:Nat}{ops:List Oper}{s:St}(hm:P.follows .mixedOrders=true)(h1:∀s0 Oo,TF ⟨P,n,s0,Oo,[]⟩ ops.toArray ops st λes FM=>gk ops st.sl es=true/\FM=s)(h2:post .normal s):DC P n B (.region id ops.toArray true) st post:=DC.draw hm ⟨s,h1,h2⟩
theorem DC.fN{c:Code}(FM:St)(hw:∀s0 Oo,s0.H.length<=B->∀a w,Inv ⟨P,n,s0,Oo,[]⟩ st a w->Inv ⟨P,n,s0,Oo,[]⟩ FM a w)(k:DC P n B c FM post):DC P n B c st post:=by
 obtain⟨e,s,h1,h2⟩:=k;exact⟨e,s,h1,λs0 Oo hb a w hi=>h2 s0 Oo hb a w (hw s0 Oo hb a w hi)⟩
inductive ln(P:Program)(n B:Nat)(c:Code):Nat->St->Exit->St->Prop where
 |stop {s s1:St} {e:Exit} (he:e≠.normal) (h:∀s0 Oo,s0.H.length<=B->TC ⟨P,n,s0,Oo,[]⟩ c s λe' s'=>e'=e/\s'=s1):ln P n B c 0 s e s1
 |more {k:Nat} {s s1 s2 sE:St} {e:Exit} (h:∀s0 Oo,s0.H.length<=B->TC ⟨P,n,s0,Oo,[]⟩ c s λe' s'=>e'=.normal/\s'=s1)
   (hw:∀s0 Oo,s0.H.length<=B->∀a w,Inv ⟨P,n,s0,Oo,[]⟩ s1 a w->Inv ⟨P,n,s0,Oo,[]⟩ s2 a w) (hk:ln P n B c k s2 e sE):ln P n B c (k+1) s e sE
theorem ln.ne{c:Code}{k:Nat}{s:St}{e:Exit}{sE:St}(h:ln P n B c k s e sE):e≠.normal:=by
 induction h with
 |stop he _=>exact he
 |more _ _ _ ih=>exact ih
theorem ln.run{c:Code}{k:Nat}{s:St}{e:Exit}{sE:St}(h:ln P n B c k s e sE)(s0:Sg)(Oo:Nat->Nat->Prop)(hb:s0.H.length<=B):TC ⟨P,n,s0,Oo,[]⟩ (.loop c) s λe' s'=>e'=e/\s'=sE:=by
 have FV:=h.ne;refine TC.x6 (λk s=>ln P n B c k s e sE) k s h (λ_ _ hi=>hi) ?_;intro k s hk;cases hk with
 |stop he h=>
  refine(h s0 Oo hb).mono λe' s' ⟨a,b⟩=>?_
  subst a;subst b;cases e' with
  |normal=>exact absurd rfl he
  |_=>exact⟨rfl,rfl⟩
 |more h hw k=>
  refine(h s0 Oo hb).mono λe' s' ⟨a,b⟩=>?_
  subst a;subst b;exact⟨_,_,Nat.lt_succ_self _,k,hw s0 Oo hb⟩
def yB(P:Program)(n B:Nat)(I:Nat->St->Prop)(k:Nat)(s:St):Prop:=
 ∃k' Jw,k'<k/\I k' Jw/\∀s0 Oo,s0.H.length<=B->∀a w,Inv ⟨P,n,s0,Oo,[]⟩ s a w->Inv ⟨P,n,s0,Oo,[]⟩ Jw a w
theorem DC.D8{c:Code}(I:Nat->St->Prop)(k0:Nat)(h0:I k0 st)(round:∀k s,I k s->DC P n B c s (after post λs'=>yB P n B I k s')):DC P n B (.loop c) st post:=by
 have key:∀k s,I k s->∃m e sE,ln P n B c m s e sE/\post e sE:=by
  intro k
  induction k using Nat.strongRecOn with
  |ind k ih=>
   intro s hs;obtain⟨e,s1,h1,h2⟩:=round k s hs;cases e with
   |normal=>
    obtain⟨k',s2,h3,h4,h5⟩:=h1;obtain⟨m,e,sE,h6,h7⟩:=ih k' h3 s2 h4;exact⟨m+1,e,sE,.more h2 h5 h6,h7⟩
   |_=>exact⟨0,_,s1,.stop (by simp) h2,h1⟩
 obtain⟨m,e,sE,h1,h2⟩:=key k0 st h0;exact⟨e,sE,h2,λs0 Oo hb=>h1.run s0 Oo hb⟩
theorem DC.loop{c:Code}{sl:List (Nat×V)}{bx:List (Nat×List M)}{H:Hp}(I:Nat->St->Prop)(k0:Nat)(Gy:List (Nat×V))(h0:I k0 ⟨Gy,bx,H⟩)(hs:keeps sl Gy)
  (round:∀k s,I k s->DC P n B c s (after post λs'=>yB P n B I k s')):DC P n B (.loop c) ⟨sl,bx,H⟩ post:=
 DC.fN ⟨Gy,bx,H⟩ (λ_ _ _ a w hi=>hi.fJ (ff hs) λ_=>rfl) (DC.D8 I k0 h0 round)
theorem cb{I:Nat->St->Prop}{k k':Nat}{sl Gy:List (Nat×V)}{bx:List (Nat×List M)}{H H':Hp}(hk:k'<k)(hI:I k' ⟨Gy,bx,H'⟩)(hH:H=H')(hs:keeps sl Gy):yB P n B I k ⟨sl,bx,H⟩:=
 ⟨k',_,hk,hI,λ_ _ _ _ _ hi=>by subst hH;exact hi.fJ (ff hs) (λ_=>rfl)⟩
theorem DC.rename{c:Code}(Gy:List (Nat×V))(H':Hp){sl:List (Nat×V)}{bx:List (Nat×List M)}{H:Hp}(hs:keeps sl Gy)(hH:H=H')(k:DC P n B c ⟨Gy,bx,H'⟩ post):DC P n B c ⟨sl,bx,H⟩ post:=by
 subst hH;exact DC.fN _ (λ_ _ _ a w hi=>hi.fJ (ff hs) λ_=>rfl) k
theorem DC.ca{c:Code}(Gy:List (Nat×V))(Jv:List (Nat×List M))(H':Hp){sl:List (Nat×V)}{bx:List (Nat×List M)}{H:Hp}(hs:keeps sl Gy)(JL:∀t,get Jv t=get bx t)(hH:H=H')(k:DC P n B c ⟨Gy,Jv,H'⟩ post):DC P n B c ⟨sl,bx,H⟩ post:=by
 subst hH;exact DC.fN _ (λ_ _ _ a w hi=>hi.fJ (ff hs) JL) k
theorem DC.bC(t:Nat){c:Code}{m:M}{x:D}{sl:List (Nat×V)}{bx:List (Nat×List M)}{H:Hp}(hb:get sl t=some (.m m))(hv:dV H m=some x)(k:DC P n B c ⟨(t,.m (.d x))::sl,bx,H⟩ post):DC P n B c ⟨sl,bx,H⟩ post:=
 DC.fN _ (λ_ _ _ a w hi=>hi.bC hb hv) k
theorem DC.eK(t:Nat){c:Code}{cs FG:List M}{sl:List (Nat×V)}{bx:List (Nat×List M)}{H:Hp}(hb:get bx t=some cs)(hv:c_ H cs=some FG)(k:DC P n B c ⟨sl,(t,FG)::bx,H⟩ post):DC P n B c ⟨sl,bx,H⟩ post:=
 DC.fN _ (λ_ _ _ a w hi=>hi.eK hb hv) k
theorem DC.EB{x y:Code}(FM:St)(ha:DC P n B x st (after post λs=>∀s0 Oo,s0.H.length<=B->∀a w,Inv ⟨P,n,s0,Oo,[]⟩ s a w->Inv ⟨P,n,s0,Oo,[]⟩ FM a w))(hb:DC P n B y FM post):DC P n B x st (after post λs=>DC P n B y s post):=
 ha.mono λe s h=>by
  cases e with
  |normal=>exact DC.fN _ h hb
  |_=>exact h
theorem oh{sl Gy:List (Nat×V)}{bx:List (Nat×List M)}{H H':Hp}(hH:H=H')(hs:keeps sl Gy):∀s0 Oo,s0.H.length<=B->∀a w,Inv ⟨P,n,s0,Oo,[]⟩ ⟨sl,bx,H⟩ a w->Inv ⟨P,n,s0,Oo,[]⟩ ⟨Gy,bx,H'⟩ a w:=
 λ_ _ _ _ _ hi=>by subst hH;exact hi.fJ (ff hs) (λ_=>rfl)
end
theorem DT.aG{P:Program}{f:Nat}{fn:Func}{c:Code}{ms:List M}{H:Hp}{post:M->Hp->Prop}(hf:P.funcs[f]?=some fn)(hb:fn.body=some c)
  {n:Nat} (Mo:fn.ntmps=n) (hn:Nat.ble ms.length n=true) (h:DC P n H.length c ⟨ie 0 ms,[],H⟩ (sh P fn post)):DT P f ms H post:=by
 obtain⟨e,s,h1,h2⟩:=h;have key:∀m,kA P fn s=some m->(∀e',e'=e->∀s',s'=s->sh P fn (λr' K'=>r'=m/\K'=s.H) e' s')->CT P f ms H λr' K'=>r'=m/\K'=s.H:= λm hm hk=>
  CT.aG hf hb Mo hn λs0 Oo=>TC.base λOQ=>(h2 s0 Oo OQ).mono λe' s' ⟨a,b⟩=>hk e' a s' b
 cases e with
 |normal=>
  obtain⟨m,h3,h4⟩:=h1;exact⟨m,s.H,h4,key m h3 (by rintro _ rfl _ rfl;exact⟨m,h3,rfl,rfl⟩)⟩
 |ret=>
  obtain⟨m,h3,h4⟩:=h1;exact⟨m,s.H,h4,key m h3 (by rintro _ rfl _ rfl;exact⟨m,h3,rfl,rfl⟩)⟩
 |_=>exact h1.elim
section
variable{X:bq}{ops:Array Oper}{rest:List Oper}{sl:List (Nat×V)}{bx:List (Nat×List M)}{H:Hp}{post:St->Prop}{d ty:Nat}{pos:String}{af:Array Edge}
theorem bn{f:Nat}{args:List Operand}{Gj:Array Nat}{ms:List M}{r:M}{K:Hp}[hf:bp X.P f](h:CT X.P f ms H λr' K'=>r'=r/\K'=K)(hn:Nat.blt d X.n=true)(ha:cE sl args=some ms)
  (k:TL X ops rest ⟨(d,.m r)::sl,bx,K⟩ post):TL X ops (⟨some d,.call ⟨.value (.func f),args.toArray,Gj⟩,ty,pos,af,none⟩::rest) ⟨sl,bx,H⟩ post:=
 dF h hn ha (by rintro _ _ ⟨rfl,rfl⟩;exact k)
end
section
variable{X:bq}{ops:Array Oper}{rest:List Oper}{post:St->Prop}{sl:List (Nat×V)}{bx:List (Nat×List M)}{H:Hp}{d ty:Nat}{pos:String}{af:Array Edge}
end
theorem CT.AN{P:Program}{f g rounds:Nat}{fn:Func}{r0 c1 rest:Code}{ms:List M}{H:Hp}{post:M->Hp->Prop}{C:iy}(hC:gD C)(hP:C.P=P)
  (hf:P.funcs[f]?=some fn) (hb:fn.body=some (.seq r0 (.seq c1 rest))) (Jx:∀a b,c1≠.seq a b) {n:Nat} (Mo:fn.ntmps=n) (hn:Nat.ble ms.length n=true)
  {MO:St} {FR:List M} (Gc:t_ C.P C n H.length rounds H c1 MO [] none=.ok (.jh,MO,[],some (g,FR)))
  (h0:∀s0 Oo,TC ⟨P,n,s0,Oo,[]⟩ r0 ⟨ie 0 ms,[],H⟩ (λe s=>e=.normal/\s=MO))
  (h1:∀s0 Oo d,TC ⟨P,n,s0,Oo,[d]⟩ rest MO (λe s=>(e=.normal\/e=.ret)/\∃H3 us m,sO P C rounds g FR s.H=.ok (H3,us)/\kA P fn ⟨s.sl,s.bx,H3⟩=some m/\post m H3)):
  CT P f ms H post:=by
 subst hP;subst Mo;replace hn:=Nat.le_of_ble_eq_true hn;intro σ Oo vs hinv hH Gk;refine calls_of_wp_defers hf hb ?_;have Qb:=bb.enter (P:=C.P) (n:=fn.ntmps) hinv Gk hn;rw[hH]at Qb;refine wp_seq (wp_mono (h0 σ Oo _ σ.w ⟨σ,_,rfl,Qb⟩) ?_);rintro e a1 w1 ⟨s,⟨rfl,rfl⟩,HK⟩;refine wp_seq (wp_mono ((xe (X:=⟨C.P,fn.ntmps,σ,Oo,[]⟩) hC rfl rfl Jx _ _ _ _ _ _ _ Gc).1 hH a1 w1 HK) ?_);rintro e a2 w2 ⟨rfl,JK,ds,d,hd,m1,m2,m3,Jh⟩;refine wp_mono (h1 JK Oo d a2 w2 Jh) ?_;rintro e a' w' ⟨s,⟨he,H3,R3,m,MM,hm,HX⟩,FO,F7,rfl,FL⟩;obtain⟨Li,P_,LK⟩:=uJ hC MM;have hl:Leaves C.P fn a'.tmps (λe w'=>∃v r FO,e=.returned v/\FO.w=w'/\post r FO.H/\cY FO Oo/\RM FO r v/\bO σ FO/\bJ σ FO) a'.defers .returning FO.w:=by
  rw[show a'.defers=[d]from FL.defers];refine qW (g:=g) (ds:=ds) hd Li (by simp) ?_;refine(LK FO _ ds FL.hinv FL.hH (m3.mono FL.mono)).mono ?_;rintro e u' w3 ⟨rfl,v3,OO,rfl,rfl,OP,LL,LM,Jz⟩;have MN:bb ⟨C.P,fn.ntmps,JK,Oo,[d]⟩ OO F7 ⟨s.sl,s.bx,H3⟩ a':=by
   refine⟨OP,FL.defers,FL.size,λt v h3=>let⟨u,h4,h5⟩:=FL.slot t v h3;⟨u,h4,h5.mono LM⟩,?_,FL.jC,FL.j5,FL.j6,LL,FL.mono.trans LM,FL.be.trans Jz⟩;intro t cs h3;have FJ:=(FL.box t cs h3).lt trivial;have FV:=gT FL.hinv (b:=F7 t) (.inr ⟨t,cs,h3,rfl⟩);refine(FL.box t cs h3).dR LM λx hx=>?_
   rw[Jz.be _ FJ FV];exact hx
  obtain⟨u,h3,h4⟩:=kB MN hm;obtain⟨τ,t1,t2,t3,t4,t5,t6⟩:=MN.vO;exact⟨u,h3,u,m,τ,rfl,t1,by rw[t2];exact HX,t3,t6 _ _ h4,m1.trans t4,m2.trans t5⟩
 rcases he with rfl|rfl
 ·exact hl
 ·exact hl
section
variable{X:bq}{ops:Array Oper}{rest:List Oper}{post:St->Prop}{FQ:List Ef->St->Prop}{sl:List (Nat×V)}{bx:List (Nat×List M)}{H:Hp}{d ty:Nat}{pos:String}{af:Array Edge}
theorem pd{x y:Operand}{xt yt:Nat}{k1 k2:Int}{s1 s2:ByteArray}[ht:qR X.P xt](hn:Nat.blt d X.n=true)(hx:ba sl x=some (.m (.d (.agg [.int .u8 k1,.str s1]))))(hy:ba sl y=some (.m (.d (.agg [.int .u8 k2,.str s2]))))
  (k:TF X ops rest ⟨(d,(.m (.d (.bool (!(decide (k1=k2)&&decide (s1=s2)))))))::sl,bx,H⟩ λes zz=>FQ (⟨some d,(.m (.d (.bool (!(decide (k1=k2)&&decide (s1=s2)))))),[],[],none,false,none⟩::es) zz):
  TF X ops (⟨some d,.binOp .neq xt x y yt,ty,pos,af,none⟩::rest) ⟨sl,bx,H⟩ FQ:=
 TF.cons (e:=⟨some d,(.m (.d (.bool (!(decide (k1=k2)&&decide (s1=s2)))))),[],[],none,false,none⟩) (bK.quiet rfl rfl (aQ hn) λFE ag=>wL ((ag.ev (x:=x) (by simp[Op.operands,Call.operands])).trans hx) ((ag.ev (x:=y) (by simp[Op.operands,Call.operands])).trans hy)) rfl k
end
theorem DC.cr{P:Program}{n B:Nat}{st:St}{post:Exit->St->Prop}{c:Operand}{x y:Code}(hc:st.ev c=some (.m (.d (.bool true))))(ht:DC P n B x st post):DC P n B (.cond c x y) st post:=DC.cond hc (λ_=>ht) λh=>nomatch h
theorem DC.aC{P:Program}{n B:Nat}{st:St}{post:Exit->St->Prop}{c:Operand}{x y:Code}(hc:st.ev c=some (.m (.d (.bool false))))(ht:DC P n B y st post):DC P n B (.cond c x y) st post:=DC.cond hc (λh=>nomatch h) λ_=>ht
theorem TC.cr{X:bq}{st:St}{post:Exit->St->Prop}{c:Operand}{x y:Code}(hc:st.ev c=some (.m (.d (.bool true))))(ht:TC X x st post):TC X (.cond c x y) st post:=TC.cond hc (λ_=>ht) λh=>nomatch h
theorem TC.aC{X:bq}{st:St}{post:Exit->St->Prop}{c:Operand}{x y:Code}(hc:st.ev c=some (.m (.d (.bool false))))(ht:TC X y st post):TC X (.cond c x y) st post:=TC.cond hc (λh=>nomatch h) λ_=>ht
section
variable{P:Program}{n B:Nat}{st:St}{post:Exit->St->Prop}
end
def dT(m:M)(H:Hp)(rows:List (List D)):M:=match m with
 |.bB i FD len=>.bB i (FD+1) (len+rows.length)
 |_=>vu H rows
def fo(n:Nat)(m:M)(H:Hp)(rows:List (List D)):Hp:=match m with
 |.bB i FD len=>match H[i]? with
  |some (.row a _ _ cs)=>H.set i (.row a n (FD+1) (cs++br rows))
  |_=>H
 |_=>pO H n rows
theorem cW(m:M)(H:Hp)(rows:List (List D)):dJ (dT m H rows)=some [dT m H rows]:=by
 cases m<;>cases rows<;>rfl
section
variable{X:bq}{ops:Array Oper}{rest:List Oper}{sl:List (Nat×V)}{bx:List (Nat×List M)}{H:Hp}{post:St->Prop}{FQ:List Ef->St->Prop}{d ty:Nat}{pos:String}{af:Array Edge}
theorem BV{T e n nb i:Nat}{x y:Operand}{m:M}{rs rows:List (List D)}{z:D}[ht:aL X.P T e][hs:bh X.P e n][hb:gp X.P e nb][hz:dt X.P e z](IN:Acc n i rs m H)(hn:Nat.blt d X.n=true)(hx:ba sl x=some (.m m))(hy:ba sl y=some (.m (.d (.sl rows))))
  (h0:Nat.blt 0 n=true) (Ga:(aN z).length=n) (hl:∀r∈rows,r.length=n) (Gh:(rs.length+rows.length)*nb<=140737488355328) (FZ:rs.length+rows.length<=140737488355328)
  (k:TL X ops rest ⟨(d,.m (dT m H rows))::sl,bx,fo n m H rows⟩ post):TL X ops (⟨some d,.call ⟨.builtin .append,#[x,y],#[T,T]⟩,ty,pos,af,none⟩::rest) ⟨sl,bx,H⟩ post:=by
 rcases IN with⟨rfl,rfl⟩|⟨h1,FD,rfl,h2⟩
 ·exact CY hn hx hy h0 Ga hl (by simpa using Gh) k
 ·refine k9 hn hx hy h2 Ga hl Gh FZ ?_;simp only[dT,fo,h2]at k;exact k
theorem Db{T e n nb i:Nat}{x y:Operand}{m:M}{rs:List (List D)}{r:List D}{z:D}[ht:aL X.P T e][hs:bh X.P e n][hb:gp X.P e nb][hz:dt X.P e z](IN:Acc n i rs m H)(hn:Nat.blt d X.n=true)(hx:ba sl x=some (.m m))(hy:ba sl y=some (.m (.d (.sl [r]))))
  (h0:Nat.blt 0 n=true) (Ga:(aN z).length=n) (hl:r.length=n) (Gh:(rs.length+1)*nb<=140737488355328) (FZ:rs.length+1<=140737488355328)
  (k:TF X ops rest ⟨(d,.m (dT m H [r]))::sl,bx,fo n m H [r]⟩ λes zz=>FQ (⟨some d,.m (dT m H [r]),[],[],none,true,some (fo n m H [r])⟩::es) zz):TF X ops (⟨some d,.call ⟨.builtin .append,#[x,y],#[T,T]⟩,ty,pos,af,none⟩::rest) ⟨sl,bx,H⟩ FQ:=by
 rcases IN with⟨rfl,rfl⟩|⟨h1,FD,rfl,h2⟩
 ·exact nY true hn hx hy h0 Ga (by simp) (cO hl) (by simpa using Gh) k
 ·refine k_ hn hx hy h2 Ga (cO hl) Gh FZ ?_;simp only[dT,fo,h2]at k;exact k
def D9(rows:List (List D)):D:=match rows with
 |[]=>.lH
 |r=>.sl r
theorem yC{t e n h:Nat}{x y:Operand}{rows:List (List D)}{kk:IntKind}[ht:aL X.P t e][hs:bh X.P e n](hn:Nat.blt d X.n=true)(hx:ba sl x=some (.m (.d (.sl rows))))(hy:ba sl y=some (.m (.d (.int kk ((h:Nat):Int)))))(h0:rows≠[])(hle:h<=rows.length)(HZ:∀r∈rows,r.length=n)
  (k:TL X ops rest ⟨(d,.m (.d (D9 (rows.drop h))))::sl,bx,H⟩ post):TL X ops (⟨some d,.slice t x (some y) none none,ty,pos,af,none⟩::rest) ⟨sl,bx,H⟩ post:=by
 refine TL.o1 (v:=.m (.d (D9 (rows.drop h)))) (Gy:=sl) (Jv:=bx) (H':=H) rfl rfl hn ?_ k;have this:=sU (X:=X) (st:=⟨sl,bx,H⟩) (dst:=some d) (ty:=ty) (pos:=pos) (af:=af) (g:=none) (t:=t) (lo:=some y) (hi:=none) (l:=some h) (h:=none) hx (by simp only[e8,St.ev,hy]) rfl h0 hle (Nat.le_refl _) HZ;have hq:(rows.drop ((some h).getD 0)).take (((none:Option Nat).getD rows.length)-(some h).getD 0)=rows.drop h:=by
  show(rows.drop h).take (rows.length-h)=rows.drop h;exact List.take_of_length_le (by simp)
 rw[hq]at this;cases hd:rows.drop h with
 |nil=>rw[hd]at this;exact this
 |cons a r=>rw[hd]at this;exact this
end
theorem uK{H:Hp}{i:Nat}{ob:Ob}(h:H[i]?=some ob):i<H.length:=by
 rcases Nat.lt_or_ge i H.length with h1|h1
 ·exact h1
 ·simp[List.getElem?_eq_none h1]at h
theorem Acc.lt{n i:Nat}{rs:List (List D)}{m:M}{H:Hp}(h:Acc n i rs m H)(h0:rs≠[]):i<H.length:=by
 rcases h with⟨h,_⟩|⟨_,FD,_,h3⟩
 ·exact absurd h h0
 ·exact uK h3
namespace bR
end bR
section
variable{L m:Nat}{X:bq}{ops:Array Oper}
variable{rest:List Oper}{sl:List (Nat×V)}{bx:List (Nat×List M)}{H:Hp}{post:List bR.Ef->St->Prop}{d ty:Nat}{pos:String}{af:Array Edge}
end
section
variable{m:Nat}{X:bq}{ops:Array Oper}{rest:List Oper}{sl:List (Nat×V)}{bx:List (Nat×List M)}{H T:Hp}{post:List bR.Ef->St->Prop}{d ty:Nat}{pos:String}{af:Array Edge}
end
section
variable{X:bq}{ops:Array Oper}{rest:List Oper}{post:St->Prop}{sl:List (Nat×V)}{bx:List (Nat×List M)}{H:Hp}{d ty:Nat}{pos:String}{af:Array Edge}
end
section
variable{X:bq}{ops:Array Oper}{rest:List Oper}{sl:List (Nat×V)}{bx:List (Nat×List M)}{H:Hp}{post:St->Prop}{FQ:List Ef->St->Prop}{d ty:Nat}{pos:String}{af:Array Edge}
theorem pe{x:Operand}{xt yt:Nat}{r:List D}{rows:List (List D)}(hn:Nat.blt d X.n=true)(hk:dW X.P xt=6)(hx:ba sl x=some (.m (.d (.sl (r::rows)))))
  (k:TL X ops rest ⟨(d,.m (.d (.bool false)))::sl,bx,H⟩ post):TL X ops (⟨some d,.binOp .eql xt x (.const (.slice none 0 0)) yt,ty,pos,af,none⟩::rest) ⟨sl,bx,H⟩ post:=
 TL.o1 rfl rfl hn (l7 (op:=.eql) (.inl rfl) hk λa σ FC hi=>sS hi hx) k
end
section
variable{P:Program}{n B:Nat}{st:St}{post:Exit->St->Prop}
end
end Go.Mt
namespace Go.Mt
open Go.ChangeShapes
end Go.Mt
namespace Go.Mt
structure As where
 p:Hp->(Nat->Prop)->Prop
 loc:∀{H K:Hp} {F:Nat->Prop},p H F->(∀i,F i->K[i]?=H[i]?)->p K F
 uf:∀{H:Hp} {F:Nat->Prop} {i:Nat},p H F->F i->i<H.length
structure yD(F F':Nat->Prop)(H K:Hp):Prop where
 len:H.length<=K.length
 fj:∀i,i<H.length->¬F i->K[i]?=H[i]?
 own:∀i,F' i->F i\/H.length<=i
theorem yD.refl(F:Nat->Prop)(H:Hp):yD F F H H:=⟨Nat.le_refl _,λ_ _ _=>rfl,λ_ h=>.inl h⟩
theorem yD.trans{F F' Qd:Nat->Prop}{H K L:Hp}(a:yD F F' H K)(b:yD F' Qd K L):yD F Qd H L:=
 ⟨Nat.le_trans a.len b.len,λi hi hn=>(b.fj i (Nat.lt_of_lt_of_le hi a.len) λh=>(a.own i h).elim hn (by omega)).trans (a.fj i hi hn),
 λi h=>(b.own i h).elim (a.own i) λh=>.inr (Nat.le_trans a.len h)⟩
def As.Dc:As:=⟨λ_ F=>∀i,¬F i,λh _=>h,λh hi=>absurd hi (h _)⟩
def As.star(P Q:As):As where
 p H F:=∃F1 F2,P.p H F1/\Q.p H F2/\(∀i,F1 i->F2 i->False)/\∀i,F i↔F1 i\/F2 i
 loc:= λ⟨F1,F2,h1,h2,h3,h4⟩ hk=>⟨F1,F2,P.loc h1 (λi hi=>hk i ((h4 i).2 (.inl hi))),Q.loc h2 (λi hi=>hk i ((h4 i).2 (.inr hi))),h3,h4⟩
 uf:= λ⟨F1,F2,h1,h2,h3,h4⟩ hi=>((h4 _).1 hi).elim (P.uf h1) (Q.uf h2)
def Sep:List As->As
 |[]=>.Dc
 |a::l=>a.star (Sep l)
def As.ob(i:Nat)(o:Ob):As:=⟨λH F=>H[i]?=some o/\∀j,F j↔j=i,λ⟨h1,h2⟩ hk=>⟨(hk i ((h2 i).2 rfl)).trans h1,h2⟩,λ⟨h1,h2⟩ hi=>by rw[(h2 _).1 hi];exact uK h1⟩
def As.acc(n:Nat)(rs:List (List D))(m:M):As where
 p H F:=∃i,Acc n i rs m H/\∀j,F j↔rs≠[]/\j=i
 loc:= λ⟨i,h1,h2⟩ hk=>⟨i,h1.elim .inl λ⟨a,FD,b,c⟩=>.inr ⟨a,FD,b,(hk i ((h2 i).2 ⟨a,rfl⟩)).trans c⟩,h2⟩
 uf:= λ⟨i,h1,h2⟩ hi=>by
  obtain⟨a,rfl⟩:=(h2 _).1 hi;exact h1.lt a
theorem Sep.perm{l l':List As}(hp:l.Perm l'){H:Hp}{F:Nat->Prop}(h:(Sep l).p H F):(Sep l').p H F:=by
 induction hp generalizing F with
 |nil=>exact h
 |cons a _ ih=>
  obtain⟨F1,F2,h1,h2,h3,h4⟩:=h;exact⟨F1,F2,h1,ih h2,h3,h4⟩
 |swap a b l=>
  obtain⟨F1,F2,h1,⟨F3,F4,h5,h6,h7,h8⟩,h3,h4⟩:=h;refine⟨F3,λi=>F1 i\/F4 i,h5,⟨F1,F4,h1,h6,λi a b=>h3 i a ((h8 i).2 (.inr b)),λi=>Iff.rfl⟩,λi a b=>b.elim (λc=>h3 i c ((h8 i).2 (.inl a))) (h7 i a),λi=>?_⟩;rw[h4,h8];exact⟨λh=>h.elim (λa=>.inr (.inl a)) (λh=>h.elim .inl λb=>.inr (.inr b)),λh=>h.elim (λa=>.inr (.inl a)) (λh=>h.elim .inl λb=>.inr (.inr b))⟩
 |trans _ _ Ml Mm=>exact Mm (Ml h)
theorem Sep.app{l1 l2:List As}{H:Hp}{F:Nat->Prop} :(Sep (l1++l2)).p H F↔((Sep l1).star (Sep l2)).p H F:=by
 induction l1 generalizing F with
 |nil=>
  refine⟨λh=>⟨λ_=>False,F,λ_ h=>h,h,λ_ h _=>h,λi=>by simp⟩,λ⟨F1,F2,h1,h2,h3,h4⟩=>?_⟩;have:F=F2:=funext λi=>propext ((h4 i).trans ⟨λh=>h.elim (λa=>absurd a (h1 i)) id,.inr⟩)
  rw[this];exact h2
 |cons a l ih=>
  constructor
  ·rintro⟨F1,F2,h1,h2,h3,h4⟩;obtain⟨F3,F4,h5,h6,h7,h8⟩:=ih.1 h2;refine⟨λi=>F1 i\/F3 i,F4,⟨F1,F3,h1,h5,λi a b=>h3 i a ((h8 i).2 (.inl b)),λi=>Iff.rfl⟩,h6,λi a b=>a.elim (λc=>h3 i c ((h8 i).2 (.inr b))) (λc=>h7 i c b),λi=>?_⟩;rw[h4,h8,or_assoc]
  ·rintro⟨F1,F2,⟨F3,F4,h5,h6,h7,h8⟩,h2,h3,h4⟩;refine⟨F3,λi=>F4 i\/F2 i,h5,ih.2 ⟨F4,F2,h6,h2,λi a b=>h3 i ((h8 i).2 (.inr a)) b,λi=>Iff.rfl⟩,λi a b=>b.elim (h7 i a) (h3 i ((h8 i).2 (.inl a))),λi=>?_⟩;rw[h4,h8,or_assoc]
def Wk(F0:Nat->Prop)(H0:Hp)(l:List As)(H:Hp):Prop:=∃F,(Sep l).p H F/\yD F0 F H0 H
theorem Wk.start{F:Nat->Prop}{H:Hp}{l:List As}(h:(Sep l).p H F):Wk F H l H:=⟨F,h,.refl F H⟩
theorem Wk.perm{F0:Nat->Prop}{H0 H:Hp}{l l':List As}(w:Wk F0 H0 l H)(hp:l.Perm l'):Wk F0 H0 l' H:=w.imp λF ⟨a,b⟩=>⟨Sep.perm hp a,b⟩
def zN(x:Nat):List Nat->List Nat
 |[]=>[x]
 |y::l=>bif Nat.ble x y then x::y::l else y::zN x l
def vQ:List Nat->List Nat
 |[]=>[]
 |x::l=>zN x (vQ l)
theorem yE(x:Nat)(l:List Nat):(x::l).Perm (zN x l):=by
 induction l with
 |nil=>exact .refl _
 |cons y l ih=>
  unfold zN;cases Nat.ble x y with
  |true=>exact .refl _
  |false=>exact(List.Perm.swap y x l).trans (ih.cons y)
theorem xh(l:List Nat):l.Perm (vQ l):=by
 induction l with
 |nil=>exact .refl _
 |cons x l ih=>exact(ih.cons x).trans (yE x _)
def BW(ks:List Nat)(l:List As):List As:=ks.map λk=>l[k]?.getD .Dc
theorem yF{ks:List Nat}{l:List As}(hk:vQ ks=List.range l.length):l.Perm (BW ks l):=by
 have h3:l=(List.range l.length).map λk=>l[k]?.getD .Dc:=by
  apply List.ext_getElem
  ·simp
  ·intro i a b;simp[a]
 have h4:=(hk▸xh ks).symm.map (λk=>l[k]?.getD As.Dc);rw[<-h3]at h4;exact h4
theorem Wk.pick{F0:Nat->Prop}{H0 H:Hp}{l:List As}(ks:List Nat)(w:Wk F0 H0 l H)(hk:vQ ks=List.range l.length:=by rfl):Wk F0 H0 (BW ks l) H:=w.perm (yF hk)
theorem Wk.step{F0:Nat->Prop}{H0 H K:Hp}{a:List As}{b r:List As}(w:Wk F0 H0 (a++r) H)(h:∀F,(Sep a).p H F->Wk F H b K):Wk F0 H0 (b++r) K:=by
 obtain⟨F,hs,st⟩:=w;obtain⟨F1,F2,h1,h2,h3,h4⟩:=Sep.app.1 hs;obtain⟨F3,h5,FE⟩:=h F1 h1;have hd:∀i,F3 i->F2 i->False:= λi a b=>(FE.own i a).elim (λc=>h3 i c b) λc=>Nat.not_lt.2 c ((Sep r).uf h2 b)
 refine⟨λi=>F3 i\/F2 i,Sep.app.2 ⟨F3,F2,h5,(Sep r).loc h2 λi hi=>FE.fj i ((Sep r).uf h2 hi) λh=>h3 i h hi,hd,λi=>Iff.rfl⟩,st.trans ⟨FE.len,λi hi hn=>FE.fj i hi λh=>hn ((h4 i).2 (.inl h)),λi hi=>?_⟩⟩;rcases hi with hi|hi
 ·exact(FE.own i hi).imp_left λh=>(h4 i).2 (.inl h)
 ·exact .inl ((h4 i).2 (.inr hi))
def Dt(P:Program)(f:Nat)(ms:List M)(l:List As)(Q:M->List As->Prop):Prop:=∀(H:Hp) (F:Nat->Prop),(Sep l).p H F->DT P f ms H λr K=>∃l',Q r l'/\Wk F H l' K
theorem Wk.call{F0:Nat->Prop}{H0 H:Hp}{P:Program}{f:Nat}{ms:List M}{a r:List As}{Q:M->List As->Prop}(w:Wk F0 H0 (a++r) H)(h:Dt P f ms a Q):
  ∃x K l,Q x l/\Wk F0 H0 (l++r) K/\CT P f ms H λr' K'=>r'=x/\K'=K:=by
 obtain⟨F,hs,st⟩:=w;obtain⟨F1,F2,h1,h2,h3,h4⟩:=Sep.app.1 hs;obtain⟨x,K,⟨l,hq,hw⟩,hc⟩:=h H F1 h1;refine⟨x,K,l,hq,?_,hc⟩;obtain⟨F3,h5,FE⟩:=hw;have hd:∀i,F3 i->F2 i->False:= λi a b=>(FE.own i a).elim (λc=>h3 i c b) λc=>Nat.not_lt.2 c ((Sep r).uf h2 b)
 refine⟨λi=>F3 i\/F2 i,Sep.app.2 ⟨F3,F2,h5,(Sep r).loc h2 λi hi=>FE.fj i ((Sep r).uf h2 hi) λh=>h3 i h hi,hd,λi=>Iff.rfl⟩,st.trans ⟨FE.len,λi hi hn=>FE.fj i hi λh=>hn ((h4 i).2 (.inl h)),λi hi=>?_⟩⟩;rcases hi with hi|hi
 ·exact(FE.own i hi).imp_left λh=>(h4 i).2 (.inl h)
 ·exact .inl ((h4 i).2 (.inr hi))
section
variable{F0:Nat->Prop}{H0 H:Hp}{r:List As}
theorem Wk.ob{i:Nat}{o:Ob}(w:Wk F0 H0 (.ob i o::r) H):H[i]?=some o:=by
 obtain⟨F,⟨F1,F2,⟨h1,_⟩,_⟩,_⟩:=w;exact h1
theorem l9{a:As}{H:Hp}{F:Nat->Prop}(h:a.p H F):(Sep [a]).p H F:=⟨F,λ_=>False,h,λ_ h=>h,λ_ _ h=>h,λi=>by simp⟩
theorem BX{a:As}{H:Hp}{F:Nat->Prop}(h:(Sep [a]).p H F):a.p H F:=by
 obtain⟨F1,F2,h1,h2,h3,h4⟩:=h;have:F=F1:=funext λi=>propext ((h4 i).trans ⟨λh=>h.elim id (λa=>absurd a (h2 i)),.inl⟩)
 rw[this];exact h1
theorem Wk.set{i:Nat}{o:Ob}(w:Wk F0 H0 (.ob i o::r) H)(o':Ob):Wk F0 H0 (.ob i o'::r) (H.set i o'):=by
 refine Wk.step (a:=[.ob i o]) (b:=[.ob i o']) w λF hs=>?_
 obtain⟨h1,h2⟩:=BX hs;have hl:=uK h1;exact⟨F,l9 ⟨by simp[hl],h2⟩,by simp,λj hj hn=>by rw[List.getElem?_set_ne (λe=>hn ((h2 j).2 e.symm))],λj hj=>.inl hj⟩
theorem Wk.new(w:Wk F0 H0 r H)(o:Ob):Wk F0 H0 (.ob H.length o::r) (H++[o]):=by
 refine Wk.step (a:=[]) (b:=[.ob H.length o]) w λF hs=>?_
 refine⟨λj=>j=H.length,l9 ⟨by simp,λj=>Iff.rfl⟩,by simp,λj hj _=>by rw[List.getElem?_append_left hj],λj hj=>.inr (by omega)⟩
theorem Wk.nil(w:Wk F0 H0 r H)(n:Nat):Wk F0 H0 (.acc n [] (.d (.sl []))::r) H:=by
 refine Wk.step (a:=[]) (b:=[.acc n [] (.d (.sl []))]) w λF hs=>?_
 exact⟨λ_=>False,l9 ⟨0,.inl ⟨rfl,rfl⟩,λj=>by simp⟩,Nat.le_refl _,λ_ _ _=>rfl,λ_ h=>h.elim⟩
theorem Wk.drop{a:As}(w:Wk F0 H0 (a::r) H):Wk F0 H0 r H:=by
 refine Wk.step (a:=[a]) (b:=[]) w λF hs=>?_
 exact⟨λ_=>False,λ_ h=>h,Nat.le_refl _,λ_ _ _=>rfl,λ_ h=>h.elim⟩
theorem Wk.uL{n:Nat}{rs:List (List D)}{m:M}(w:Wk F0 H0 (.acc n rs m::r) H):∃i,Acc n i rs m H:=by
 obtain⟨F,⟨F1,F2,⟨i,h1,_⟩,_⟩,_⟩:=w;exact⟨i,h1⟩
theorem Wk.view{n:Nat}{rs:List (List D)}{m:M}(w:Wk F0 H0 (.acc n rs m::r) H)(hl:∀r∈rs,r.length=n):dV H m=some (.sl rs):=by
 obtain⟨i,h⟩:=w.uL;exact h.view hl
theorem Wk.app{n:Nat}{rs:List (List D)}{m:M}(w:Wk F0 H0 (.acc n rs m::r) H)(rows:List (List D)):Wk F0 H0 (.acc n (rs++rows) (dT m H rows)::r) (fo n m H rows):=by
 refine Wk.step (a:=[.acc n rs m]) (b:=[.acc n (rs++rows) (dT m H rows)]) w λF hs=>?_
 obtain⟨i,h,h2⟩:=BX hs;rcases h with⟨rfl,rfl⟩|⟨h1,FD,rfl,h3⟩
 ·cases rows with
  |nil=>exact⟨F,l9 ⟨i,.inl ⟨rfl,rfl⟩,by simpa using h2⟩,Nat.le_refl _,λ_ _ _=>rfl,λ_ h=>.inl h⟩
  |cons q t=>
   refine⟨λj=>j=H.length,l9 ⟨H.length,.inr ⟨by simp,0,by simp[dT,vu],by simp[fo,pO]⟩,λj=>by simp⟩,by simp[fo,pO],λj hj _=>by simp only[fo,pO];rw[List.getElem?_append_left hj],λj hj=>.inr (by omega)⟩
 ·have hl:=uK h3;have e:fo n (.bB i FD rs.length) H rows=H.set i (.row true n (FD+1) (br rs++br rows)):=by simp only[fo,h3]
  rw[e];refine⟨F,l9 ⟨i,.inr ⟨by simp[h1],FD+1,by simp[dT],by simp[hl,br]⟩,λj=>by rw[h2];simp[h1]⟩,by simp,λj hj hn=>by rw[List.getElem?_set_ne (λe=>hn ((h2 j).2 ⟨h1,e.symm⟩))],λj hj=>.inl hj⟩
end
section
variable{X:bq}{ops:Array Oper}{rest:List Oper}{sl:List (Nat×V)}{bx:List (Nat×List M)}{H:Hp}{post:St->Prop}{FQ:List Ef->St->Prop}{d ty:Nat}{pos:String}{af:Array Edge}{F0:Nat->Prop}{H0:Hp}{r:List As}
theorem cK{T e n nb:Nat}{x y:Operand}{m:M}{rs rows:List (List D)}{z:D}[ht:aL X.P T e][hs:bh X.P e n][hb:gp X.P e nb][hz:dt X.P e z](w:Wk F0 H0 (.acc n rs m::r) H)(hn:Nat.blt d X.n=true)(hx:ba sl x=some (.m m))(hy:ba sl y=some (.m (.d (.sl rows))))
  (h0:Nat.blt 0 n=true) (Ga:(aN z).length=n) (HN:Nat.ble nb 1000=true) (hl:∀r∈rows,r.length=n) (FZ:rs.length+rows.length<=100000000000)
  (k:TL X ops rest ⟨(d,.m (dT m H rows))::sl,bx,fo n m H rows⟩ post):TL X ops (⟨some d,.call ⟨.builtin .append,#[x,y],#[T,T]⟩,ty,pos,af,none⟩::rest) ⟨sl,bx,H⟩ post:=by
 obtain⟨i,IN⟩:=w.uL;have h1:=Nat.le_of_ble_eq_true HN;exact BV IN hn hx hy h0 Ga hl (by have:=Nat.mul_le_mul FZ h1;omega) (by omega) k
theorem fV{T e n nb:Nat}{x y:Operand}{m:M}{rs:List (List D)}{q:List D}{z:D}[ht:aL X.P T e][hs:bh X.P e n][hb:gp X.P e nb][hz:dt X.P e z](w:Wk F0 H0 (.acc n rs m::r) H)(hn:Nat.blt d X.n=true)(hx:ba sl x=some (.m m))(hy:ba sl y=some (.m (.d (.sl [q]))))
  (h0:Nat.blt 0 n=true) (Ga:(aN z).length=n) (HN:Nat.ble nb 1000=true) (hl:q.length=n) (FZ:rs.length+1<=100000000000)
  (k:TF X ops rest ⟨(d,.m (dT m H [q]))::sl,bx,fo n m H [q]⟩ λes zz=>FQ (⟨some d,.m (dT m H [q]),[],[],none,true,some (fo n m H [q])⟩::es) zz):TF X ops (⟨some d,.call ⟨.builtin .append,#[x,y],#[T,T]⟩,ty,pos,af,none⟩::rest) ⟨sl,bx,H⟩ FQ:=by
 obtain⟨i,IN⟩:=w.uL;have h1:=Nat.le_of_ble_eq_true HN;exact Db IN hn hx hy h0 Ga hl (by have:=Nat.mul_le_mul FZ h1;omega) (by omega) k
end
def As.ex{α:Type}(φ:α->As):As:=⟨λH F=>∃x,(φ x).p H F,λ⟨x,h⟩ hk=>⟨x,(φ x).loc h hk⟩,λ⟨x,h⟩ hi=>(φ x).uf h hi⟩
def As.fact(φ:Prop):As:=⟨λ_ F=>φ/\∀i,¬F i,λh _=>h,λh hi=>absurd hi (h.2 _)⟩
section
variable{F0:Nat->Prop}{H0 H:Hp}{r:List As}
theorem Wk.open{α:Type}{φ:α->As}(w:Wk F0 H0 (.ex φ::r) H):∃x,Wk F0 H0 (φ x::r) H:=by
 obtain⟨F,⟨F1,F2,⟨x,h1⟩,h2⟩,st⟩:=w;exact⟨x,F,⟨F1,F2,h1,h2⟩,st⟩
theorem Wk.close{α:Type}{φ:α->As}(x:α)(w:Wk F0 H0 (φ x::r) H):Wk F0 H0 (.ex φ::r) H:=by
 obtain⟨F,⟨F1,F2,h1,h2⟩,st⟩:=w;exact⟨F,⟨F1,F2,⟨x,h1⟩,h2⟩,st⟩
theorem Wk.split{a:List As}(w:Wk F0 H0 (Sep a::r) H):Wk F0 H0 (a++r) H:=by
 obtain⟨F,h,st⟩:=w;exact⟨F,Sep.app.2 h,st⟩
theorem Wk.join{a:List As}(w:Wk F0 H0 (a++r) H):Wk F0 H0 (Sep a::r) H:=by
 obtain⟨F,h,st⟩:=w;exact⟨F,Sep.app.1 h,st⟩
theorem Wk.jM{φ:Prop}(w:Wk F0 H0 (.fact φ::r) H):φ:=by
 obtain⟨F,⟨F1,F2,⟨h1,_⟩,_⟩,_⟩:=w;exact h1
theorem Wk.BY{φ:Prop}(h:φ)(w:Wk F0 H0 r H):Wk F0 H0 (.fact φ::r) H:=by
 refine Wk.step (a:=[]) (b:=[.fact φ]) w λF hs=>?_
 exact⟨λ_=>False,l9 ⟨h,λ_ h=>h⟩,Nat.le_refl _,λ_ _ _=>rfl,λ_ h=>h.elim⟩
end
class s_(P:Program)(s f:Nat)(ft off:outParam Nat):Prop where
 h:lc P s f=some (ft,off)
class BZ(P:Program)(t:Nat)(len e:outParam Nat):Prop where
 u:P.underlying t=some (.array len e)
section
variable{X:bq}{ops:Array Oper}{rest:List Oper}{sl:List (Nat×V)}{bx:List (Nat×List M)}{H:Hp}{post:St->Prop}{FQ:List Ef->St->Prop}{d ty:Nat}{pos:String}{af:Array Edge}
theorem qa{P:Program}{t off:Nat}{cs:List M}{m:M}[ht:cj P t](hr:cs[off]?=some m):ch P t cs off=some m:=by simp[ch,ht.cell,hr]
theorem AO{P:Program}{t n off:Nat}{cs F8:List M}{ds:List D}[ht:cL P t n](hs:sub cs off n=some F8)(hr:cT F8=some ds):ch P t cs off=some (.d (.agg ds)):=by
 have h1:=(sub_eq hs).1;have h2:=(sub_eq hs).2;simp only[ch,ht.agg,ht.size,Nat.ble_eq_true_of_le h1,cond_true];unfold pack;rw[h2,hr]
theorem l_{s f ft off:Nat}{x:Operand}{m r:M}{cs:List M}[hf:s_ X.P s f ft off][ht:cj X.P ft](hn:Nat.blt d X.n=true)(hx:ba sl x=some (.m m))(hc:eZ m=some cs)(hr:cs[off]?=some r)
  (k:TL X ops rest ⟨(d,.m r)::sl,bx,H⟩ post):TL X ops (⟨some d,.field s x f,ty,pos,af,none⟩::rest) ⟨sl,bx,H⟩ post:=
 TL.o1 rfl rfl hn (mS hx hf.h hc (qa hr)) k
theorem B1{s f ft off n:Nat}{x:Operand}{m:M}{cs F8:List M}{ds:List D}[hf:s_ X.P s f ft off][ht:cL X.P ft n](hn:Nat.blt d X.n=true)(hx:ba sl x=some (.m m))(hc:eZ m=some cs)(hs:sub cs off n=some F8)(hr:cT F8=some ds)
  (k:TL X ops rest ⟨(d,.m (.d (.agg ds)))::sl,bx,H⟩ post):TL X ops (⟨some d,.field s x f,ty,pos,af,none⟩::rest) ⟨sl,bx,H⟩ post:=
 TL.o1 rfl rfl hn (mS hx hf.h hc (AO hs hr)) k
theorem ta{s f ft off:Nat}{x:Operand}{m r:M}{cs:List M}[hf:s_ X.P s f ft off][ht:cj X.P ft](hn:Nat.blt d X.n=true)(hx:ba sl x=some (.m m))(hc:eZ m=some cs)(hr:cs[off]?=some r)
  (k:TF X ops rest ⟨(d,.m r)::sl,bx,H⟩ λes zz=>FQ (⟨some d,.m r,[],[],none,false,none⟩::es) zz):TF X ops (⟨some d,.field s x f,ty,pos,af,none⟩::rest) ⟨sl,bx,H⟩ FQ:=
 TF.cons (e:=⟨some d,.m r,[],[],none,false,none⟩) (bK.quiet rfl rfl (aQ hn) λFE ag=>mS ((ag.ev (x:=x) (by simp[Op.operands])).trans hx) hf.h hc (qa hr)) rfl k
theorem uM{T len e n i:Nat}{x y:Operand}{kk:IntKind}{m r:M}{cs:List M}[hu:BZ X.P T len e][hs:bh X.P e n][ht:cj X.P e](hn:Nat.blt d X.n=true)(hx:ba sl x=some (.m m))(hy:ba sl y=some (.m (.d (.int kk (.ofNat i)))))(hc:eZ m=some cs)(hi:i<len)(hr:cs[i*n]?=some r)
  (k:TL X ops rest ⟨(d,.m r)::sl,bx,H⟩ post):TL X ops (⟨some d,.index T x y,ty,pos,af,none⟩::rest) ⟨sl,bx,H⟩ post:=
 TL.o1 rfl rfl hn (o8 hu.u hx hy hc hi (qa hr)) k
theorem fO{x y:Operand}{xt yt:Nat}{s u:ByteArray}(hn:Nat.blt d X.n=true)(hx:ba sl x=some (.m (.d (.str s))))(hy:ba sl y=some (.m (.d (.str u))))(hs:Nat.ble s.size 1000=true)(hu:u.size<=4000000000)(k:TL X ops rest ⟨(d,.m (.d (.str (s++u))))::sl,bx,H⟩ post):
  TL X ops (⟨some d,.binOp .add xt x y yt,ty,pos,af,none⟩::rest) ⟨sl,bx,H⟩ post:=
 pG hn hx hy (by have:=Nat.le_of_ble_eq_true hs;omega) k
end
def vR(c:Nat)(e:D×M)(b:Nat):D×M:=(.dQ,.bz [.d e.1,e.2,.d (.int .i64 b),.d (.int .i64 c)])
def dm(c:Nat)(es:List (D×M))(bs:List Nat):List (D×M):=List.zipWith (vR c) es bs
def gf(i since:Nat)(seen:List Nat):M:=.bz (.mp i:: .d (.int .i64 since)::seen.map λ(b:Nat)=>M.d (.int .i64 (b:Int)))
theorem B2{α:Type}{l:List α}{i:Nat}{a:α}(h:l[i]?=some a):i<l.length:=by
 rcases Nat.lt_or_ge i l.length with h1|h1
 ·exact h1
 ·rw[List.getElem?_eq_none h1]at h;cases h
theorem tb{c:Nat}{es:List (D×M)}{bs:List Nat}{i:Nat}{e:D×M}(h:(dm c es bs)[i]?=some e):∃e0 b,es[i]?=some e0/\bs[i]?=some b/\e=vR c e0 b:=by
 unfold dm at h;rw[List.getElem?_zipWith]at h;cases h1:es[i]? with
 |none=>rw[h1]at h;simp at h
 |some e0=>
  cases h2:bs[i]? with
  |none=>rw[h1,h2]at h;simp at h
  |some b=>rw[h1,h2]at h;simp at h;exact⟨e0,b,rfl,rfl,h.symm⟩
theorem AP{c:Nat}{es:List (D×M)}{bs:List Nat}{i:Nat}{e:D×M}{b:Nat}(h1:es[i]?=some e)(h2:bs[i]?=some b):(dm c es bs)[i]?=some (vR c e b):=by
 unfold dm;rw[List.getElem?_zipWith,h1,h2]
theorem tc{c:Nat}{es:List (D×M)}{bs:List Nat}(h:bs.length=es.length):(dm c es bs).length=es.length:=by simp[dm,h]
theorem ct.born{c:Nat}{JU es:List (D×M)}{bs:List Nat}(h:ct JU (dm c es bs)):JU=dm c es bs:=by
 rcases h with rfl|⟨h1,h2,_⟩
 ·rfl
 ·cases hb:dm c es bs with
  |nil=>rw[hb]at h1;exact List.length_eq_zero_iff.1 h1.length_eq
  |cons e r=>
   exfalso;obtain⟨e0,b,_,_,h3⟩:=tb (c:=c) (es:=es) (bs:=bs) (i:=0) (e:=e) (by rw[hb];rfl);obtain⟨s,h4⟩:=h2 e (by rw[hb];simp);rw[h3]at h4;cases h4
theorem RM.EC{σ:Sg}{a b c d:M}{x y z u:Value}(h:RM σ (.bz [a,b,c,d]) (.tuple #[x,y,z,u])):RM σ a x/\RM σ b y/\RM σ c z/\RM σ d u:=by
 cases h with
 |bz cs vs hl h=>exact⟨h 0 a x rfl rfl,h 1 b y rfl rfl,h 2 c z rfl rfl,h 3 d u rfl rfl⟩
theorem RM.Dd{σ:Sg}{a b c d:M}{x y z u:Value}(h1:RM σ a x)(h2:RM σ b y)(h3:RM σ c z)(h4:RM σ d u):RM σ (.bz [a,b,c,d]) (.tuple #[x,y,z,u]):=by
 refine .bz _ _ rfl λn m v hm hv=>?_
 match n with
 |0=>simp at hm hv;subst hm;subst hv;exact h1
 |1=>simp at hm hv;subst hm;subst hv;exact h2
 |2=>simp at hm hv;subst hm;subst hv;exact h3
 |3=>simp at hm hv;subst hm;subst hv;exact h4
 |n+4=>simp at hm
theorem RM.B3{σ:Sg}{s:ByteArray}{v:Value}(h:RM σ (.d (.str s)) v):v=.string s:=by
 cases h with
 |d h=>cases h;rfl
theorem zO{σ:Sg}{i since:Nat}{seen:List Nat}{es:List (D×M)}(h:σ.H[i]?=some (.map es)):RM σ (gf i since seen) (gj (some (σ.l i)) since seen.toArray):=by
 refine .bz _ _ (by simp[gf,gj]) λn m v hm hv=>?_
 match n with
 |0=>simp[gf]at hm;simp[gj]at hv;subst hm;subst hv;exact .mp i es h
 |1=>simp[gf]at hm;simp[gj]at hv;subst hm;subst hv;exact .d (.int _ _)
 |n+2=>
  simp[gf]at hm;obtain⟨b,h1,rfl⟩:=hm;have:v=.int .i64 b:=by
   rw[Array.getElem?_append_right (by simp)]at hv;simp[h1]at hv;exact hv.symm
  subst this;exact .d (.int _ _)
theorem B4{σ:Sg}{i since s0:Nat}{seen:List Nat}{se:Array Nat}{om:Option Nat}(h:RM σ (gf i since seen) (gj om s0 se)):om=some (σ.l i)/\s0=since/\se.toList=seen/\∃es,σ.H[i]?=some (.map es):=by
 unfold gf gj at h;cases h with
 |bz cs vs hl h=>
  have hlen:se.size=seen.length:=by simp at hl;omega
  have h0:=h 0 (.mp i) (.map om) rfl (by rw[Array.getElem?_append_left (by simp)];rfl);have h1:=(h 1 (.d (.int .i64 since)) (.int .i64 s0) rfl (by rw[Array.getElem?_append_left (by simp)];rfl)).oZ;refine⟨?_,?_,?_,?_⟩
  ·cases h0;rfl
  ·injection h1 with _ h1;omega
  ·apply List.ext_getElem?;intro n;rcases Nat.lt_or_ge n seen.length with hn|hn
   ·have h2:=(h (n+2) (.d (.int .i64 seen[n])) (.int .i64 (se[n]'(by omega))) (by simp[hn]) (by
     rw[Array.getElem?_append_right (by simp)];simp[show n<se.size by omega])).oZ
    injection h2 with _ h2
    have h3:se[n]'(by omega)=seen[n]:=by omega
    simp[hn,show n<se.size by omega,h3]
   ·rw[List.getElem?_eq_none hn,List.getElem?_eq_none (by simpa using (by omega:se.size<=n))]
  ·cases h0 with
   |mp i es hh=>exact⟨es,hh⟩
theorem zP{σ:Sg}{b i since:Nat}{seen:List Nat}(h:eE σ b (.iter (gf i since seen))):∃last,σ.w.heap[b]?=some (.mapIter (some (σ.l i)) since seen.toArray last)/\since=last:=by
 rcases h with⟨om,s0,se,last,h1,h2⟩|⟨arr,T,h1,h2⟩
 ·rcases h2 with⟨_,h2⟩|⟨h2,h3⟩
  ·exfalso;unfold gf at h2;cases h2
  ·obtain⟨rfl,rfl,h4,_⟩:=B4 h2;exact⟨last,by rw[h1,<-h4],h3⟩
 ·exfalso;unfold gf at h2;cases h2 with
  |bz cs vs hl h=>
   have:=h 0 (.mp i) (.int .i64 b) rfl (by rw[Array.getElem?_append_left (by simp)];rfl);cases this
theorem qc{σ:Sg}{b c:Nat}{es:List (D×M)}{bs:List Nat}(hl:bs.length=es.length)(h:eE σ b (.map (dm c es bs))):
  ∃FK clock,σ.w.heap[b]?=some (.map FK clock)/\FK.size=es.length/\fQ FK clock/\∀(n:Nat) e x u,es[n]?=some e->bs[n]?=some x->FK[n]?=some u->RM σ (.d e.1) u.key/\RM σ e.2 u.val/\u.born=x/\clock=c:=by
 obtain⟨JU,hs,FK,clock,h1,h2,h3,h4⟩:=h;have:=hs.born;subst this;refine⟨FK,clock,h1,by rw[h2,tc hl],h4,λn e x u a1 a2 a3=>?_⟩;have h5:=h3 n _ u (AP a1 a2) a3;unfold vR at h5;rcases h5 with⟨h5,_⟩|⟨h5,_⟩|⟨_,h5⟩
 ·cases h5
 ·cases h5
 ·obtain⟨b1,b2,b3,b4⟩:=h5.EC;exact⟨b1,b2,b3.o0,b4.o0⟩
theorem xi{α:Type}{P:Program}{w:World}{c:Nat}(hc:0<c):∃n w',n<c/\(w'=w\/w'={w with drawn:=w.drawn+1})/\∀k:Nat->Sem α,(choose (.mapNext c)>>=k).run P w=(k n).run P w':=by
 cases hf:(Question.mapNext c).forced with
 |true=>exact⟨0,w,hc,.inl rfl,λk=>by show(Sem.choose _ _).run P w=_;simp[Sem.run,hf];rfl⟩
 |false=>exact⟨(Question.mapNext c).cut (w.tape w.drawn (.mapNext c)),{w with drawn:=w.drawn+1},Nat.mod_lt _ hc,.inr rfl,λk=>by show(Sem.choose _ _).run P w=_;simp[Sem.run,hf];rfl⟩
section
variable{X:bq}{st:St}{dst:Option Nat}{ty:Nat}{pos:String}{af:Array Edge}{g:Option (Nat×Bool)}
theorem bb.born{σ:Sg}{FC:Nat->Nat}{a:Act}(hi:bb X σ FC st a){i:Nat}{es:List (D×M)}(hH:st.H[i]?=some (.map es))(hk:strKeys es=true):
  ∃(FT:List (D×M)) (bs:List Nat) (clock:Nat) (τ:Sg),ct FT es/\bs.length=FT.length/\bs.Nodup/\(∀b∈bs,b<clock)/\(∃FK,σ.w.heap[σ.l i]?=some (.map FK clock))/\τ.w=σ.w/\τ.l i=σ.l i/\bO σ τ/\bb X τ FC ⟨st.sl,st.bx,st.H.set i (.map (dm clock FT bs))⟩ a:=by
 obtain⟨FT,Gr,FK,clock,h3,h4,h5,Iu⟩:=hi.hinv.obj i (.map es) (by rw[hi.hH];exact hH);have IK:=Gr.strs hk
 let bs:List Nat:=FK.toList.map (·.born)
 have hl:bs.length=FT.length:=by simp[bs,h4]
 have hg:∀(n b:Nat),bs[n]?=some b->∃u,FK[n]?=some u/\u.born=b:=by
  intro n b h;simp only[bs,List.getElem?_map,Option.map_eq_some_iff]at h;obtain⟨u,h1,h2⟩:=h;exact⟨u,by simpa using h1,h2⟩
 obtain⟨τ,k1,k2,k3,k4,k5⟩:=hi.eU (j:=i) (b':=σ.l i) (ob:=.map es) (F_:=.map (dm clock FT bs)) (w':=σ.w) hH trivial rfl rfl rfl (Nat.le_refl _)
  (λ_ _ _=>rfl) (.inl rfl) (λo v ho=>(ho trivial).elim) rfl (by
   intro τ HU hw _ _;refine⟨_,.inl rfl,FK,clock,by rw[hw];exact h3,by rw[tc hl];exact h4,λn e u he hu=>?_,Iu⟩;obtain⟨e0,b,h6,h7,rfl⟩:=tb he;obtain⟨u0,h8,h9⟩:=hg n b h7;rw[hu]at h8;injection h8 with h8;subst h8
   obtain⟨s,hs⟩:=cA.1 IK e0 (List.mem_of_getElem? h6);obtain⟨d,m⟩:=e0;simp only at hs;subst hs;rcases h5 n _ u h6 hu with⟨q1,q2⟩|⟨q1,_⟩|⟨q1,_⟩
   ·simp only[oE,Option.some.injEq]at q1;refine .inr (.inr ⟨rfl,RM.Dd ?_ (q2.mono HU) ?_ (.d (.int _ _))⟩)
    ·rw[<-q1];exact .d (.str _)
    ·rw[<-h9];exact .d (.int _ _)
   ·cases q1
   ·cases q1)
 refine⟨FT,bs,clock,τ,Gr,hl,?_,?_,⟨FK,h3⟩,k1,k2,k4,k5⟩
 ·refine List.pairwise_iff_getElem.2 λx y hx hy Un he=>?_
  obtain⟨u,h6,h7⟩:=hg x bs[x] (by simp[hx]);obtain⟨v,h8,h9⟩:=hg y bs[y] (by simp[hy]);have:=Iu.2 x y u v h6 h8 (by rw[h7,h9];exact he);omega
 ·intro b hb;obtain⟨n,hn⟩:=List.getElem?_of_mem hb;obtain⟨u,h6,h7⟩:=hg n b hn;rw[<-h7];exact Iu.1 n u h6
theorem bb.pf{σ:Sg}{FC:Nat->Nat}{a:Act}(hi:bb X σ FC st a){i c:Nat}{FT es:List (D×M)}{bs:List Nat}(hH:st.H[i]?=some (.map (dm c FT bs)))(hl:bs.length=FT.length)(hk:strKeys FT=true)(hs:ct FT es):
  ∃τ:Sg,bb X τ FC ⟨st.sl,st.bx,st.H.set i (.map es)⟩ a/\τ.w=σ.w/\bO σ τ:=by
 obtain⟨FK,clock,h1,h2,h3,h4⟩:=qc hl (hi.hinv.obj i _ (by rw[hi.hH];exact hH));obtain⟨τ,k1,k2,k3,k4,k5⟩:=hi.eU (j:=i) (b':=σ.l i) (ob:=.map (dm c FT bs)) (F_:=.map es) (w':=σ.w) hH trivial rfl rfl rfl (Nat.le_refl _)
  (λ_ _ _=>rfl) (.inl rfl) (λo v ho=>(ho trivial).elim) rfl (by
   intro τ HU hw _ _;refine⟨FT,hs,FK,clock,by rw[hw];exact h1,h2,λn e u he hu=>?_,h3⟩;have hn:=B2 he;obtain⟨q1,q2,_⟩:=h4 n e (bs[n]'(by omega)) u he (by simp[show n<bs.length by omega]) hu;obtain⟨s,hs⟩:=cA.1 hk e (List.mem_of_getElem? he);rw[hs]at q1;refine .inl ⟨by rw[hs,RM.B3 q1];rfl,q2.mono HU⟩)
 exact⟨τ,k5,k1,k4⟩
theorem bb.perm{σ:Sg}{FC:Nat->Nat}{a:Act}(hi:bb X σ FC st a){i:Nat}{es Kh:List (D×M)}(hH:st.H[i]?=some (.map es))(hs:∀FT,ct FT es->ct FT Kh):
  ∃τ:Sg,bb X τ FC ⟨st.sl,st.bx,st.H.set i (.map Kh)⟩ a/\τ.w=σ.w:=by
 obtain⟨FT,Gr,FK,clock,h3,h4,h5,Iu⟩:=hi.hinv.obj i (.map es) (by rw[hi.hH];exact hH);obtain⟨τ,k1,k2,k3,k4,k5⟩:=hi.eU (j:=i) (b':=σ.l i) (ob:=.map es) (F_:=.map Kh) (w':=σ.w) hH trivial rfl rfl rfl (Nat.le_refl _)
  (λ_ _ _=>rfl) (.inl rfl) (λo v ho=>(ho trivial).elim) rfl (by
   intro τ HU hw _ _;exact⟨FT,hs FT Gr,FK,clock,by rw[hw];exact h3,h4,λn e u he hu=>(h5 n e u he hu).up λv hv=>hv.mono HU,Iu⟩)
 exact⟨τ,k5,k1⟩
theorem yG{T:Nat}{x:Operand}{i:Nat}{es:List (D×M)}(ht:dW X.P T=2)(hx:st.ev x=some (.m (.mp i)))(hH:st.H[i]?=some (.map es))(hk:strKeys es=true):
  aK X ⟨dst,.range T x,ty,pos,af,g⟩ st λv s=>∃(FT:List (D×M)) (bs:List Nat) (since:Nat),ct FT es/\bs.length=FT.length/\bs.Nodup/\(∀b∈bs,b<since)/\v=.m (.it st.H.length)/\s=⟨st.sl,st.bx,st.H.set i (.map (dm since FT bs))++[.iter (gf i since [])]⟩:=by
 intro a σ FC hi;have h:=hi.ev hx;obtain⟨kk,e,hu⟩:=zG ht;obtain⟨FT,bs,clock,τ,b0,b1,b2,b3,⟨FK,b4⟩,b5,b6,b7,b8⟩:=hi.born hH hk;have NI:i<st.H.length:=uK hH;have R4:τ.H[i]?=some (.map (dm clock FT bs)):=by rw[b8.hH];simp[NI]
 generalize hv:a.eval x=u at h;cases h with
 |m h=>
  cases h with
  |mp _ JU hh=>
   obtain⟨υ,g1,g2,g3,g4,g5⟩:=b8.newObj (.iter (gf i clock [])) (.mapIter (some (σ.l i)) clock #[] clock) (by
    intro υ HU hw;refine .inl ⟨some (σ.l i),clock,#[],clock,by rw[hw,b5];simp,.inr ⟨?_,rfl⟩⟩;have:=(zO (since:=clock) (seen:=[]) R4).mono HU;rw[b6]at this;exact this)
   have hlen:τ.H.length=st.H.length:=by rw[b8.hH];simp
   refine bS.value (u:=.pointer (some ⟨σ.w.heap.size,0,none⟩)) (w':={σ.w with heap:=σ.w.heap.push (.mapIter (some (σ.l i)) clock #[] clock)}) ?_ ⟨_,_,υ,FC,⟨FT,bs,clock,b0,b1,b2,b3,rfl,rfl⟩,by rw[g1,b5],g5,?_⟩
   ·simp[execOp,Instr.range,underlying,program,Sem.run,hv,hu,getObj,b4,newObj]
   ·have h6:υ.l st.H.length=σ.w.heap.size:=by rw[<-hlen,g2,b5]
    rw[<-h6];exact .m (.it _ (gf i clock []) (by rw[g3];simp))
theorem uN{α:Type}{P:Program}{w:World}{r s l:Nat}{m:Option Nat}{se:Array Nat}(h:w.heap[r]?=some (.mapIter m s se l)){k:Obj->Sem α} :(getObj r>>=k).run P w=(k (.mapIter m s se l)).run P w:=by
 show(Sem.getObj r _).run P w=_;simp only[Sem.run,h];rfl
theorem uO{α:Type}{P:Program}{w:World}{r c:Nat}{es:Array MapEntry}(h:w.heap[r]?=some (.map es c)){k:Obj->Sem α} :(getObj r>>=k).run P w=(k (.map es c)).run P w:=by
 show(Sem.getObj r _).run P w=_;simp only[Sem.run,h];rfl
theorem AQ{x:Operand}{i j since:Nat}{seen bs:List Nat}{es:List (D×M)}(hx:st.ev x=some (.m (.it j)))(hJ:st.H[j]?=some (.iter (gf i since seen)))(hI:st.H[i]?=some (.map (dm since es bs)))(hl:bs.length=es.length)(hb:∀b∈bs,b<since):
  aK X ⟨dst,.next x false,ty,pos,af,g⟩ st λv s=>(v=.m (.bz [.d (.bool false)])/\s=st/\∀b∈bs,b∈seen)\/
   ∃(n:Nat) (e:D×M) (b:Nat),es[n]?=some e/\bs[n]?=some b/\b∉seen/\v=.m (.bz [.d (.bool true),.d e.1,e.2])/\s=⟨st.sl,st.bx,st.H.set j (.iter (gf i since (seen++[b])))⟩:=by
 intro a σ FC hi;have h:=hi.ev hx;have OR:σ.H[j]?=some (.iter (gf i since seen)):=by rw[hi.hH];exact hJ
 have NJ:σ.H[i]?=some (.map (dm since es bs)):=by rw[hi.hH];exact hI
 obtain⟨last,h1,h2⟩:=zP (hi.hinv.obj j _ OR);obtain⟨FK,clock,h3,h4,h5,h6⟩:=qc hl (hi.hinv.obj i _ NJ);have OS:∀(n:Nat) u,FK[n]?=some u->∃e b,es[n]?=some e/\bs[n]?=some b/\RM σ (.d e.1) u.key/\RM σ e.2 u.val/\u.born=b/\b<since:=by
  intro n u hu;have hn:n<FK.size:=by
   rcases Nat.lt_or_ge n FK.size with h|h
   ·exact h
   ·rw[Array.getElem?_eq_none h]at hu;cases hu
  obtain⟨q1,q2,q3,_⟩:=h6 n (es[n]'(by omega)) (bs[n]'(by omega)) u (by simp[show n<es.length by omega]) (by simp[show n<bs.length by omega]) hu;exact⟨es[n]'(by omega),bs[n]'(by omega),by simp[show n<es.length by omega],by simp[show n<bs.length by omega],q1,q2,q3,hb _ (List.getElem_mem _)⟩
 generalize hv:a.eval x=u at h;cases h with
 |m h=>
  cases h with
  |it _ y hh=>
   have Iv:(!seen.toArray.isEmpty&& !FK.isEmpty&&FK.all (·.born>=last))=false:=by
    cases he:FK.isEmpty with
    |true=>simp
    |false=>
     have h0:0<FK.size:=by
      rcases Nat.eq_zero_or_pos FK.size with h|h
      ·have:FK= #[]:=Array.eq_empty_of_size_eq_zero h;subst this;simp at he
      ·exact h
     obtain⟨e,b,_,_,_,_,q1,q2⟩:=OS 0 FK[0] (by simp[h0]);have:FK.all (·.born>=last)=false:=by
      rw[<-Bool.not_eq_true,Array.all_eq_true];intro Hj;have:=Hj 0 h0;simp at this;omega
     simp[this]
   generalize LO:(FK.filter λe=> !seen.toArray.contains e.born)=left;have Hr:∀u∈left,∃(n:Nat) (e:D×M) (b:Nat),es[n]?=some e/\bs[n]?=some b/\b∉seen/\RM σ (.d e.1) u.key/\RM σ e.2 u.val/\u.born=b/\b<since:=by
    intro u hu;rw[<-LO,Array.mem_filter]at hu;obtain⟨n,hn,R5⟩:=Array.getElem_of_mem hu.1;obtain⟨e,b,q1,q2,q3,q4,q5,q6⟩:=OS n u (by rw[<-R5];simp[hn]);refine⟨n,e,b,q1,q2,λKQ=>?_,q3,q4,q5,q6⟩;have:=hu.2;rw[q5]at this;simp[KQ]at this
   have IF:left= #[]->∀b∈bs,b∈seen:=by
    intro he b R6;obtain⟨n,hn,rfl⟩:=List.getElem_of_mem R6;have FV:n<FK.size:=by omega
    obtain⟨e,b',_,q2,_,_,q5,_⟩:=OS n FK[n] (by simp[FV]);have Qe:b'=bs[n]:=by simpa [hn] using q2.symm
    refine Classical.byContradiction λJx=>?_
    have:FK[n]∈left:=by
     rw[<-LO,Array.mem_filter];exact⟨Array.getElem_mem FV,by rw[q5,Qe];simpa using Jx⟩
    rw[he]at this;simp at this
   have hold:left.filter (λe=>decide (e.born<since))=left:=by
    rw[Array.filter_eq_self];intro u hu;obtain⟨_,_,b,_,_,_,_,_,q1,q2⟩:=Hr u hu;simp[q1,q2]
   have Iz:left.filter (λe=>decide (e.born>=since))= #[]:=by
    rw[Array.filter_eq_empty_iff];intro u hu;obtain⟨_,_,b,_,_,_,_,_,q1,q2⟩:=Hr u hu;simp[q1];omega
   obtain⟨Im,JS⟩:∃Im,Im=(if left.isEmpty then #[none]else #[])++(left++(#[]:Array MapEntry)).map some:=⟨_,rfl⟩;have GJ:(Instr.next (.pointer (some ⟨σ.l j,0,none⟩)) false ty).run X.P σ.w=(choose (.mapNext Im.size)>>= λn=>match Im[n]? with
     |some (some e)=>(do setObj (σ.l j) (.mapIter (some (σ.l i)) since (seen.toArray.push e.born) clock);pure (.tuple #[.bool true,e.key,e.val]))
     |some none=>pure (.tuple #[.bool false])
     |none=>stuck "Next: no such candidate").run X.P σ.w:=by
    unfold Instr.next;simp only[uN h1,uO h3,Iv,Bool.false_eq_true,if_false,LO,hold,Iz,<-JS];rfl
   have N5:0<Im.size:=by
    rw[JS];cases he:left.isEmpty with
    |true=>simp;omega
    |false=>
     have:0<left.size:=by
      rcases Nat.eq_zero_or_pos left.size with h|h
      ·rw[Array.eq_empty_of_size_eq_zero h]at he;simp at he
      ·exact h
     simp;omega
   obtain⟨n,w',hn,II,KG⟩:=xi (α:=Value) (P:=X.P) (w:=σ.w) N5;rw[KG]at GJ;have hex:∀r w2,(Instr.next (.pointer (some ⟨σ.l j,0,none⟩)) false ty).run X.P σ.w=.ok r w2->(execOp a.eval ⟨dst,.next x false,ty,pos,af,g⟩).run X.P σ.w=.ok (.value r) w2:=by
    intro r w2 h;simp only[execOp,hv];simp[h]
   have Kp:Im[n]?=some Im[n]:=by simp[hn]
   rw[Kp]at GJ;have G_:Im[n]∈Im:=Array.getElem_mem hn;generalize hc:Im[n]=c at GJ G_;have JM:w'.heap=σ.w.heap/\w'.os=σ.w.os/\w'.output=σ.w.output/\w'.tape=σ.w.tape:=by rcases II with rfl|rfl<;>exact⟨rfl,rfl,rfl,rfl⟩
   cases c with
   |none=>
    have hle:left= #[]:=by
     rw[JS]at G_;cases he:left.isEmpty with
     |true=>simpa using he
     |false=>rw[he]at G_;simp at G_
    have MP:=hex _ _ GJ;have MQ:dq σ.w w':=⟨JM.2.1,JM.2.2.1,JM.2.2.2,by rw[JM.1];exact Nat.le_refl _,λb _=>by rw[JM.1]⟩;refine bS.value (u:=.tuple #[.bool false]) (w':=w') MP ⟨_,_,{σ with w:=w'},FC,.inl ⟨rfl,rfl,IF hle⟩,rfl,hi.ext MQ,.m (.bz _ _ rfl λn m v hm hv=>by
     match n with
     |0=>simp at hm hv;subst hm;subst hv;exact .d (.bool _)
     |n+1=>simp at hm)⟩
   |some u=>
    have R7:u∈left:=by
     rw[JS]at G_;cases he:left.isEmpty with
     |true=>rw[he]at G_;simp at G_;simp at he;rw[he]at G_;simp at G_
     |false=>rw[he]at G_;simpa using G_
    obtain⟨m,e,b,q1,q2,q3,q4,q5,q6,q7⟩:=Hr u R7;have FJ:σ.l j<σ.w.heap.size:=cZ h1;have Qf:(do setObj (σ.l j) (.mapIter (some (σ.l i)) since (seen.toArray.push u.born) clock);pure (.tuple #[.bool true,u.key,u.val]):Sem Value).run X.P w'=.ok (.tuple #[.bool true,u.key,u.val]) (bI w' (σ.l j) (.mapIter (some (σ.l i)) since (seen.toArray.push u.born) clock)):=by
     show(Sem.setObj _ _ _).run X.P w'=_;have OL:w'.heap[σ.l j]?=some (.mapIter (some (σ.l i)) since seen.toArray last):=by rw[JM.1];exact h1
     simp only[Sem.run,OL];rfl
    have MP:=hex _ _ (GJ.trans Qf);obtain⟨τ,k1,k2,k3,k4,k5⟩:=hi.eU (j:=j) (b':=σ.l j) (ob:=.iter (gf i since seen)) (F_:=.iter (gf i since (seen++[b]))) (w':=bI w' (σ.l j) (.mapIter (some (σ.l i)) since (seen.toArray.push u.born) clock)) hJ trivial JM.2.1 JM.2.2.1 JM.2.2.2 (by rw[eb,JM.1];exact Nat.le_refl _)
     (λc _ hc=>by rw[dU hc,JM.1]) (.inl rfl) (λo v ho=>(ho trivial).elim) rfl (by
      intro τ HU hw Rv hH;refine .inl ⟨some (σ.l i),since,seen.toArray.push u.born,clock,by rw[hw];exact c7 (by rw[JM.1];exact FJ),.inr ⟨?_,?_⟩⟩
      ·have:=(zO (σ:=σ) (since:=since) (seen:=seen++[b]) NJ).mono HU;rw[q6];simpa using this
      ·obtain⟨_,LP⟩:∃x:Nat,bs[m]?=some x:=⟨_,q2⟩;have hm:m<es.length:=B2 q1;obtain⟨_,_,_,FX⟩:=h6 m e b (FK[m]'(by omega)) q1 q2 (by simp[show m<FK.size by omega]);omega)
    refine bS.value MP ⟨_,_,τ,FC,.inr ⟨m,e,b,q1,q2,q3,rfl,rfl⟩,k1,k5,.m ?_⟩;refine .bz _ _ rfl λn v w hm hv=>?_
    match n with
    |0=>simp at hm hv;subst hm;subst hv;exact .d (.bool _)
    |1=>simp at hm hv;subst hm;subst hv;exact q4.mono k4
    |2=>simp at hm hv;subst hm;subst hv;exact q5.mono k4
    |n+3=>simp at hm
theorem yH{x:Operand}{i j since n b:Nat}{seen bs:List Nat}{es:List (D×M)}{e:D×M}(hx:st.ev x=some (.m (.it j)))(hJ:st.H[j]?=some (.iter (gf i since (seen++[b]))))(hI:st.H[i]?=some (.map (dm since es bs)))(hl:bs.length=es.length)(hn:bs.Nodup)(he:es[n]?=some e)(hb:bs[n]?=some b)
  :aK X ⟨dst,.entry x,ty,pos,af,g⟩ st (bt (.m (.bz [.d e.1,e.2])) st):=by
 refine aK.quiet λa σ FC hi=>?_
 have h:=hi.ev hx;have OR:σ.H[j]?=some (.iter (gf i since (seen++[b]))):=by rw[hi.hH];exact hJ
 have NJ:σ.H[i]?=some (.map (dm since es bs)):=by rw[hi.hH];exact hI
 obtain⟨last,h1,h2⟩:=zP (hi.hinv.obj j _ OR);obtain⟨FK,clock,h3,h4,h5,h6⟩:=qc hl (hi.hinv.obj i _ NJ);have hm:n<es.length:=B2 he;have OT:n<FK.size:=by omega
 obtain⟨q1,q2,q3,q4⟩:=h6 n e b FK[n] he hb (by simp[OT]);have OU:FK.find? (·.born==b)=some FK[n]:=by
  cases hf:FK.find? (·.born==b)with
  |none=>
   exfalso;rw[Array.find?_eq_none]at hf;exact hf FK[n] (Array.getElem_mem OT) (by simp[q3])
  |some u=>
   have h7:=Array.find?_some hf;have h8:=Array.mem_of_find?_eq_some hf;obtain⟨k,hk,rfl⟩:=Array.getElem_of_mem h8;have h9:FK[k].born=FK[n].born:=by rw[q3];simpa using h7
   have:=h5.2 k n FK[k] FK[n] (by simp[hk]) (by simp[OT]) h9;subst this;rfl
 generalize hv:a.eval x=u at h;cases h with
 |m h=>
  cases h with
  |it _ y hh=>
   refine⟨.tuple #[FK[n].key,FK[n].val],?_,.m (.bz _ _ rfl λn m v hm hv=>?_)⟩
   ·have GJ:(Instr.entry (.pointer (some ⟨σ.l j,0,none⟩))).run X.P σ.w=.ok (.tuple #[FK[n].key,FK[n].val]) σ.w:=by
     unfold Instr.entry;simp only[uN h1];have OV:(seen++[b]).toArray.back?=some b:=by simp
     simp only[OV,uO h3,OU];have FX:(clock !=last)=false:=by simp;omega
     simp only[FX,Bool.false_eq_true,if_false];rfl
    simp only[execOp,hv];simp[GJ]
   ·match n with
    |0=>simp at hm hv;subst hm;subst hv;exact q1
    |1=>simp at hm hv;subst hm;subst hv;exact q2
    |n+2=>simp at hm
end
section
variable{X:bq}{ops:Array Oper}{rest:List Oper}{sl:List (Nat×V)}{bx:List (Nat×List M)}{H:Hp}{post:St->Prop}{d ty:Nat}{pos:String}{af:Array Edge}
theorem qd{T i:Nat}{x:Operand}{es:List (D×M)}(hn:Nat.blt d X.n=true)(hl:dv d sl=true)(ht:dW X.P T=2)(hx:ba sl x=some (.m (.mp i)))(hH:H[i]?=some (.map es))(hk:strKeys es=true)
  (k:∀(FT:List (D×M)) (bs:List Nat) (since:Nat),ct FT es->bs.length=FT.length->bs.Nodup->(∀b∈bs,b<since)->TL X ops rest ⟨(d,.m (.it H.length))::sl,bx,H.set i (.map (dm since FT bs))++[.iter (gf i since [])]⟩ post):
  TL X ops (⟨some d,.range T x,ty,pos,af,none⟩::rest) ⟨sl,bx,H⟩ post:=
 TL.op (by simp[ea]) rfl hn (yG ht hx hH hk) λv s ⟨FT,bs,since,a1,a2,a3,a4,a5,a6⟩=>by subst a5;subst a6;exact k FT bs since a1 a2 a3 a4
theorem td{x:Operand}{i j since:Nat}{seen bs:List Nat}{es:List (D×M)}(hn:Nat.blt d X.n=true)(hx:ba sl x=some (.m (.it j)))(hJ:H[j]?=some (.iter (gf i since seen)))(hI:H[i]?=some (.map (dm since es bs)))(hl:bs.length=es.length)(hb:∀b∈bs,b<since)
  (k0:(∀b∈bs,b∈seen)->TL X ops rest ⟨(d,.m (.bz [.d (.bool false)]))::sl,bx,H⟩ post)
  (k1:∀(n:Nat) (e:D×M) (b:Nat),es[n]?=some e->bs[n]?=some b->b∉seen->TL X ops rest ⟨(d,.m (.bz [.d (.bool true),.d e.1,e.2]))::sl,bx,H.set j (.iter (gf i since (seen++[b])))⟩ post):
  TL X ops (⟨some d,.next x false,ty,pos,af,none⟩::rest) ⟨sl,bx,H⟩ post:=
 TL.op (by simp[ea]) rfl hn (AQ hx hJ hI hl hb) λv s h=>by
  rcases h with⟨rfl,rfl,h3⟩|⟨n,e,b,h1,h2,h3,rfl,rfl⟩
  ·exact k0 h3
  ·exact k1 n e b h1 h2 h3
theorem qe{x:Operand}{i j since n b:Nat}{seen bs:List Nat}{es:List (D×M)}{e:D×M}(hn:Nat.blt d X.n=true)(hx:ba sl x=some (.m (.it j)))(hJ:H[j]?=some (.iter (gf i since (seen++[b]))))(hI:H[i]?=some (.map (dm since es bs)))(hl:bs.length=es.length)(Kq:bs.Nodup)(he:es[n]?=some e)(hb:bs[n]?=some b)
  (k:TL X ops rest ⟨(d,.m (.bz [.d e.1,e.2]))::sl,bx,H⟩ post):TL X ops (⟨some d,.entry x,ty,pos,af,none⟩::rest) ⟨sl,bx,H⟩ post:=
 TL.o1 rfl rfl hn (yH hx hJ hI hl Kq he hb) k
theorem TC.pf{code:Code}{q:Exit->St->Prop}{i since:Nat}{FT es:List (D×M)}{bs:List Nat}(hH:H[i]?=some (.map (dm since FT bs)))(hl:bs.length=FT.length)(hk:strKeys FT=true)(hs:ct FT es)(k:TC X code ⟨sl,bx,H.set i (.map es)⟩ q):TC X code ⟨sl,bx,H⟩ q:=
 λa w ⟨σ,FC,hw,hi⟩=>by
  obtain⟨τ,h1,h2,_⟩:=hi.pf hH hl hk hs;exact k a w ⟨τ,FC,h2.trans hw,h1⟩
theorem TC.perm{code:Code}{q:Exit->St->Prop}{i:Nat}{es Kh:List (D×M)}(hH:H[i]?=some (.map es))(hs:∀FT,ct FT es->ct FT Kh)(k:TC X code ⟨sl,bx,H.set i (.map Kh)⟩ q):TC X code ⟨sl,bx,H⟩ q:=
 λa w ⟨σ,FC,hw,hi⟩=>by
  obtain⟨τ,h1,h2⟩:=hi.perm hH hs;exact k a w ⟨τ,FC,h2.trans hw,h1⟩
end
theorem vS{H:Hp} :∀{cs FG:List M},c_ H cs=some FG->FG.length=cs.length/\∀(i:Nat) m',FG[i]?=some m'->∃m d,cs[i]?=some m/\dV H m=some d/\m'=.d d:=by
 intro cs
 induction cs with
 |nil=>intro FG h;simp[c_]at h;subst h;simp
 |cons m r ih=>
  intro FG h;simp only[c_]at h;split at h
  ·rename_i d ms h1 h2;injection h with h;subst h
   obtain⟨h3,h4⟩:=ih h2;refine⟨by simp[h3],λi m' hm=>?_⟩;cases i with
   |zero=>simp at hm;subst hm;exact⟨m,d,by simp,h1,rfl⟩
   |succ i=>simp at hm;obtain⟨a,b,c,e,f⟩:=h4 i m' hm;exact⟨a,b,by simpa using c,e,f⟩
  ·cases h
theorem bb.xj{X:bq}{σ:Sg}{FC:Nat->Nat}{st:St}{a:Act}(hi:bb X σ FC st a){i ec FD:Nat}{cs FG:List M}(hH:st.H[i]?=some (.row false ec FD cs))(hv:c_ st.H cs=some FG):
  ∃τ:Sg,bb X τ FC ⟨st.sl,st.bx,st.H.set i (.row false ec FD FG)⟩ a/\τ.w=σ.w:=by
 obtain⟨h0,arr,T,cap,n,h1,h2,h3,h4,h5⟩:=hi.hinv.obj i _ (by rw[hi.hH];exact hH);obtain⟨e1,e2⟩:=vS hv;rw[<-hi.hH]at e2;obtain⟨τ,k1,k2,k3,k4,k5⟩:=hi.eU (j:=i) (b':=σ.l i) (ob:=.row false ec FD cs) (F_:=.row false ec FD FG) (w':=σ.w) hH trivial rfl rfl rfl (Nat.le_refl _)
  (λ_ _ _=>rfl) (.inl rfl) (λo v ho=>(ho (.inl rfl)).elim) ⟨rfl,.inr ⟨rfl,e1,rfl,λarr T h=>⟨arr,h,rfl⟩⟩⟩ (by
   intro τ HU hw _ _;refine⟨h0,arr,T,cap,n,by rw[hw];exact h1,h2,h3,by rw[e1];exact h4,λk m v hm Ho=>?_⟩;obtain⟨m0,d,q1,q2,rfl⟩:=e2 k m hm;obtain⟨q3,q4⟩:=h5 k m0 v q1 Ho;exact⟨(q3.view hi.hinv q2).mono HU,q4⟩)
 exact⟨τ,k5,k1⟩
theorem DC.xj{P:Program}{n B:Nat}{sl:List (Nat×V)}{bx:List (Nat×List M)}{H:Hp}{post:Exit->St->Prop}{c:Code}{i ec FD:Nat}{cs FG:List M}(hH:H[i]?=some (.row false ec FD cs))(hv:c_ H cs=some FG)(k:DC P n B c ⟨sl,bx,H.set i (.row false ec FD FG)⟩ post):DC P n B c ⟨sl,bx,H⟩ post:=
 DC.fN _ (λ_ _ _ a w ⟨σ,FC,hw,hi⟩=>by
  obtain⟨τ,h1,h2⟩:=hi.xj hH hv;exact⟨τ,FC,h2.trans hw,h1⟩) k
theorem bb.qg{X:bq}{σ:Sg}{FC:Nat->Nat}{st:St}{a:Act}(hi:bb X σ FC st a){i ec FD:Nat}{cs FG:List M}(hH:st.H[i]?=some (.row false ec FD cs))(hl:FG.length=cs.length)
  (hv:∀(k:Nat) m',FG[k]?=some m'->cs[k]?=some m'\/∃m d,cs[k]?=some m/\dV st.H m=some d/\m'=.d d):
  ∃τ:Sg,bb X τ FC ⟨st.sl,st.bx,st.H.set i (.row false ec FD FG)⟩ a/\τ.w=σ.w:=by
 obtain⟨h0,arr,T,cap,n,h1,h2,h3,h4,h5⟩:=hi.hinv.obj i _ (by rw[hi.hH];exact hH);rw[<-hi.hH]at hv;obtain⟨τ,k1,k2,k3,k4,k5⟩:=hi.eU (j:=i) (b':=σ.l i) (ob:=.row false ec FD cs) (F_:=.row false ec FD FG) (w':=σ.w) hH trivial rfl rfl rfl (Nat.le_refl _)
  (λ_ _ _=>rfl) (.inl rfl) (λo v ho=>(ho (.inl rfl)).elim) ⟨rfl,.inr ⟨rfl,hl,rfl,λarr T h=>⟨arr,h,rfl⟩⟩⟩ (by
   intro τ HU hw _ _;refine⟨h0,arr,T,cap,n,by rw[hw];exact h1,h2,h3,by rw[hl];exact h4,λk m v hm Ho=>?_⟩;rcases hv k m hm with q1|⟨m0,d,q1,q2,rfl⟩
   ·obtain⟨q3,q4⟩:=h5 k m v q1 Ho;exact⟨q3.mono HU,q4⟩
   ·obtain⟨q3,q4⟩:=h5 k m0 v q1 Ho;exact⟨(q3.view hi.hinv q2).mono HU,q4⟩)
 exact⟨τ,k5,k1⟩
theorem DC.qg{P:Program}{n B:Nat}{sl:List (Nat×V)}{bx:List (Nat×List M)}{H:Hp}{post:Exit->St->Prop}{c:Code}{i ec FD:Nat}{cs FG:List M}(hH:H[i]?=some (.row false ec FD cs))(hl:FG.length=cs.length)
  (hv:∀(k:Nat) m',FG[k]?=some m'->cs[k]?=some m'\/∃m d,cs[k]?=some m/\dV H m=some d/\m'=.d d) (k:DC P n B c ⟨sl,bx,H.set i (.row false ec FD FG)⟩ post):DC P n B c ⟨sl,bx,H⟩ post:=
 DC.fN _ (λ_ _ _ a w ⟨σ,FC,hw,hi⟩=>by
  obtain⟨τ,h1,h2⟩:=hi.qg hH hl hv;exact⟨τ,FC,h2.trans hw,h1⟩) k
theorem bb.ED{X:bq}{σ:Sg}{FC:Nat->Nat}{st:St}{a:Act}(hi:bb X σ FC st a){i ec FD:Nat}{cs:List M}(hH:st.H[i]?=some (.row false ec FD cs)):
  ∃τ:Sg,bb X τ FC ⟨st.sl,st.bx,st.H.set i (.row true ec FD cs)⟩ a/\τ.w=σ.w:=by
 obtain⟨h0,arr,T,cap,n,h1,h2,h3,h4,h5⟩:=hi.hinv.obj i _ (by rw[hi.hH];exact hH);obtain⟨τ,k1,k2,k3,k4,k5⟩:=hi.eU (j:=i) (b':=σ.l i) (ob:=.row false ec FD cs) (F_:=.row true ec FD cs) (w':=σ.w) hH trivial rfl rfl rfl (Nat.le_refl _)
  (λ_ _ _=>rfl) (.inl rfl) (λo v ho=>(ho (.inl rfl)).elim) ⟨rfl,.inr ⟨rfl,rfl,rfl,λarr T h=>⟨arr,h,rfl⟩⟩⟩ (by
   intro τ HU hw _ _;exact⟨h0,arr,T,cap,n,by rw[hw];exact h1,h2,h3,h4,λk m v hm Ho=>⟨(h5 k m v hm Ho).1.mono HU,(h5 k m v hm Ho).2⟩⟩)
 exact⟨τ,k5,k1⟩
theorem DC.B5{P:Program}{n B:Nat}{sl:List (Nat×V)}{bx:List (Nat×List M)}{H:Hp}{post:Exit->St->Prop}{c:Code}{i ec FD:Nat}{cs:List M}(hH:H[i]?=some (.row false ec FD cs))(k:DC P n B c ⟨sl,bx,H.set i (.row true ec FD cs)⟩ post):DC P n B c ⟨sl,bx,H⟩ post:=
 DC.fN _ (λ_ _ _ a w ⟨σ,FC,hw,hi⟩=>by
  obtain⟨τ,h1,h2⟩:=hi.ED hH;exact⟨τ,FC,h2.trans hw,h1⟩) k
def As.own(n:Nat)(rs:List (List D))(m:M):As where
 p H F:=(rs=[]/\m=.d (.sl [])/\∀j,¬F j)\/(rs≠[]/\∃i FD,m=.bB i FD rs.length/\H[i]?=some (.row false n FD (br rs))/\∀j,F j↔j=i)
 loc:= λh hk=>h.elim .inl λ⟨a,i,FD,b,c,d⟩=>.inr ⟨a,i,FD,b,(hk i ((d i).2 rfl)).trans c,d⟩
 uf:= λh hi=>h.elim (λ⟨_,_,d⟩=>absurd hi (d _)) λ⟨_,i,FD,_,c,d⟩=>by rw[(d _).1 hi];exact uK c
section
variable{F0:Nat->Prop}{H0 H:Hp}{r:List As}{n:Nat}{rs:List (List D)}{m:M}
theorem Wk.EE(w:Wk F0 H0 r H)(n:Nat):Wk F0 H0 (.own n [] (.d (.sl []))::r) H:=by
 refine Wk.step (a:=[]) (b:=[.own n [] (.d (.sl []))]) w λF hs=>?_
 exact⟨λ_=>False,l9 (.inl ⟨rfl,rfl,λ_ h=>h⟩),Nat.le_refl _,λ_ _ _=>rfl,λ_ h=>h.elim⟩
theorem Wk.DJ(w:Wk F0 H0 (.own n [] m::r) H):m=.d (.sl []):=by
 obtain⟨F,⟨F1,F2,h1,_⟩,_⟩:=w;rcases h1 with⟨_,h,_⟩|⟨h,_⟩
 ·exact h
 ·exact absurd rfl h
theorem Wk.DK(w:Wk F0 H0 (.own n rs m::r) H)(hr:rs≠[]):∃i FD,m=.bB i FD rs.length/\Wk F0 H0 (.ob i (.row false n FD (br rs))::r) H:=by
 obtain⟨F,⟨F1,F2,h1,h2⟩,st⟩:=w;rcases h1 with⟨h,_⟩|⟨_,i,FD,h3,h4,h5⟩
 ·exact absurd h hr
 ·exact⟨i,FD,h3,F,⟨F1,F2,⟨h4,h5⟩,h2⟩,st⟩
theorem Wk.DL{i FD:Nat}(w:Wk F0 H0 (.ob i (.row false n FD (br rs))::r) H)(hr:rs≠[]):Wk F0 H0 (.own n rs (.bB i FD rs.length)::r) H:=by
 obtain⟨F,⟨F1,F2,⟨h4,h5⟩,h2⟩,st⟩:=w;exact⟨F,⟨F1,F2,.inr ⟨hr,i,FD,rfl,h4,h5⟩,h2⟩,st⟩
end
theorem Inv.qh{X:bq}{sl:List (Nat×V)}{bx:List (Nat×List M)}{H:Hp}{a:Act}{w:World}{t:Nat}{cs FG:List M}(h:Inv X ⟨sl,bx,H⟩ a w)(hb:get bx t=some cs)(hl:FG.length=cs.length)
  (hv:∀(k:Nat) m',FG[k]?=some m'->cs[k]?=some m'\/∃m d,cs[k]?=some m/\dV H m=some d/\m'=.d d):Inv X ⟨sl,(t,FG)::bx,H⟩ a w:=by
 obtain⟨σ,FC,rfl,hi⟩:=h;have hH:σ.H=H:=hi.hH;obtain⟨arr,T,h1,h2⟩:=hi.box t cs hb;have HQ:∀u ds,get ((t,FG)::bx) u=some ds->∃I4,get bx u=some I4:=by
  intro u ds h1;rcases bf h1 with⟨rfl,rfl⟩|⟨h3,h4⟩
  ·exact⟨cs,hb⟩
  ·exact⟨ds,h4⟩
 have Iy:∀b o,iT X.fa FC ((t,FG)::bx) b o↔iT X.fa FC bx b o:=by
  intro b o;constructor
  ·rintro(h1|⟨u,ds,h1,h2⟩)
   ·exact .inl h1
   ·obtain⟨I4,h3⟩:=HQ u ds h1;exact .inr ⟨u,I4,h3,h2⟩
  ·rintro(h1|⟨u,ds,h1,h2⟩)
   ·exact .inl h1
   ·by_cases e:t=u
    ·subst e;exact .inr ⟨t,FG,by simp[aX],h2⟩
    ·exact .inr ⟨u,ds,by simp[aX,e,h1],h2⟩
 refine⟨σ,FC,rfl,hi.hH,hi.defers,hi.size,hi.slot,?_,?_,?_,?_,?_,hi.mono,hi.be⟩
 ·intro u ds h3;rcases bf h3 with⟨rfl,rfl⟩|⟨_,h4⟩
  ·refine⟨arr,T,h1,by rw[h2.1,hl],λi m' v hm Ho=>?_⟩;rcases hv i m' hm with q1|⟨m0,d,q1,q2,rfl⟩
   ·exact h2.2 i m' v q1 Ho
   ·obtain⟨q3,q4⟩:=h2.2 i m0 v q1 Ho;exact⟨q3.view hi.hinv (by rw[hH];exact q2),q4⟩
  ·exact hi.box u ds h4
 ·intro u v ds es h3 h4 h5;obtain⟨_,h6⟩:=HQ u ds h3;obtain⟨_,h7⟩:=HQ v es h4;exact hi.jC u v _ _ h6 h7 h5
 ·intro u ds h3;obtain⟨_,h6⟩:=HQ u ds h3;exact hi.j5 u _ h6
 ·intro u ds h3;obtain⟨_,h6⟩:=HQ u ds h3;exact hi.j6 u _ h6
 ·exact⟨hi.hinv.obj,hi.hinv.inj,λb o=>by rw[Iy];exact hi.hinv.own b o,λi ob h1 h2 o h3=>hi.hinv.sep i ob h1 h2 o ((Iy _ _).1 h3),λb o h3=>hi.hinv.fj b o ((Iy _ _).1 h3)⟩
theorem DC.qh{P:Program}{n B:Nat}{post:Exit->St->Prop}(t:Nat){c:Code}{cs FG:List M}{sl:List (Nat×V)}{bx:List (Nat×List M)}{H:Hp}(hb:get bx t=some cs)(hl:FG.length=cs.length)
  (hv:∀(k:Nat) m',FG[k]?=some m'->cs[k]?=some m'\/∃m d,cs[k]?=some m/\dV H m=some d/\m'=.d d) (k:DC P n B c ⟨sl,(t,FG)::bx,H⟩ post):DC P n B c ⟨sl,bx,H⟩ post:=
 DC.fN _ (λ_ _ _ a w hi=>hi.qh hb hl hv) k
theorem D_{H:Hp}{a b m:M}{d:D}(h:dV H m=some d):∀(k:Nat) m',[a,b,M.d d][k]?=some m'->[a,b,m][k]?=some m'\/∃m0 d',[a,b,m][k]?=some m0/\dV H m0=some d'/\m'=.d d':=by
 intro k m' hm
 match k with
 |0=>exact .inl hm
 |1=>exact .inl hm
 |2=>exact .inr ⟨m,d,rfl,h,by simpa using hm.symm⟩
 |k+3=>simp at hm
theorem Wk.B6{F0:Nat->Prop}{H0 H:Hp}{r:List As}{n:Nat}{rs:List (List D)}{m:M}(w:Wk F0 H0 (.own n rs m::r) H):
  ∃H2,Wk F0 H0 (.acc n rs m::r) H2/\∀{P:Program} {k B:Nat} {c:Code} {post:Exit->St->Prop} {sl:List (Nat×V)} {bx:List (Nat×List M)},DC P k B c ⟨sl,bx,H2⟩ post->DC P k B c ⟨sl,bx,H⟩ post:=by
 by_cases hr:rs=[]
 ·subst hr;have hm:=w.DJ;subst hm;exact⟨H,(w.drop).nil n,λh=>h⟩
 ·obtain⟨i,FD,hm,w1⟩:=w.DK hr;subst hm;have hH:=w1.ob;have w2:=w1.set (.row true n FD (br rs));refine⟨H.set i (.row true n FD (br rs)),?_,λh=>DC.B5 hH h⟩;obtain⟨F,⟨F1,F2,⟨h4,h5⟩,h2⟩,st⟩:=w2;exact⟨F,⟨F1,F2,⟨i,.inr ⟨hr,FD,rfl,h4⟩,λj=>by rw[h5];simp[hr]⟩,h2⟩,st⟩
def qi(arr:Array Oper)(ops:List Oper)(sl:List (Nat×V))(es:List Ef):Bool:=
 jF 0 ops&&ei arr 0 ops es (dH ops)&&eH sl es
def yI(n:Nat)(B:List Oper):Bool:=B.all λo=>(List.range n).all λk=>o.after.toList.any λe=>Region.binds .any e&&Nat.beq e.on k
theorem yJ{n:Nat}{B:List Oper}(h:yI n B=true){o:Oper}(ho:o∈B){k:Nat}(hk:k<n):∃e∈o.after.toList,Region.binds .any e=true/\e.on=k:=by
 have h1:=List.all_eq_true.1 h o ho;have h2:=List.all_eq_true.1 h1 k (List.mem_range.2 hk);obtain⟨e,h3,h4⟩:=List.any_eq_true.1 h2;simp only[Bool.and_eq_true]at h4;exact⟨e,h3,h4.1,Nat.eq_of_beq_eq_true h4.2⟩
theorem De{X:bq}{A B:List Oper}{arr:Array Oper}{st FM:St}{es:List Ef}{Q:Exit->Act->World->Prop}(I:Hp->Prop)(Oz:I st.H)(HR:arr=(A++B).toArray)
  (GJ:lS X I arr A st es FM) (Gl:qi arr A st.sl es=true) (OA:iO I A 0 es) (J9:yI A.length B=true)
  (hQ:∀a w,Inv X FM a w->wpAny X.P .any arr Q B.length (Array.replicate A.length true++Array.replicate B.length false) a w):
  ∀a w,Inv X st a w->wpAny X.P .any arr Q (A.length+B.length) (Array.replicate (A.length+B.length) false) a w:=by
 obtain⟨hlen,K0,HJ⟩:=GJ.spec;simp only[qi,Bool.and_eq_true]at Gl;obtain⟨⟨JY,Je⟩,Jf⟩:=Gl;have hE:=iN JY;have hP:=fu Je;have Hj:FM=S st es (λ_=>true) A.length:=by rw[c8,List.take_of_length_le (by omega),K0]
 have Ht:∀(k:Nat) e,es[k]?=some e->∃o b,A[k]?=some o/\(dH A)[k]?=some b/\e.d=o.dst/\k<A.length:=by
  intro k e he;have hk:k<es.length:=by rcases Nat.lt_or_ge k es.length with h|h;exact h;simp[List.getElem?_eq_none h]at he
  have ho:A[k]?=some A[k]:=by simp[show k<A.length by omega]
  have hb:k<(dH A).length:=by rw[fg];omega
  exact⟨A[k],(dH A)[k],ho,by simp[hb],(HJ k _ e ho he).2,by omega⟩
 have Jx:∀(k:Nat) e d,es[k]?=some e->e.nw=some d->dv d st.sl=true:=by
  have:∀(l:List Ef),eH st.sl l=true->∀(k:Nat) e d,l[k]?=some e->e.nw=some d->dv d st.sl=true:=by
   intro l
   induction l with
   |nil=>intro _ k e d h;simp at h
   |cons x l ih=>
    intro hl k e d he hd;simp only[eH,Bool.and_eq_true]at hl;cases k with
    |zero=>simp at he;subst he;simpa [hd] using hl.1
    |succ k=>simp at he;exact ih hl.2 k e d he hd
  exact this es Jf
 intro a w hi;subst HR;have main:∀(GL:Nat) (listed:Array Bool) (a:Act) (w:World),listed.size=A.length+B.length->(∀k,A.length<=k->listed.getD k false=false)->i_ A.length (λk=>listed.getD k false)=GL->
   (∀j b,listed.getD j false=true->(dH A)[j]?=some b->∀i∈b,listed.getD i false=true)->
   Inv X (S st es (λk=>listed.getD k false) A.length) a w->
   wpAny X.P .any (A++B).toArray Q (GL+B.length) listed a w:=by
  intro GL
  induction GL with
  |zero=>
   intro listed a w Gd OW hc FX hinv;have hz:=kH hc;have OX:listed=Array.replicate A.length true++Array.replicate B.length false:=by
    apply Array.ext
    ·simp[Gd]
    ·intro k h1 h2;have e1:listed[k]=listed.getD k false:=by simp[h1]
     rw[e1];rcases Nat.lt_or_ge k A.length with h|h
     ·rw[hz k h];simp[h]
     ·rw[OW k h];simp[h]
   rw[Nat.zero_add];have Qg:Inv X FM a w:=by
    have e:S st es (λk=>listed.getD k false) A.length=FM:=by
     rw[Hj];have:∀n,n<=A.length->S st es (λk=>listed.getD k false) n=S st es (λ_=>true) n:=by
      intro n
      induction n with
      |zero=>intro _;rfl
      |succ n ih=>
       intro hn;simp only[S,ih (by omega),hz n (by omega)]
     exact this _ (Nat.le_refl _)
    rw[<-e];exact hinv
   have:=hQ a w Qg;rw[<-OX]at this;exact this
  |succ GL ih=>
   intro listed a w Gd OW hc FX hinv;have OY:GL+1+B.length=(GL+B.length)+1:=by omega
   rw[OY];have Lj:∀(L:List Oper) (i:Nat),i∈Region.ready .any L.toArray listed↔i<L.length/\listed.getD i true=false/\∃o,L[i]?=some o/\∀e∈o.after.toList,Region.binds .any e=true->listed.getD e.on false=true:=by
    intro L i;unfold Region.ready;rw[List.mem_filter];simp only[List.mem_range,List.size_toArray,Bool.and_eq_true,Bool.not_eq_true',List.getElem?_toArray];constructor
    ·rintro⟨h1,h2,h3⟩;refine⟨h1,h2,L[i],by simp[h1],?_⟩;simp[h1]at h3;intro e he hb;have Mu:e∈L[i].after:=by simpa using he
     obtain⟨n,hn,rfl⟩:=Array.mem_iff_getElem.1 Mu;rcases h3 n hn with h4|h4
     ·rw[h4]at hb;cases hb
     ·simpa using h4
    ·rintro⟨h1,h2,o,h3,h4⟩;refine⟨h1,h2,?_⟩;have:L[i]=o:=by simpa [h1] using h3
     simp[h1,this];intro n hn;cases hb:Region.binds .any o.after[n]with
     |false=>exact .inl rfl
     |true=>right;simpa using h4 o.after[n] (by simp) hb
   have mem_ready:∀i,i∈Region.ready .any (A++B).toArray listed↔i<A.length/\listed.getD i true=false/\∃o,A[i]?=some o/\∀e∈o.after.toList,Region.binds .any e=true->listed.getD e.on false=true:=by
    intro i;rw[Lj];constructor
    ·rintro⟨h1,h2,o,h3,h4⟩;by_cases hi:i<A.length
     ·exact⟨hi,h2,o,by rwa [List.getElem?_append_left hi]at h3,h4⟩
     ·exfalso;obtain⟨k,k1,k2,k3⟩:=lR (m:=A.length) (f:= λk=>listed.getD k false) (by omega);rw[List.getElem?_append_right (by omega)]at h3;obtain⟨e,e1,e2,e3⟩:=yJ J9 (List.mem_of_getElem? h3) k1;have:=h4 e e1 e2;rw[e3,k2]at this;cases this
    ·rintro⟨h1,h2,o,h3,h4⟩;exact⟨by rw[List.length_append];omega,h2,o,by rw[List.getElem?_append_left h1];exact h3,h4⟩
   refine⟨?_,?_⟩
   ·intro hr;obtain⟨i,h1,h2,h3⟩:=lR (m:=A.length) (f:= λk=>listed.getD k false) (by omega);have:i∈Region.ready .any (A++B).toArray listed:=by
     rw[mem_ready];have Jg:i<listed.size:=by omega
     refine⟨h1,by simp[Jg]at h2⊢;exact h2,A[i],by simp[h1],?_⟩;intro e he hb;have:=hE i A[i] (by simp[h1]) e he hb;exact h3 e.on (by omega)
    rw[hr]at this;cases this
   ·intro i I6;obtain⟨HK,Jh,o,ho,Ji⟩:=(mem_ready i).1 I6;have Jg:i<listed.size:=by omega
    have GH:listed.getD i false=false:=by simp[Jg]at Jh⊢;exact Jh
    have KH:i<es.length:=by omega
    obtain⟨e,he⟩:∃e,es[i]?=some e:=⟨es[i],by simp[KH]⟩;have GW:i<(dH A).length:=by rw[fg];exact HK
    obtain⟨bi,Io⟩:∃b,(dH A)[i]?=some b:=⟨(dH A)[i],by simp[GW]⟩;have ahead:∀k,k∈bi->listed.getD k false=true:=by
     intro k hk;obtain⟨ed,h1,h2,h3⟩:=pH ho Io hk;have h4:=Ji ed h1 h2;rcases h3 with h3|⟨b',h5,_,h6⟩
     ·rw[<-h3];exact h4
     ·exact FX _ b' h4 h5 k h6
    have early:∀(k:Nat) f,k<i->es[k]?=some f->∀x,A[k]?=some x->bU (A++B).toArray x o f e=true->listed.getD k false=true:=by
     intro k f hk hf x hx hc;have:=(hP k i x f o e bi hk hx hf ho he Io).1 hc;simp at this;exact ahead k this
    have late:∀(k:Nat) f,i<k->es[k]?=some f->∀x,A[k]?=some x->bU (A++B).toArray o x e f=true->listed.getD k false=false:=by
     intro k f hk hf x hx hc;obtain⟨_,b,_,hb,_,_⟩:=Ht k f hf;have:=(hP i k o e x f b hk ho he hx hf hb).1 hc;simp at this;cases hl:listed.getD k false with
     |false=>rfl
     |true=>rw[FX k b hl hb i this]at GH;cases GH
    obtain⟨Ig,NZ⟩:=HJ i o e ho he;have Mv:(es.take i).foldl (λs e=>e.app s) st=S st es (λ_=>true) i:=(c8 st es i).symm;rw[Mv]at Ig;have GY:∀t k,(eh es t).W k=true->∃f x,es[k]?=some f/\A[k]?=some x/\f.d=some t/\x.dst=some t:=by
     intro t k hw;simp only[eh]at hw;split at hw
     ·rename_i f hf;split at hw
      ·rename_i d hd;have:=Nat.eq_of_beq_eq_true hw;subst this;obtain⟨x,b,hx,_,HD,_⟩:=Ht k f hf;exact⟨f,x,hf,hx,hd,by rw[<-HD];exact hd⟩
      ·cases hw
     ·cases hw
    have Hl:∀t k,(eX es t).W k=true->∃f x,es[k]?=some f/\A[k]?=some x/\t∈f.wb.map (·.1):=by
     intro t k hw;simp only[eX]at hw;split at hw
     ·rename_i f hf;obtain⟨x,b,hx,_,_,_⟩:=Ht k f hf;exact⟨f,x,hf,hx,cJ.1 hw⟩
     ·cases hw
    have HS:∀k,(gJ es).W k=true->∃f x,es[k]?=some f/\A[k]?=some x/\f.wh.isSome=true:=by
     intro k hw;simp only[gJ]at hw;split at hw
     ·rename_i f hf;obtain⟨x,b,hx,_,_,_⟩:=Ht k f hf;exact⟨f,x,hf,hx,hw⟩
     ·cases hw
    have Hm:∀(l:List (Nat×List M)) (r:List Nat) (t:Nat),t∈l.map (·.1)->t∈r->(l.any λp=>has r p.1)=true:=by
     intro l r t h1 h2;rw[List.any_eq_true];obtain⟨p,hp,rfl⟩:=List.mem_map.1 h1;exact⟨p,hp,cJ.2 h2⟩
    have Ly:Ag (A++B).toArray o e (S st es (λ_=>true) i) (S st es (λk=>listed.getD k false) A.length):=by
     refine⟨?_,?_,?_,?_⟩
     ·intro t ht;refine fk (eh es t) _ i A.length (by omega) ?_ ?_
      ·intro k hk hw;obtain⟨f,x,hf,hx,_,HD⟩:=GY t k hw;refine early k f hk hf x hx ?_;have:has (slotsOf (A++B).toArray o) t=true:=cJ.2 (by simp[slotsOf,ht]);simp[bU,HD,this]
      ·intro k hk Gi hw;by_cases G6:k=i
       ·rw[G6];exact GH
       ·obtain⟨f,x,hf,hx,_,HD⟩:=GY t k hw;refine late k f (by omega) hf x hx ?_;have:has (slotsOf (A++B).toArray o) t=true:=cJ.2 (by simp[slotsOf,ht]);simp[bU,HD,this]
     ·intro t ht;refine fk (eX es t) _ i A.length (by omega) ?_ ?_
      ·intro k hk hw;obtain⟨f,x,hf,hx,G0⟩:=Hl t k hw;refine early k f hk hf x hx ?_;have:=Hm f.wb _ t G0 ht;simp[bU,this]
      ·intro k hk Gi hw;by_cases G6:k=i
       ·rw[G6];exact GH
       ·obtain⟨f,x,hf,hx,G0⟩:=Hl t k hw;refine late k f (by omega) hf x hx ?_;have:=Hm f.wb _ t G0 ht;simp[bU,this]
     ·intro Ih;refine fk (gJ es) _ i A.length (by omega) ?_ ?_
      ·intro k hk hw;obtain⟨f,x,hf,hx,HE⟩:=HS k hw;refine early k f hk hf x hx ?_;simp only[Bool.or_eq_true]at Ih;rcases Ih with Ih|Ih<;>simp[bU,HE,Ih]
      ·intro k hk Gi hw;by_cases G6:k=i
       ·rw[G6];exact GH
       ·obtain⟨f,x,hf,hx,HE⟩:=HS k hw;refine late k f (by omega) hf x hx ?_;simp only[Bool.or_eq_true]at Ih;rcases Ih with Ih|Ih<;>simp[bU,HE,Ih]
     ·intro d hd t oo hg;have key:∀n,n<=A.length->get (S st es (λk=>listed.getD k false) n).sl t=some (.loc d oo)->False:=by
       intro n
       induction n with
       |zero=>
        intro _ hg;exact nO (Jx i e d he hd) hg
       |succ n Jj=>
        intro hn hg;simp only[S]at hg;cases G7:es[n]? with
        |none=>simp only[G7]at hg;exact Jj (by omega) hg
        |some f=>
         simp only[G7]at hg;cases hl:listed.getD n false with
         |false=>rw[hl]at hg;exact Jj (by omega) hg
         |true=>
          rw[hl]at hg;simp only[cond_true,Ef.app]at hg;obtain⟨x,b,hx,hb,HD,_⟩:=Ht n f G7;cases IU:f.d with
          |none=>simp only[IU]at hg;exact Jj (by omega) hg
          |some d'=>
           simp only[IU]at hg;rcases bf hg with⟨_,h2⟩|⟨_,h2⟩
           ·have FV:n≠i:=by rintro rfl;rw[hl]at GH;cases GH
            rcases Nat.lt_or_gt_of_ne FV with FJ|Mw
            ·have:=(hP n i x f o e bi FJ hx G7 ho he Io).2;simp[f_,hd,<-h2]at this
            ·have:=late n f Mw G7 x hx (by simp[bU,hd,<-h2]);rw[this]at hl;cases hl
           ·exact Jj (by omega) h2
      exact key _ (Nat.le_refl _) hg
    have IG:=Ig _ Ly (sp I Oz (λk f h hk hL hw=>(OA.mem k f hk h hw).resolve_right λhl=>by
     have G6:k≠i:=by rintro rfl;rw[GH]at hL;cases hL
     obtain⟨b,hb,Io⟩:=qK hl i HK (Ne.symm G6);have:=FX k b hL hb i Io;rw[GH]at this;cases this) _)
    have JZ:∀a' w',Inv X (e.app (S st es (λk=>listed.getD k false) A.length)) a' w'->wpAny X.P .any (A++B).toArray Q (GL+B.length) (listed.setIfInBounds i true) a' w':=by
     intro a' w' Hn;have H4:(λk=>(listed.setIfInBounds i true).getD k false)= λk=>if k=i then true else listed.getD k false:=by
      funext k
      by_cases hk:k=i
      ·subst hk;simp[Jg]
      ·simp[hk,Array.getElem?_setIfInBounds_ne (Ne.symm hk)]
     refine ih _ a' w' (by simp[Gd]) (λk hk=>by rw[congrFun H4 k,if_neg (by omega)];exact OW k hk) ?_ ?_ ?_
     ·rw[H4];have:=oJ (m:=A.length) (f:= λk=>listed.getD k false) HK GH;omega
     ·intro j b hj hb k hk;have Hs:(if j=i then true else listed.getD j false)=true:=by rw[<-congrFun H4 j];exact hj
      have JC:(if k=i then true else listed.getD k false)=true:=by
       by_cases G6:k=i
       ·simp[G6]
       ·rw[if_neg G6];by_cases Kj:j=i
        ·subst Kj;rw[Io]at hb;injection hb with hb;subst hb
         exact ahead k hk
        ·rw[if_neg Kj]at Hs;exact FX j b Hs hb k hk
      rw[<-congrFun H4 k]at JC;exact JC
     ·rw[H4];have g1:∀t,get (S st es (λk=>if k=i then true else listed.getD k false) A.length).sl t=get (e.app (S st es (λk=>listed.getD k false) A.length)).sl t:=by
       intro t;refine jG (eh es t) _ i A.length HK e he GH ?_;intro Is k hk Gi Hi;obtain⟨f,x,hf,hx,_,HD⟩:=GY t k Hi;obtain⟨f',x',GX,HT,_,K8⟩:=GY t i Is;rw[ho]at HT;injection HT with HT;subst HT
       refine late k f hk hf x hx ?_;have:has (slotsOf (A++B).toArray o) t=true:=cJ.2 (by simp[slotsOf,K8]);simp[bU,HD,this]
      have g2:∀t,get (S st es (λk=>if k=i then true else listed.getD k false) A.length).bx t=get (e.app (S st es (λk=>listed.getD k false) A.length)).bx t:=by
       intro t;refine jG (eX es t) _ i A.length HK e he GH ?_;intro Is k hk Gi Hi;obtain⟨f,x,hf,hx,G0⟩:=Hl t k Hi;obtain⟨f',x',GX,HT,Jk⟩:=Hl t i Is;rw[he]at GX;injection GX with GX;subst GX
       refine late k f hk hf x hx ?_;have:=Hm f.wb (e.rb++e.wb.map (·.1)) t G0 (List.mem_append.2 (.inr Jk));simp[bU,this]
      have g3:(S st es (λk=>if k=i then true else listed.getD k false) A.length).H=(e.app (S st es (λk=>listed.getD k false) A.length)).H:=by
       refine jG (gJ es) _ i A.length HK e he GH ?_;intro Is k hk Gi Hi;obtain⟨f,x,hf,hx,HE⟩:=HS k Hi;obtain⟨f',x',GX,HT,Mx⟩:=HS i Is;rw[he]at GX;injection GX with GX;subst GX
       refine late k f hk hf x hx ?_;simp[bU,HE,Mx]
      have:=Inv.fJ (X:=X) (sl:=(e.app (S st es (λk=>listed.getD k false) A.length)).sl) (bx:=(e.app (S st es (λk=>listed.getD k false) A.length)).bx) (H:=(e.app (S st es (λk=>listed.getD k false) A.length)).H)
       (Gy:=(S st es (λk=>if k=i then true else listed.getD k false) A.length).sl) (Jv:=(S st es (λk=>if k=i then true else listed.getD k false) A.length).bx) Hn
       (λt v hv=>by rw[<-g1];exact hv) g2
      rw[<-g3]at this;exact this
    have:=IG a w hinv (wpAny X.P .any (A++B).toArray Q (GL+B.length) (listed.setIfInBounds i true)) Q JZ;unfold wpOp;have K9:(A++B).toArray[i]?=some o:=by rw[List.getElem?_toArray,List.getElem?_append_left HK];exact ho
    simp only[K9];split
    ·rename_i hw;rw[if_pos hw]at this;exact .inl this
    ·rename_i hw;rw[if_neg hw]at this;exact this
 refine main _ _ a _ (by simp) (λk _=>by simp[Array.getElem?_replicate];split<;>rfl) ?_ ?_ ?_
 ·have:∀n,i_ n (λk=>(Array.replicate (A.length+B.length) false).getD k false)=n:=by
   intro n
   induction n with
   |zero=>rfl
   |succ n ih=>
    simp only[i_,ih];have:(Array.replicate (A.length+B.length) false).getD n false=false:=by simp[Array.getElem?_replicate];split<;>rfl
    rw[this];rfl
  simpa using this A.length
 ·intro j b hj;have:(Array.replicate (A.length+B.length) false).getD j false=false:=by simp[Array.getElem?_replicate];split<;>rfl
  rw[this]at hj;cases hj
 ·have hz:∀n,S st es (λk=>(Array.replicate (A.length+B.length) false).getD k false) n=st:=by
   intro n
   induction n with
   |zero=>rfl
   |succ n ih=>
    have:(Array.replicate (A.length+B.length) false).getD n false=false:=by simp[Array.getElem?_replicate];split<;>rfl
    simp only[S,ih,this];cases es[n]?<;>rfl
  rw[hz];exact hi
def Tree(X:bq)(arr:Array Oper)(Z:St):Nat->Array Bool->St->Prop
 |0,L,st=>Region.ready .any arr L=[]/\st=Z
 |n+1,L,st=>Region.ready .any arr L≠[]/\∀i∈Region.ready .any arr L,∃o FM,arr[i]?=some o/\jE X arr o st FM/\Tree X arr Z n (L.setIfInBounds i true) FM
theorem Tree.any{X:bq}{arr:Array Oper}{Z:St}{Q:Exit->Act->World->Prop}(hQ:∀a w,Inv X Z a w->Q .normal a w):∀{n:Nat} {L:Array Bool} {st:St},Tree X arr Z n L st->∀a w,Inv X st a w->wpAny X.P .any arr Q n L a w
 |0,L,st,⟨h1,h2⟩,a,w,hi=>⟨h1,hQ a w (h2▸hi)⟩
 |n+1,L,st,⟨h1,h2⟩,a,w,hi=>by
  refine⟨λh=>absurd h h1,λi I6=>?_⟩;obtain⟨o,FM,h3,h4,h5⟩:=h2 i I6;have:=h4 a w hi (wpAny X.P .any arr Q n (L.setIfInBounds i true)) Q λa' w' FL=>Tree.any hQ h5 a' w' FL
  unfold wpOp;simp only[h3];split
  ·rename_i hw;rw[if_pos hw]at this;exact .inl this
  ·rename_i hw;rw[if_neg hw]at this;exact this
theorem jE.B7{X:bq}{arr:Array Oper}{o:Oper}{st s s':St}(h:jE X arr o st s)(hw:∀a w,Inv X s a w->Inv X s' a w):jE X arr o st s':=
 λa w hi K Q hK=>h a w hi K Q λa' w' FL=>hK a' w' (hw a' w' FL)
def lq(k a b:Nat):Array Bool:=Array.replicate k true++ #[Nat.blt 0 a,Nat.blt 1 a,Nat.blt 0 b,Nat.blt 1 b,Nat.blt 2 b]
def vT(k a b:Nat):List Nat:=(bif Nat.blt a 2 then [k+a]else [])++(bif Nat.blt b 3 then [k+2+b]else [])
def vU(k:Nat)(arr:Array Oper):Bool:=(List.range 3).all λa=>(List.range 4).all λb=>decide (Region.ready .any arr (lq k a b)=vT k a b)
theorem mg{k:Nat}{arr:Array Oper}(h:vU k arr=true){a b:Nat}(ha:a<=2)(hb:b<=3):Region.ready .any arr (lq k a b)=vT k a b:=by
 have h1:=List.all_eq_true.1 h a (List.mem_range.2 (by omega));have h2:=List.all_eq_true.1 h1 b (List.mem_range.2 (by omega));exact of_decide_eq_true h2
theorem xk(k:Nat){a b:Nat}(ha:a<2)(hb:b<=3):(lq k a b).setIfInBounds (k+a) true=lq k (a+1) b:=by
 unfold lq;rw[Array.setIfInBounds_append_right (by simp)];simp only[Array.size_replicate,Nat.add_sub_cancel_left]
 congr 1
 match a,ha with
 |0,_=>rfl
 |1,_=>rfl
theorem xl(k:Nat){a b:Nat}(ha:a<=2)(hb:b<3):(lq k a b).setIfInBounds (k+2+b) true=lq k a (b+1):=by
 unfold lq;rw[Array.setIfInBounds_append_right (by simp;omega)];have e:k+2+b-(Array.replicate k true).size=2+b:=by simp;omega
 rw[e]
 congr 1
 match b,hb with
 |0,_=>rfl
 |1,_=>rfl
 |2,_=>rfl
theorem Tree.B8{X:bq}{arr:Array Oper}{k:Nat}(st:Nat->Nat->St)(c1 c2:Nat->Oper)(hg:vU k arr=true)(h1:∀a,a<2->arr[k+a]?=some (c1 a))(h2:∀b,b<3->arr[k+2+b]?=some (c2 b))
  (m1:∀a b,a<2->b<=3->jE X arr (c1 a) (st a b) (st (a+1) b)) (m2:∀a b,a<=2->b<3->jE X arr (c2 b) (st a b) (st a (b+1))):
  ∀(n a b:Nat),a<=2->b<=3->n=5-a-b->Tree X arr (st 2 3) n (lq k a b) (st a b)
 |0,a,b,ha,hb,hn=>by
  have e1:a=2:=by omega
  have e2:b=3:=by omega
  subst e1;subst e2;exact⟨by rw[mg hg ha hb];rfl,rfl⟩
 |n+1,a,b,ha,hb,hn=>by
  refine⟨?_,λi hi=>?_⟩
  ·rw[mg hg ha hb];unfold vT;by_cases h:a<2
   ·rw[show Nat.blt a 2=true by simpa [Nat.blt_eq] using h];simp
   ·have:b<3:=by omega
    rw[show Nat.blt b 3=true by simpa [Nat.blt_eq] using this];simp
  ·rw[mg hg ha hb]at hi;unfold vT at hi;rcases List.mem_append.1 hi with hi|hi
   ·cases hc:Nat.blt a 2 with
    |false=>rw[hc]at hi;simp at hi
    |true=>
     rw[hc]at hi;have LQ:a<2:=aQ hc;simp at hi;subst hi;exact⟨_,_,h1 a LQ,m1 a b LQ hb,by rw[xk k LQ hb];exact Tree.B8 st c1 c2 hg h1 h2 m1 m2 n (a+1) b (by omega) hb (by omega)⟩
   ·cases hc:Nat.blt b 3 with
    |false=>rw[hc]at hi;simp at hi
    |true=>
     rw[hc]at hi;have Gs:b<3:=aQ hc;simp at hi;subst hi;exact⟨_,_,h2 b Gs,m2 a b ha Gs,by rw[xl k ha Gs];exact Tree.B8 st c1 c2 hg h1 h2 m1 m2 n a (b+1) ha (by omega) (by omega)⟩
theorem qj{sl:List (Nat×V)}{d:Nat}{v:V}{o:Operand}(h:o≠.tmp d):ba ((d,v)::sl) o=ba sl o:=by
 cases o with
 |tmp t=>
  show get ((d,v)::sl) t=get sl t;rw[aX,if_neg (λe=>h (by rw[e]))]
 |_=>rfl
theorem DC.uP{P:Program}{n B:Nat}{post:Exit->St->Prop}{id:Nat}{ops:List Oper}{st:St}(k:Nat){Jq:List (Nat×V)}{MR:List (Nat×List M)}{H9:Hp}
  {d1 d2 d3 Qh Qi Qj Qk Ql T1 T2 T3 T4 s3 f3:Nat} {p1 p2 p3 p4 p5:String} {a1 a2 a3 a4 a5:Array Edge} {x1 y1 z1 x2 y2 z2:Operand}
  (hm:P.follows .mixedOrders=true) (hlen:ops.length=k+5)
  (hd:ops.drop k=[⟨some d1,.indexAddr T1 x1 y1,Qh,p1,a1,none⟩,⟨none,.store T2 (.tmp d1) z1,Qi,p2,a2,none⟩,⟨some d2,.indexAddr T3 x2 y2,Qj,p3,a3,none⟩,⟨some d3,.fieldAddr s3 (.tmp d2) f3,Qk,p4,a4,none⟩,⟨none,.store T4 (.tmp d3) z2,Ql,p5,a5,none⟩])
  (J9:yI k (ops.drop k)=true) (hg:vU k ops.toArray=true)
  (h1:∀s0 Oo,TF ⟨P,n,s0,Oo,[]⟩ ops.toArray (ops.take k) st λes FM=>qi ops.toArray (ops.take k) st.sl es=true/\FM=⟨Jq,MR,H9⟩)
  {e1 HI j GQ Oa n2 e3 HG ir Gn Oc o3 n4:Nat} {R8 P1:IntKind} {i1 i2:Int} {Ju JE MT F8 JF MU:List M} {m1 m2:M}
  (t1:aL P T1 e1) (t2:bh P e1 HI) (t3:bh P T2 n2) (t4:aL P T3 e3) (t5:bh P e3 HG) (t6:aI P s3 f3 o3) (t7:bh P T4 n4)
  (J_:Nat.blt d1 n=true) (LP:Nat.blt d2 n=true) (MV:Nat.blt d3 n=true)
  (OZ:ba Jq x1=some (.m (.bB j GQ Oa))) (MW:ba Jq y1=some (.m (.d (.int R8 i1)))) (hj:H9[j]?=some (.row false HI GQ Ju)) (O0:0<=i1) (Hr:i1<Oa)
  (GK:ba Jq z1=some (.m m1)) (Ge:dJ m1=some MT) (KE:Nat.beq MT.length n2=true) (LR:cm Ju (i1.toNat*HI) MT=some JE)
  (MQ:ba Jq x2=some (.m (.bB ir Gn Oc))) (LS:ba Jq y2=some (.m (.d (.int P1 i2)))) (I6:H9[ir]?=some (.row false HG Gn F8)) (O1:0<=i2) (IF:i2<Oc)
  (GO:ba Jq z2=some (.m m2)) (Gb:dJ m2=some MU) (Gs:Nat.beq MU.length n4=true) (KM:cm F8 (i2.toNat*HG+o3) MU=some JF)
  (FV:j≠ir) (IL:∀o∈[x1,y1,z1,x2,y2,z2],o≠.tmp d1/\o≠.tmp d2/\o≠.tmp d3) (ID:d1≠d2/\d1≠d3/\d2≠d3)
  (h3:post .normal ⟨(d3,.m (.bG ir Gn (i2.toNat*HG+o3)))::(d2,.m (.bG ir Gn (i2.toNat*HG)))::(d1,.m (.bG j GQ (i1.toNat*HI)))::Jq,MR,(H9.set j (.row false HI GQ JE)).set ir (.row false HG Gn JF)⟩):
  DC P n B (.region id ops.toArray true) st post:=by
 refine⟨.normal,_,h3,λs0 Oo _=>?_⟩;obtain⟨es,FM,GJ,Gl,rfl⟩:=h1 s0 Oo;intro a w hi;refine wp_region_any hm ?_;have IG:ops=ops.take k++ops.drop k:=(List.take_append_drop k ops).symm;have Ic:(ops.take k).length=k:=by rw[List.length_take];omega
 have Lw:(ops.drop k).length=5:=by rw[hd];rfl
 let g:Nat->Nat->St:= λa b=>⟨(bif Nat.blt 1 b then [(d3,V.m (.bG ir Gn (i2.toNat*HG+o3)))]else [])++((bif Nat.blt 0 b then [(d2,V.m (.bG ir Gn (i2.toNat*HG)))]else [])++((bif Nat.blt 0 a then [(d1,V.m (.bG j GQ (i1.toNat*HI)))]else [])++Jq)),MR,
  (λh:Hp=>bif Nat.blt 2 b then h.set ir (.row false HG Gn JF)else h) (bif Nat.blt 1 a then H9.set j (.row false HI GQ JE)else H9)⟩
 have Qm:(H9.set ir (.row false HG Gn JF))[j]?=some (.row false HI GQ Ju):=by rw[List.getElem?_set_ne (Ne.symm FV)];exact hj
 have R9:(H9.set j (.row false HI GQ JE))[ir]?=some (.row false HG Gn F8):=by rw[List.getElem?_set_ne FV];exact I6
 have Gc:∀o∈[x1,y1,z1,x2,y2,z2],∀a b,ba (g a b).sl o=ba Jq o:=by
  intro o ho a b;obtain⟨q1,q2,q3⟩:=IL o ho;show ba ((bif Nat.blt 1 b then [(d3,V.m (.bG ir Gn (i2.toNat*HG+o3)))]else [])++((bif Nat.blt 0 b then [(d2,V.m (.bG ir Gn (i2.toNat*HG)))]else [])++((bif Nat.blt 0 a then [(d1,V.m (.bG j GQ (i1.toNat*HI)))]else [])++Jq))) o=_;cases Nat.blt 1 b<;>cases Nat.blt 0 b<;>cases Nat.blt 0 a<;>simp only[cond_true,cond_false,List.nil_append,List.cons_append,qj q1,qj q2,qj q3]
 have hw:∀{sl Gy:List (Nat×V)} {H:Hp},(∀t,get Gy t=get sl t)->∀a w,Inv (⟨P,n,s0,Oo,[]⟩:bq) ⟨sl,MR,H⟩ a w->Inv (⟨P,n,s0,Oo,[]⟩:bq) ⟨Gy,MR,H⟩ a w:=
  λhs a w hi=>hi.fJ (λt v h=>by rw[<-hs];exact h) λ_=>rfl
 have Qn:∀b,ba (g 1 b).sl (.tmp d1)=some (.m (.bG j GQ (i1.toNat*HI))):=by
  intro b;show get ((bif Nat.blt 1 b then [(d3,V.m (.bG ir Gn (i2.toNat*HG+o3)))]else [])++((bif Nat.blt 0 b then [(d2,V.m (.bG ir Gn (i2.toNat*HG)))]else [])++([(d1,V.m (.bG j GQ (i1.toNat*HI)))]++Jq))) d1=_;cases Nat.blt 1 b<;>cases Nat.blt 0 b<;>simp[aX,ID.1,ID.2.1,Ne.symm ID.1,Ne.symm ID.2.1]
 have T:=Tree.B8 (X:=⟨P,n,s0,Oo,[]⟩) (arr:=ops.toArray) (k:=k) g
  (λa=>bif Nat.beq a 0 then⟨some d1,.indexAddr T1 x1 y1,Qh,p1,a1,none⟩else⟨none,.store T2 (.tmp d1) z1,Qi,p2,a2,none⟩)
  (λb=>bif Nat.beq b 0 then⟨some d2,.indexAddr T3 x2 y2,Qj,p3,a3,none⟩else bif Nat.beq b 1 then⟨some d3,.fieldAddr s3 (.tmp d2) f3,Qk,p4,a4,none⟩else⟨none,.store T4 (.tmp d3) z2,Ql,p5,a5,none⟩) hg ?_ ?_ ?_ ?_ 5 0 0 (by omega) (by omega) rfl
 ·have key:=De (X:=⟨P,n,s0,Oo,[]⟩) (A:=ops.take k) (B:=ops.drop k) (arr:=ops.toArray) (Q:= λe a' w'=>∃FM,(e=Exit.normal/\FM=g 2 3)/\Inv (⟨P,n,s0,Oo,[]⟩:bq) FM a' w') (λ_=>True) trivial (by rw[<-IG]) GJ.fi Gl (.all λ_ _ _ _=>trivial) (by rw[Ic];exact J9) (by
   intro a' w' FL;rw[Ic,Lw];have:=Tree.any (Q:= λe a' w'=>∃FM,(e=Exit.normal/\FM=g 2 3)/\Inv (⟨P,n,s0,Oo,[]⟩:bq) FM a' w') (λa w hz=>⟨_,⟨rfl,rfl⟩,hz⟩) T a' w' FL;exact this)
  obtain⟨σ,FC,rfl,Jh⟩:=hi;have:=key a _ ⟨{σ with w:={σ.w with drawn:=σ.w.drawn+1} },FC,rfl,Jh.ext (dq.drew _)⟩;rw[Ic,Lw,<-hlen]at this;exact this
 ·intro a ha;have e:ops.toArray[k+a]?=(ops.drop k)[a]?:=by rw[List.getElem?_toArray,List.getElem?_drop]
  rw[e,hd]
  match a,ha with
  |0,_=>rfl
  |1,_=>rfl
 ·intro b hb;have e:ops.toArray[k+2+b]?=(ops.drop k)[2+b]?:=by rw[List.getElem?_toArray,List.getElem?_drop,Nat.add_assoc]
  rw[e,hd]
  match b,hb with
  |0,_=>rfl
  |1,_=>rfl
  |2,_=>rfl
 ·intro a b ha hb
  match a,ha with
  |0,_=>
   have hH:(g 0 b).H[j]?=some (.row false HI GQ Ju):=by
    show(bif Nat.blt 2 b then H9.set ir (.row false HG Gn JF)else H9)[j]?=_;cases Nat.blt 2 b with
    |true=>exact Qm
    |false=>exact hj
   refine jE.B7 ((jI (st:=g 0 b) (by show ba _ x1=_;rw[Gc x1 (by simp)];exact OZ) (by show ba _ y1=_;rw[Gc y1 (by simp)];exact MW) hH O0 Hr).An rfl rfl (aQ J_)) ?_;refine hw λt=>?_
   show get ((bif Nat.blt 1 b then [(d3,V.m (.bG ir Gn (i2.toNat*HG+o3)))]else [])++((bif Nat.blt 0 b then [(d2,V.m (.bG ir Gn (i2.toNat*HG)))]else [])++([(d1,V.m (.bG j GQ (i1.toNat*HI)))]++Jq))) t=get ((d1,V.m (.bG j GQ (i1.toNat*HI)))::((bif Nat.blt 1 b then [(d3,V.m (.bG ir Gn (i2.toNat*HG+o3)))]else [])++((bif Nat.blt 0 b then [(d2,V.m (.bG ir Gn (i2.toNat*HG)))]else [])++([]++Jq)))) t;cases Nat.blt 1 b<;>cases Nat.blt 0 b<;>simp only[cond_true,cond_false,List.nil_append,List.cons_append,aX]<;>(repeat' split)<;>first|rfl|(exfalso;subst_vars;first|exact ID.1 rfl|exact ID.2.1 rfl|exact ID.2.2 rfl|(rename_i h _;exact ID.1 h)|omega)
  |1,_=>
   have hH:(g 1 b).H[j]?=some (.row false HI GQ Ju):=by
    show(bif Nat.blt 2 b then H9.set ir (.row false HG Gn JF)else H9)[j]?=_;cases Nat.blt 2 b with
    |true=>exact Qm
    |false=>exact hj
   refine jE.B7 ((jH (st:=g 1 b) (Qn b) (by show ba _ z1=_;rw[Gc z1 (by simp)];exact GK) hH (by rw[(bQ Ge).1];exact Nat.eq_of_beq_eq_true KE) (bQ Ge).2 (by rw[(bQ Ge).1];exact LR)).zu rfl rfl) ?_;intro a w hi;have e:(g 1 b).H.set j (.row false HI GQ JE)=(g 2 b).H:=by
    show(bif Nat.blt 2 b then H9.set ir (.row false HG Gn JF)else H9).set j _=(bif Nat.blt 2 b then(H9.set j (.row false HI GQ JE)).set ir (.row false HG Gn JF)else H9.set j (.row false HI GQ JE));cases Nat.blt 2 b with
    |true=>exact List.set_comm _ _ (Ne.symm FV)
    |false=>rfl
   rw[e]at hi;exact hi
 ·intro a b ha hb;have hH:(g a 0).H[ir]?=some (.row false HG Gn F8):=by
   show(bif Nat.blt 1 a then H9.set j (.row false HI GQ JE)else H9)[ir]?=_;cases Nat.blt 1 a with
   |true=>exact R9
   |false=>exact I6
  match b,hb with
  |0,_=>exact(jI (st:=g a 0) (by show ba _ x2=_;rw[Gc x2 (by simp)];exact MQ) (by show ba _ y2=_;rw[Gc y2 (by simp)];exact LS) hH O1 IF).An rfl rfl (aQ LP)
  |1,_=>exact(nD (st:=g a 1) (by show get ((d2,V.m (.bG ir Gn (i2.toNat*HG)))::_) d2=_;rw[aX,if_pos rfl])).An rfl rfl (aQ MV)
  |2,_=>exact(jH (st:=g a 2) (by show get ((d3,V.m (.bG ir Gn (i2.toNat*HG+o3)))::_) d3=_;rw[aX,if_pos rfl]) (by show ba _ z2=_;rw[Gc z2 (by simp)];exact GO) hH (by rw[(bQ Gb).1];exact Nat.eq_of_beq_eq_true Gs) (bQ Gb).2 (by rw[(bQ Gb).1];exact KM)).zu rfl rfl
theorem Wk.ne{F0:Nat->Prop}{H0 H:Hp}{r:List As}{i j:Nat}{o o':Ob}(w:Wk F0 H0 (.ob i o:: .ob j o'::r) H):i≠j:=by
 obtain⟨F,⟨F1,F2,⟨_,h1⟩,⟨F3,F4,⟨_,h2⟩,_,_,h3⟩,h4,_⟩,_⟩:=w;rintro rfl;exact h4 i ((h1 i).2 rfl) ((h3 i).2 (.inl ((h2 i).2 rfl)))
end Go.Mt
