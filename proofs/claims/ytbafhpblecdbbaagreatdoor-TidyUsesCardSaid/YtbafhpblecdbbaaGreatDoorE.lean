/- A part of the proof of the last text of this claim, without conditions. -/
import Derived.Test.YtbafhpblecdbbaaGreatDoorD
set_option maxRecDepth 4000
set_option linter.all false
namespace Go.Ps
open Go.Mt Go.Sm
def kj(H:Hp)(n:Nat):M:=if n=0 then .d (.sl [])else .bZ H.length 1 0
def km(H:Hp)(ec n:Nat):Hp:=if n=0 then H else H++[.row true ec 1 []]
def iu{α:Type}(L:List (List α))(i:Nat)(h:i<L.length):(L.take (i+1)).flatten=(L.take i).flatten++L[i]:=by
 rw[ah5 h,List.flatten_append];simp
def eA{α:Type}(L:List (List α))(i:Nat):(L.take i).flatten.length<=L.flatten.length:=by
 have:L.flatten=(L.take i).flatten++(L.drop i).flatten:=by rw[<-List.flatten_append,ai3]
 rw[this,ah6];omega
end Go.Ps
namespace Go.Proofs.Pz
open Go.Mt Go.Sm Go.Ps Go.Proofs
open Tryz
def GD(n:Nat)(H:Hp)(a:n<=30000000):CT prog 165 [.d (.sl []),.d (.int .i64 n)] H λr h=>r=kj H n/\h=km H 4 n:=by
 refine My func165 W ntmps165 W λa b=>?_
 refine MD ?_;refine Ms ?_;refine TC.region<|aq W W<|ay W W W W<|TL.nil ?_;refine Ms ?_;refine TC.cond W (λa=>by have:=aic a;omega) (λa=>?_);refine TC.skip ?_;refine Ms ?_;refine TC.region<|aq W W<|aq W W<|tZ W W<|aq W W<|aY W W W<|cj W W W (by simp) ?_
 (refine cj W W W (by simp;omega) ?_;rw[show((n:Int)-(0-((List.length ([]:List (List D)):Nat):Int)))=(n:Int) by simp])
 refine MX ?_;refine MD ?_;refine Ms ?_;refine TC.cond W (λa=>?_) (λa=>?_)
 .have b:0<n:=by have:=aic a;omega
  refine Ms ?_;refine TC.region<|TL.go ?_;refine rG W W W<|aq W W<|pG (len:=n) W W W W (by rfl) b (by omega) (by omega)<|TL.go ?_;refine oY true W W W (by exact ajF) (by simp) (by simp) ?_;refine MX ?_;refine Ms ?_;refine TC.region<|TL.go ?_;refine TL.nil<|TC.ret ⟨_,W,?_,?_⟩
  .simp only[kj,aid (show ¬n=0 by omega)];rfl
  .simp only[km,aid (show ¬n=0 by omega)];simp
 .refine TC.skip ?_;have b:n=0:=by have:=aie a;omega
  refine Ms ?_;refine TC.region<|TL.go ?_;refine TL.nil<|TC.ret ⟨_,W,?_,?_⟩
  .simp only[kj,air b];rfl
  .simp only[km,air b]
def CG(L:List (List (List D)))(d:∀l∈L,∀r∈l,r.length=4)(t:L.length<=1000)(g:L.flatten.length<=30000000):
  PT prog 112 [.sl (L.map λl=>[D.sl l])] (·=[.sl L.flatten]):=by
 refine ML (My func112 W ntmps112 W λu v=>?_)
 repeat refine TC.seq ?_
 refine OZ ?_
 repeat refine TC.seq ?_
 refine OZ ?_
 repeat refine TC.seq ?_
 refine TC.region<|aq W W ?_
 (refine aY W W W ?_;rw[ah8])
 refine MX ?_;refine Ms ?_;refine TC.block<|M9 (λk s=>∃(i:Nat),s=⟨[(11,.m (.d (.int .i64 i))),(10,.m (.d (.int .i64 (L.length:Nat)))),(9,.m (.d (.sl (L.map λl=>[D.sl l])))),(3,.m (.d (.int .i64 ((L.take i).flatten.length:Nat)))),(0,.m (.d (.sl (L.map λl=>[D.sl l]))))],[],[]⟩/\i<=L.length/\k=L.length-i) L.length _
  ⟨0,rfl,by omega,rfl⟩ W ?_
 rintro k s ⟨i,rfl,e,rfl⟩;have j:=eA L i;refine MD ?_;refine Ms ?_;refine TC.cond W (λa=>?_) (λa=>?_)
 .have f:i<L.length:=by have:=aic a;omega
  have c:=iu L i f;have h:=eA L (i+1);rw[c,ah6]at h;refine TC.skip ?_;refine Ms ?_;refine TC.block ?_;refine Ms ?_;refine TC.region<|bH W W W (ah7 i) (r:=[.sl L[i]]) (by simp) W<|MX ?_;refine MD ?_;refine Ms ?_;refine TC.region<|aq W W<|ay W W W W<|TL.nil ?_;refine Ms ?_;refine TC.cond W (λa=>by have:=aic a;omega) (λa=>?_);refine TC.skip ?_;refine Ms ?_;refine TC.region<|TL.go ?_;refine TL.nil<|again (k':=L.length-(i+1)) (by omega) ⟨i+1,rfl,by omega,rfl⟩ W (kc (by simp;rfl)<|kc (rfl)<|kc (rfl)<|kc (by rw[c,ah6,ak2];rfl)<|kc (rfl)<|rfl)
 refine TC.exit ?_;obtain rfl:i=L.length:=by have:=aie a;omega
 rw[aih];refine Ms ?_;refine TC.region<|TL.go ?_
 (refine jj (GD L.flatten.length [] g) W W ?_;rintro _ _ ⟨rfl,rfl⟩)
 refine MX ?_;refine Ms ?_;refine TC.region<|aq W W ?_
 (refine aY W W W ?_;rw[ah8])
 refine MX ?_;refine Ms ?_;refine TC.block ?_;by_cases b:L.flatten.length=0
 .rw[kj,km,air b,air b];refine M9 (λk s=>∃(i:Nat),s=⟨[(27,.m (.d (.int .i64 i))),(26,.m (.d (.int .i64 (L.length:Nat)))),(25,.m (.d (.sl (L.map λl=>[D.sl l])))),(6,.m (.d (.sl [])))],[],[]⟩/\i<=L.length/\k=L.length-i) L.length _
   ⟨0,rfl,by omega,rfl⟩ W ?_
  rintro k s ⟨i,rfl,e,rfl⟩;refine MD ?_;refine Ms ?_;refine TC.cond W (λa=>?_) (λa=>?_)
  .have c:i<L.length:=by have:=aic a;omega
   have h:L[i]=[]:=by
    have f:=ajc b;rw[akd]at f;exact f _ (aif c)
   refine TC.skip ?_;refine Ms ?_;refine TC.block ?_;refine Ms ?_;refine TC.region<|bH W W W (ah7 i) (r:=[.sl []]) (by simp[c,h]) W<|MX ?_;refine MD ?_;refine Ms ?_;refine TC.region<|TL.go ?_;refine TL.nil<|again (k':=L.length-(i+1)) (by omega) ⟨i+1,rfl,by omega,rfl⟩ W (kc (by simp;rfl)<|kc (rfl)<|kc (rfl)<|kc (rfl)<|rfl)
  refine TC.exit ?_;refine Ms ?_;refine TC.region<|TL.go ?_;refine TL.nil<|TC.ret ⟨_,W,[_],W,by rw[ajc b]⟩
 .rw[kj,km,aid b,aid b];refine M9 (λk s=>∃(i:Nat),s=⟨[(27,.m (.d (.int .i64 i))),(26,.m (.d (.int .i64 (L.length:Nat)))),(25,.m (.d (.sl (L.map λl=>[D.sl l])))),(6,.m (.bZ 0 (i+1) (L.take i).flatten.length))],[],[.row true 4 (i+1) (aM (L.take i).flatten)]⟩/\i<=L.length/\k=L.length-i) L.length _
   ⟨0,rfl,by omega,rfl⟩ W ?_
  rintro k s ⟨i,rfl,e,rfl⟩;have j:=eA L i;refine MD ?_;refine Ms ?_;refine TC.cond W (λa=>?_) (λa=>?_)
  .have f:i<L.length:=by have:=aic a;omega
   have c:=iu L i f;have m:=eA L (i+1);rw[c,ah6]at m;refine TC.skip ?_;refine Ms ?_;refine TC.block ?_;refine Ms ?_;refine TC.region<|bH W W W (ah7 i) (r:=[.sl L[i]]) (by simp) W<|MX ?_;refine Ms ?_;refine TC.region<|TL.go ?_;refine dr W W W W (by rfl) (by exact d _ (aif f)) (by omega) (by omega)<|MX ?_;refine Ms ?_;refine TC.region<|TL.go ?_;refine TL.nil<|again (k':=L.length-(i+1)) (by omega) ⟨i+1,rfl,by omega,rfl⟩ (by rw[c];simp[aM]) (kc (by simp;rfl)<|kc (rfl)<|kc (rfl)<|kc (by rw[c,ah6];rfl)<|rfl)
  refine TC.exit ?_;obtain rfl:i=L.length:=by have:=aie a;omega
  rw[aih];refine Ms ?_;refine TC.region<|TL.go ?_;refine TL.nil<|TC.aR 2 W (Acc.view (n:=4) (i:=0) (rs:=L.flatten) (.inr ⟨by intro h;rw[h]at b;exact b W,_,W,W⟩) (by intro r p;obtain⟨l,o,q⟩:=akP.1 p;exact d l o r q))<|TC.ret ⟨_,W,[_],W,W⟩
def GF(n:Nat)(H:Hp)(a:n<=30000000):CT prog 118 [.d (.sl []),.d (.int .i64 n)] H λr h=>r=kj H n/\h=km H 15 n:=by
 refine My func118 W ntmps118 W λa b=>?_
 refine MD ?_;refine Ms ?_;refine TC.region<|aq W W<|ay W W W W<|TL.nil ?_;refine Ms ?_;refine TC.cond W (λa=>by have:=aic a;omega) (λa=>?_);refine TC.skip ?_;refine Ms ?_;refine TC.region<|aq W W<|aq W W<|tZ W W<|aq W W<|aY W W W<|cj W W W (by simp) ?_
 (refine cj W W W (by simp;omega) ?_;rw[show((n:Int)-(0-((List.length ([]:List (List D)):Nat):Int)))=(n:Int) by simp])
 refine MX ?_;refine MD ?_;refine Ms ?_;refine TC.cond W (λa=>?_) (λa=>?_)
 .have b:0<n:=by have:=aic a;omega
  refine Ms ?_;refine TC.region<|TL.go ?_;refine rG W W W<|aq W W<|pG (len:=n) W W W W (by rfl) b (by omega) (by omega)<|TL.go ?_;refine oY true W W W (by exact ajF) (by simp) (by simp) ?_;refine MX ?_;refine Ms ?_;refine TC.region<|TL.go ?_;refine TL.nil<|TC.ret ⟨_,W,?_,?_⟩
  .simp only[kj,aid (show ¬n=0 by omega)];rfl
  .simp only[km,aid (show ¬n=0 by omega)];simp
 .refine TC.skip ?_;have b:n=0:=by have:=aie a;omega
  refine Ms ?_;refine TC.region<|TL.go ?_;refine TL.nil<|TC.ret ⟨_,W,?_,?_⟩
  .simp only[kj,air b];rfl
  .simp only[km,air b]
def wB(L:List (List (List D)))(d:∀l∈L,∀r∈l,r.length=15)(t:L.length<=1000)(g:L.flatten.length<=30000000):
  PT prog 61 [.sl (L.map λl=>[D.sl l])] (·=[.sl L.flatten]):=by
 refine ML (My func61 W ntmps61 W λu v=>?_)
 repeat refine TC.seq ?_
 refine OZ ?_
 repeat refine TC.seq ?_
 refine OZ ?_
 repeat refine TC.seq ?_
 refine TC.region<|aq W W ?_
 (refine aY W W W ?_;rw[ah8])
 refine MX ?_;refine Ms ?_;refine TC.block<|M9 (λk s=>∃(i:Nat),s=⟨[(11,.m (.d (.int .i64 i))),(10,.m (.d (.int .i64 (L.length:Nat)))),(9,.m (.d (.sl (L.map λl=>[D.sl l])))),(3,.m (.d (.int .i64 ((L.take i).flatten.length:Nat)))),(0,.m (.d (.sl (L.map λl=>[D.sl l]))))],[],[]⟩/\i<=L.length/\k=L.length-i) L.length _
  ⟨0,rfl,by omega,rfl⟩ W ?_
 rintro k s ⟨i,rfl,e,rfl⟩;have j:=eA L i;refine MD ?_;refine Ms ?_;refine TC.cond W (λa=>?_) (λa=>?_)
 .have f:i<L.length:=by have:=aic a;omega
  have c:=iu L i f;have h:=eA L (i+1);rw[c,ah6]at h;refine TC.skip ?_;refine Ms ?_;refine TC.block ?_;refine Ms ?_;refine TC.region<|bH W W W (ah7 i) (r:=[.sl L[i]]) (by simp) W<|MX ?_;refine MD ?_;refine Ms ?_;refine TC.region<|aq W W<|ay W W W W<|TL.nil ?_;refine Ms ?_;refine TC.cond W (λa=>by have:=aic a;omega) (λa=>?_);refine TC.skip ?_;refine Ms ?_;refine TC.region<|TL.go ?_;refine TL.nil<|again (k':=L.length-(i+1)) (by omega) ⟨i+1,rfl,by omega,rfl⟩ W (kc (by simp;rfl)<|kc (rfl)<|kc (rfl)<|kc (by rw[c,ah6,ak2];rfl)<|kc (rfl)<|rfl)
 refine TC.exit ?_;obtain rfl:i=L.length:=by have:=aie a;omega
 rw[aih];refine Ms ?_;refine TC.region<|TL.go ?_
 (refine jj (GF L.flatten.length [] g) W W ?_;rintro _ _ ⟨rfl,rfl⟩)
 refine MX ?_;refine Ms ?_;refine TC.region<|aq W W ?_
 (refine aY W W W ?_;rw[ah8])
 refine MX ?_;refine Ms ?_;refine TC.block ?_;by_cases b:L.flatten.length=0
 .rw[kj,km,air b,air b];refine M9 (λk s=>∃(i:Nat),s=⟨[(27,.m (.d (.int .i64 i))),(26,.m (.d (.int .i64 (L.length:Nat)))),(25,.m (.d (.sl (L.map λl=>[D.sl l])))),(6,.m (.d (.sl [])))],[],[]⟩/\i<=L.length/\k=L.length-i) L.length _
   ⟨0,rfl,by omega,rfl⟩ W ?_
  rintro k s ⟨i,rfl,e,rfl⟩;refine MD ?_;refine Ms ?_;refine TC.cond W (λa=>?_) (λa=>?_)
  .have c:i<L.length:=by have:=aic a;omega
   have h:L[i]=[]:=by
    have f:=ajc b;rw[akd]at f;exact f _ (aif c)
   refine TC.skip ?_;refine Ms ?_;refine TC.block ?_;refine Ms ?_;refine TC.region<|bH W W W (ah7 i) (r:=[.sl []]) (by simp[c,h]) W<|MX ?_;refine MD ?_;refine Ms ?_;refine TC.region<|TL.go ?_;refine TL.nil<|again (k':=L.length-(i+1)) (by omega) ⟨i+1,rfl,by omega,rfl⟩ W (kc (by simp;rfl)<|kc (rfl)<|kc (rfl)<|kc (rfl)<|rfl)
  refine TC.exit ?_;refine Ms ?_;refine TC.region<|TL.go ?_;refine TL.nil<|TC.ret ⟨_,W,[_],W,by rw[ajc b]⟩
 .rw[kj,km,aid b,aid b];refine M9 (λk s=>∃(i:Nat),s=⟨[(27,.m (.d (.int .i64 i))),(26,.m (.d (.int .i64 (L.length:Nat)))),(25,.m (.d (.sl (L.map λl=>[D.sl l])))),(6,.m (.bZ 0 (i+1) (L.take i).flatten.length))],[],[.row true 15 (i+1) (aM (L.take i).flatten)]⟩/\i<=L.length/\k=L.length-i) L.length _
   ⟨0,rfl,by omega,rfl⟩ W ?_
  rintro k s ⟨i,rfl,e,rfl⟩;have j:=eA L i;refine MD ?_;refine Ms ?_;refine TC.cond W (λa=>?_) (λa=>?_)
  .have f:i<L.length:=by have:=aic a;omega
   have c:=iu L i f;have m:=eA L (i+1);rw[c,ah6]at m;refine TC.skip ?_;refine Ms ?_;refine TC.block ?_;refine Ms ?_;refine TC.region<|bH W W W (ah7 i) (r:=[.sl L[i]]) (by simp) W<|MX ?_;refine Ms ?_;refine TC.region<|TL.go ?_;refine dr W W W W (by rfl) (by exact d _ (aif f)) (by omega) (by omega)<|MX ?_;refine Ms ?_;refine TC.region<|TL.go ?_;refine TL.nil<|again (k':=L.length-(i+1)) (by omega) ⟨i+1,rfl,by omega,rfl⟩ (by rw[c];simp[aM]) (kc (by simp;rfl)<|kc (rfl)<|kc (rfl)<|kc (by rw[c,ah6];rfl)<|rfl)
  refine TC.exit ?_;obtain rfl:i=L.length:=by have:=aie a;omega
  rw[aih];refine Ms ?_;refine TC.region<|TL.go ?_;refine TL.nil<|TC.aR 2 W (Acc.view (n:=15) (i:=0) (rs:=L.flatten) (.inr ⟨by intro h;rw[h]at b;exact b W,_,W,W⟩) (by intro r p;obtain⟨l,o,q⟩:=akP.1 p;exact d l o r q))<|TC.ret ⟨_,W,[_],W,W⟩
def GG(n:Nat)(H:Hp)(a:n<=30000000):CT prog 253 [.d (.sl []),.d (.int .i64 n)] H λr h=>r=kj H n/\h=km H 2 n:=by
 refine My func253 W ntmps253 W λa b=>?_
 refine MD ?_;refine Ms ?_;refine TC.region<|aq W W<|ay W W W W<|TL.nil ?_;refine Ms ?_;refine TC.cond W (λa=>by have:=aic a;omega) (λa=>?_);refine TC.skip ?_;refine Ms ?_;refine TC.region<|aq W W<|aq W W<|tZ W W<|aq W W<|aY W W W<|cj W W W (by simp) ?_
 (refine cj W W W (by simp;omega) ?_;rw[show((n:Int)-(0-((List.length ([]:List (List D)):Nat):Int)))=(n:Int) by simp])
 refine MX ?_;refine MD ?_;refine Ms ?_;refine TC.cond W (λa=>?_) (λa=>?_)
 .have b:0<n:=by have:=aic a;omega
  refine Ms ?_;refine TC.region<|TL.go ?_;refine rG W W W<|aq W W<|pG (len:=n) W W W W (by rfl) b (by omega) (by omega)<|TL.go ?_;refine oY true W W W (by exact ajF) (by simp) (by simp) ?_;refine MX ?_;refine Ms ?_;refine TC.region<|TL.go ?_;refine TL.nil<|TC.ret ⟨_,W,?_,?_⟩
  .simp only[kj,aid (show ¬n=0 by omega)];rfl
  .simp only[km,aid (show ¬n=0 by omega)];simp
 .refine TC.skip ?_;have b:n=0:=by have:=aie a;omega
  refine Ms ?_;refine TC.region<|TL.go ?_;refine TL.nil<|TC.ret ⟨_,W,?_,?_⟩
  .simp only[kj,air b];rfl
  .simp only[km,air b]
def CH(L:List (List (List D)))(d:∀l∈L,∀r∈l,r.length=2)(t:L.length<=1000)(g:L.flatten.length<=30000000):
  PT prog 208 [.sl (L.map λl=>[D.sl l])] (·=[.sl L.flatten]):=by
 refine ML (My func208 W ntmps208 W λu v=>?_)
 repeat refine TC.seq ?_
 refine OZ ?_
 repeat refine TC.seq ?_
 refine OZ ?_
 repeat refine TC.seq ?_
 refine TC.region<|aq W W ?_
 (refine aY W W W ?_;rw[ah8])
 refine MX ?_;refine Ms ?_;refine TC.block<|M9 (λk s=>∃(i:Nat),s=⟨[(11,.m (.d (.int .i64 i))),(10,.m (.d (.int .i64 (L.length:Nat)))),(9,.m (.d (.sl (L.map λl=>[D.sl l])))),(3,.m (.d (.int .i64 ((L.take i).flatten.length:Nat)))),(0,.m (.d (.sl (L.map λl=>[D.sl l]))))],[],[]⟩/\i<=L.length/\k=L.length-i) L.length _
  ⟨0,rfl,by omega,rfl⟩ W ?_
 rintro k s ⟨i,rfl,e,rfl⟩;have j:=eA L i;refine MD ?_;refine Ms ?_;refine TC.cond W (λa=>?_) (λa=>?_)
 .have f:i<L.length:=by have:=aic a;omega
  have c:=iu L i f;have h:=eA L (i+1);rw[c,ah6]at h;refine TC.skip ?_;refine Ms ?_;refine TC.block ?_;refine Ms ?_;refine TC.region<|bH W W W (ah7 i) (r:=[.sl L[i]]) (by simp) W<|MX ?_;refine MD ?_;refine Ms ?_;refine TC.region<|aq W W<|ay W W W W<|TL.nil ?_;refine Ms ?_;refine TC.cond W (λa=>by have:=aic a;omega) (λa=>?_);refine TC.skip ?_;refine Ms ?_;refine TC.region<|TL.go ?_;refine TL.nil<|again (k':=L.length-(i+1)) (by omega) ⟨i+1,rfl,by omega,rfl⟩ W (kc (by simp;rfl)<|kc (rfl)<|kc (rfl)<|kc (by rw[c,ah6,ak2];rfl)<|kc (rfl)<|rfl)
 refine TC.exit ?_;obtain rfl:i=L.length:=by have:=aie a;omega
 rw[aih];refine Ms ?_;refine TC.region<|TL.go ?_
 (refine jj (GG L.flatten.length [] g) W W ?_;rintro _ _ ⟨rfl,rfl⟩)
 refine MX ?_;refine Ms ?_;refine TC.region<|aq W W ?_
 (refine aY W W W ?_;rw[ah8])
 refine MX ?_;refine Ms ?_;refine TC.block ?_;by_cases b:L.flatten.length=0
 .rw[kj,km,air b,air b];refine M9 (λk s=>∃(i:Nat),s=⟨[(27,.m (.d (.int .i64 i))),(26,.m (.d (.int .i64 (L.length:Nat)))),(25,.m (.d (.sl (L.map λl=>[D.sl l])))),(6,.m (.d (.sl [])))],[],[]⟩/\i<=L.length/\k=L.length-i) L.length _
   ⟨0,rfl,by omega,rfl⟩ W ?_
  rintro k s ⟨i,rfl,e,rfl⟩;refine MD ?_;refine Ms ?_;refine TC.cond W (λa=>?_) (λa=>?_)
  .have c:i<L.length:=by have:=aic a;omega
   have h:L[i]=[]:=by
    have f:=ajc b;rw[akd]at f;exact f _ (aif c)
   refine TC.skip ?_;refine Ms ?_;refine TC.block ?_;refine Ms ?_;refine TC.region<|bH W W W (ah7 i) (r:=[.sl []]) (by simp[c,h]) W<|MX ?_;refine MD ?_;refine Ms ?_;refine TC.region<|TL.go ?_;refine TL.nil<|again (k':=L.length-(i+1)) (by omega) ⟨i+1,rfl,by omega,rfl⟩ W (kc (by simp;rfl)<|kc (rfl)<|kc (rfl)<|kc (rfl)<|rfl)
  refine TC.exit ?_;refine Ms ?_;refine TC.region<|TL.go ?_;refine TL.nil<|TC.ret ⟨_,W,[_],W,by rw[ajc b]⟩
 .rw[kj,km,aid b,aid b];refine M9 (λk s=>∃(i:Nat),s=⟨[(27,.m (.d (.int .i64 i))),(26,.m (.d (.int .i64 (L.length:Nat)))),(25,.m (.d (.sl (L.map λl=>[D.sl l])))),(6,.m (.bZ 0 (i+1) (L.take i).flatten.length))],[],[.row true 2 (i+1) (aM (L.take i).flatten)]⟩/\i<=L.length/\k=L.length-i) L.length _
   ⟨0,rfl,by omega,rfl⟩ W ?_
  rintro k s ⟨i,rfl,e,rfl⟩;have j:=eA L i;refine MD ?_;refine Ms ?_;refine TC.cond W (λa=>?_) (λa=>?_)
  .have f:i<L.length:=by have:=aic a;omega
   have c:=iu L i f;have m:=eA L (i+1);rw[c,ah6]at m;refine TC.skip ?_;refine Ms ?_;refine TC.block ?_;refine Ms ?_;refine TC.region<|bH W W W (ah7 i) (r:=[.sl L[i]]) (by simp) W<|MX ?_;refine Ms ?_;refine TC.region<|TL.go ?_;refine dr W W W W (by rfl) (by exact d _ (aif f)) (by omega) (by omega)<|MX ?_;refine Ms ?_;refine TC.region<|TL.go ?_;refine TL.nil<|again (k':=L.length-(i+1)) (by omega) ⟨i+1,rfl,by omega,rfl⟩ (by rw[c];simp[aM]) (kc (by simp;rfl)<|kc (rfl)<|kc (rfl)<|kc (by rw[c,ah6];rfl)<|rfl)
  refine TC.exit ?_;obtain rfl:i=L.length:=by have:=aie a;omega
  rw[aih];refine Ms ?_;refine TC.region<|TL.go ?_;refine TL.nil<|TC.aR 2 W (Acc.view (n:=2) (i:=0) (rs:=L.flatten) (.inr ⟨by intro h;rw[h]at b;exact b W,_,W,W⟩) (by intro r p;obtain⟨l,o,q⟩:=akP.1 p;exact d l o r q))<|TC.ret ⟨_,W,[_],W,W⟩
end Go.Proofs.Pz
namespace Go.Ps
open Go.Mt Go.Sm
def vD:∀(a b:List aD) (s:DS),dE (a++b) s=((dE a s).1++(dE b (dE a s).2.2).1,(dE a s).2.1++(dE b (dE a s).2.2).2.1,(dE b (dE a s).2.2).2.2)
 |[],b,s=>by simp[dE]
 |q::a,b,s=>by simp[dE,vD a b]
def GI(q:aD)(s:DS):dE [q] s=mR q s:=by simp[dE]
def Eh{l:List aD}{i:Nat}(h:i<l.length)(s:DS):dE (l.take (i+1)) s=((dE (l.take i) s).1++(mR l[i] (dE (l.take i) s).2.2).1,(dE (l.take i) s).2.1++(mR l[i] (dE (l.take i) s).2.2).2.1,(mR l[i] (dE (l.take i) s).2.2).2.2):=by
 rw[ah5 h,vD,GI]
def vE:∀(a b:List aH) (s:DS),cc (a++b) s=((cc a s).1++(cc b (cc a s).2).1,(cc b (cc a s).2).2)
 |[],b,s=>by simp[cc]
 |q::a,b,s=>by simp[cc,vE a b]
def Ei{l:List aH}{i:Nat}(h:i<l.length)(s:DS):cc (l.take (i+1)) s=((cc (l.take i) s).1++[(vy l[i] (cc (l.take i) s).2).1],(vy l[i] (cc (l.take i) s).2).2):=by
 rw[ah5 h,vE];simp[cc]
def BR(a:aH)(s:DS):vy a s=(.mk a.name (gf a.aT s).1 a.eQ a.eB a.ps,(gf a.aT s).2):=by cases a;rw[vy];rfl
def BS(q:aD)(s:DS):mR q s=ug (.mk q.kd q.lhs q.f q.args q.has q.ex (cc q.ai s).1 q.ps) (cc q.ai s).2:=by cases q;rw[mR];rfl
def BT(b:bF)(s:DS):gf b s=(.mk (b.vars++(dE b.eqs s).1) (dE b.eqs s).2.1,(dE b.eqs s).2.2):=by cases b;rw[gf];rfl
def Ej(q:aD)(s:DS):s.n<=(ug q s).2.2.n/\(s.aB.length<=s.n->(ug q s).2.2.aB.length<=(ug q s).2.2.n)/\(ug q s).2.1.length<=4/\(ug q s).1.length<=6:=by
 unfold ug;split
 .refine⟨by simp,λh=>by simp;exact h,by simp[lH],by simp[gT]⟩
 .exact⟨ah9 _,λh=>h,by simp,by simp⟩
mutual
def Io:∀(b:bF) (s:DS),s.n<=(gf b s).2.n/\(s.aB.length<=s.n->(gf b s).2.aB.length<=(gf b s).2.n)
 |.mk c a,s=>by rw[gf];exact xu a s
def Lj:∀(q:aD) (s:DS),s.n<=(mR q s).2.2.n/\(s.aB.length<=s.n->(mR q s).2.2.aB.length<=(mR q s).2.2.n)
 |.mk k d f h g e a p,s=>by
  rw[mR];have b:=ui a s;have c:=Ej (.mk k d f h g e (cc a s).1 p) (cc a s).2;exact⟨aiz b.1 c.1,λh=>c.2.1 (b.2 h)⟩
def xu:∀(l:List aD) (s:DS),s.n<=(dE l s).2.2.n/\(s.aB.length<=s.n->(dE l s).2.2.aB.length<=(dE l s).2.2.n)
 |[],s=>by rw[dE];exact⟨ah9 _,λh=>h⟩
 |q::l,s=>by
  rw[dE];have a:=Lj q s;have b:=xu l (mR q s).2.2;exact⟨aiz a.1 b.1,λh=>b.2 (a.2 h)⟩
def Lk:∀(a:aH) (s:DS),s.n<=(vy a s).2.n/\(s.aB.length<=s.n->(vy a s).2.aB.length<=(vy a s).2.n)
 |.mk n b u w p,s=>by rw[vy];exact Io b s
def ui:∀(l:List aH) (s:DS),s.n<=(cc l s).2.n/\(s.aB.length<=s.n->(cc l s).2.aB.length<=(cc l s).2.n)
 |[],s=>by rw[cc];exact⟨ah9 _,λh=>h⟩
 |a::l,s=>by
  rw[cc];have b:=Lk a s;have c:=ui l (vy a s).2;exact⟨aiz b.1 c.1,λh=>c.2 (b.2 h)⟩
end
def vF:∀(l:List aD) (s:DS),(dE l s).2.1.length<=4*l.length/\(dE l s).1.length<=6*l.length
 |[],s=>by simp[dE]
 |q::l,s=>by
  have a:=vF l (mR q s).2.2;have a:=Ej (.mk q.kd q.lhs q.f q.args q.has q.ex (cc q.ai s).1 q.ps) (cc q.ai s).2;rw[<-BS]at a;simp only[dE,ah6,aia];omega
inductive CI:bF->Prop where
 |mk {b:bF} (c:b.vars.length<=1000000) (d:b.eqs.length<=1000000)
  (ha:∀q∈b.eqs,q.ai.length<=1000/\(q.kd=4->q.ai≠[])/\∀a∈q.ai,a.name.size<=1000000000/\a.eQ.length<=1000000/\a.eB.length<=1000000/\(∀t∈a.eQ,t.to.size<=1000000000)/\(∀t∈a.eB,t.to.size<=1000000000))
  (hb:∀q∈b.eqs,∀a∈q.ai,CI a.aT):CI b
def Ip{q:aD}{s:DS}{b:bF}(f:CI b)(c:q∈b.eqs):∀a∈(cc q.ai s).1,Im a:=by
 obtain⟨_,_,g,i⟩:=f;have r:∀(l:List aH) (s:DS),(∀a∈l,a∈q.ai)->∀a∈(cc l s).1,Im a:=by
  intro l
  induction l with
  |nil=>intro s _ a h;simp[cc]at h
  |cons x l j=>
   intro s d a h;simp only[cc,aib]at h;rcases h with rfl|h
   .rw[BR];have e:=d x (by simp);obtain⟨k,m,n,o,p⟩:=(g q c).2.2 x e;refine⟨k,m,n,o,p,?_⟩;rw[BT];show(dE x.aT.eqs s).2.1.length<=_;have:=vF x.aT.eqs s;cases i q c x e with
    |mk t u _ _=>omega
   .exact j _ (λa h=>d a (by simp[h])) a h
 exact r q.ai s λa h=>h
def rI:∀(l:List aH) (s:DS),(cc l s).1.length=l.length
 |[],s=>by simp[cc]
 |a::l,s=>by simp[cc,rI l]
end Go.Ps
namespace Go.Proofs.Pz
open Go.Mt Go.Sm Go.Ps Go.Proofs
open Tryz
def wC(it e:Nat)(b:bF)(s:DS)(K:CI b)(Z:s.aB.length<=s.n)(z:(gf b s).2.n<=1000000):
  Dt prog 111 [.ref e 0,.d (.agg b.cells)] [.ob it bg,uh e s] λr l=>r=.d (.agg (gf b s).1.cells)/\l=[.ob it bg,uh e (gf b s).2]:=by
 have ac:=K;obtain⟨hv,A,x,hb⟩:=ac;have ih:∀q∈b.eqs,∀a∈q.ai,∀c:DS,c.aB.length<=c.n->(gf a.aT c).2.n<=1000000->
   Dt prog 111 [.ref e 0,.d (.agg a.aT.cells)] [.ob it bg,uh e c] λr l=>r=.d (.agg (gf a.aT c).1.cells)/\l=[.ob it bg,uh e (gf a.aT c).2]:=
  λq A a x c d g=>
   have:=aD.FB x;have:=bF.Lh A
   wC it e a.aT c (hb q A a x) d g
 rw[BT]at z;rw[BT];intro H F hs;have w:=Wk.start hs;rw[b.ah];have d5:(b.eqs.map aD.cells).length=b.eqs.length:=by simp
 refine MG func111 W ntmps111 W ?_;obtain⟨n,K1,N,p,w,t⟩:=Wk.call (a:=[]) w (pO b.vars (by omega));subst p;refine Mx ?_;refine Mo ?_;apply Mn
 .intro c d;refine TL.go ?_;refine m_ (cs:=[n,.d (.sl [])]) W W W (by simp only[jW];rw[w.AA];rfl)<|cG W W<|aK W W W (fx _) W W<|TL.nil W
 refine Mx ?_;have w:=w.nil 16;refine Mo ?_;refine DC.block<|DC.loop (λm h=>∃(i:Nat) (d f:M) (c:List (Nat×List M)) (g:Hp),h=⟨[(20,.m (.d (.int .i64 ((i:Nat):Int)))),(19,.m (.d (.int .i64 ((b.eqs.length:Nat):Int)))),(18,.m (.d (.sl (b.eqs.map aD.cells)))),(5,.loc 5 0),(4,.loc 4 0),(0,.m (.ref e 0))],c,g⟩/\
   Go.Mt.get c 5=some [d,f]/\Go.Mt.get c 4=some [.d (.sl []),.d (.sl [])]/\
   Wk F H [.acc 16 (cg (dE (b.eqs.take i) s).2.1) f,.acc 15 (ax (b.vars++(dE (b.eqs.take i) s).1)) d,.ob it bg,uh e (dE (b.eqs.take i) s).2.2] g/\i<=b.eqs.length/\m=b.eqs.length-i) b.eqs.length _
  ⟨0,n,.d (.sl []),_,_,rfl,rfl,rfl,by rw[aiD,dE,aiu];exact w,by omega,rfl⟩ W ?_
 rintro m s1 ⟨i,n,B,bx,O,rfl,h,o,w,hi,rfl⟩;refine Mx ?_;refine Mo ?_;refine DC.cond W (λf=>?_) (λf=>?_)
 .have C:i<b.eqs.length:=by have:=aic f;omega
  have P:(b.eqs.map aD.cells)[((i:Nat):Int).toNat]?=some b.eqs[i].cells:=by simp[C]
  have y:=aif C;have k:=Eh C s;obtain⟨R,Q⟩:∃R,R=dE (b.eqs.take i) s:=⟨_,rfl⟩;have g:R.2.2.aB.length<=R.2.2.n/\(mR b.eqs[i] R.2.2).2.2.n<=1000000/\R.2.1.length<=4000000/\R.1.length<=6000000:=by
   have d:=(xu (b.eqs.take i) s).2 Z;have j:=vF (b.eqs.take i) s;have u:b.eqs=b.eqs.take (i+1)++b.eqs.drop (i+1):=(ai3 _ _).symm;have c:(dE (b.eqs.take (i+1)) s).2.2.n<=1000000:=by
    rw[u,vD]at z;exact aiz (xu _ _).1 z
   rw[k]at c;rw[ait]at j;rw[Q];exact⟨d,c,by omega,by omega⟩
  rw[<-Q]at k w;obtain⟨SZ,U,Xq⟩:=x _ y;have E:=Ip (s:=R.2.2) K y;have V:=ih _ y;generalize b.eqs[i]=q at P k g y SZ U Xq E V;rw[q.pN]at P;have V2:(q.ai.map aH.cells).length=q.ai.length:=by simp
  refine DC.skip ?_;refine Mo ?_;refine DC.block ?_
  repeat refine Mx ?_
  have w:=w.nil 7;obtain⟨S,hS⟩:∃S,S=R.2.2:=⟨_,rfl⟩;rw[<-hS]at k g w E;refine Mo ?_;refine DC.block<|DC.loop (λm g=>∃(j:Nat) (f:M) (c:List (Nat×List M)) (d:Hp),g=⟨[(27,.m (.d (.int .i64 ((j:Nat):Int)))),(26,.m (.d (.int .i64 ((q.ai.length:Nat):Int)))),(25,.m (.d (.sl (q.ai.map aH.cells)))),(8,.m f),(7,.loc 7 0),(20,.m (.d (.int .i64 ((i:Nat):Int)))),(19,.m (.d (.int .i64 ((b.eqs.length:Nat):Int)))),(18,.m (.d (.sl (b.eqs.map aD.cells)))),(5,.loc 5 0),(4,.loc 4 0),(0,.m (.ref e 0))],c,d⟩/\
    Go.Mt.get c 5=some [n,B]/\Go.Mt.get c 4=some [.d (.sl []),.d (.sl [])]/\Go.Mt.get c 7=some ((yz q).map M.d)/\
    Wk F H [.acc 7 ((cc (q.ai.take j) S).1.map aH.cells) f,.acc 16 (cg R.2.1) B,.acc 15 (ax (b.vars++R.1)) n,.ob it bg,uh e (cc (q.ai.take j) S).2] d/\j<=q.ai.length/\m=q.ai.length-j) q.ai.length _
   ⟨0,.d (.sl []),_,_,rfl,h,o,rfl,w,by omega,rfl⟩ W ?_
  .clear w h o;rintro m s1 ⟨j,m8,bx,O,rfl,h,o,QQ,w,hj,rfl⟩;refine Mx ?_;refine Mo ?_;refine DC.cond W (λf=>?_) (λf=>?_)
   .have d:j<q.ai.length:=by have:=aic f;omega
    have I:(q.ai.map aH.cells)[((j:Nat):Int).toNat]?=some q.ai[j].cells:=by simp[d]
    have J:=aif d;have c:=Ei d S;have L:(cc (q.ai.take j) S).2.aB.length<=(cc (q.ai.take j) S).2.n:=(ui _ _).2 g.1;have u:(gf q.ai[j].aT (cc (q.ai.take j) S).2).2.n<=1000000:=by
     have v:(cc (q.ai.take (j+1)) S).2.n<=(cc q.ai S).2.n:=by
      conv=>rhs;rw[<-ai3 (j+1) q.ai,vE]
      exact(ui _ _).1
     have G:=(Ej (.mk q.kd q.lhs q.f q.args q.has q.ex (cc q.ai S).1 q.ps) (cc q.ai S).2).1;rw[<-BS]at G;rw[c,BR]at v;exact aiz v (aiz G g.2.1)
    have X:((cc (q.ai.take j) S).1.map aH.cells).length<=1000:=by simp[rI];omega
    rw[BR]at c;generalize cc (q.ai.take j) S=T at c L u X w;obtain⟨am,K2,N,⟨Y,p⟩,w,t⟩:=Wk.call (a:=[_,_]) (w.pick [3,4,0,1,2]) (V _ J T.2 L u);subst Y;subst p;generalize q.ai[j]=a at I J c u t w;have Nr:(cc (q.ai.take (j+1)) S).1.map aH.cells=T.1.map aH.cells++[[.str a.name,.sl (ax (gf a.aT T.2).1.vars),.sl ((gf a.aT T.2).1.eqs.map aD.cells),.sl (eL a.eQ),.sl (eL a.eB),.int .i64 a.ps.1,.int .i64 a.ps.2]]:=by
     rw[c,aio,List.map_singleton,aH.ah];rfl
    have Ri:(cc (q.ai.take (j+1)) S).2=(gf a.aT T.2).2:=by rw[c]
    rw[a.ah]at I;rw[bF.ah,bF.ah]at t;have w:=w.pick [2,3,4,0,1];refine DC.skip ?_;refine Mo ?_;refine DC.block ?_
    repeat refine Mx ?_
    refine Mo ?_;apply Mn
    .intro v G;refine TL.go ?_;refine cT w W W W W W W (by exact bS W) (by simp only[aik];omega)<|TL.au
    have w:=w.app [[.str a.name,.sl (ax (gf a.aT T.2).1.vars),.sl ((gf a.aT T.2).1.eqs.map aD.cells),.sl (eL a.eQ),.sl (eL a.eB),.int .i64 a.ps.1,.int .i64 a.ps.2]];refine Mx ?_;exact bf (k':=q.ai.length-(j+1)) (by omega) ⟨j+1,_,_,_,rfl,h,o,QQ,by rw[Nr,Ri];exact w,by omega,rfl⟩ W W
   .refine DC.exit ?_;have M0:j=q.ai.length:=by have:=aie f;omega
    subst M0;rw[aih]at w;obtain⟨c,v⟩:∃c:aD,c=.mk q.kd q.lhs q.f q.args q.has q.ex (cc q.ai S).1 q.ps:=⟨_,rfl⟩;obtain⟨d,G⟩:∃c,c=(cc q.ai S).2:=⟨_,rfl⟩;have am:mR q S=ug c d:=by rw[BS,v,G]
    have co:d.aB.length<=d.n:=by rw[G];exact(ui _ _).2 g.1
    rw[am]at k g;refine DC.aR 8 W (w.view (vC _)) ?_;have w:Wk F H [.acc 16 (cg R.2.1) B,.acc 15 (ax (b.vars++R.1)) n,.ob it bg,uh e d] O:=by rw[G];exact w.drop
    have I:(cc q.ai S).1=c.ai:=by rw[v];rfl
    have Po:(cg R.2.1).length<=4000000:=by simpa [cg] using g.2.2.1
    have PS:(ax (b.vars++R.1)).length<=10000000:=by rw[br,ah6];omega
    have J:yz c=[.int .u8 q.kd,.sl (aE q.lhs),.str q.f,.sl (q.args.map Xp.cells),.bool q.has,.int .u8 q.ex.kd,.int .u8 q.ex.op,.int .i32 q.ex.num,.str q.ex.nm,.sl (aE q.ex.names),.sl (q.ex.kids.map Xp.cells),.int .i64 q.ex.ps.1,.int .i64 q.ex.ps.2,.sl ((cc q.ai S).1.map aH.cells),.int .i64 q.ps.1,.int .i64 q.ps.2]:=by rw[v];rfl
    refine Mx ?_;by_cases u:q.kd=4
    .have e4:(q.kd !=4)=false:=by simp[u]
     refine Mo ?_;apply Mn
     .intro L Y;refine aF W W<|aJ W W W W ?_
      (refine ay W W W (r:=.bool false) (by show some (D.bool (q.kd !=4))=_;rw[e4]) ?_)
      exact TL.nil W
     refine Mo ?_;refine DC.cond W (λL=>by cases L) (λf=>?_);refine DC.skip ?_;have Zf:c.kd=4:=by rw[v];exact u
     have M7:(cc q.ai S).1≠[]:=by
      intro Y;have L:=rI q.ai S;rw[Y]at L;exact U u (ajC.1 L.symm)
     obtain⟨a0,ar,V'⟩:=ajJ M7;have T:ug c d=(gT (d.n+1) c.ps,lH (d.n+1) c.ai c.ps,⟨d.n+1,d.aB++[su (d.n+1) c.ai c.ps]⟩):=by unfold ug;rw[air Zf]
     have Rk:d.n+1<=1000000:=by have:=g.2.1;rw[T]at this;exact this
     obtain⟨ce,K2,N,⟨hx,p⟩,w,t⟩:=Wk.call (a:=[_,_]) (w.pick [2,3,0,1]) (zS it e c d (by omega) (by omega) a0 ar (by rw[<-I];exact V') (by rw[<-I,rI];omega) (by rw[<-I];exact E));subst hx;subst p;rw[c.pN,J]at t;have w:=w.pick [3,2,0,1];have w2:=w.app (ax (gT (d.n+1) c.ps));have X:=w2.pick [1,0,2,3];refine Mx ?_;refine Mo ?_;apply Mn
     .intro L Y;refine TL.go ?_;refine cT w W W W W W W (by exact bD _) (by rw[br (gT _ _)];simp only[gT,aia,List.length_nil];omega)<|aF W W<|aK W W h (aN _ _ _) W W<|TL.nil W
     refine Mo ?_;apply Mn
     .intro L Y;refine TL.go ?_;refine cT X W W W W W W (by exact dv _) (by simp only[ah8,lH,aia,List.length_nil];omega)<|aF W W<|aK W W W (aN _ _ _) W W<|TL.nil W
     refine Mx ?_;exact bf (k':=b.eqs.length-(i+1)) (by omega) ⟨i+1,_,_,_,_,rfl,rfl,o,by
      rw[k,T];simp only[cg,aio];rw[<-ai0,vA];exact(X.app ((lH (d.n+1) c.ai c.ps).map aD.cells)),by omega,rfl⟩ W W
    .have X:(q.kd !=4)=true:=by simp[u]
     have Y:¬c.kd=4:=by rw[v];exact u
     have hE:ug c d=([],[c],d):=by unfold ug;rw[aid Y]
     have L:=w.app [yz c];rw[J]at L;refine Mo ?_;apply Mn
     .intro T Oo;refine aF W W<|aJ W W W W ?_
      (refine ay W W W (r:=.bool true) (by show some (D.bool (q.kd !=4))=_;rw[X]) ?_)
      exact TL.nil W
     refine Mo ?_;refine DC.cond W (λf=>?_) (λT=>by cases T);refine Mo ?_;apply Mn
     .intro T Oo;refine TL.go ?_;refine cT w W W W W W W (by exact bS W) (by simp only[aik];omega)<|aF W W<|aK W W h (aN _ _ _) W W<|TL.nil W
     refine DC.exit ?_;refine Mx ?_;exact bf (k':=b.eqs.length-(i+1)) (by omega) ⟨i+1,_,_,_,_,rfl,rfl,o,by
      rw[k,hE];simp only[cg,aio,aiu,aiq,aiL,c.pN,J];exact L,by omega,rfl⟩ W W
 .refine DC.exit ?_;have c:i=b.eqs.length:=by have:=aie f;omega
  subst c;rw[aih]at w;have d:=w.view (dv _);have g:=(w.pick [1,0,2,3]).view (bD _);refine DC.cA (MP:=[.d (.sl (ax (b.vars++(dE b.eqs s).1))),.d (.sl (cg (dE b.eqs s).2.1))]) 5 h (lJ g (lJ d (o7 _))) ?_;refine Mx ?_;exact DC.ret ⟨_,W,[.ob it bg,uh e (dE b.eqs s).2.2],⟨by rw[bF.ah];rfl,rfl⟩,w.drop.drop⟩
termination_by SizeOf.sizeOf b
end Go.Proofs.Pz
namespace Go.Ps
open Go.Mt Go.Sm
def vG:∀(a b:List Nd) (s:DS),er (a++b) s=((er a s).1++(er b (er a s).2).1,(er b (er a s).2).2)
 |[],b,s=>by simp[er]
 |q::a,b,s=>by simp[er,vG a b]
def Ek{l:List Nd}{i:Nat}(h:i<l.length)(s:DS):er (l.take (i+1)) s=((er (l.take i) s).1++[(yy l[i] (er (l.take i) s).2).1],(yy l[i] (er (l.take i) s).2).2):=by
 rw[ah5 h,vG];simp[er]
def uj:∀(l:List Nd) (s:DS),s.n<=(er l s).2.n/\(s.aB.length<=s.n->(er l s).2.aB.length<=(er l s).2.n)
 |[],s=>by rw[er];exact⟨ah9 _,λh=>h⟩
 |d::l,s=>by
  rw[er];have a:=Io d.b s;have b:=uj l (yy d s).2;exact⟨aiz a.1 b.1,λh=>b.2 (a.2 h)⟩
def vH:∀(l:List Nd) (s:DS),(er l s).1.length=l.length
 |[],s=>by simp[er]
 |a::l,s=>by simp[er,vH l]
def pR(l:List Nd):∀r∈l.map Nd.cells,r.length=7:=by intro r a;obtain⟨_,_,rfl⟩:=aij.1 a;rfl
def tf(l:List En):∀r∈l.map En.cells,r.length=4:=by intro r a;obtain⟨_,_,rfl⟩:=aij.1 a;rfl
structure KH(p:Pg):Prop where
 e:p.aB.length<=100000
 n:p.nodes.length<=1000
 b:∀d∈p.nodes,CI d.b
 m:(er p.nodes ⟨0,[]⟩).2.n<=500000
end Go.Ps
namespace Go.Proofs.Pz
open Go.Mt Go.Sm Go.Ps Go.Proofs
open Tryz
def zT(it:Nat)(p:Pg)(c:KH p):
  Dt prog 57 [.d (.agg p.cells)] [.ob it bg] λr l=>r=.d (.agg (lI p).cells)/\l=[.ob it bg]:=by
 intro H F u;have w:=Wk.start u;have O:(p.nodes.map Nd.cells).length=p.nodes.length:=by simp
 have C:=c.n;refine MG func57 W ntmps57 W ?_;refine Mx ?_;refine Mo ?_;apply Mn
 .intro e f;refine g_ W W W W W<|oi W W W<|TL.au
 repeat refine Mx ?_
 obtain⟨b,j⟩:∃b,b=H.length:=⟨_,rfl⟩;have w:Wk F H [.acc 7 [] (.d (.sl [])),uh b ⟨0,[]⟩,.ob it bg] (H++[.box [.d (.sl []),.d (.int .i64 0)]]):=by
  refine Wk.nil ?_ 7;refine OH (φ:= λc:M=>Sep [.ob b (.box [c,.d (.int .i64 ((0:Nat):Int))]),.acc 4 [] c]) (.d (.sl []))<|Oa (a:=[_,_]) ?_;rw[j];exact((w.new (.box [.d (.sl []),.d (.int .i64 0)])).nil 4).pick [1,0,2]
 refine Nq [(12,.m (.d (.int .i64 ((0:Nat):Int)))),(11,.m (.d (.int .i64 ((p.nodes.length:Nat):Int)))),(10,.m (.d (.sl (p.nodes.map Nd.cells)))),(4,.loc 4 0),(3,.m (.ref b 0)),(2,.loc 2 0),(1,.m (.d (.bM p.cells 0)))] _ _ (by rw[j];rfl) (λ_=>rfl) W ?_;refine Mo ?_;refine DC.block<|DC.loop (λm g=>∃(i:Nat) (e:M) (c:List (Nat×List M)) (f:Hp),g=⟨[(12,.m (.d (.int .i64 ((i:Nat):Int)))),(11,.m (.d (.int .i64 ((p.nodes.length:Nat):Int)))),(10,.m (.d (.sl (p.nodes.map Nd.cells)))),(4,.loc 4 0),(3,.m (.ref b 0)),(2,.loc 2 0),(1,.m (.d (.bM p.cells 0)))],c,f⟩/\
   Go.Mt.get c 4=some [.d (.sl []),e]/\Go.Mt.get c 2=some [.d (.sl []),.d (.sl [])]/\
   Wk F H [.acc 7 ((er (p.nodes.take i) ⟨0,[]⟩).1.map Nd.cells) e,uh b (er (p.nodes.take i) ⟨0,[]⟩).2,.ob it bg] f/\i<=p.nodes.length/\m=p.nodes.length-i) p.nodes.length _
  ⟨0,.d (.sl []),_,_,rfl,rfl,rfl,w,by omega,rfl⟩ W ?_
 rintro m E ⟨i,G,I,J,rfl,k,v,w,K,rfl⟩;refine Mx ?_;refine Mo ?_;refine DC.cond W (λg=>?_) (λg=>?_)
 .have h:i<p.nodes.length:=by have:=aic g;omega
  have n:(p.nodes.map Nd.cells)[((i:Nat):Int).toNat]?=some p.nodes[i].cells:=by simp[h]
  have o:=aif h;have e:=Ek h ⟨0,[]⟩;have q:(er (p.nodes.take i) ⟨0,[]⟩).2.aB.length<=(er (p.nodes.take i) ⟨0,[]⟩).2.n:=(uj _ _).2 (by simp);have f:(yy p.nodes[i] (er (p.nodes.take i) ⟨0,[]⟩).2).2.n<=1000000:=by
   have s:(er (p.nodes.take (i+1)) ⟨0,[]⟩).2.n<=(er p.nodes ⟨0,[]⟩).2.n:=by
    conv=>rhs;rw[<-ai3 (i+1) p.nodes,vG]
    exact(uj _ _).1
   rw[e]at s;have:=c.m;exact aiz s (by omega)
  have x:((er (p.nodes.take i) ⟨0,[]⟩).1.map Nd.cells).length<=1000:=by have:=c.n;simp[vH];omega
  generalize er (p.nodes.take i) ⟨0,[]⟩=T at e q f x w;have t:=c.b _ o;generalize p.nodes[i]=d at n o e f t;unfold yy at e f;obtain⟨B,L,N,⟨y,z⟩,w,A⟩:=Wk.call (a:=[_,_]) (w.pick [2,1,0]) (wC it b d.b T.2 t q f);subst y;subst z;rw[bF.ah,bF.ah]at A;have w:=w.pick [2,1,0];unfold Nd.cells at n;refine DC.skip ?_;refine Mo ?_;refine DC.block ?_
  repeat refine Mx ?_
  refine Mo ?_;apply Mn
  .intro s D;refine TL.go ?_;refine cT w W W W W W W (by exact bS W) (by simp only[aik];omega)<|aF W W<|aK W W k (aN _ _ _) W W<|TL.nil W
  have w:=w.app [[.str d.name,.sl (ax d.ins),.sl (ax d.outs),.sl (ax (gf d.b T.2).1.vars),.sl ((gf d.b T.2).1.eqs.map aD.cells),.int .i64 d.ps.1,.int .i64 d.ps.2]];refine Mx ?_;exact bf (k':=p.nodes.length-(i+1)) (by omega) ⟨i+1,_,_,_,rfl,rfl,v,by rw[e,aio];exact w,by omega,rfl⟩ W W
 .refine DC.exit ?_;have h:i=p.nodes.length:=by have:=aie g;omega
  subst h;rw[aih]at w;obtain⟨S,f⟩:∃S,S=(er p.nodes ⟨0,[]⟩).2:=⟨_,rfl⟩;have s:S.aB.length<=500000:=by
   have e:=(uj p.nodes ⟨0,[]⟩).2 (by simp);have o:=c.m;rw[f];omega
  rw[<-f]at w;refine DC.cA (MP:=[.d (.sl []),.d (.sl ((er p.nodes ⟨0,[]⟩).1.map Nd.cells))]) 4 k (bY (lJ (w.view (pR _)) (o7 _))) ?_;have w:=w.drop;obtain⟨q,w⟩:=w.open;have w:=w.split;refine DC.BQ b w.ob (lJ ((w.pick [1,0,2]).view (tf _)) (bY (o7 _))) ?_;have w:=w.set (.box [.d (.sl (S.aB.map En.cells)),.d (.int .i64 ((S.n:Nat):Int))]);have n:=CG [p.aB.map En.cells,S.aB.map En.cells] (by
   intro l e;rcases aib.1 e with rfl|e
   .exact tf _
   .rw[aiR]at e;rw[e];exact tf _) (by simp) (by have:=c.e;simp;omega)
  rw[show [p.aB.map En.cells,S.aB.map En.cells].flatten=(p.aB++S.aB).map En.cells by simp]at n;refine Mo ?_;apply Mz mixed
  .intro e o;refine TF.go ?_;refine dj W W w.ob W<|TF.au
  refine Mx ?_;exact DC.ret ⟨_,W,[.ob it bg],⟨by
   unfold lI;rw[<-f];rfl,rfl⟩,w.drop.drop⟩
end Go.Proofs.Pz
namespace Go.Sm
open Go.Mt
variable{α:Type}{i:Nat}{l:List α}{p:α->Bool}
def lh(o:Option Nat):Int:=match o with
 |some i=>(i:Int)
 |none=> -1
def o9(hi:i<l.length)(h:p l[i]=true)(a:∀(j:Nat) (a:j<l.length),j<i->p l[j]=false):lh (l.findIdx? p)=(i:Int):=by
 have:l.findIdx? p=some i:=by
  rw[aiV];exact⟨hi,h,λj b=>by rw[a j (by omega) b];simp⟩
 rw[this];rfl
def ng(a:∀(j:Nat) (a:j<l.length),p l[j]=false):lh (l.findIdx? p)= -1:=by
 have:l.findIdx? p=none:=by
  rw[ajn];intro d c;obtain⟨j,b,rfl⟩:=ai4 c;exact a j b
 rw[this];rfl
def yA(l:List Nm)(x:Nm):Ik l x=lh (l.findIdx? λy=>decide (y=x)):=rfl
def Iq(l:List Nm)(x:Nm):cW l x=decide (Ik l x>=0):=by
 rw[yA];cases h:l.findIdx? λy=>decide (y=x)with
 |none=>
  rw[ajn]at h;have:cW l x=false:=by
   rw[<-akj];intro e;have:=h _ (gX.1 e);simp at this
  rw[this];simp[lh]
 |some i=>
  rw[aiV]at h;obtain⟨b,a,_⟩:=h;have:cW l x=true:=gX.2 (by have:=aif b;simp at a;rw[a]at this;exact this);rw[this];simp[lh]
def rJ(l:List α)(p:α->Bool):(l.findIdx? p=none/\l.find? p=none)\/∃(i:Nat) (h:i<l.length),l.findIdx? p=some i/\l.find? p=some l[i]:=by
 cases h:l.findIdx? p with
 |none=>
  refine .inl ⟨W,?_⟩;rw[ajn]at h;rw[akD];intro x a;rw[h x a];simp
 |some i=>
  rw[aiV]at h;obtain⟨a,b,c⟩:=h;refine .inr ⟨i,a,W,?_⟩;rw[ako];exact⟨b,i,a,W,λj a=>by have:=c j a;simpa using this⟩
def yB{l:List En}(h:i<l.length):(l.map En.cells)[((i:Nat):Int).toNat]?=some l[i].cells:=by simp[h]
structure k8(en:List En):Prop where
 n:en.length<=1000000
 c:∀e∈en,e.fu.length<=1000000
end Go.Sm
namespace Go.Proofs.Pz
open Go.Mt Go.Sm Go.Ps Go.Proofs
open Tryz
def qj(l:List Nd)(a:Nat)[aW prog a](Nh:List D)(p:Nd->Bool)(t:l.length<=10000000)(m:∀c∈l,PT prog a (.agg c.cells::Nh) (·=[.bool (p c)])):PT prog 141 [.sl (l.map Nd.cells),.fn a Nh] (·=[.int .i64 (lh (l.findIdx? p))]):=by
 refine ML (My func141 W ntmps141 W λu v=>?_);refine MD ?_;refine Ms ?_;refine TC.region<|aq W W ?_
 (refine aY W W W ?_;rw[ah8])
 refine MX ?_;refine Ms ?_;refine TC.block<|M9 (λk s=>∃i:Nat,s=⟨[(8,.m (.d (.int .i64 i))),(7,.m (.d (.int .i64 (l.length:Nat)))),(0,.m (.d (.sl (l.map Nd.cells)))),(1,.m (.d (.fn a Nh)))],[],[]⟩/\i<=l.length/\k=l.length-i/\(∀(j:Nat) (a:j<l.length),j<i->p l[j]=false)) l.length _
  ⟨0,rfl,by omega,rfl,by intro j e h;omega⟩ W ?_
 rintro r s ⟨i,rfl,w,rfl,c⟩;refine MD ?_;refine Ms ?_;refine TC.cond W (λd=>?_) (λd=>?_)
 .have e:i<l.length:=by have:=aic d;omega
  have o:(l.map Nd.cells)[((i:Nat):Int).toNat]?=some l[i].cells:=by simp[e]
  have f:=m _ (aif e);obtain⟨b,g⟩:∃b,b=p l[i]:=⟨_,rfl⟩;rw[<-g]at f;unfold Nd.cells at o f;refine TC.skip ?_;refine Ms ?_;refine TC.block ?_;refine MD ?_;refine Ms ?_;refine TC.region<|TL.go ?_;refine tS f W W W<|TL.nil ?_;refine Ms ?_;refine TC.cond W (λh=>?_) (λh=>?_)
  .refine Ms ?_;refine TC.region<|TL.go ?_;refine TL.nil<|TC.ret ⟨_,W,[_],W,by rw[o9 e (g.symm.trans h) (λj a h=>c j a h)]⟩
  .refine TC.skip ?_;refine Ms ?_;refine TC.region<|TL.go ?_;refine TL.nil<|again (k':=l.length-(i+1)) (by omega) ⟨i+1,rfl,by omega,rfl,?_⟩ W (kc (by simp;rfl)<|kc (rfl)<|kc (rfl)<|kc (rfl)<|rfl);intro j n k;rcases aji.1 k with q|rfl
   .exact c j n q
   .exact g.symm.trans h
 .refine TC.exit ?_;have e:i=l.length:=by have:=aie d;omega
  refine Ms ?_;refine TC.region<|aj W W<|TL.nil<|TC.ret ⟨_,W,[_],W,by rw[ng (λj a=>c j a (by omega))]⟩
def lj(l:List En)(a:Nat)[aW prog a](Nh:List D)(p:En->Bool)(t:l.length<=10000000)(m:∀c∈l,PT prog a (.agg c.cells::Nh) (·=[.bool (p c)])):PT prog 176 [.sl (l.map En.cells),.fn a Nh] (·=[.int .i64 (lh (l.findIdx? p))]):=by
 refine ML (My func176 W ntmps176 W λu v=>?_);refine MD ?_;refine Ms ?_;refine TC.region<|aq W W ?_
 (refine aY W W W ?_;rw[ah8])
 refine MX ?_;refine Ms ?_;refine TC.block<|M9 (λk s=>∃i:Nat,s=⟨[(8,.m (.d (.int .i64 i))),(7,.m (.d (.int .i64 (l.length:Nat)))),(0,.m (.d (.sl (l.map En.cells)))),(1,.m (.d (.fn a Nh)))],[],[]⟩/\i<=l.length/\k=l.length-i/\(∀(j:Nat) (a:j<l.length),j<i->p l[j]=false)) l.length _
  ⟨0,rfl,by omega,rfl,by intro j e h;omega⟩ W ?_
 rintro r s ⟨i,rfl,w,rfl,c⟩;refine MD ?_;refine Ms ?_;refine TC.cond W (λd=>?_) (λd=>?_)
 .have e:i<l.length:=by have:=aic d;omega
  have o:(l.map En.cells)[((i:Nat):Int).toNat]?=some l[i].cells:=by simp[e]
  have f:=m _ (aif e);obtain⟨b,g⟩:∃b,b=p l[i]:=⟨_,rfl⟩;rw[<-g]at f;unfold En.cells at o f;refine TC.skip ?_;refine Ms ?_;refine TC.block ?_;refine MD ?_;refine Ms ?_;refine TC.region<|TL.go ?_;refine tS f W W W<|TL.nil ?_;refine Ms ?_;refine TC.cond W (λh=>?_) (λh=>?_)
  .refine Ms ?_;refine TC.region<|TL.go ?_;refine TL.nil<|TC.ret ⟨_,W,[_],W,by rw[o9 e (g.symm.trans h) (λj a h=>c j a h)]⟩
  .refine TC.skip ?_;refine Ms ?_;refine TC.region<|TL.go ?_;refine TL.nil<|again (k':=l.length-(i+1)) (by omega) ⟨i+1,rfl,by omega,rfl,?_⟩ W (kc (by simp;rfl)<|kc (rfl)<|kc (rfl)<|kc (rfl)<|rfl);intro j n k;rcases aji.1 k with q|rfl
   .exact c j n q
   .exact g.symm.trans h
 .refine TC.exit ?_;have e:i=l.length:=by have:=aie d;omega
  refine Ms ?_;refine TC.region<|aj W W<|TL.nil<|TC.ret ⟨_,W,[_],W,by rw[ng (λj a=>c j a (by omega))]⟩
def qR(l:List Va)(a:Nat)[aW prog a](Nh:List D)(p:Va->Bool)(t:l.length<=10000000)(m:∀c∈l,PT prog a (.agg c.cells::Nh) (·=[.bool (p c)])):PT prog 180 [.sl (l.map Va.cells),.fn a Nh] (·=[.int .i64 (lh (l.findIdx? p))]):=by
 refine ML (My func180 W ntmps180 W λu v=>?_);refine MD ?_;refine Ms ?_;refine TC.region<|aq W W ?_
 (refine aY W W W ?_;rw[ah8])
 refine MX ?_;refine Ms ?_;refine TC.block<|M9 (λk s=>∃i:Nat,s=⟨[(8,.m (.d (.int .i64 i))),(7,.m (.d (.int .i64 (l.length:Nat)))),(0,.m (.d (.sl (l.map Va.cells)))),(1,.m (.d (.fn a Nh)))],[],[]⟩/\i<=l.length/\k=l.length-i/\(∀(j:Nat) (a:j<l.length),j<i->p l[j]=false)) l.length _
  ⟨0,rfl,by omega,rfl,by intro j e h;omega⟩ W ?_
 rintro r s ⟨i,rfl,w,rfl,c⟩;refine MD ?_;refine Ms ?_;refine TC.cond W (λd=>?_) (λd=>?_)
 .have e:i<l.length:=by have:=aic d;omega
  have o:(l.map Va.cells)[((i:Nat):Int).toNat]?=some l[i].cells:=by simp[e]
  have f:=m _ (aif e);obtain⟨b,g⟩:∃b,b=p l[i]:=⟨_,rfl⟩;rw[<-g]at f;rw[Va.ah]at o f;refine TC.skip ?_;refine Ms ?_;refine TC.block ?_;refine MD ?_;refine Ms ?_;refine TC.region<|TL.go ?_;refine tS f W W W<|TL.nil ?_;refine Ms ?_;refine TC.cond W (λh=>?_) (λh=>?_)
  .refine Ms ?_;refine TC.region<|TL.go ?_;refine TL.nil<|TC.ret ⟨_,W,[_],W,by rw[o9 e (g.symm.trans h) (λj a h=>c j a h)]⟩
  .refine TC.skip ?_;refine Ms ?_;refine TC.region<|TL.go ?_;refine TL.nil<|again (k':=l.length-(i+1)) (by omega) ⟨i+1,rfl,by omega,rfl,?_⟩ W (kc (by simp;rfl)<|kc (rfl)<|kc (rfl)<|kc (rfl)<|rfl);intro j n k;rcases aji.1 k with q|rfl
   .exact c j n q
   .exact g.symm.trans h
 .refine TC.exit ?_;have e:i=l.length:=by have:=aie d;omega
  refine Ms ?_;refine TC.region<|aj W W<|TL.nil<|TC.ret ⟨_,W,[_],W,by rw[ng (λj a=>c j a (by omega))]⟩
def zU(d:Nd)(x:Nm):PT prog 142 [.agg d.cells,.bM [.str x] 0] (·=[.bool (decide (d.name=x))]):=by
 unfold Nd.cells;refine ML (My func142 W ntmps142 W λa b=>?_);refine MD ?_;refine Ms ?_;refine TC.region<|TL.go ?_;refine TL.nil<|TC.ret ⟨_,W,[_],W,W⟩
def pS(P:Pg)(x:Nm)(a:P.nodes.length<=1000000):PT prog 90 [.agg P.cells,.str x] (·=[.int .i64 (lh (gC P.nodes x))]):=by
 refine ML (My func90 W ntmps90 W λa b=>?_);refine MD ?_;refine Ms ?_;refine TC.region<|TL.go ?_;refine aX (qj P.nodes 142 [.bM [.str x] 0] (λd=>decide (d.name=x)) (by omega) (λd _=>zU d x)) W W<|aj W W<|TL.nil<|TC.ret ⟨_,rfl,[_],rfl,rfl⟩
def zV(d:En)(x:Nm):PT prog 178 [.agg d.cells,.bM [.str x] 0] (·=[.bool (decide (d.name=x))]):=by
 unfold En.cells;refine ML (My func178 W ntmps178 W λa b=>?_);refine MD ?_;refine Ms ?_;refine TC.region<|TL.go ?_;refine TL.nil<|TC.ret ⟨_,W,[_],W,W⟩
def uk(l:List En)(x:Nm)(a:l.length<=1000000):PT prog 127 [.sl (l.map En.cells),.str x] (·=[.int .i64 (lh (l.findIdx? λe=>decide (e.name=x)))]):=by
 refine ML (My func127 W ntmps127 W λa b=>?_);refine MD ?_;refine Ms ?_;refine TC.region<|TL.go ?_;refine aX (lj l 178 [.bM [.str x] 0] (λd=>decide (d.name=x)) (by omega) (λd _=>zV d x)) W W<|aj W W<|TL.nil<|TC.ret ⟨_,rfl,[_],rfl,rfl⟩
def GJ(d:Va)(x:Nm):PT prog 293 [.agg d.cells,.bM [.str x] 0] (·=[.bool (decide (d.name=x))]):=by
 rw[Va.ah];refine ML (My func293 W ntmps293 W λa b=>?_);refine MD ?_;refine Ms ?_;refine TC.region<|TL.go ?_;refine TL.nil<|TC.ret ⟨_,W,[_],W,W⟩
def ul(l:List Va)(x:Nm)(a:l.length<=10000000):PT prog 268 [.sl (ax l),.str x] (·=[.int .i64 (lh (r_ l x))]):=by
 refine ML (My func268 W ntmps268 W λb c=>?_);refine MD ?_;refine Ms ?_;refine TC.region<|TL.go ?_;refine aX (qR l 293 [.bM [.str x] 0] (λd=>decide (d.name=x)) a (λd _=>GJ d x)) W W<|aj W W<|TL.nil<|TC.ret ⟨_,rfl,[_],rfl,rfl⟩
def fF{l:List Nm}{i:Nat}(h:i<l.length):(aE l)[((i:Nat):Int).toNat]?=some [.str l[i]]:=by simp[aE,h]
def GK(l:List Nm)(x:Nm)(m:l.length<=10000000):PT prog 129 [.sl (aE l),.str x] (·=[.int .i64 (Ik l x)]):=by
 refine ML (My func129 W ntmps129 W λn o=>?_);refine MD ?_;refine Ms ?_;refine TC.region<|aq W W ?_
 (refine aY W W W ?_;rw[ah8])
 refine MX ?_;refine Ms ?_;refine TC.block<|M9 (λk s=>∃i:Nat,s=⟨[(8,.m (.d (.int .i64 i))),(7,.m (.d (.int .i64 (l.length:Nat)))),(0,.m (.d (.sl (aE l)))),(1,.m (.d (.str x)))],[],[]⟩/\i<=l.length/\k=l.length-i/\(∀(j:Nat) (a:j<l.length),j<i->decide (l[j]=x)=false)) l.length _
  ⟨0,rfl,by omega,rfl,by intro j c h;omega⟩ W ?_
 rintro k s ⟨i,rfl,p,rfl,a⟩;refine MD ?_;refine Ms ?_;refine TC.cond W (λb=>?_) (λb=>?_)
 .have d:i<l.length:=by have:=aic b;omega
  refine TC.skip ?_;refine Ms ?_;refine TC.block ?_;refine MD ?_;refine Ms ?_;refine TC.region<|TL.go ?_;refine bH W W W (ah7 i) (fF d) W<|MX ?_;refine Ms ?_;refine TC.cond W (λc=>?_) (λc=>?_)
  .refine Ms ?_;refine TC.region<|TL.go ?_;refine TL.nil<|TC.ret ⟨_,W,[_],W,by rw[yA,o9 d (aiS (aic c).symm) (λj b h=>a j b h)]⟩
  .refine TC.skip ?_;refine Ms ?_;refine TC.region<|TL.go ?_;refine TL.nil<|again (k':=l.length-(i+1)) (by omega) ⟨i+1,rfl,by omega,rfl,?_⟩ W (kc (by simp;rfl)<|kc (rfl)<|kc (rfl)<|kc (rfl)<|rfl);intro j f h;rcases aji.1 h with g|rfl
   .exact a j f g
   .exact ai1 λe=>aie c e.symm
 .refine TC.exit ?_;have c:i=l.length:=by have:=aie b;omega
  refine Ms ?_;refine TC.region<|aj W W<|TL.nil<|TC.ret ⟨_,W,[_],W,by rw[yA,ng (λj b=>a j b (by omega))]⟩
def jg(l:List Nm)(x:Nm)(a:l.length<=10000000):PT prog 82 [.sl (aE l),.str x] (·=[.bool (cW l x)]):=by
 rw[Iq];refine ML (My func82 W ntmps82 W λb c=>?_);refine MD ?_;refine Ms ?_;refine TC.region<|TL.go ?_;refine aX (GK l x a) W W<|TL.go ?_;refine TL.nil<|TC.ret ⟨_,W,[_],W,W⟩
def GM{en:List En}(l:k8 en)(a:Int)(b:Nm):PT prog 75 [.sl (en.map En.cells),.agg [.int .u8 a,.str b]] (·=[.sl (aE (kY en a b))]):=by
 refine ML (My func75 W ntmps75 W λs t=>?_)
 repeat refine MD ?_
 refine Ms ?_;refine TC.block ?_;by_cases c:a=1
 .have g:(a==1)=true:=by simp[c]
  refine Ms ?_;refine TC.region ?_
  (refine ay W W W (r:=.bool true) (by show some (D.bool (a==1))=_;rw[g]) ?_)
  refine MX ?_;refine Ms ?_;refine TC.cond W (λd=>?_) (λf=>by cases f);refine Ms ?_;refine TC.region<|TL.go ?_;refine TL.nil<|TC.ret ⟨_,W,[_],W,by rw[kY,air c];rfl⟩
 have g:(a==1)=false:=by simp[c]
 refine Ms ?_;refine TC.region ?_
 (refine ay W W W (r:=.bool false) (by show some (D.bool (a==1))=_;rw[g]) ?_)
 refine MX ?_;refine Ms ?_;refine TC.cond W (λf=>by cases f) (λd=>?_);by_cases f:a=3
 .have h:(a==3)=true:=by simp[f]
  refine Ms ?_;refine TC.region ?_
  (refine ay W W W (r:=.bool true) (by show some (D.bool (a==3))=_;rw[h]) ?_)
  refine MX ?_;refine Ms ?_;refine TC.cond W (λd=>?_) (λi=>by cases i);rcases rJ en (λe=>decide (e.name=b))with⟨j,k⟩|⟨i,n,j,k⟩
  .have o:=uk en b l.n;rw[j]at o
   repeat refine MD ?_
   refine Ms ?_;refine TC.cond W (λm=>by cases m) (λd=>?_);refine TC.skip ?_;refine Ms ?_;refine TC.region<|aj W W<|TL.nil<|TC.ret ⟨_,W,[_],W,by rw[kY,aid c,air f,k];rfl⟩
  .have o:=uk en b l.n;rw[j]at o;have p:=yB n;have q:kY en a b=en[i].fu:=by rw[kY,aid c,air f,k]
   rw[q];unfold En.cells at p;refine MD ?_;refine Ms ?_;refine TC.region<|aq W W ?_
   (refine ay W W W (r:=.bool true) (by show some (D.bool (decide (((i:Nat):Int)>=0)))=_;rw[aiS (ah7 i)]) ?_)
   refine TL.nil ?_;refine Ms ?_;refine TC.cond W (λd=>?_) (λm=>by cases m);refine Ms ?_;refine TC.region<|TL.go ?_;refine TL.nil<|TC.ret ⟨_,W,[_],W,W⟩
 have h:(a==3)=false:=by simp[f]
 refine Ms ?_;refine TC.region ?_
 (refine ay W W W (r:=.bool false) (by show some (D.bool (a==3))=_;rw[h]) ?_)
 refine MX ?_;refine Ms ?_;refine TC.cond W (λi=>by cases i) (λd=>?_);refine TC.skip ?_;refine Ms ?_;refine TC.region<|aj W W<|TL.nil<|TC.ret ⟨_,W,[_],W,by rw[kY,aid c,aid f];rfl⟩
def zW(d:En)(x:Nm)(a:d.fu.length<=1000000):PT prog 177 [.agg d.cells,.bM [.str x] 0] (·=[.bool (cW d.fu x)]):=by
 unfold En.cells;refine ML (My func177 W ntmps177 W λa b=>?_);refine MD ?_;refine Ms ?_;refine TC.region<|TL.go ?_;refine aX (jg _ _ (by omega)) W W<|aj W W<|TL.nil<|TC.ret ⟨_,rfl,[_],rfl,rfl⟩
def um{en:List En}(a:k8 en)(x:Nm):PT prog 125 [.sl (en.map En.cells),.str x] (·=[.int .i64 (lh (en.findIdx? λe=>cW e.fu x))]):=by
 refine ML (My func125 W ntmps125 W λb c=>?_);refine MD ?_;refine Ms ?_;refine TC.region<|TL.go ?_;refine aX (lj en 177 [.bM [.str x] 0] (λd=>cW d.fu x) (aiz a.n (by decide)) (λd b=>zW d x (a.c d b))) W W<|aj W W<|TL.nil<|TC.ret ⟨_,rfl,[_],rfl,rfl⟩
end Go.Proofs.Pz
namespace Go.Sm
open Go.Mt
variable{rs:List (List D)}{m:M}{H:Hp}
def qd(rs:List (List D))(m:M)(H:Hp):Prop:=(rs=[]/\m=.d (.sl [])/\H=[])\/(rs≠[]/\∃a,m=.bZ 0 a rs.length/\H=[.row true 1 a (aM rs)])
def qd.acc(h:qd rs m H):Acc 1 0 rs m H:=by
 rcases h with⟨a,b,_⟩|⟨a,c,b,d⟩
 .exact .inl ⟨a,b⟩
 .exact .inr ⟨a,c,b,by rw[d];rfl⟩
def qd.app(h:qd rs m H)(r:List D):qd (rs++[r]) (cJ m H [r]) (ef 1 m H [r]):=by
 rcases h with⟨rfl,rfl,rfl⟩|⟨b,a,rfl,rfl⟩
 .exact .inr ⟨by simp,0,by simp[cJ,s5],by simp[ef,jt]⟩
 .exact .inr ⟨by simp,a+1,by simp[cJ],by simp[ef,aM]⟩
def iQ(l:List Nm)(x:Nm):(bt l x).length<=l.length+1:=by unfold bt;split<;>simp
def dl(r l:List Nm):(r.foldl bt l).length<=l.length+r.length:=by
 induction r generalizing l with
 |nil=>simp
 |cons a r b=>simp only[aii,aia];have:=b (bt l a);have:=iQ l a;omega
mutual
def qe:aD->Nat
 |.mk _ b _ _ _ _ a _=>b.length+kn a
def kn:List aH->Nat
 |[]=>0
 |a::r=>qS a+kn r
def qS:aH->Nat
 |.mk _ b _ _ _=>k9 b
def k9:bF->Nat
 |.mk _ a=>nK a
def nK:List aD->Nat
 |[]=>0
 |q::r=>qe q+nK r
end
mutual
def yC:∀q:aD,(bX q).length<=qe q
 |.mk _ b _ _ _ _ a _=>by rw[bX,qe];exact qT b a
def qT:∀(l:List Nm) (r:List aH),(aQ l r).length<=l.length+kn r
 |l,[]=>by rw[aQ,kn];omega
 |l,a::r=>by rw[aQ,kn];have b:=qT ((pM a).foldl bt l) r;have b:=dl (pM a) l;have b:=El a;omega
def El:∀a:aH,(pM a).length<=qS a
 |.mk _ b _ _ _=>by rw[pM,qS];exact tg b
def tg:∀b:bF,(cy b).length<=k9 b
 |.mk c a=>by rw[cy,k9];have:=wD c [] a;simpa using this
def wD:∀(a:List Va) (l:List Nm) (r:List aD),(j' a l r).length<=l.length+nK r
 |a,l,[]=>by rw[j',nK];omega
 |a,l,q::r=>by
  rw[j',nK];have b:=wD a (((bX q).filter λx=>(r_ a x).isNone).foldl bt l) r;have b:=dl ((bX q).filter λx=>(r_ a x).isNone) l;have b:=ajY (λx=>(r_ a x).isNone) (bX q);have a:=yC q;omega
end
def rK{α:Type}{l:List α}(h:l.length=16):∃a b c d e f g i j k m n o p q r,l=[a,b,c,d,e,f,g,i,j,k,m,n,o,p,q,r]:=by
 match l,h with
 |[a,b,c,d,e,f,g,i,j,k,m,n,o,p,q,r],_=>exact⟨_,_,_,_,_,_,_,_,_,_,_,_,_,_,_,_,W⟩
end Go.Sm
namespace Go.Mt
end Go.Mt
namespace Go.Proofs.Pz
open Go.Mt Go.Sm Go.Ps Go.Proofs
open Tryz
def FF(l:List Nm)(x:Nm)(f:l.length<=1000000){m:M}{H:Hp}(h:qd (aE l) m H):∃r K,qd (aE (bt l x)) r K/\CT prog 179 [m,.d (.str x)] H λa b=>a=r/\b=K:=by
 have c:=h.acc.view (cU l);have a:=jg l x (by omega);cases b:cW l x with
 |true=>
  rw[b]at a;refine⟨m,H,by rw[bt,air b];exact h,?_⟩;refine My func179 W ntmps179 W λg i=>?_
  refine MD ?_;refine Ms ?_;refine TC.region<|TL.go ?_
  (refine TL.aR 5 W c ?_;refine aX a W W ?_)
  refine TL.nil ?_;refine Ms ?_;refine TC.cond W (λa=>?_) (λd=>by cases d);refine Ms ?_;refine TC.region<|TL.go ?_;refine TL.nil<|TC.ret ⟨_,W,W,W⟩
 |false=>
  rw[b]at a;have e:aE (bt l x)=aE l++[[.str x]]:=by rw[bt,aid (by rw[b];simp)];simp[aE]
  refine⟨_,_,by rw[e];exact h.app [.str x],?_⟩;refine My func179 W ntmps179 W λg i=>?_
  refine MD ?_;refine Ms ?_;refine TC.region<|TL.go ?_
  (refine TL.aR 5 W c ?_;refine aX a W W ?_)
  refine TL.nil ?_;refine Ms ?_;refine TC.cond W (λd=>by cases d) (λa=>?_);refine TC.skip ?_;refine Ms ?_;refine TC.region<|TL.go ?_;refine mD (rows:=[[.str x]]) h.acc W W W W W (by exact bS W) (by simp[aE];omega) (by simp[aE];omega)<|aj W W<|TL.nil<|TC.ret ⟨_,rfl,rfl,rfl⟩
def GO(l:List Nm)(c:l.length<=1000000):∃r K,qd (aE l) r K/\CT prog 206 [.d (.sl (aE l))] [] λa c=>a=r/\c=K:=by
 cases l with
 |nil=>
  refine⟨.d (.sl []),[],.inl ⟨W,W,W⟩,?_⟩;refine My func206 W ntmps206 W λd e=>?_
  refine MD ?_;refine Ms ?_;refine TC.region<|TL.go ?_
  (refine ub W W (λb=>?_))
  refine TL.nil ?_;cases b with
  |true=>
   refine Ms ?_;refine TC.cond W (λf=>?_) (λa=>by cases a);refine Ms ?_;refine TC.region<|aj W W<|TL.nil<|TC.ret ⟨_,W,W,W⟩
  |false=>
   refine Ms ?_;refine TC.cond W (λa=>by cases a) (λa=>?_);refine TC.skip ?_;refine Ms ?_;refine TC.region<|TL.go ?_;refine TL.nil<|TC.ret ⟨_,W,W,W⟩
 |cons a l=>
  refine⟨_,_,.inr ⟨by simp,0,rfl,rfl⟩,?_⟩;refine My func206 W ntmps206 W λe f=>?_
  refine MD ?_;refine Ms ?_;refine TC.region<|aq W W<|qG W (by kernel_rfl) W<|TL.nil ?_;refine Ms ?_;refine TC.cond W (λd=>by cases d) (λd=>?_);refine TC.skip ?_;refine Ms ?_;refine TC.region<|TL.go ?_;refine dB true W W W W (by rfl) (by simp) (by exact cU (a::l)) (by simp at c⊢;omega)<|aj W W<|TL.nil<|TC.ret ⟨_,rfl,by simp[mI],rfl⟩
def GR(a:List Va)(x:Nm):decide (lh (r_ a x)<0)=(r_ a x).isNone:=by
 cases h:r_ a x with
 |none=>simp[lh]
 |some i=>simp only[lh,Option.isNone_some];exact ai1 (by omega)
def CJ(q:aD)(B:q.ai.length<=1000)(r:qe q<=1000000)(s:∀a∈q.ai,PT prog 229 [.agg a.aT.cells] (·=[.sl (aE (cy a.aT))])):PT prog 187 [.agg q.cells] (·=[.sl (aE (bX q))]):=by
 obtain⟨C,l,y,P,L,d,a,D⟩:=q;simp only[aD.ai]at B s;rw[qe]at r;rw[bX,aD.ah];simp only[aD.kd,aD.lhs,aD.f,aD.args,aD.has,aD.ex,aD.ai,aD.ps];rw[d.ah];obtain⟨E,F,N,Q⟩:=GO l (by omega);obtain⟨R,ac⟩:∃b,b=eW C l y (P.map Xp.cells) L (bh d.kd d.op d.num d.nm d.names (d.kids.map Xp.cells) d.ps) (a.map aH.cells) D:=⟨_,rfl⟩;refine ML (My func187 W ntmps187 W λS T=>?_)
 repeat refine TC.seq ?_
 refine OZ ?_
 repeat refine TC.seq ?_
 refine OZ ?_
 repeat refine TC.seq ?_
 refine TC.region<|aG W W<|aI W W W ?_
 (refine aY W W W ?_;rw[ah8])
 refine aq W W<|TL.nil<|Pa [(14,.m (.d (.int .i64 ((0:Nat):Int)))),(13,.m (.d (.int .i64 ((a.length:Nat):Int)))),(12,.m (.d (.sl (a.map aH.cells)))),(3,.m E)] F W W ?_;refine Ms ?_;refine TC.block<|M9 (λk s=>∃(i:Nat) (c:List (Nat×List M)) (m:M) (H:Hp) (b:List Nm),s=⟨[(14,.m (.d (.int .i64 ((i:Nat):Int)))),(13,.m (.d (.int .i64 ((a.length:Nat):Int)))),(12,.m (.d (.sl (a.map aH.cells)))),(3,.m m)],c,H⟩/\i<=a.length/\k=a.length-i/\qd (aE b) m H/\aQ b (a.drop i)=aQ l a/\b.length+kn (a.drop i)<=1000000) a.length _
  ⟨0,_,_,_,l,rfl,by omega,rfl,N,rfl,r⟩ W ?_
 rintro z A ⟨i,G,m,H,n,rfl,U,rfl,g,c,h⟩;refine MD ?_;refine Ms ?_;refine TC.cond W (λe=>?_) (λe=>?_)
 .have o:i<a.length:=by have:=aic e;omega
  have t:(a.map aH.cells)[((i:Nat):Int).toNat]?=some a[i].cells:=by simp[o]
  have k:=s _ (aif o);rw[ajd o]at c h;rw[aQ]at c;rw[kn]at h;have I:pM a[i]=cy a[i].aT:=by cases a[i];rw[pM];rfl
  rw[I]at c;have O:qS a[i]=k9 a[i].aT:=by cases a[i];rw[qS];rfl
  rw[O]at h;have u:=tg a[i].aT;generalize a[i]=w at t k c h u;rw[bF.ah]at k;rw[aH.ah]at t;generalize cy w.aT=b at c k u;refine TC.skip ?_;refine Ms ?_;refine TC.block ?_;refine MD ?_;refine Ms ?_;refine TC.region<|aF W W<|bp W W W W W<|aX k W W ?_
  (refine aY W W W ?_;rw[ah8])
  refine aq W W<|TL.nil<|Pa [(22,.m (.d (.int .i64 ((0:Nat):Int)))),(21,.m (.d (.int .i64 ((b.length:Nat):Int)))),(20,.m (.d (.sl (aE b)))),(3,.m m),(14,.m (.d (.int .i64 ((i:Nat):Int)))),(13,.m (.d (.int .i64 ((a.length:Nat):Int)))),(12,.m (.d (.sl (a.map aH.cells))))] H W W ?_;refine Ms ?_;refine TC.block<|M9 (λk s=>∃(j:Nat) (d:List (Nat×List M)) (m:M) (H:Hp) (c:List Nm),s=⟨[(22,.m (.d (.int .i64 ((j:Nat):Int)))),(21,.m (.d (.int .i64 ((b.length:Nat):Int)))),(20,.m (.d (.sl (aE b)))),(3,.m m),(14,.m (.d (.int .i64 ((i:Nat):Int)))),(13,.m (.d (.int .i64 ((a.length:Nat):Int)))),(12,.m (.d (.sl (a.map aH.cells))))],d,H⟩/\j<=b.length/\k=b.length-j/\qd (aE c) m H/\(b.drop j).foldl bt c=b.foldl bt n/\c.length<=n.length+j) b.length _
   ⟨0,_,_,_,n,rfl,by omega,rfl,g,rfl,by omega⟩ W ?_
  rintro z A ⟨j,G,m,H,p,rfl,V,rfl,g,f,X⟩;refine MD ?_;refine Ms ?_;refine TC.cond W (λe=>?_) (λe=>?_)
  .have v:j<b.length:=by have:=aic e;omega
   have J:=fF v;rw[ajd v,aii]at f;generalize b[j]=x at J f;obtain⟨Y,Z,K,Nz⟩:=FF p x (by omega) g;have Vf:=iQ p x;refine TC.skip ?_;refine Ms ?_;refine TC.block ?_
   repeat refine TC.seq ?_
   refine OZ ?_
   repeat refine TC.seq ?_
   refine OZ ?_
   repeat refine TC.seq ?_
   refine TC.region<|TL.go ?_;refine TL.nil<|again (k':=b.length-(j+1)) (by omega) ⟨j+1,_,_,_,bt p x,rfl,by omega,rfl,K,f,by omega⟩ W (kc (by simp;rfl)<|kc (rfl)<|kc (rfl)<|kc (rfl)<|kc (rfl)<|kc (rfl)<|kc (rfl)<|rfl)
  .refine TC.exit ?_;have v:j=b.length:=by have:=aie e;omega
   subst v;rw[aj4]at f;simp only[ajK]at f;rw[<-f]at c;refine Ms ?_;refine TC.region<|TL.go ?_;refine TL.nil<|again (k':=a.length-(i+1)) (by omega) ⟨i+1,_,_,_,_,rfl,by omega,rfl,g,c,by omega⟩ W (kc (by simp;rfl)<|kc (rfl)<|kc (rfl)<|kc (rfl)<|rfl)
 .refine TC.exit ?_;have b:i=a.length:=by have:=aie e;omega
  subst b;rw[aj4,aQ]at c;subst c;refine Ms ?_;refine TC.region<|TL.go ?_;refine TL.nil<|TC.aR 2 W (g.acc.view (cU _))<|TC.ret ⟨_,W,[_],W,W⟩
def Ir(b:bF)(F:b.vars.length<=1000000)(G:b.eqs.length<=1000000)(t:k9 b<=1000000)(u:∀q∈b.eqs,PT prog 187 [.agg q.cells] (·=[.sl (aE (bX q))])):PT prog 229 [.agg b.cells] (·=[.sl (aE (cy b))]):=by
 obtain⟨d,a⟩:=b;simp only[bF.vars,bF.eqs]at G u F;rw[k9]at t;rw[cy,bF.ah];simp only[bF.vars,bF.eqs];refine ML (My func229 W ntmps229 W λO P=>?_)
 repeat refine TC.seq ?_
 refine OZ ?_
 repeat refine TC.seq ?_
 refine OZ ?_
 repeat refine TC.seq ?_
 refine TC.region<|aG W W<|aI W W W ?_
 (refine aY W W W ?_;rw[ah8])
 refine aq W W<|TL.nil<|Pa [(11,.m (.d (.int .i64 ((0:Nat):Int)))),(10,.m (.d (.int .i64 ((a.length:Nat):Int)))),(9,.m (.d (.sl (a.map aD.cells)))),(3,.m (.d (.sl []))),(1,.m (.d (.bM [.sl (ax d),.sl (a.map aD.cells)] 0)))] [] W W ?_;refine Ms ?_;refine TC.block<|M9 (λk s=>∃(i:Nat) (c:List (Nat×List M)) (m:M) (H:Hp) (l:List Nm),s=⟨[(11,.m (.d (.int .i64 ((i:Nat):Int)))),(10,.m (.d (.int .i64 ((a.length:Nat):Int)))),(9,.m (.d (.sl (a.map aD.cells)))),(3,.m m),(1,.m (.d (.bM [.sl (ax d),.sl (a.map aD.cells)] 0)))],c,H⟩/\i<=a.length/\k=a.length-i/\qd (aE l) m H/\j' d l (a.drop i)=j' d [] a/\l.length+nK (a.drop i)<=1000000) a.length _
  ⟨0,_,_,_,[],rfl,by omega,rfl,.inl ⟨rfl,rfl,rfl⟩,rfl,by simpa using t⟩ W ?_
 rintro C E ⟨i,I,m,H,p,rfl,Q,rfl,h,g,q⟩;refine MD ?_;refine Ms ?_;refine TC.cond W (λe=>?_) (λe=>?_)
 .have s:i<a.length:=by have:=aic e;omega
  have v:(a.map aD.cells)[((i:Nat):Int).toNat]?=some a[i].cells:=by simp[s]
  have k:=u _ (aif s);rw[ajd s]at g q;rw[j']at g;rw[nK]at q;have w:=yC a[i];have y:=a[i].len;generalize a[i]=B at v k g q w y;generalize bX B=c at g k w;obtain⟨R,S,T,U,V,X,Y,Z,a8,a9,b0,b1,b2,b3,b4,b5,K⟩:=rK y;rw[K]at v k;refine TC.skip ?_;refine Ms ?_;refine TC.block ?_;refine MD ?_;refine Ms ?_;refine TC.region<|bp W W W W W<|aX k W W ?_
  (refine aY W W W ?_;rw[ah8])
  refine aq W W<|TL.nil<|Pa [(18,.m (.d (.int .i64 ((0:Nat):Int)))),(17,.m (.d (.int .i64 ((c.length:Nat):Int)))),(16,.m (.d (.sl (aE c)))),(3,.m m),(11,.m (.d (.int .i64 ((i:Nat):Int)))),(10,.m (.d (.int .i64 ((a.length:Nat):Int)))),(9,.m (.d (.sl (a.map aD.cells)))),(1,.m (.d (.bM [.sl (ax d),.sl (a.map aD.cells)] 0)))] H W W ?_;refine Ms ?_;refine TC.block<|M9 (λk s=>∃(j:Nat) (f:List (Nat×List M)) (m:M) (H:Hp) (e:List Nm),s=⟨[(18,.m (.d (.int .i64 ((j:Nat):Int)))),(17,.m (.d (.int .i64 ((c.length:Nat):Int)))),(16,.m (.d (.sl (aE c)))),(3,.m m),(11,.m (.d (.int .i64 ((i:Nat):Int)))),(10,.m (.d (.int .i64 ((a.length:Nat):Int)))),(9,.m (.d (.sl (a.map aD.cells)))),(1,.m (.d (.bM [.sl (ax d),.sl (a.map aD.cells)] 0)))],f,H⟩/\j<=c.length/\k=c.length-j/\qd (aE e) m H/\((c.drop j).filter λx=>(r_ d x).isNone).foldl bt e=(c.filter λx=>(r_ d x).isNone).foldl bt p/\e.length<=p.length+j) c.length _
   ⟨0,_,_,_,p,rfl,by omega,rfl,h,rfl,by omega⟩ W ?_
  rintro C E ⟨j,I,m,H,l,rfl,hj,rfl,h,f,OR⟩;refine MD ?_;refine Ms ?_;refine TC.cond W (λe=>?_) (λe=>?_)
  .have z:j<c.length:=by have:=aic e;omega
   have L:=fF z;rw[ajd z]at f;generalize c[j]=x at L f;have A:=ul d x (by omega);have n:=GR d x;cases o:(r_ d x).isNone with
   |true=>
    rw[o]at n;rw[akQ (by simpa using o),aii]at f;obtain⟨m2,H2,N,Nz⟩:=FF l x (by omega) h;have Vf:=iQ l x;refine TC.skip ?_;refine Ms ?_;refine TC.block ?_;refine MD ?_;refine Ms ?_;refine TC.region<|aG W W<|aI W W W<|aq W W<|aX A W W ?_
    (refine ay W W W (r:=.bool true) (by show some (D.bool (decide _))=_;rw[n]) ?_)
    refine TL.nil ?_;refine Ms ?_;refine TC.cond W (λe=>?_) (λJ=>by cases J);refine MD ?_;refine Ms ?_;refine TC.region<|TL.go ?_;refine TL.nil<|again (k':=c.length-(j+1)) (by omega) ⟨j+1,_,_,_,bt l x,rfl,by omega,rfl,N,f,by omega⟩ W (kc (by simp;rfl)<|kc (rfl)<|kc (rfl)<|kc (rfl)<|kc (rfl)<|kc (rfl)<|kc (rfl)<|kc (rfl)<|rfl)
   |false=>
    rw[o]at n;rw[akR (by rw[o];simp)]at f;refine TC.skip ?_;refine Ms ?_;refine TC.block ?_;refine MD ?_;refine Ms ?_;refine TC.region<|aG W W<|aI W W W<|aq W W<|aX A W W ?_
    (refine ay W W W (r:=.bool false) (by show some (D.bool (decide _))=_;rw[n]) ?_)
    refine TL.nil ?_;refine Ms ?_;refine TC.cond W (λJ=>by cases J) (λe=>?_);refine TC.skip ?_;refine Ms ?_;refine TC.region<|TL.go ?_;refine TL.nil<|again (k':=c.length-(j+1)) (by omega) ⟨j+1,_,_,_,l,rfl,by omega,rfl,h,f,by omega⟩ W (kc (by simp;rfl)<|kc (rfl)<|kc (rfl)<|kc (rfl)<|kc (rfl)<|kc (rfl)<|kc (rfl)<|kc (rfl)<|rfl)
  .refine TC.exit ?_;have n:j=c.length:=by have:=aie e;omega
   subst n;rw[aj4]at f;simp only[List.filter_nil,ajK]at f;rw[<-f]at g;refine Ms ?_;refine TC.region<|TL.go ?_;refine TL.nil<|again (k':=a.length-(i+1)) (by omega) ⟨i+1,_,_,_,_,rfl,by omega,rfl,h,g,by omega⟩ W (kc (by simp;rfl)<|kc (rfl)<|kc (rfl)<|kc (rfl)<|kc (rfl)<|rfl)
 .refine TC.exit ?_;have c:i=a.length:=by have:=aie e;omega
  subst c;rw[aj4,j']at g;subst g;refine Ms ?_;refine TC.region<|TL.go ?_;refine TL.nil<|TC.aR 2 W (h.acc.view (cU _))<|TC.ret ⟨_,W,[_],W,W⟩
def vI{q:aD}{a:aH}(h:a∈q.ai):k9 a.aT<=qe q:=by
 obtain⟨e,j,f,l,k,g,c,i⟩:=q;simp only[aD.ai]at h;rw[qe]
 suffices k9 a.aT<=kn c by omega
 induction c with
 |nil=>cases h
 |cons b r d=>
  rw[kn];rcases aib.1 h with rfl|h
  .have:qS a=k9 a.aT:=by cases a;rw[qS];rfl
   omega
  .have:=d h;omega
def Is{b:bF}{q:aD}(h:q∈b.eqs):qe q<=k9 b:=by
 obtain⟨d,c⟩:=b;simp only[bF.eqs]at h;rw[k9]
 induction c with
 |nil=>cases h
 |cons b r a=>
  rw[nK];rcases aib.1 h with rfl|h
  .omega
  .have:=a h;omega
def CK(b:bF)(e:zP b):k9 b<=1000000->PT prog 229 [.agg b.cells] (·=[.sl (aE (cy b))]):=by
 induction e with
 | @mk l k f g m h n o p i=>
  intro j;refine Ir _ f g j λq a=>?_
  have r:=Is (b:=.mk l k) a;refine CJ q (h q a) (by omega) λd c=>i q a d c ?_
  have:=vI c;omega
def It(q:aD)(a:q.ai.length<=1000)(c:∀a∈q.ai,zP a.aT)(b:qe q<=1000000):PT prog 187 [.agg q.cells] (·=[.sl (aE (bX q))]):=
 CJ q a b λa b=>CK a.aT (c a b) (by have:=vI b;omega)
end Go.Proofs.Pz
namespace Go.Ps
open Go.Mt Go.Sm
mutual
def bJ:Xp->Nat
 |.mk _ _ _ _ _ a _=>1+aP a
def aP:List Xp->Nat
 |[]=>0
 |e::l=>bJ e+aP l
end
mutual
def lK:∀(e:Xp) (l:List Nm),(hM e l).length<=l.length+bJ e
 |.mk k b n x c a p,l=>by
  rw[hM,bJ];split
  .have:=gJ a (bt l x);have:=iQ l x;omega
  .split
   .have:=gJ a l;have:=iQ (cu a l) x;omega
   .have:=gJ a l;omega
def gJ:∀(r:List Xp) (l:List Nm),(cu r l).length<=l.length+aP r
 |[],l=>by rw[cu];omega
 |e::r,l=>by rw[cu,aP];have:=lK e l;have:=gJ r (hM e l);omega
end
mutual
def pT:∀(e:Xp) (l:List Nm),(kZ e l).length<=l.length+bJ e
 |.mk k b n x c a p,l=>by
  rw[kZ,bJ];split
  .have:=ox a (bt l x);have:=iQ l x;omega
  .have:=ox a l;omega
def ox:∀(r:List Xp) (l:List Nm),(iL r l).length<=l.length+aP r
 |[],l=>by rw[iL];omega
 |e::r,l=>by rw[iL,aP];have:=pT e l;have:=ox r (kZ e l);omega
end
inductive fG:Xp->Prop where
 |mk {e:Xp} (b:e.kd=12->∃a,e.kids=[a]) (c:e.kids.length<=1000000) (d:e.names.length<=1000000) (f:∀k∈e.kids,fG k):fG e
def uo(e:Xp):bJ e=1+aP e.kids:=by cases e;rw[bJ];rfl
def kD(a b:List Xp):aP (a++b)=aP a+aP b:=by
 induction a with
 |nil=>simp[aP]
 |cons x a c=>simp only[aiA,aP,c];omega
def nL:∀(a b:List Xp) (l:List Nm),cu (a++b) l=cu b (cu a l)
 |[],b,l=>by simp[cu]
 |e::a,b,l=>by simp[cu,nL a b]
def wE:∀(a b:List Xp) (l:List Nm),iL (a++b) l=iL b (iL a l)
 |[],b,l=>by simp[iL]
 |e::a,b,l=>by simp[iL,wE a b]
def CL(e:Xp)(l:List Nm):hM e l=if e.kd=4\/e.kd=13 then cu e.kids (bt l e.nm)else if e.kd=12 then bt (cu e.kids l) e.nm else cu e.kids l:=by cases e;rw[hM];rfl
def GU(e:Xp)(l:List Nm):kZ e l=iL e.kids (if e.kd=5 then bt l e.nm else l):=by cases e;rw[kZ];rfl
end Go.Ps
namespace Go.Proofs.Pz
open Go.Mt Go.Sm Go.Ps Go.Proofs
open Tryz
def uq(l:List Nm)(x:Nm)(d:l.length<=10000000)(m:M):Dt prog 179 [m,.d (.str x)] [.acc 1 (aE l) m] λr a=>a=[.acc 1 (aE (bt l x)) r]:=by
 intro H F f;have w:=Wk.start f;have c:=w.view (cU l);have a:=jg l x d;refine MG func179 W ntmps179 W ?_;cases b:cW l x with
 |true=>
  rw[b]at a;have e:bt l x=l:=by rw[bt,air b]
  rw[e];refine Mx ?_;refine Mo ?_;apply Mn
  .intro g h;refine TL.go ?_
   (refine TL.aR 5 W c ?_;refine aX a W W ?_)
   exact TL.nil W
  refine Mo ?_;refine DC.cond W (λa=>?_) (λg=>by cases g);refine Mx ?_;exact DC.ret ⟨_,W,_,W,w⟩
 |false=>
  rw[b]at a;have e:aE (bt l x)=aE l++[[.str x]]:=by rw[bt,aid (by rw[b];simp)];simp[aE]
  rw[e];refine Mx ?_;refine Mo ?_;apply Mn
  .intro g h;refine TL.go ?_
   (refine TL.aR 5 W c ?_;refine aX a W W ?_)
   exact TL.nil W
  refine Mo ?_;refine DC.cond W (λg=>by cases g) (λa=>?_);refine DC.skip ?_;refine Mo ?_;apply Mn
  .intro g h;refine TL.go ?_;refine cT w W W W W W W (by exact bS W) (by simp only[ah8,aik];omega)<|TL.au
  exact DC.ret ⟨_,W,_,W,w.app [[.str x]]⟩
def AD(e:Xp)(l:List Nm)(m:M)(j:fG e)(n:l.length+bJ e<=1000000):Dt prog 182 [m,.d (.agg e.cells)] [.acc 1 (aE l) m] λr a=>a=[.acc 1 (aE (kZ e l)) r]:=by
 have o:∀k∈e.kids,∀(l:List Nm) (m:M),l.length+bJ k<=1000000->Dt prog 182 [m,.d (.agg k.cells)] [.acc 1 (aE l) m] λr b=>b=[.acc 1 (aE (kZ k l)) r]:=
  λk a l m h=>
   have:=Od a
   AD k l m (by cases j with|mk _ _ _ g=>exact g k a) h
 have u:e.kids.length<=1000000:=by cases j with|mk _ d _ _=>exact d
 rw[uo]at n;intro H F v;have w:=Wk.start v;rw[GU,e.ah];have C:(e.kids.map Xp.cells).length=e.kids.length:=by simp
 obtain⟨c,f⟩:∃a,a=if e.kd=5 then bt l e.nm else l:=⟨_,rfl⟩
 have I:c.length<=l.length+1:=by rw[f];split;exact iQ l e.nm;omega
 rw[<-f];refine MG func182 W ntmps182 W ?_;refine Mx ?_;obtain⟨k,y,z,h⟩:∃a b,Wk F H [.acc 1 (aE c) a] b/\(if e.kd=5 then CT prog 179 [m,.d (.str e.nm)] H λc d=>c=a/\d=b else a=m/\b=H):=by
  by_cases g:e.kd=5
  .obtain⟨x,K,q,p,w,b⟩:=Wk.call (r:=[]) w (uq l e.nm (by omega) m);subst p;refine⟨x,K,?_,by rw[air g];exact b⟩;rw[f,air g];exact w
  .exact⟨m,H,by rw[f,aid g];exact w,by rw[aid g];exact⟨W,W⟩⟩
 refine DC.seq<|DC.D8 ⟨[(3,.m (.d (.bM (xC e) 0))),(0,.m k)],[],y⟩ ?_ ?_
 .by_cases g:e.kd=5
  .rw[air g]at h;have p:(e.kd==5)=true:=by simp[g]
   refine Mo ?_;apply Mn
   .intro q s;refine aG W W<|aI W W W ?_
    (refine ay W W W (r:=.bool true) (by show some (D.bool (e.kd==5))=_;rw[p]) ?_)
    exact TL.nil W
   refine Mo ?_;refine DC.cond W (λb=>?_) (λa=>by cases a);refine Mx ?_;exact pJ W W
  .rw[aid g]at h;obtain⟨rfl,rfl⟩:=h;have p:(e.kd==5)=false:=by simp[g]
   refine Mo ?_;apply Mn
   .intro q s;refine aG W W<|aI W W W ?_
    (refine ay W W W (r:=.bool false) (by show some (D.bool (e.kd==5))=_;rw[p]) ?_)
    exact TL.nil W
   refine Mo ?_;refine DC.cond W (λa=>by cases a) (λb=>?_);refine DC.skip<|pJ W W
 have A:xC e=bh e.kd e.op e.num e.nm e.names (e.kids.map Xp.cells) e.ps:=rfl;rw[A];generalize e.kids=a at o u n C⊢;refine Mx ?_;refine Mo ?_;refine DC.block<|DC.loop (λm f=>∃(i:Nat) (b:M) (g:List (Nat×List M)) (d:Hp),f=⟨[(17,.m (.d (.int .i64 ((i:Nat):Int)))),(16,.m (.d (.int .i64 ((a.length:Nat):Int)))),(15,.m (.d (.sl (a.map Xp.cells)))),(0,.m b)],g,d⟩/\
   Wk F H [.acc 1 (aE (iL (a.take i) c)) b] d/\i<=a.length/\m=a.length-i) a.length _
  ⟨0,k,_,_,rfl,by rw[aiD,iL];exact z,by omega,rfl⟩ W ?_
 rintro m J ⟨i,B,L,N,rfl,w,O,rfl⟩;refine Mx ?_;refine Mo ?_;refine DC.cond W (λb=>?_) (λb=>?_)
 .have g:i<a.length:=by have:=aic b;omega
  have p:(a.map Xp.cells)[((i:Nat):Int).toNat]?=some a[i].cells:=by simp[g]
  have q:iL (a.take (i+1)) c=kZ a[i] (iL (a.take i) c):=by rw[ah5 g,wE];simp[iL]
  have K:=ox (a.take i) c;have P:aP (a.take i)+bJ a[i]<=aP a:=by
   have d:aP a=aP (a.take (i+1))+aP (a.drop (i+1)):=by rw[<-kD,ai3]
   rw[ah5 g,kD]at d;simp only[aP]at d;omega
  obtain⟨E,Q,G,x,w,s⟩:=Wk.call (r:=[]) w (o _ (aif g) _ B (by omega));subst x;generalize a[i]=t at p q s w;rw[t.ah]at p s;refine DC.skip ?_;refine Mo ?_;refine DC.block ?_
  repeat refine Mx ?_
  exact bf (k':=a.length-(i+1)) (by omega) ⟨i+1,_,_,_,rfl,by rw[q];exact w,by omega,rfl⟩ W W
 .refine DC.exit ?_;have g:i=a.length:=by have:=aie b;omega
  subst g;rw[aih]at w;refine Mx ?_;exact DC.ret ⟨_,W,_,W,w⟩
termination_by SizeOf.sizeOf e
def AE(e:Xp)(l:List Nm)(m:M)(o:fG e)(g:l.length+bJ e<=1000000):Dt prog 130 [m,.d (.agg e.cells),.d (.bool false)] [.acc 1 (aE l) m] λr a=>a=[.acc 1 (aE (hM e l)) r]:=by
 have h:∀k∈e.kids,∀(l:List Nm) (m:M),l.length+bJ k<=1000000->Dt prog 130 [m,.d (.agg k.cells),.d (.bool false)] [.acc 1 (aE l) m] λr c=>c=[.acc 1 (aE (hM k l)) r]:=
  λk a l m b=>
   have:=Od a
   AE k l m (by cases o with|mk _ _ _ f=>exact f k a) b
 have B:e.kids.length<=1000000:=by cases o with|mk _ j _ _=>exact j
 have C:e.kd=12->∃a,e.kids=[a]:=by cases o with|mk A _ _ _=>exact A
 rw[uo]at g;intro H F E;have w:=Wk.start E;rw[CL,e.ah];have P:(e.kids.map Xp.cells).length=e.kids.length:=by simp
 refine MG func130 W ntmps130 W ?_;by_cases c:e.kd=12
 .obtain⟨f,p⟩:=C c;have v:(e.kd==4)=false:=by simp[c]
  have y:(e.kd==13)=false:=by simp[c]
  have z:(e.kd==12)=true:=by simp[c]
  rw[p]at h g;simp only[aP]at g;obtain⟨t,K,u,q,w,G⟩:=Wk.call (r:=[]) w (h f (by simp) l m (by omega));subst q;have Q:=lK f l;obtain⟨R,S,u,q,w,T⟩:=Wk.call (r:=[]) w (uq (hM f l) e.nm (by omega) t);subst q;have I:(e.kids.map Xp.cells)[((0:Nat):Int).toNat]?=some f.cells:=by rw[p];rfl
  rw[f.ah]at I G;have s:(if e.kd=4\/e.kd=13 then cu e.kids (bt l e.nm)else if e.kd=12 then bt (cu e.kids l) e.nm else cu e.kids l)=bt (hM f l) e.nm:=by
   rw[aid (by omega),air c,p];simp[cu]
  rw[s]
  repeat refine Mx ?_
  refine Mo ?_;refine DC.block ?_;refine Mo ?_;apply Mn
  .intro U V
   (refine ay W W W (r:=.bool false) (by show some (D.bool (e.kd==4))=_;rw[v]) ?_)
   refine TL.au
  refine Mo ?_;refine DC.cond W (λa=>by cases a) (λb=>?_);refine Mo ?_;apply Mn
  .intro U V
   (refine ay W W W (r:=.bool false) (by show some (D.bool (e.kd==13))=_;rw[y]) ?_)
   refine TL.au
  refine Mo ?_;refine DC.cond W (λa=>by cases a) (λb=>?_);refine Mo ?_;apply Mn
  .intro U V
   (refine ay W W W (r:=.bool true) (by show some (D.bool (e.kd==12))=_;rw[z]) ?_)
   refine TL.au
  refine Mo ?_;refine DC.cond W (λ_=>?_) (λa=>by cases a)
  repeat refine Mx ?_
  exact DC.ret ⟨_,W,_,W,w⟩
 obtain⟨d,k⟩:∃a,a=if e.kd=4\/e.kd=13 then bt l e.nm else l:=⟨_,rfl⟩
 have X:d.length<=l.length+1:=by rw[k];split;exact iQ l e.nm;omega
 have s:(if e.kd=4\/e.kd=13 then cu e.kids (bt l e.nm)else if e.kd=12 then bt (cu e.kids l) e.nm else cu e.kids l)=cu e.kids d:=by
  rw[k];simp only[aid c];split<;>rfl
 rw[s];refine Mx ?_;obtain⟨x,J,L,n⟩:∃a b,Wk F H [.acc 1 (aE d) a] b/\(if e.kd=4\/e.kd=13 then CT prog 179 [m,.d (.str e.nm)] H λc d=>c=a/\d=b else a=m/\b=H):=by
  by_cases f:e.kd=4\/e.kd=13
  .obtain⟨p,K,t,q,w,b⟩:=Wk.call (r:=[]) w (uq l e.nm (by omega) m);subst q;refine⟨p,K,?_,by rw[air f];exact b⟩;rw[k,air f];exact w
  .exact⟨m,H,by rw[k,aid f];exact w,by rw[aid f];exact⟨W,W⟩⟩
 refine DC.seq<|DC.D8 ⟨[(4,.m (.d (.bM (xC e) 0))),(0,.m x),(2,.m (.d (.bool false)))],[],J⟩ ?_ ?_
 .by_cases q:e.kd=4
  .rw[air (.inl q)]at n;have f:(e.kd==4)=true:=by simp[q]
   refine Mx ?_;refine Mo ?_;refine DC.block ?_;refine Mo ?_;apply Mn
   .intro I K
    (refine ay W W W (r:=.bool true) (by show some (D.bool (e.kd==4))=_;rw[f]) ?_)
    refine TL.au
   refine Mo ?_;refine DC.cond W (λb=>?_) (λa=>by cases a);refine DC.skip ?_;refine Mo ?_;refine DC.cond W (λb=>?_) (λa=>by cases a);refine Mx ?_;exact pJ W W
  have f:(e.kd==4)=false:=by simp[q]
  by_cases t:e.kd=13
  .rw[air (.inr t)]at n;have p:(e.kd==13)=true:=by simp[t]
   refine Mx ?_;refine Mo ?_;refine DC.block ?_;refine Mo ?_;apply Mn
   .intro I K
    (refine ay W W W (r:=.bool false) (by show some (D.bool (e.kd==4))=_;rw[f]) ?_)
    refine TL.au
   refine Mo ?_;refine DC.cond W (λa=>by cases a) (λb=>?_);refine Mo ?_;apply Mn
   .intro I K
    (refine ay W W W (r:=.bool true) (by show some (D.bool (e.kd==13))=_;rw[p]) ?_)
    refine TL.au
   refine Mo ?_;refine DC.cond W (λb=>?_) (λa=>by cases a);refine Mx ?_;exact pJ W W
  have p:(e.kd==13)=false:=by simp[t]
  have G:(e.kd==12)=false:=by simp[c]
  rw[aid (by omega)]at n;obtain⟨rfl,rfl⟩:=n;refine Mx ?_;refine Mo ?_;refine DC.block ?_;refine Mo ?_;apply Mn
  .intro I K
   (refine ay W W W (r:=.bool false) (by show some (D.bool (e.kd==4))=_;rw[f]) ?_)
   refine TL.au
  refine Mo ?_;refine DC.cond W (λa=>by cases a) (λb=>?_);refine Mo ?_;apply Mn
  .intro I K
   (refine ay W W W (r:=.bool false) (by show some (D.bool (e.kd==13))=_;rw[p]) ?_)
   refine TL.au
  refine Mo ?_;refine DC.cond W (λa=>by cases a) (λb=>?_);refine Mo ?_;apply Mn
  .intro I K
   (refine ay W W W (r:=.bool false) (by show some (D.bool (e.kd==12))=_;rw[G]) ?_)
   refine TL.au
  refine Mo ?_;refine DC.cond W (λa=>by cases a) (λb=>?_);by_cases y:e.kd=10
  .have u:(e.kd==10)=true:=by simp[y]
   refine Mo ?_;apply Mn
   .intro I K
    (refine ay W W W (r:=.bool true) (by show some (D.bool (e.kd==10))=_;rw[u]) ?_)
    refine TL.au
   refine Mo ?_;refine DC.cond W (λb=>?_) (λa=>by cases a);refine Mx ?_;refine Mo ?_;refine DC.cond W (λa=>by cases a) (λb=>?_);refine DC.skip<|pJ W W
  have u:(e.kd==10)=false:=by simp[y]
  refine Mo ?_;apply Mn
  .intro I K
   (refine ay W W W (r:=.bool false) (by show some (D.bool (e.kd==10))=_;rw[u]) ?_)
   refine TL.au
  refine Mo ?_;refine DC.cond W (λa=>by cases a) (λb=>?_);by_cases z:e.kd=9
  .have v:(e.kd==9)=true:=by simp[z]
   refine Mo ?_;apply Mn
   .intro I K
    (refine ay W W W (r:=.bool true) (by show some (D.bool (e.kd==9))=_;rw[v]) ?_)
    refine TL.au
   refine Mo ?_;refine DC.cond W (λb=>?_) (λa=>by cases a);refine Mx ?_;refine Mo ?_;refine DC.cond W (λa=>by cases a) (λb=>?_);refine DC.skip<|pJ W W
  have v:(e.kd==9)=false:=by simp[z]
  refine Mo ?_;apply Mn
  .intro I K
   (refine ay W W W (r:=.bool false) (by show some (D.bool (e.kd==9))=_;rw[v]) ?_)
   refine TL.au
  refine Mo ?_;refine DC.cond W (λa=>by cases a) (λb=>?_);refine DC.skip<|pJ W W
 have N:xC e=bh e.kd e.op e.num e.nm e.names (e.kids.map Xp.cells) e.ps:=rfl;rw[N];generalize e.kids=a at h B g P⊢;refine Mx ?_;refine Mo ?_;refine DC.block<|DC.loop (λm f=>∃(i:Nat) (b:M) (g:List (Nat×List M)) (c:Hp),f=⟨[(48,.m (.d (.int .i64 ((i:Nat):Int)))),(47,.m (.d (.int .i64 ((a.length:Nat):Int)))),(46,.m (.d (.sl (a.map Xp.cells)))),(0,.m b),(2,.m (.d (.bool false)))],g,c⟩/\
   Wk F H [.acc 1 (aE (cu (a.take i) d)) b] c/\i<=a.length/\m=a.length-i) a.length _
  ⟨0,x,_,_,rfl,by rw[aiD,cu];exact L,by omega,rfl⟩ W ?_
 rintro m Y ⟨i,O,Z,H1,rfl,w,hi,rfl⟩;refine Mx ?_;refine Mo ?_;refine DC.cond W (λb=>?_) (λb=>?_)
 .have f:i<a.length:=by have:=aic b;omega
  have p:(a.map Xp.cells)[((i:Nat):Int).toNat]?=some a[i].cells:=by simp[f]
  have q:cu (a.take (i+1)) d=hM a[i] (cu (a.take i) d):=by rw[ah5 f,nL];simp[cu]
  have I:=gJ (a.take i) d;have K:aP (a.take i)+bJ a[i]<=aP a:=by
   have j:aP a=aP (a.take (i+1))+aP (a.drop (i+1)):=by rw[<-kD,ai3]
   rw[ah5 f,kD]at j;simp only[aP]at j;omega
  obtain⟨y,G,z,v,w,t⟩:=Wk.call (r:=[]) w (h _ (aif f) _ O (by omega));subst v;generalize a[i]=u at p q t w;rw[u.ah]at p t;refine DC.skip ?_;refine Mo ?_;refine DC.block ?_
  repeat refine Mx ?_
  exact bf (k':=a.length-(i+1)) (by omega) ⟨i+1,_,_,_,rfl,by rw[q];exact w,by omega,rfl⟩ W W
 .refine DC.exit ?_;have f:i=a.length:=by have:=aie b;omega
  subst f;rw[aih]at w;refine Mx ?_;exact DC.ret ⟨_,W,_,W,w⟩
termination_by SizeOf.sizeOf e
def FG(e:Xp)(a:fG e)(b:bJ e<=1000000):Dt prog 83 [.d (.agg e.cells)] [] λr a=>r=.d (.sl (aE (hM e [])))/\a=[]:=by
 intro H F c;have w:=(Wk.start c).nil 1;obtain⟨x,K,g,d,w,f⟩:=Wk.call (r:=[]) w (AE e [] (.d (.sl [])) a (by simpa using b));subst d;rw[e.ah]at f⊢;refine MG func83 W ntmps83 W ?_
 repeat refine Mx ?_
 refine DC.aR 2 W (w.view (cU _))<|DC.ret ⟨_,W,[],⟨W,W⟩,w.drop⟩
def Em(e:Xp)(a:fG e)(b:bJ e<=1000000):Dt prog 137 [.d (.agg e.cells)] [] λr a=>r=.d (.sl (aE (kZ e [])))/\a=[]:=by
 intro H F c;have w:=(Wk.start c).nil 1;obtain⟨x,K,g,d,w,f⟩:=Wk.call (r:=[]) w (AD e [] (.d (.sl [])) a (by simpa using b));subst d;rw[e.ah]at f⊢;refine MG func137 W ntmps137 W ?_
 repeat refine Mx ?_
 refine DC.aR 2 W (w.view (cU _))<|DC.ret ⟨_,W,[],⟨W,W⟩,w.drop⟩
end Go.Proofs.Pz
namespace Go.Ps
open Go.Mt Go.Sm
abbrev fL(t:Int×Nm):List D:=[.int .u8 t.1,.str t.2]
def yD(a:List Va)(f:Nm->Int×Nm):Prop:=∀v∈a,(v.tk,v.tn)=f v.name
def GW(a:List Va)(x:Nm):Prop:=∃v∈a,v.name=x
def sd(op:Int):Int:=if op=1\/op=8\/op=9\/op=10 then 1 else if 2<=op/\op<=7 then 2 else if 13<=op/\op<=16 then 2 else 0
def BU{a:List Va}{f:Nm->Int×Nm}{x:Nm}(d:yD a f)(e:GW a x):∃(i:Nat) (h:i<a.length),r_ a x=some i/\(a[i].tk,a[i].tn)=f x:=by
 obtain⟨v,g,rfl⟩:=e;rcases rJ a (λu=>decide (u.name=v.name))with⟨c,b⟩|⟨i,h,c,b⟩
 .rw[akD]at b;exact absurd (b v g) (by simp)
 .refine⟨i,h,?_,?_⟩
  .exact c
  .have:=List.find?_some b;rw[d _ (aif h),aic this]
def k_{a:List Va}{i:Nat}(h:i<a.length):(ax a)[((i:Nat):Int).toNat]?=some a[i].cells:=by simp[ax,h]
end Go.Ps
namespace Go.Proofs.Pz
open Go.Mt Go.Sm Go.Ps Go.Proofs
open Tryz
instance:t_ prog 53:=⟨by kernel_rfl⟩
def Iu{a:List Va}{f:Nm->Int×Nm}(e:yD a f)(g:a.length<=10000000){x:Nm}(h:GW a x):PT prog 317 [.sl (ax a),.str x] (·=[.agg (fL (f x))]):=by
 obtain⟨i,j,k,c⟩:=BU e h;have d:=ul a x g;rw[k]at d;have b:=k_ j;rw[<-c];generalize a[i]=v at b c;rw[Va.ah]at b;refine ML (My func317 W ntmps317 W λl m=>?_)
 repeat refine TC.seq ?_
 refine TC.region ?_;refine cG W W ?_;refine TL.nil ?_
 repeat refine TC.seq ?_
 refine TC.region ?_;refine aq W W ?_;refine aq W W ?_;refine aq W W ?_;refine aX d W W ?_;refine bH W W W (ah7 i) b W ?_;refine aG W W ?_;refine eh W W W ?_;refine aK W W W W W W ?_;refine TL.nil ?_;exact TC.ret ⟨_,W,[_],W,W⟩
def oK(op:Int)(h:1<=op/\op<=16):PT prog 126 [.int .u8 op] (·=[.int .u8 (sd op),.int .u8 (qM op)]):=by
 have a:op=1\/op=2\/op=3\/op=4\/op=5\/op=6\/op=7\/op=8\/op=9\/op=10\/op=11\/op=12\/op=13\/op=14\/op=15\/op=16:=by omega
 rcases a with rfl|rfl|rfl|rfl|rfl|rfl|rfl|rfl|rfl|rfl|rfl|rfl|rfl|rfl|rfl|rfl
 all_goals
  refine ML (My func126 W ntmps126 W λb c=>?_)
  repeat first|((with_reducible apply TC.seq))|((with_reducible apply TC.block))|((with_reducible apply MZ);rfl)|((with_reducible apply MJ);rfl)|((with_reducible apply TC.skip))|((with_reducible apply TC.exit))|((with_reducible apply TC.ret))|((with_reducible apply fb))|((with_reducible apply iy))|((with_reducible apply ue))|((with_reducible apply jY))|((with_reducible apply uf))|((with_reducible apply iz))|((apply TC.region);(repeat first|((with_reducible apply aq);rfl;rfl)|((with_reducible apply aj);rfl;rfl)|((with_reducible apply(ay (r:=.bool true)));rfl;rfl;rfl;rfl)|((with_reducible apply(ay (r:=.bool false)));rfl;rfl;rfl;rfl));(apply TL.nil))
  exact⟨_,W,[_,_],W,W⟩
def BV{a b:Int×Nm}(h:a=b):(!(decide (a.1=b.1)&&decide (a.2=b.2)))=false:=by subst h;simp
def uu(e:Xp)(b:List (Int×Nm))(f:Int×Nm)(d:b.head?=some f)(q:1<=e.op/\e.op<=16)(A:b.length<=1000000)(h:∀t∈b,(sd e.op≠0->t.1=sd e.op)/\t=f):
  PT prog 318 [.agg e.cells,.sl (b.map fL)] (·=[.agg (fL (qM e.op,⟨#[]⟩))]):=by
 have s:=oK e.op q;rw[e.ah];refine ML (My func318 W ntmps318 W λB C=>?_)
 repeat refine TC.seq ?_
 refine TC.region ?_;refine gZ W W ?_;refine cG W W ?_;refine TL.nil ?_
 repeat refine TC.seq ?_
 refine TC.region ?_;refine aG W W ?_;refine aI W W W ?_
 (refine tQ s W W ?_;rintro _ rfl)
 refine aq W W ?_;refine gH W W W ?_;refine gH W W W ?_;refine aj W W ?_;refine aj W W ?_;refine TL.nil ?_;have x:(b.map fL).length=b.length:=by simp
 have k:(b.map fL)[((0:Nat):Int).toNat]?=some (fL f):=by cases b with|nil=>cases d|cons a r=>injection d with d;subst d;rfl
 repeat refine TC.seq ?_
 refine TC.region ?_;refine aq W W ?_
 (refine aY W W W ?_;rw[x])
 refine aq W W ?_;refine TL.nil ?_
 repeat refine TC.seq ?_
 refine TC.block ?_;refine M9 (λk s=>∃(i:Nat) (c:List (Nat×List M)),s=⟨[(17,.m (.d (.int .i64 i))),(16,.m (.d (.int .i64 (b.length:Nat)))),(15,.m (.d (.sl (b.map fL)))),(6,.m (.d (.int .u8 (qM e.op)))),(5,.m (.d (.int .u8 (sd e.op)))),(4,.loc 4 0),(2,.m (.d (.bM (xC e) 0))),(1,.m (.d (.sl (b.map fL))))],c,[]⟩/\Go.Mt.get c 4=some [.d (.int .u8 0),.d (.str ⟨#[]⟩)]/\i<=b.length/\k=b.length-i) b.length _
  ⟨0,_,rfl,rfl,by omega,rfl⟩ W ?_
 rintro y z ⟨i,E,rfl,g,F,rfl⟩
 repeat refine TC.seq ?_
 refine TC.region ?_;refine ay W W W W ?_;refine TL.nil ?_
 repeat refine TC.seq ?_
 refine TC.cond W (λc=>?_) (λc=>?_)
 .have l:i<b.length:=by have:=aic c;omega
  clear c;have m:(b.map fL)[((i:Nat):Int).toNat]?=some (fL b[i]):=by simp[l]
  obtain⟨n,o⟩:=h _ (aif l);generalize b[i]=t at m n o;have p:=BV o;refine TC.skip ?_
  repeat refine TC.seq ?_
  refine TC.block ?_
  repeat refine TC.seq ?_
  refine TC.region ?_;refine bH W W W (ah7 i) m W ?_;refine ca W W W ?_;refine cG W W ?_;refine aK W W W W W W ?_;refine TL.nil ?_;by_cases j:sd e.op=0
  .have v:(sd e.op !=0)=false:=by simp[j]
   repeat refine TC.seq ?_
   refine OP mixed ?_;refine bG W W ?_
   (refine kV W W W (r:=.bool false) (by show some (D.bool (sd e.op !=0))=_;rw[v]) ?_)
   refine bG W W ?_;refine e_ W W W W ?_;refine e_ W W W W ?_;refine e_ W W W W ?_;refine e_ W W W W ?_;refine pA W W W ?_;refine bG W W ?_;refine bO W W ?_;refine cY W W W W W ?_;refine bO W W ?_;refine bG W W ?_;refine bO W W ?_;refine bE W W W (ah7 0) k W ?_;refine bO W W ?_;refine dY W W W ?_;refine bO W W ?_;refine uc W W W ?_;rw[p];refine pA W W W ?_;refine TF.nil ⟨by kernel_rfl,?_⟩
   repeat refine TC.seq ?_
   refine TC.cond W (λu=>by cases u) (λc=>?_);refine TC.skip ?_
   repeat refine TC.seq ?_
   refine TC.region ?_;refine bc W W W (by omega) ?_;refine aq W W ?_;refine TL.nil ?_;exact again (k':=b.length-(i+1)) (by omega) ⟨i+1,_,rfl,g,by omega,rfl⟩ W W
  .have v:(sd e.op !=0)=true:=by simp[j]
   have w:(t.1 !=sd e.op)=false:=by simp[n j]
   repeat refine TC.seq ?_
   refine OP mixed ?_;refine bG W W ?_
   (refine kV W W W (r:=.bool true) (by show some (D.bool (sd e.op !=0))=_;rw[v]) ?_)
   refine bG W W ?_;refine bO W W ?_;refine cF W W ?_;refine bO W W ?_;refine cO W W W W ?_;refine bO W W ?_;refine bG W W ?_;refine bO W W ?_;refine kV W W W (r:=.bool false) (by show some (D.bool (t.1 !=sd e.op))=_;rw[w]) ?_;refine pA W W W ?_;refine bG W W ?_;refine bO W W ?_;refine cY W W W W W ?_;refine bO W W ?_;refine bG W W ?_;refine bO W W ?_;refine bE W W W (ah7 0) k W ?_;refine bO W W ?_;refine dY W W W ?_;refine bO W W ?_;refine uc W W W ?_;rw[p];refine pA W W W ?_;refine TF.nil ⟨by kernel_rfl,?_⟩
   repeat refine TC.seq ?_
   refine TC.cond W (λu=>by cases u) (λc=>?_);refine TC.skip ?_
   repeat refine TC.seq ?_
   refine TC.region ?_;refine bc W W W (by omega) ?_;refine aq W W ?_;refine TL.nil ?_;exact again (k':=b.length-(i+1)) (by omega) ⟨i+1,_,rfl,g,by omega,rfl⟩ W W
 .refine TC.exit ?_
  repeat refine TC.seq ?_
  refine TC.region ?_;refine aq W W ?_;refine g_ W W W W W ?_;refine aK W W g W W W ?_;refine TL.nil ?_;exact TC.ret ⟨_,W,[_],W,W⟩
end Go.Proofs.Pz
namespace Go.Ps
open Go.Mt Go.Sm
def LN(en:List En)(f:Nm->Int×Nm)(a:Nm->Prop)(e:Xp):Prop:=
 e.kd=1\/e.kd=2\/(e.kd=3/\∃t∈en,cW t.fu e.nm=true)\/(e.kd=4/\a e.nm)\/(e.kd=5/\a e.nm)\/
 ((e.kd=6\/e.kd=7)/\(1<=e.op/\e.op<=16)/\∃a r,e.kids=a::r/\∀k∈e.kids,(sd e.op≠0->(dG en f k).1=sd e.op)/\dG en f k=dG en f a)\/
 (e.kd=8/\∃a b c,e.kids=[a,b,c]/\(dG en f a).1=1/\dG en f b=dG en f c)\/
 ((e.kd=9\/e.kd=11)/\∃a b,e.kids=[a,b]/\dG en f a=dG en f b)\/(e.kd=10/\∃a,e.kids=[a])
inductive oL(en:List En)(f:Nm->Int×Nm)(a:Nm->Prop):Xp->Prop where
 |mk {e:Xp} (b:∀k∈e.kids,oL en f a k) (c:e.kids.length<=1000000) (h:LN en f a e):oL en f a e
def BW(en:List En)(f:Nm->Int×Nm)(e:Xp):dG en f e=if e.kd=1 then(2,⟨#[]⟩)else if e.kd=2 then(1,⟨#[]⟩)else if e.kd=3 then(3,ow en e.nm)else if e.kd=4\/e.kd=5 then f e.nm
  else if e.kd=6\/e.kd=7 then(qM e.op,⟨#[]⟩)
  else match e.kids with
   |[]=>(0,⟨#[]⟩)
   |a::r=>if e.kd=8 then(match r with|[]=>(0,⟨#[]⟩)|b::_=>dG en f b)else dG en f a:=by
 cases e with|mk k a n x d c p=>
 rw[dG.eq_def];rfl
def Eo{en:List En}{x:Nm}(h:∃t∈en,cW t.fu x=true):∃(i:Nat) (hi:i<en.length),en.findIdx? (λe=>cW e.fu x)=some i/\ow en x=en[i].name:=by
 obtain⟨t,c,d⟩:=h;rcases rJ en (λu=>cW u.fu x)with⟨b,a⟩|⟨i,h,b,a⟩
 .rw[akD]at a;exact absurd d (a t c)
 .exact⟨i,h,b,by rw[ow,a]⟩
def GX(l:List (Int×Nm)):∀r∈l.map fL,r.length=2:=by
 intro r a;rw[aij]at a;obtain⟨t,_,rfl⟩:=a;rfl
end Go.Ps
namespace Go.Proofs.Pz
open Go.Mt Go.Sm Go.Ps Go.Proofs
open Tryz
def fy{en:List En}(A:k8 en)(o:List (List D)){l:List Va}{f:Nm->Int×Nm}(p:yD l f)(q:l.length<=10000000)(e:Xp)(x:oL en f (GW l) e):
  Dt prog 313 [.d (.bM [.sl (en.map En.cells),.sl o] 0),.d (.sl (ax l)),.d (.agg e.cells)] [] λr d=>r=.d (.agg (fL (dG en f e)))/\d=[]:=by
 have C:∀k∈e.kids,Dt prog 313 [.d (.bM [.sl (en.map En.cells),.sl o] 0),.d (.sl (ax l)),.d (.agg k.cells)] [] λr B=>r=.d (.agg (fL (dG en f k)))/\B=[]:=
  λk d=>
   have:=Od d
   fy A o p q k (by cases x with|mk g _ _=>exact g k d)
 obtain⟨E,O⟩:e.kids.length<=1000000/\LN en f (GW l) e:=by cases x with|mk _ g y=>exact⟨g,y⟩
 intro K L P;have w:=(Wk.start P).nil 2;have U:(e.kids.map Xp.cells).length=e.kids.length:=by simp
 rw[e.ah];refine MG func313 W ntmps313 W ?_
 repeat refine DC.seq ?_
 apply Mn
 .intro d h;refine gZ W W ?_;refine cG W W ?_;exact TL.nil W
 repeat refine DC.seq ?_
 apply Mn
 .intro d h;refine aj W W ?_;exact TL.nil W
 repeat refine DC.seq ?_
 apply Mn
 .intro d h;refine aG W W ?_;refine aI W W W ?_
  (refine aY W W W ?_;rw[U])
  refine aq W W ?_;exact TL.nil W
 refine Nq [(13,.m (.d (.int .i64 ((0:Nat):Int)))),(12,.m (.d (.int .i64 ((e.kids.length:Nat):Int)))),(11,.m (.d (.sl (e.kids.map Xp.cells)))),(7,.m (.d (.sl []))),(6,.loc 6 0),(5,.m (.d (.bM (xC e) 0))),(1,.m (.d (.sl (ax l)))),(0,.m (.d (.bM [.sl (en.map En.cells),.sl o] 0)))] _ _ W (λ_=>rfl) W ?_
 repeat refine DC.seq ?_
 refine DC.block ?_;refine DC.loop (λm j=>∃(i:Nat) (d:M) (g:List (Nat×List M)) (h:Hp),j=⟨[(13,.m (.d (.int .i64 ((i:Nat):Int)))),(12,.m (.d (.int .i64 ((e.kids.length:Nat):Int)))),(11,.m (.d (.sl (e.kids.map Xp.cells)))),(7,.m d),(6,.loc 6 0),(5,.m (.d (.bM (xC e) 0))),(1,.m (.d (.sl (ax l)))),(0,.m (.d (.bM [.sl (en.map En.cells),.sl o] 0)))],g,h⟩/\
   Go.Mt.get g 6=some [.d (.int .u8 0),.d (.str ⟨#[]⟩)]/\
   Wk L K [.acc 2 (((e.kids.take i).map (dG en f)).map fL) d] h/\i<=e.kids.length/\m=e.kids.length-i) e.kids.length _
  ⟨0,.d (.sl []),_,_,rfl,rfl,w,by omega,rfl⟩ W ?_
 clear w;rintro m Y ⟨i,Z,bx,H1,rfl,j,w,t,rfl⟩
 repeat refine DC.seq ?_
 apply Mn
 .intro d h;refine ay W W W W ?_;exact TL.nil W
 repeat refine DC.seq ?_
 refine DC.cond W (λu=>?_) (λu=>?_)
 .have d:i<e.kids.length:=by have:=aic u;omega
  clear u;have h:(e.kids.map Xp.cells)[((i:Nat):Int).toNat]?=some e.kids[i].cells:=by simp[d]
  have s:((e.kids.take (i+1)).map (dG en f)).map fL=((e.kids.take i).map (dG en f)).map fL++[fL (dG en f e.kids[i])]:=by rw[qQ _ _ _ _ _ d,aio];rfl
  obtain⟨v,G,B,⟨rfl,rfl⟩,w,k⟩:=Wk.call (a:=[]) w (C _ (aif d));generalize e.kids[i]=n at h s k w;rw[n.ah]at h k;refine DC.skip ?_
  repeat refine DC.seq ?_
  refine DC.block ?_
  repeat refine DC.seq ?_
  apply Mn
  .intro z F;refine bH W W W (ah7 i) h W ?_;refine ca W W W ?_;refine cG W W ?_;refine aK W W W W W W ?_;exact TL.nil W
  repeat refine DC.seq ?_
  apply Mn
  .intro z F;refine aq W W ?_;refine aq W W ?_;refine aq W W ?_;refine bp W W W W W ?_;refine aA k W W ?_;refine dF W W W W W W W W ?_;refine cT w W W W W W W (by exact bS W) (by simp only[ah8,ait,aik];omega) ?_;refine aj W W ?_;exact TL.nil W
  have w:=w.app [fL (dG en f n)]
  repeat refine DC.seq ?_
  apply Mn
  .intro z F;refine bc W W W (by omega) ?_;refine aq W W ?_;exact TL.nil W
  exact bf (k':=e.kids.length-(i+1)) (by omega) ⟨i+1,_,_,_,rfl,j,by rw[s];exact w,by omega,rfl⟩ W W
 .refine DC.exit ?_;obtain rfl:i=e.kids.length:=by have:=aie u;omega
  rw[aih]at w;have F:=w.view (GX _);refine DC.aR 7 W F ?_;have k:=w.drop;clear F w
  repeat refine DC.seq ?_
  apply Mn
  .intro z J;refine aG W W ?_;refine aI W W W ?_;exact TL.nil W
  rw[BW];have G:xC e=bh e.kd e.op e.num e.nm e.names (e.kids.map Xp.cells) e.ps:=rfl;rw[G];clear G C x;rcases O with h|h|⟨h,v,n,Q⟩|⟨h,s⟩|⟨h,s⟩|⟨h,H,a,r,d,I⟩|⟨h,a,b,c,d,g,y⟩|⟨h,a,b,d,g⟩|⟨h,a,d⟩
  .rw[h];simp only[ajL]
   repeat refine DC.seq ?_
   refine DC.block ?_
   repeat refine DC.seq ?_
   apply Mn
   .intro z J;refine ay W W W (r:=.bool false) W ?_;refine aj W W ?_;exact TL.nil W
   repeat refine DC.seq ?_
   refine Mw W ?_
   repeat refine DC.seq ?_
   apply Mn
   .intro z J;refine ay W W W (r:=.bool false) W ?_;refine aj W W ?_;exact TL.nil W
   repeat refine DC.seq ?_
   refine Mw W ?_
   repeat refine DC.seq ?_
   apply Mn
   .intro z J;refine ay W W W (r:=.bool false) W ?_;refine aj W W ?_;exact TL.nil W
   repeat refine DC.seq ?_
   refine Mw W ?_
   repeat refine DC.seq ?_
   apply Mn
   .intro z J;refine ay W W W (r:=.bool false) W ?_;refine aj W W ?_;exact TL.nil W
   repeat refine DC.seq ?_
   refine Mw W ?_;refine DC.skip ?_
   repeat refine DC.seq ?_
   apply Mn
   .intro z J;refine aG W W ?_;refine aI W W W ?_;exact TL.nil W
   repeat refine DC.seq ?_
   refine DC.block ?_
   repeat refine DC.seq ?_
   apply Mn
   .intro z J;refine ay W W W (r:=.bool true) W ?_;refine aj W W ?_;exact TL.nil W
   repeat refine DC.seq ?_
   refine MM W ?_
   repeat refine DC.seq ?_
   apply Mn
   .intro z J;refine g_ W W W W W ?_;refine aK W W j W W W ?_;exact TL.nil W
   exact DC.ret ⟨_,W,_,⟨W,W⟩,k⟩
  .rw[h];rw[aid (by omega),air W]
   repeat refine DC.seq ?_
   refine DC.block ?_
   repeat refine DC.seq ?_
   apply Mn
   .intro z J;refine ay W W W (r:=.bool false) W ?_;refine aj W W ?_;exact TL.nil W
   repeat refine DC.seq ?_
   refine Mw W ?_
   repeat refine DC.seq ?_
   apply Mn
   .intro z J;refine ay W W W (r:=.bool false) W ?_;refine aj W W ?_;exact TL.nil W
   repeat refine DC.seq ?_
   refine Mw W ?_
   repeat refine DC.seq ?_
   apply Mn
   .intro z J;refine ay W W W (r:=.bool false) W ?_;refine aj W W ?_;exact TL.nil W
   repeat refine DC.seq ?_
   refine Mw W ?_
   repeat refine DC.seq ?_
   apply Mn
   .intro z J;refine ay W W W (r:=.bool false) W ?_;refine aj W W ?_;exact TL.nil W
   repeat refine DC.seq ?_
   refine Mw W ?_;refine DC.skip ?_
   repeat refine DC.seq ?_
   apply Mn
   .intro z J;refine aG W W ?_;refine aI W W W ?_;exact TL.nil W
   repeat refine DC.seq ?_
   refine DC.block ?_
   repeat refine DC.seq ?_
   apply Mn
   .intro z J;refine ay W W W (r:=.bool false) W ?_;refine aj W W ?_;exact TL.nil W
   repeat refine DC.seq ?_
   refine Mw W ?_
   repeat refine DC.seq ?_
   apply Mn
   .intro z J;refine ay W W W (r:=.bool true) W ?_;refine aj W W ?_;exact TL.nil W
   repeat refine DC.seq ?_
   refine MM W ?_
   repeat refine DC.seq ?_
   apply Mn
   .intro z J;refine g_ W W W W W ?_;refine aK W W j W W W ?_;exact TL.nil W
   exact DC.ret ⟨_,W,_,⟨W,W⟩,k⟩
  .rw[h];rw[aid (by omega),aid (by omega),air W];obtain⟨i,t,N,R⟩:=Eo ⟨v,n,Q⟩;rw[R];have J:=um A e.nm;rw[N]at J;have z:=yB t;generalize en[i]=V at z;unfold En.cells at z
   repeat refine DC.seq ?_
   refine DC.block ?_
   repeat refine DC.seq ?_
   apply Mn
   .intro S T;refine ay W W W (r:=.bool false) W ?_;refine aj W W ?_;exact TL.nil W
   repeat refine DC.seq ?_
   refine Mw W ?_
   repeat refine DC.seq ?_
   apply Mn
   .intro S T;refine ay W W W (r:=.bool false) W ?_;refine aj W W ?_;exact TL.nil W
   repeat refine DC.seq ?_
   refine Mw W ?_
   repeat refine DC.seq ?_
   apply Mn
   .intro S T;refine ay W W W (r:=.bool false) W ?_;refine aj W W ?_;exact TL.nil W
   repeat refine DC.seq ?_
   refine Mw W ?_
   repeat refine DC.seq ?_
   apply Mn
   .intro S T;refine ay W W W (r:=.bool false) W ?_;refine aj W W ?_;exact TL.nil W
   repeat refine DC.seq ?_
   refine Mw W ?_;refine DC.skip ?_
   repeat refine DC.seq ?_
   apply Mn
   .intro S T;refine aG W W ?_;refine aI W W W ?_;exact TL.nil W
   repeat refine DC.seq ?_
   refine DC.block ?_
   repeat refine DC.seq ?_
   apply Mn
   .intro S T;refine ay W W W (r:=.bool false) W ?_;refine aj W W ?_;exact TL.nil W
   repeat refine DC.seq ?_
   refine Mw W ?_
   repeat refine DC.seq ?_
   apply Mn
   .intro S T;refine ay W W W (r:=.bool false) W ?_;refine aj W W ?_;exact TL.nil W
   repeat refine DC.seq ?_
   refine Mw W ?_
   repeat refine DC.seq ?_
   apply Mn
   .intro S T;refine ay W W W (r:=.bool true) W ?_;refine aj W W ?_;exact TL.nil W
   repeat refine DC.seq ?_
   refine MM W ?_
   repeat refine DC.seq ?_
   apply Mz mixed
   .intro S T;refine bG W W ?_;refine dJ W W W ?_;refine cm W W ?_;refine cm W W ?_;refine di W W W ?_;refine bG W W ?_;refine dJ W W W ?_;refine cm W W ?_;refine cm W W ?_;refine di W W W ?_;refine cm W W ?_;refine di W W W ?_;refine bm J W W ?_;refine bE W W W (ah7 i) z W ?_;refine cm W W ?_;refine di W W W ?_;refine tV W W W W W ?_;refine cv W W j W W W ?_;exact TF.nil ⟨by kernel_rfl,rfl⟩
   exact DC.ret ⟨_,W,_,⟨W,W⟩,k⟩
  .rw[h];rw[aid (by omega),aid (by omega),aid (by omega),air (.inl W)];obtain⟨i,t,g,_⟩:=BU p s;have z:=ul l e.nm q;rw[g]at z;have J:=Iu p q s;have N:decide (((i:Nat):Int)<0)=false:=ai1 (by omega)
   repeat refine DC.seq ?_
   refine DC.block ?_
   repeat refine DC.seq ?_
   apply Mn
   .intro R S;refine ay W W W (r:=.bool true) W ?_;refine aj W W ?_;exact TL.nil W
   repeat refine DC.seq ?_
   refine MM W ?_;refine DC.skip ?_
   repeat refine DC.seq ?_
   refine MM W ?_
   repeat refine DC.seq ?_
   apply Mn
   .intro R S;refine aq W W ?_;refine aG W W ?_;refine aI W W W ?_;refine aX z W W ?_
    (refine ay W W W (r:=.bool false) (by show some (D.bool (decide (((i:Nat):Int)<0)))=_;rw[N]) ?_)
    exact TL.nil W
   repeat refine DC.seq ?_
   refine Mw W ?_;refine DC.skip ?_
   repeat refine DC.seq ?_
   apply Mn
   .intro R S;refine aG W W ?_;refine aI W W W ?_;exact TL.nil W
   repeat refine DC.seq ?_
   refine DC.block ?_
   repeat refine DC.seq ?_
   apply Mn
   .intro R S;refine ay W W W (r:=.bool false) W ?_;refine aj W W ?_;exact TL.nil W
   repeat refine DC.seq ?_
   refine Mw W ?_
   repeat refine DC.seq ?_
   apply Mn
   .intro R S;refine ay W W W (r:=.bool false) W ?_;refine aj W W ?_;exact TL.nil W
   repeat refine DC.seq ?_
   refine Mw W ?_
   repeat refine DC.seq ?_
   apply Mn
   .intro R S;refine ay W W W (r:=.bool false) W ?_;refine aj W W ?_;exact TL.nil W
   repeat refine DC.seq ?_
   refine Mw W ?_
   repeat refine DC.seq ?_
   apply Mn
   .intro R S;refine ay W W W (r:=.bool true) W ?_;refine aj W W ?_;exact TL.nil W
   repeat refine DC.seq ?_
   refine MM W ?_;refine DC.skip ?_
   repeat refine DC.seq ?_
   refine MM W ?_
   repeat refine DC.seq ?_
   apply Mn
   .intro R S;refine aq W W ?_;refine aG W W ?_;refine aI W W W ?_;refine aX J W W ?_;refine aK W W j W W W ?_;exact TL.nil W
   exact DC.ret ⟨_,W,_,⟨W,W⟩,k⟩
  .rw[h];rw[aid (by omega),aid (by omega),aid (by omega),air (.inr W)];obtain⟨i,t,g,_⟩:=BU p s;have z:=ul l e.nm q;rw[g]at z;have J:=Iu p q s;have N:decide (((i:Nat):Int)<0)=false:=ai1 (by omega)
   repeat refine DC.seq ?_
   refine DC.block ?_
   repeat refine DC.seq ?_
   apply Mn
   .intro R S;refine ay W W W (r:=.bool false) W ?_;refine aj W W ?_;exact TL.nil W
   repeat refine DC.seq ?_
   refine Mw W ?_
   repeat refine DC.seq ?_
   apply Mn
   .intro R S;refine ay W W W (r:=.bool true) W ?_;refine aj W W ?_;exact TL.nil W
   repeat refine DC.seq ?_
   refine MM W ?_;refine DC.skip ?_
   repeat refine DC.seq ?_
   refine MM W ?_
   repeat refine DC.seq ?_
   apply Mn
   .intro R S;refine aq W W ?_;refine aG W W ?_;refine aI W W W ?_;refine aX z W W ?_
    (refine ay W W W (r:=.bool false) (by show some (D.bool (decide (((i:Nat):Int)<0)))=_;rw[N]) ?_)
    exact TL.nil W
   repeat refine DC.seq ?_
   refine Mw W ?_;refine DC.skip ?_
   repeat refine DC.seq ?_
   apply Mn
   .intro R S;refine aG W W ?_;refine aI W W W ?_;exact TL.nil W
   repeat refine DC.seq ?_
   refine DC.block ?_
   repeat refine DC.seq ?_
   apply Mn
   .intro R S;refine ay W W W (r:=.bool false) W ?_;refine aj W W ?_;exact TL.nil W
   repeat refine DC.seq ?_
   refine Mw W ?_
   repeat refine DC.seq ?_
   apply Mn
   .intro R S;refine ay W W W (r:=.bool false) W ?_;refine aj W W ?_;exact TL.nil W
   repeat refine DC.seq ?_
   refine Mw W ?_
   repeat refine DC.seq ?_
   apply Mn
   .intro R S;refine ay W W W (r:=.bool false) W ?_;refine aj W W ?_;exact TL.nil W
   repeat refine DC.seq ?_
   refine Mw W ?_
   repeat refine DC.seq ?_
   apply Mn
   .intro R S;refine ay W W W (r:=.bool false) W ?_;refine aj W W ?_;exact TL.nil W
   repeat refine DC.seq ?_
   refine Mw W ?_
   repeat refine DC.seq ?_
   apply Mn
   .intro R S;refine ay W W W (r:=.bool true) W ?_;refine aj W W ?_;exact TL.nil W
   repeat refine DC.seq ?_
   refine MM W ?_
   repeat refine DC.seq ?_
   apply Mn
   .intro R S;refine aq W W ?_;refine aG W W ?_;refine aI W W W ?_;refine aX J W W ?_;refine aK W W j W W W ?_;exact TL.nil W
   exact DC.ret ⟨_,W,_,⟨W,W⟩,k⟩
  .rcases h with h|h
   .rw[aid (by omega),aid (by omega),aid (by omega),aid (by omega),air (.inl h)];have z:=uu e (e.kids.map (dG en f)) (dG en f a) (by rw[d];rfl) H (by rw[ah8];exact E) (by intro v n;rw[aij]at n;obtain⟨J,N,rfl⟩:=n;exact I J N);rw[e.ah]at z;rw[h]at z⊢
    repeat refine DC.seq ?_
    refine DC.block ?_
    repeat refine DC.seq ?_
    apply Mn
    .intro R S;refine ay W W W (r:=.bool false) W ?_;refine aj W W ?_;exact TL.nil W
    repeat refine DC.seq ?_
    refine Mw W ?_
    repeat refine DC.seq ?_
    apply Mn
    .intro R S;refine ay W W W (r:=.bool false) W ?_;refine aj W W ?_;exact TL.nil W
    repeat refine DC.seq ?_
    refine Mw W ?_
    repeat refine DC.seq ?_
    apply Mn
    .intro R S;refine ay W W W (r:=.bool false) W ?_;refine aj W W ?_;exact TL.nil W
    repeat refine DC.seq ?_
    refine Mw W ?_
    repeat refine DC.seq ?_
    apply Mn
    .intro R S;refine ay W W W (r:=.bool false) W ?_;refine aj W W ?_;exact TL.nil W
    repeat refine DC.seq ?_
    refine Mw W ?_;refine DC.skip ?_
    repeat refine DC.seq ?_
    apply Mn
    .intro R S;refine aG W W ?_;refine aI W W W ?_;exact TL.nil W
    repeat refine DC.seq ?_
    refine DC.block ?_
    repeat refine DC.seq ?_
    apply Mn
    .intro R S;refine ay W W W (r:=.bool false) W ?_;refine aj W W ?_;exact TL.nil W
    repeat refine DC.seq ?_
    refine Mw W ?_
    repeat refine DC.seq ?_
    apply Mn
    .intro R S;refine ay W W W (r:=.bool false) W ?_;refine aj W W ?_;exact TL.nil W
    repeat refine DC.seq ?_
    refine Mw W ?_
    repeat refine DC.seq ?_
    apply Mn
    .intro R S;refine ay W W W (r:=.bool false) W ?_;refine aj W W ?_;exact TL.nil W
    repeat refine DC.seq ?_
    refine Mw W ?_
    repeat refine DC.seq ?_
    apply Mn
    .intro R S;refine ay W W W (r:=.bool false) W ?_;refine aj W W ?_;exact TL.nil W
    repeat refine DC.seq ?_
    refine Mw W ?_
    repeat refine DC.seq ?_
    apply Mn
    .intro R S;refine ay W W W (r:=.bool false) W ?_;refine aj W W ?_;exact TL.nil W
    repeat refine DC.seq ?_
    refine Mw W ?_
    repeat refine DC.seq ?_
    apply Mn
    .intro R S;refine ay W W W (r:=.bool true) W ?_;refine aj W W ?_;exact TL.nil W
    repeat refine DC.seq ?_
    refine MM W ?_;refine DC.skip ?_
    repeat refine DC.seq ?_
    refine MM W ?_
    repeat refine DC.seq ?_
    apply Mn
    .intro R S;refine ca W W W ?_;refine aq W W ?_;refine aX z W W ?_;refine aK W W j W W W ?_;exact TL.nil W
    exact DC.ret ⟨_,W,_,⟨W,W⟩,k⟩
   .rw[aid (by omega),aid (by omega),aid (by omega),aid (by omega),air (.inr h)];have z:=uu e (e.kids.map (dG en f)) (dG en f a) (by rw[d];rfl) H (by rw[ah8];exact E) (by intro v n;rw[aij]at n;obtain⟨J,N,rfl⟩:=n;exact I J N);rw[e.ah]at z;rw[h]at z⊢
    repeat refine DC.seq ?_
    refine DC.block ?_
    repeat refine DC.seq ?_
    apply Mn
    .intro R S;refine ay W W W (r:=.bool false) W ?_;refine aj W W ?_;exact TL.nil W
    repeat refine DC.seq ?_
    refine Mw W ?_
    repeat refine DC.seq ?_
    apply Mn
    .intro R S;refine ay W W W (r:=.bool false) W ?_;refine aj W W ?_;exact TL.nil W
    repeat refine DC.seq ?_
    refine Mw W ?_
    repeat refine DC.seq ?_
    apply Mn
    .intro R S;refine ay W W W (r:=.bool false) W ?_;refine aj W W ?_;exact TL.nil W
    repeat refine DC.seq ?_
    refine Mw W ?_
    repeat refine DC.seq ?_
    apply Mn
    .intro R S;refine ay W W W (r:=.bool false) W ?_;refine aj W W ?_;exact TL.nil W
    repeat refine DC.seq ?_
    refine Mw W ?_;refine DC.skip ?_
    repeat refine DC.seq ?_
    apply Mn
    .intro R S;refine aG W W ?_;refine aI W W W ?_;exact TL.nil W
    repeat refine DC.seq ?_
    refine DC.block ?_
    repeat refine DC.seq ?_
    apply Mn
    .intro R S;refine ay W W W (r:=.bool false) W ?_;refine aj W W ?_;exact TL.nil W
    repeat refine DC.seq ?_
    refine Mw W ?_
    repeat refine DC.seq ?_
    apply Mn
    .intro R S;refine ay W W W (r:=.bool false) W ?_;refine aj W W ?_;exact TL.nil W
    repeat refine DC.seq ?_
    refine Mw W ?_
    repeat refine DC.seq ?_
    apply Mn
    .intro R S;refine ay W W W (r:=.bool false) W ?_;refine aj W W ?_;exact TL.nil W
    repeat refine DC.seq ?_
    refine Mw W ?_
    repeat refine DC.seq ?_
    apply Mn
    .intro R S;refine ay W W W (r:=.bool false) W ?_;refine aj W W ?_;exact TL.nil W
    repeat refine DC.seq ?_
    refine Mw W ?_
    repeat refine DC.seq ?_
    apply Mn
    .intro R S;refine ay W W W (r:=.bool false) W ?_;refine aj W W ?_;exact TL.nil W
    repeat refine DC.seq ?_
    refine Mw W ?_
    repeat refine DC.seq ?_
    apply Mn
    .intro R S;refine ay W W W (r:=.bool false) W ?_;refine aj W W ?_;exact TL.nil W
    repeat refine DC.seq ?_
    refine Mw W ?_
    repeat refine DC.seq ?_
    apply Mn
    .intro R S;refine ay W W W (r:=.bool true) W ?_;refine aj W W ?_;exact TL.nil W
    repeat refine DC.seq ?_
    refine MM W ?_
    repeat refine DC.seq ?_
    apply Mn
    .intro R S;refine ca W W W ?_;refine aq W W ?_;refine aX z W W ?_;refine aK W W j W W W ?_;exact TL.nil W
    exact DC.ret ⟨_,W,_,⟨W,W⟩,k⟩
  .rw[aid (by omega),aid (by omega),aid (by omega),aid (by omega),aid (by omega)];have J:(match e.kids with|[]=>((0:Int),(⟨#[]⟩:Nm))|a::r=>if e.kd=8 then(match r with|[]=>(0,⟨#[]⟩)|b::_=>dG en f b)else dG en f a)=dG en f b:=by rw[d,h];rfl
   rw[J,h];have N:((e.kids.map (dG en f)).map fL)[((0:Nat):Int).toNat]?=some (fL (dG en f a)):=by rw[d];rfl
   have z:((e.kids.map (dG en f)).map fL)[((1:Nat):Int).toNat]?=some (fL (dG en f b)):=by rw[d];rfl
   have R:((e.kids.map (dG en f)).map fL)[((2:Nat):Int).toNat]?=some (fL (dG en f c)):=by rw[d];rfl
   have S:((dG en f a).1 !=1)=false:=by simp[g]
   have T:=BV y
   repeat refine DC.seq ?_
   refine DC.block ?_
   repeat refine DC.seq ?_
   apply Mn
   .intro V X;refine ay W W W (r:=.bool false) W ?_;refine aj W W ?_;exact TL.nil W
   repeat refine DC.seq ?_
   refine Mw W ?_
   repeat refine DC.seq ?_
   apply Mn
   .intro V X;refine ay W W W (r:=.bool false) W ?_;refine aj W W ?_;exact TL.nil W
   repeat refine DC.seq ?_
   refine Mw W ?_
   repeat refine DC.seq ?_
   apply Mn
   .intro V X;refine ay W W W (r:=.bool false) W ?_;refine aj W W ?_;exact TL.nil W
   repeat refine DC.seq ?_
   refine Mw W ?_
   repeat refine DC.seq ?_
   apply Mn
   .intro V X;refine ay W W W (r:=.bool false) W ?_;refine aj W W ?_;exact TL.nil W
   repeat refine DC.seq ?_
   refine Mw W ?_;refine DC.skip ?_
   repeat refine DC.seq ?_
   apply Mn
   .intro V X;refine aG W W ?_;refine aI W W W ?_;exact TL.nil W
   repeat refine DC.seq ?_
   refine DC.block ?_
   repeat refine DC.seq ?_
   apply Mn
   .intro V X;refine ay W W W (r:=.bool false) W ?_;refine aj W W ?_;exact TL.nil W
   repeat refine DC.seq ?_
   refine Mw W ?_
   repeat refine DC.seq ?_
   apply Mn
   .intro V X;refine ay W W W (r:=.bool false) W ?_;refine aj W W ?_;exact TL.nil W
   repeat refine DC.seq ?_
   refine Mw W ?_
   repeat refine DC.seq ?_
   apply Mn
   .intro V X;refine ay W W W (r:=.bool false) W ?_;refine aj W W ?_;exact TL.nil W
   repeat refine DC.seq ?_
   refine Mw W ?_
   repeat refine DC.seq ?_
   apply Mn
   .intro V X;refine ay W W W (r:=.bool false) W ?_;refine aj W W ?_;exact TL.nil W
   repeat refine DC.seq ?_
   refine Mw W ?_
   repeat refine DC.seq ?_
   apply Mn
   .intro V X;refine ay W W W (r:=.bool false) W ?_;refine aj W W ?_;exact TL.nil W
   repeat refine DC.seq ?_
   refine Mw W ?_
   repeat refine DC.seq ?_
   apply Mn
   .intro V X;refine ay W W W (r:=.bool false) W ?_;refine aj W W ?_;exact TL.nil W
   repeat refine DC.seq ?_
   refine Mw W ?_
   repeat refine DC.seq ?_
   apply Mn
   .intro V X;refine ay W W W (r:=.bool false) W ?_;refine aj W W ?_;exact TL.nil W
   repeat refine DC.seq ?_
   refine Mw W ?_
   repeat refine DC.seq ?_
   apply Mn
   .intro V X;refine ay W W W (r:=.bool true) W ?_;refine aj W W ?_;exact TL.nil W
   repeat refine DC.seq ?_
   refine MM W ?_
   repeat refine DC.seq ?_
   apply Mz mixed
   .intro V X;refine bG W W ?_;refine bE W W W (ah7 0) N W ?_;refine cm W W ?_;refine di W W W ?_
    (refine kV W W W (r:=.bool false) (by show some (D.bool ((dG en f a).1 !=1))=_;rw[S]) ?_)
    refine bG W W ?_;refine bO W W ?_;refine bG W W ?_;refine bO W W ?_;refine bE W W W (ah7 1) z W ?_;refine bO W W ?_;refine dY W W W ?_;refine bO W W ?_;refine bG W W ?_;refine bO W W ?_;refine bE W W W (ah7 2) R W ?_;refine bO W W ?_;refine dY W W W ?_;refine bO W W ?_;refine uc W W W ?_;rw[T];refine pA W W W ?_;exact TF.nil ⟨by kernel_rfl,rfl⟩
   repeat refine DC.seq ?_
   refine Mw W ?_;refine DC.skip ?_
   repeat refine DC.seq ?_
   apply Mn
   .intro V X;refine aq W W ?_;refine bH W W W (ah7 1) z W ?_;refine ca W W W ?_;refine aK W W j W W W ?_;exact TL.nil W
   exact DC.ret ⟨_,W,_,⟨W,W⟩,k⟩
  .rcases h with h|h
   .rw[aid (by omega),aid (by omega),aid (by omega),aid (by omega),aid (by omega)];have J:(match e.kids with|[]=>((0:Int),(⟨#[]⟩:Nm))|a::r=>if e.kd=8 then(match r with|[]=>(0,⟨#[]⟩)|b::_=>dG en f b)else dG en f a)=dG en f a:=by rw[d,h];rfl
    rw[J,h];have z:((e.kids.map (dG en f)).map fL)[((0:Nat):Int).toNat]?=some (fL (dG en f a)):=by rw[d];rfl
    have N:((e.kids.map (dG en f)).map fL)[((1:Nat):Int).toNat]?=some (fL (dG en f b)):=by rw[d];rfl
    have R:=BV g
    repeat refine DC.seq ?_
    refine DC.block ?_
    repeat refine DC.seq ?_
    apply Mn
    .intro S T;refine ay W W W (r:=.bool false) W ?_;refine aj W W ?_;exact TL.nil W
    repeat refine DC.seq ?_
    refine Mw W ?_
    repeat refine DC.seq ?_
    apply Mn
    .intro S T;refine ay W W W (r:=.bool false) W ?_;refine aj W W ?_;exact TL.nil W
    repeat refine DC.seq ?_
    refine Mw W ?_
    repeat refine DC.seq ?_
    apply Mn
    .intro S T;refine ay W W W (r:=.bool false) W ?_;refine aj W W ?_;exact TL.nil W
    repeat refine DC.seq ?_
    refine Mw W ?_
    repeat refine DC.seq ?_
    apply Mn
    .intro S T;refine ay W W W (r:=.bool false) W ?_;refine aj W W ?_;exact TL.nil W
    repeat refine DC.seq ?_
    refine Mw W ?_;refine DC.skip ?_
    repeat refine DC.seq ?_
    apply Mn
    .intro S T;refine aG W W ?_;refine aI W W W ?_;exact TL.nil W
    repeat refine DC.seq ?_
    refine DC.block ?_
    repeat refine DC.seq ?_
    apply Mn
    .intro S T;refine ay W W W (r:=.bool false) W ?_;refine aj W W ?_;exact TL.nil W
    repeat refine DC.seq ?_
    refine Mw W ?_
    repeat refine DC.seq ?_
    apply Mn
    .intro S T;refine ay W W W (r:=.bool false) W ?_;refine aj W W ?_;exact TL.nil W
    repeat refine DC.seq ?_
    refine Mw W ?_
    repeat refine DC.seq ?_
    apply Mn
    .intro S T;refine ay W W W (r:=.bool false) W ?_;refine aj W W ?_;exact TL.nil W
    repeat refine DC.seq ?_
    refine Mw W ?_
    repeat refine DC.seq ?_
    apply Mn
    .intro S T;refine ay W W W (r:=.bool false) W ?_;refine aj W W ?_;exact TL.nil W
    repeat refine DC.seq ?_
    refine Mw W ?_
    repeat refine DC.seq ?_
    apply Mn
    .intro S T;refine ay W W W (r:=.bool false) W ?_;refine aj W W ?_;exact TL.nil W
    repeat refine DC.seq ?_
    refine Mw W ?_
    repeat refine DC.seq ?_
    apply Mn
    .intro S T;refine ay W W W (r:=.bool false) W ?_;refine aj W W ?_;exact TL.nil W
    repeat refine DC.seq ?_
    refine Mw W ?_
    repeat refine DC.seq ?_
    apply Mn
    .intro S T;refine ay W W W (r:=.bool false) W ?_;refine aj W W ?_;exact TL.nil W
    repeat refine DC.seq ?_
    refine Mw W ?_
    repeat refine DC.seq ?_
    apply Mn
    .intro S T;refine ay W W W (r:=.bool false) W ?_;refine aj W W ?_;exact TL.nil W
    repeat refine DC.seq ?_
    refine Mw W ?_
    repeat refine DC.seq ?_
    apply Mn
    .intro S T;refine ay W W W (r:=.bool true) W ?_;refine aj W W ?_;exact TL.nil W
    repeat refine DC.seq ?_
    refine MM W ?_;refine DC.skip ?_
    repeat refine DC.seq ?_
    refine MM W ?_
    repeat refine DC.seq ?_
    apply Mz mixed
    .intro S T;refine bG W W ?_;refine bE W W W (ah7 0) z W ?_;refine dY W W W ?_;refine bG W W ?_;refine bE W W W (ah7 1) N W ?_;refine dY W W W ?_
     (refine uc W W W ?_;rw[R])
     exact TF.nil ⟨by kernel_rfl,rfl⟩
    repeat refine DC.seq ?_
    refine Mw W ?_;refine DC.skip ?_
    repeat refine DC.seq ?_
    apply Mn
    .intro S T;refine aq W W ?_;refine bH W W W (ah7 0) z W ?_;refine ca W W W ?_;refine aK W W j W W W ?_;exact TL.nil W
    exact DC.ret ⟨_,W,_,⟨W,W⟩,k⟩
   .rw[aid (by omega),aid (by omega),aid (by omega),aid (by omega),aid (by omega)];have J:(match e.kids with|[]=>((0:Int),(⟨#[]⟩:Nm))|a::r=>if e.kd=8 then(match r with|[]=>(0,⟨#[]⟩)|b::_=>dG en f b)else dG en f a)=dG en f a:=by rw[d,h];rfl
    rw[J,h];have z:((e.kids.map (dG en f)).map fL)[((0:Nat):Int).toNat]?=some (fL (dG en f a)):=by rw[d];rfl
    have N:((e.kids.map (dG en f)).map fL)[((1:Nat):Int).toNat]?=some (fL (dG en f b)):=by rw[d];rfl
    have R:=BV g
    repeat refine DC.seq ?_
    refine DC.block ?_
    repeat refine DC.seq ?_
    apply Mn
    .intro S T;refine ay W W W (r:=.bool false) W ?_;refine aj W W ?_;exact TL.nil W
    repeat refine DC.seq ?_
    refine Mw W ?_
    repeat refine DC.seq ?_
    apply Mn
    .intro S T;refine ay W W W (r:=.bool false) W ?_;refine aj W W ?_;exact TL.nil W
    repeat refine DC.seq ?_
    refine Mw W ?_
    repeat refine DC.seq ?_
    apply Mn
    .intro S T;refine ay W W W (r:=.bool false) W ?_;refine aj W W ?_;exact TL.nil W
    repeat refine DC.seq ?_
    refine Mw W ?_
    repeat refine DC.seq ?_
    apply Mn
    .intro S T;refine ay W W W (r:=.bool false) W ?_;refine aj W W ?_;exact TL.nil W
    repeat refine DC.seq ?_
    refine Mw W ?_;refine DC.skip ?_
    repeat refine DC.seq ?_
    apply Mn
    .intro S T;refine aG W W ?_;refine aI W W W ?_;exact TL.nil W
    repeat refine DC.seq ?_
    refine DC.block ?_
    repeat refine DC.seq ?_
    apply Mn
    .intro S T;refine ay W W W (r:=.bool false) W ?_;refine aj W W ?_;exact TL.nil W
    repeat refine DC.seq ?_
    refine Mw W ?_
    repeat refine DC.seq ?_
    apply Mn
    .intro S T;refine ay W W W (r:=.bool false) W ?_;refine aj W W ?_;exact TL.nil W
    repeat refine DC.seq ?_
    refine Mw W ?_
    repeat refine DC.seq ?_
    apply Mn
    .intro S T;refine ay W W W (r:=.bool false) W ?_;refine aj W W ?_;exact TL.nil W
    repeat refine DC.seq ?_
    refine Mw W ?_
    repeat refine DC.seq ?_
    apply Mn
    .intro S T;refine ay W W W (r:=.bool false) W ?_;refine aj W W ?_;exact TL.nil W
    repeat refine DC.seq ?_
    refine Mw W ?_
    repeat refine DC.seq ?_
    apply Mn
    .intro S T;refine ay W W W (r:=.bool false) W ?_;refine aj W W ?_;exact TL.nil W
    repeat refine DC.seq ?_
    refine Mw W ?_
    repeat refine DC.seq ?_
    apply Mn
    .intro S T;refine ay W W W (r:=.bool false) W ?_;refine aj W W ?_;exact TL.nil W
    repeat refine DC.seq ?_
    refine Mw W ?_
    repeat refine DC.seq ?_
    apply Mn
    .intro S T;refine ay W W W (r:=.bool false) W ?_;refine aj W W ?_;exact TL.nil W
    repeat refine DC.seq ?_
    refine Mw W ?_
    repeat refine DC.seq ?_
    apply Mn
    .intro S T;refine ay W W W (r:=.bool false) W ?_;refine aj W W ?_;exact TL.nil W
    repeat refine DC.seq ?_
    refine Mw W ?_
    repeat refine DC.seq ?_
    apply Mn
    .intro S T;refine ay W W W (r:=.bool false) W ?_;refine aj W W ?_;exact TL.nil W
    repeat refine DC.seq ?_
    refine Mw W ?_
    repeat refine DC.seq ?_
    apply Mn
    .intro S T;refine ay W W W (r:=.bool true) W ?_;refine aj W W ?_;exact TL.nil W
    repeat refine DC.seq ?_
    refine MM W ?_
    repeat refine DC.seq ?_
    apply Mz mixed
    .intro S T;refine bG W W ?_;refine bE W W W (ah7 0) z W ?_;refine dY W W W ?_;refine bG W W ?_;refine bE W W W (ah7 1) N W ?_;refine dY W W W ?_
     (refine uc W W W ?_;rw[R])
     exact TF.nil ⟨by kernel_rfl,rfl⟩
    repeat refine DC.seq ?_
    refine Mw W ?_;refine DC.skip ?_
    repeat refine DC.seq ?_
    apply Mn
    .intro S T;refine aq W W ?_;refine bH W W W (ah7 0) z W ?_;refine ca W W W ?_;refine aK W W j W W W ?_;exact TL.nil W
    exact DC.ret ⟨_,W,_,⟨W,W⟩,k⟩
  .rw[aid (by omega),aid (by omega),aid (by omega),aid (by omega),aid (by omega)];have z:(match e.kids with|[]=>((0:Int),(⟨#[]⟩:Nm))|a::r=>if e.kd=8 then(match r with|[]=>(0,⟨#[]⟩)|b::_=>dG en f b)else dG en f a)=dG en f a:=by rw[d,h];rfl
   rw[z,h];have J:((e.kids.map (dG en f)).map fL)[((0:Nat):Int).toNat]?=some (fL (dG en f a)):=by rw[d];rfl
   repeat refine DC.seq ?_
   refine DC.block ?_
   repeat refine DC.seq ?_
   apply Mn
   .intro N R;refine ay W W W (r:=.bool false) W ?_;refine aj W W ?_;exact TL.nil W
   repeat refine DC.seq ?_
   refine Mw W ?_
   repeat refine DC.seq ?_
   apply Mn
   .intro N R;refine ay W W W (r:=.bool false) W ?_;refine aj W W ?_;exact TL.nil W
   repeat refine DC.seq ?_
   refine Mw W ?_
   repeat refine DC.seq ?_
   apply Mn
   .intro N R;refine ay W W W (r:=.bool false) W ?_;refine aj W W ?_;exact TL.nil W
   repeat refine DC.seq ?_
   refine Mw W ?_
   repeat refine DC.seq ?_
   apply Mn
   .intro N R;refine ay W W W (r:=.bool false) W ?_;refine aj W W ?_;exact TL.nil W
   repeat refine DC.seq ?_
   refine Mw W ?_;refine DC.skip ?_
   repeat refine DC.seq ?_
   apply Mn
   .intro N R;refine aG W W ?_;refine aI W W W ?_;exact TL.nil W
   repeat refine DC.seq ?_
   refine DC.block ?_
   repeat refine DC.seq ?_
   apply Mn
   .intro N R;refine ay W W W (r:=.bool false) W ?_;refine aj W W ?_;exact TL.nil W
   repeat refine DC.seq ?_
   refine Mw W ?_
   repeat refine DC.seq ?_
   apply Mn
   .intro N R;refine ay W W W (r:=.bool false) W ?_;refine aj W W ?_;exact TL.nil W
   repeat refine DC.seq ?_
   refine Mw W ?_
   repeat refine DC.seq ?_
   apply Mn
   .intro N R;refine ay W W W (r:=.bool false) W ?_;refine aj W W ?_;exact TL.nil W
   repeat refine DC.seq ?_
   refine Mw W ?_
   repeat refine DC.seq ?_
   apply Mn
   .intro N R;refine ay W W W (r:=.bool false) W ?_;refine aj W W ?_;exact TL.nil W
   repeat refine DC.seq ?_
   refine Mw W ?_
   repeat refine DC.seq ?_
   apply Mn
   .intro N R;refine ay W W W (r:=.bool false) W ?_;refine aj W W ?_;exact TL.nil W
   repeat refine DC.seq ?_
   refine Mw W ?_
   repeat refine DC.seq ?_
   apply Mn
   .intro N R;refine ay W W W (r:=.bool false) W ?_;refine aj W W ?_;exact TL.nil W
   repeat refine DC.seq ?_
   refine Mw W ?_
   repeat refine DC.seq ?_
   apply Mn
   .intro N R;refine ay W W W (r:=.bool false) W ?_;refine aj W W ?_;exact TL.nil W
   repeat refine DC.seq ?_
   refine Mw W ?_
   repeat refine DC.seq ?_
   apply Mn
   .intro N R;refine ay W W W (r:=.bool false) W ?_;refine aj W W ?_;exact TL.nil W
   repeat refine DC.seq ?_
   refine Mw W ?_
   repeat refine DC.seq ?_
   apply Mn
   .intro N R;refine ay W W W (r:=.bool false) W ?_;refine aj W W ?_;exact TL.nil W
   repeat refine DC.seq ?_
   refine Mw W ?_
   repeat refine DC.seq ?_
   apply Mn
   .intro N R;refine ay W W W (r:=.bool false) W ?_;refine aj W W ?_;exact TL.nil W
   repeat refine DC.seq ?_
   refine Mw W ?_
   repeat refine DC.seq ?_
   apply Mn
   .intro N R;refine ay W W W (r:=.bool false) W ?_;refine aj W W ?_;exact TL.nil W
   repeat refine DC.seq ?_
   refine Mw W ?_
   repeat refine DC.seq ?_
   apply Mn
   .intro N R;refine ay W W W (r:=.bool false) W ?_;refine aj W W ?_;exact TL.nil W
   repeat refine DC.seq ?_
   refine Mw W ?_;refine DC.skip ?_
   repeat refine DC.seq ?_
   apply Mn
   .intro N R;refine aq W W ?_;refine bH W W W (ah7 0) J W ?_;refine ca W W W ?_;refine aK W W j W W W ?_;exact TL.nil W
   exact DC.ret ⟨_,W,_,⟨W,W⟩,k⟩
termination_by SizeOf.sizeOf e
def LO{sl:List (Nat×V)}{bx:List (Nat×List M)}{L:Hp}{A B:M}{cs:List M}(a:Go.Mt.get sl 6=some (.m (.ref 0 0)))(b:Go.Mt.get sl 7=some (.m (.ref 1 0)))(c:L[0]?=some (.box cs))(d:dX prog 53 cs 0=some A)(e:L[1]?=some (.box [B]))(f:dX prog 382 [B] 0=some B):
  tM prog f307 ⟨sl,bx,L⟩=some (mI [A,B]):=by
 show(oh prog ⟨sl,bx,L⟩ [.cell 6 53,.cell 7 382]).map mI=_;simp only[oh,xm,a,b,c,e,d,f];rfl
def zY{p:Pg}(k:k8 p.aB){a:List Va}{f:Nm->Int×Nm}(l:yD a f)(m:a.length<=10000000)(e:Xp)(n:oL p.aB f (GW a) e):
  PT prog 307 [.agg p.cells,.sl (ax a),.agg e.cells] (·=[.agg (fL (dG p.aB f e)),.mH]):=by
 have j:=fy k (p.nodes.map Nd.cells) l m e n [.box [.d (.int .u8 0),.d (.str ⟨#[]⟩)],.box [.d .mH]] (λ_=>False) (λ_ h=>h);obtain⟨u,K,⟨v,⟨rfl,rfl⟩,o⟩,c⟩:=j;obtain⟨w,_,b⟩:=o;have q:=b.iW 0 (by simp) (λh=>h);have r:=b.iW 1 (by simp) (λh=>h);have x:2<=K.length:=b.len;rw[e.ah]at c⊢;refine ML (CT.Gu (g:=312) (Nh:=[.ref 1 0]) func307 W ntmps307 W
  (VY:=⟨[(7,.m (.ref 1 0)),(6,.m (.ref 0 0)),(5,.m (.d (.bM (bh e.kd e.op e.num e.nm e.names (e.kids.map Xp.cells) e.ps) 0))),(3,.m (.d (.bM [.sl (p.aB.map En.cells),.sl (p.nodes.map Nd.cells)] 0))),(0,.m (.d (.agg [.sl (p.aB.map En.cells),.sl (p.nodes.map Nd.cells)]))),(1,.m (.d (.sl (ax a)))),(2,.m (.d (.agg (bh e.kd e.op e.num e.nm e.names (e.kids.map Xp.cells) e.ps))))],[],[.box [.d (.int .u8 0),.d (.str ⟨#[]⟩)],.box [.d .mH]]⟩)
  rfl W (by kernel_rfl) func312 W ntmps312 W W (λh i=>?_) (λh i d=>?_) (λK h i=>?_))
 rotate_right
 .repeat first|((with_reducible apply TC.seq))|((with_reducible apply TC.block))|((with_reducible apply MZ);rfl)|((with_reducible apply MJ);rfl)|((with_reducible apply TC.skip))|((with_reducible apply TC.exit))|((with_reducible apply TC.ret))|((with_reducible apply fb))|((with_reducible apply iy))|((with_reducible apply ue))|((with_reducible apply jY))|((with_reducible apply uf))|((with_reducible apply iz))|((apply TC.region);(repeat first|((with_reducible apply JJ);rfl;rfl;rfl)|((with_reducible apply aj);rfl;rfl)|((with_reducible apply aq);rfl;rfl));(apply TL.nil))
  exact⟨.inl W,W,_,W⟩
 .repeat refine TC.seq ?_
  refine TC.region ?_;refine gZ W W ?_;refine gZ W W ?_;refine o0 W ?_;refine o0 W ?_;refine TL.nil ?_;exact⟨W,W⟩
 repeat refine TC.seq ?_
 refine TC.region ?_;refine ca W W W ?_;refine g_ W W W W W ?_;refine gZ W W ?_;refine aj W W ?_;refine TL.nil ?_;have s:=q;have t:(K.set 0 (.box ((fL (dG p.aB f e)).map M.d)))[1]?=some (.box [.d .mH]):=by rw[aiQ (by decide)];exact r
 repeat refine TC.seq ?_
 refine TC.region ?_;refine aq W W ?_;refine aq W W ?_;refine ca W W W ?_;refine aA c W W ?_;refine cd W W s W W W ?_;refine cd W W t W W W ?_;refine TL.nil ?_;refine TC.ret ⟨.inr W,_,LO W W (cs:=(fL (dG p.aB f e)).map M.d) ?_ W ?_ W,[_,_],W,W⟩
 .exact(aiQ (by decide)).trans (akV (by omega))
 .exact akV (by rw[akx];omega)
end Go.Proofs.Pz
namespace Go.Ps
open Go.Mt Go.Sm
variable{F0:Nat->Prop}{H0 H:Hp}{r:List As}{im i:Nat}{p:Pg}{m:MS}{es:List (D×M)}
def ij(b:Nat)(p:Pg)(m:MS):As:=.ex λa:M=>Sep [.ob b (.box [.d (.sl (p.aB.map En.cells)),.d (.sl (p.nodes.map Nd.cells)),a,.d (.int .i64 ((m.n:Nat):Int))]),.acc 15 (ax m.vars) a]
def ij.close{mv:M}(w:Wk F0 H0 (.ob im (.box [.d (.sl (p.aB.map En.cells)),.d (.sl (p.nodes.map Nd.cells)),mv,.d (.int .i64 ((m.n:Nat):Int))]):: .acc 15 (ax m.vars) mv::r) H):Wk F0 H0 (ij im p m::r) H:=
 OH (φ:= λmv:M=>Sep [.ob im (.box [.d (.sl (p.aB.map En.cells)),.d (.sl (p.nodes.map Nd.cells)),mv,.d (.int .i64 ((m.n:Nat):Int))]),.acc 15 (ax m.vars) mv]) mv (Oa (a:=[_,_]) w)
def ij.open(w:Wk F0 H0 (ij im p m::r) H):∃mv,Wk F0 H0 (.ob im (.box [.d (.sl (p.aB.map En.cells)),.d (.sl (p.nodes.map Nd.cells)),mv,.d (.int .i64 ((m.n:Nat):Int))]):: .acc 15 (ax m.vars) mv::r) H:=by
 obtain⟨mv,w⟩:=w.open;exact⟨mv,w.split⟩
abbrev oa(b:Bd):List D:=[.str b.name,.int .i64 ((b.k7:Nat):Int),.int .u8 b.tk,.str b.tn]
def Env.dp(f:Env)(x:Nm):Nat:=match f x with|some b=>b.k7|none=>0
variable{f:Env}
structure i_(es:List (D×M))(f:Env):Prop where
 k:strKeys es=true
 nd:(es.map Prod.fst).Nodup
 l:∀x,ek x es=(f x).map λb=>M.d (.agg (oa b))
def cN(i:Nat)(f:Env):As:=.ex λa:List (D×M)=>Sep [.ob i (.map a),.fact (i_ a f)]
def Ng(h:i_ es f)(w:Wk F0 H0 (.ob i (.map es)::r) H):Wk F0 H0 (cN i f::r) H:=
 OH (φ:= λes:List (D×M)=>Sep [.ob i (.map es),.fact (i_ es f)]) es (Oa (a:=[_,_]) ((Wk.Ar h w).perm (List.Perm.swap _ _ _)))
def cN.open(w:Wk F0 H0 (cN i f::r) H):∃es,i_ es f/\Wk F0 H0 (.ob i (.map es)::r) H:=by
 obtain⟨es,w⟩:=w.open;have w:=Wk.split (a:=[_,_]) w;have w:=w.perm (List.Perm.swap _ _ _);exact⟨es,w.Cu,w.drop⟩
abbrev mE(iv il:Nat)(ck:List (Nm×Nm)):M:=.agg [.mp iv,.mp il,.d (.sl (bA ck))]
def pU(x y:Nm)(v:M):∀{es:List (D×M)},strKeys es=true->ek y (dK x v es)=if y=x then some v else ek y es
 |[],_=>by
  rw[dK,iw];by_cases h:y=x
  .subst h;simp
  .rw[aid (ajs h),aid h]
 |(d,m)::r,h=>by
  cases d with
  |str s=>
   rw[nG];by_cases b:s=x
   .subst b;rw[air W,iw,iw];by_cases a:y=s
    .subst a;simp
    .rw[aid (ajs a),aid a,aid (ajs a)]
   .rw[aid b,iw,iw,pU x y v (es:=r) (by simpa [strKeys] using h)];by_cases a:s=y
    .subst a;rw[air W,air W,aid b]
    .rw[aid a,aid a]
  |_=>simp[strKeys]at h
def i_.set(h:i_ es f)(x:Nm)(b:Bd):i_ (dK x (.d (.agg (oa b))) es) (f.set x b):=by
 have d:=cC.1 h.k;have g:strKeys (dK x (.d (.agg (oa b))) es)=true/\((dK x (.d (.agg (oa b))) es).map Prod.fst).Nodup:=by
  rcases lz (k:=x) (v:=.d (.agg (oa b))) d with a|⟨a,j⟩
  .refine⟨cC.2 λe c=>?_,by rw[a];exact h.nd⟩;have:e.1∈es.map Prod.fst:=a▸aiN c;rw[aij]at this;obtain⟨i,l,m⟩:=this;rw[<-m];exact d i l
  .refine⟨cC.2 λe l=>?_,by rw[a,ajP];exact⟨h.nd,by simp,by intro p o b i;rw[aiR]at i;subst i;exactλe=>j (e▸o)⟩⟩;have:e.1∈es.map Prod.fst++[.str x]:=a▸aiN l;rw[ain,aiR]at this;rcases this with c|c
   .rw[aij]at c;obtain⟨m,c,n⟩:=c;rw[<-n];exact d m c
   .exact⟨x,c⟩
 refine⟨g.1,g.2,λy=>?_⟩;rw[pU x y _ h.k,h.l];unfold Env.set;by_cases a:y=x
 .rw[air a,air a];rfl
 .rw[aid a,aid a]
def i_.nil:i_ [] (λ_=>none):=⟨rfl,by simp,λ_=>rfl⟩
end Go.Ps
namespace Go.Proofs.Pz
open Go.Mt Go.Sm Go.Ps Go.Proofs
open Tryz
variable{x y:Operand}{T t n off e i:Nat}{cs Nf:List M}{es:List (D×M)}{f:Env}{kk:Nm}
section
variable{X:cQ}{ops:Array Oper}{rest:List Oper}{post:St->Prop}{MU:List Ef->St->Prop}{sl:List (Nat×V)}{bx:List (Nat×List M)}{H:Hp}{d ty:Nat}{pos:String}{af:Array Edge}
def vJ{P:Program}[ht:dz P t n](a:sub cs off n=some Nf):dX P t cs off=some (pack Nf):=by
 obtain⟨b,c⟩:=sub_eq a;simp only[dX,ht.agg,ht.size,aiF b,aiP];rw[c]
def cx[ht:dz X.P T n](a:Nat.blt d X.n=true)(b:aS sl x=some (.loc t off))(c:Go.Mt.get bx t=some cs)(e:sub cs off n=some Nf)(f:gg Nf=none)
  (k:TL X ops rest ⟨(d,.m (.agg Nf))::sl,bx,H⟩ post):TL X ops (⟨some d,.load T x,ty,pos,af,none⟩::rest) ⟨sl,bx,H⟩ post:=
 M3 W W a (rD b c (by rw[vJ e];simp[pack,f])) k
def gW[ht:dz X.P T n](a:Nat.blt d X.n=true)(b:aS sl x=some (.loc t off))(c:Go.Mt.get bx t=some cs)(f:sub cs off n=some Nf)(g:gg Nf=none)
  (k:TF X ops rest ⟨(d,.m (.agg Nf))::sl,bx,H⟩ λa b=>MU (⟨some d,.m (.agg Nf),[t],[],none,false,none⟩::a) b):TF X ops (⟨some d,.load T x,ty,pos,af,none⟩::rest) ⟨sl,bx,H⟩ MU:=
 TF.cons (e:=⟨some d,.m (.agg Nf),[t],[],none,false,none⟩) (MK W W (bj a) λa a=>rD ((a.ev (x:=x) (by simp[Op.operands,Call.operands])).trans b) ((a.bx t (by simp)).trans c) (by rw[vJ f];simp[pack,g])) W k
abbrev Iw(f:Env)(x:Nm):List D:=[.str (f.nm x),.int .i64 ((f.dp x:Nat):Int),.int .u8 (f.ty x).1,.str (f.ty x).2]
def Ix(h:i_ es f)(x:Nm):(match ek x es with|some m=>m|none=>.d (.agg [.str ⟨#[]⟩,.int .i64 0,.int .u8 0,.str ⟨#[]⟩]))=M.d (.agg (Iw f x)):=by
 rw[h.l];unfold Iw Env.nm Env.dp Env.ty;cases f x<;>rfl
def lb[ht:ie X.P T e][j:fk X.P e (.agg [.str ⟨#[]⟩,.int .i64 0,.int .u8 0,.str ⟨#[]⟩])](a:i_ es f)(b:H[i]?=some (.map es))(c:Nat.blt d X.n=true)(g:aS sl x=some (.m (.mp i)))(h:aS sl y=some (.m (.d (.str kk))))
  (k:TL X ops rest ⟨(d,.m (.d (.agg (Iw f kk))))::sl,bx,H⟩ post):TL X ops (⟨some d,.lookup T x y false,ty,pos,af,none⟩::rest) ⟨sl,bx,H⟩ post:=
 lB c g h b a.k (by rw[<-Ix a]at k;exact k)
def uv[ht:ie X.P T e][j:fk X.P e (.agg [.str ⟨#[]⟩,.int .i64 0,.int .u8 0,.str ⟨#[]⟩])](a:i_ es f)(b:H[i]?=some (.map es))(c:Nat.blt d X.n=true)(g:aS sl x=some (.m (.mp i)))(h:aS sl y=some (.m (.d (.str kk))))
  (k:TF X ops rest ⟨(d,.m (.d (.agg (Iw f kk))))::sl,bx,H⟩ λes a=>MU (⟨some d,.m (.d (.agg (Iw f kk))),[],[],none,true,none⟩::es) a):TF X ops (⟨some d,.lookup T x y false,ty,pos,af,none⟩::rest) ⟨sl,bx,H⟩ MU:=
 s4 c g h b a.k (by rw[<-Ix a]at k;exact k)
end
def th{X:cQ}{ops:Array Oper}{rest:List Oper}{a:List Ef->St->Prop}{sl:List (Nat×V)}{bx:List (Nat×List M)}{H:Hp}{d ty:Nat}{pos:String}{af:Array Edge}{b c:Nat}{s u:ByteArray}(e:Nat.blt d X.n=true)(f:aS sl x=some (.m (.d (.str s))))(g:aS sl y=some (.m (.d (.str u))))(h:Nat.ble s.size 1000=true)(i:u.size<=4000000000)
  (k:TF X ops rest ⟨(d,(.m (.d (.str (s++u)))))::sl,bx,H⟩ λb c=>a (⟨some d,(.m (.d (.str (s++u)))),[],[],none,false,none⟩::b) c):TF X ops (⟨some d,.binOp .add b x y c,ty,pos,af,none⟩::rest) ⟨sl,bx,H⟩ a:=
 oX e f g (by have:=aiy h;omega) k
def rM(it c:Nat)(p:Pg)(m:MS)(v:m.n<1000000000)(x:m.vars.length<=10000000)(t:Int×Nm)(b:List (Nm×Nm))(y:b.length<=1000000):
  Dt prog 210 [.ref c 0,.d (.agg (fL t)),.d (.sl (bA b))] [.ob it bg,ij c p m] λr l=>r=.d (.str (nV (m.n+1)))/\l=[.ob it bg,ij c p (m.fresh t b)]:=by
 intro H F n;have w:=Wk.start n;have w:=w.pick [1,0];obtain⟨o,w⟩:=ij.open w;have d:=w.ob;have h:((m.n:Nat):Int)+1=((m.n+1:Nat):Int):=by omega
 have f:m.n+1<=1000000000:=by omega
 unfold MS.fresh;generalize z:m.n+1=k at h f⊢;refine MG func210 W ntmps210 W ?_;refine Mx ?_;refine Mo ?_;apply Mn
 .intro A B;refine aq W W<|iX W W W<|dh W W<|bK W W d W ?_
  (refine bc W W W (by omega) ?_;rw[h])
  refine TL.au
 have w:=w.set (.box [.d (.sl (p.aB.map En.cells)),.d (.sl (p.nodes.map Nd.cells)),o,.d (.int .i64 ((k:Nat):Int))]);have d:=w.ob;have w:=w.pick [2,1,0];have C:=qO f w.ob;obtain⟨q,E,G,s,w,I⟩:=Wk.call (a:=[]) w (pP b (by omega));subst s;refine Mo ?_;apply Mz mixed
 .intro A B;refine TF.go ?_;refine th W W W W (aiz (hU k f) (by omega:21<=4000000000))<|TF.go ?_;refine vB (cs:=[.d (.str (nV k)),.d (.int .u8 t.1),.d (.str t.2),q,.d (.bool false),.d (.int .u8 0),.d (.int .u8 0),.d (.int .i32 0),.d (.str ⟨#[]⟩),.d (.sl []),.d (.sl []),.d (.int .i64 0),.d (.int .i64 0),.d (.int .i64 0),.d (.int .i64 0)]) W W W (by simp only[jW];rw[w.AA];rfl)<|nF W<|cv W W W (fx _) W W<|TF.au
 refine DC.cA (MP:=[.d (.str (nV k)),.d (.int .u8 t.1),.d (.str t.2),.d (.sl (bA b)),.d (.bool false),.d (.int .u8 0),.d (.int .u8 0),.d (.int .i32 0),.d (.str ⟨#[]⟩),.d (.sl []),.d (.sl []),.d (.int .i64 0),.d (.int .i64 0),.d (.int .i64 0),.d (.int .i64 0)]) 7 W (bY (bY (bY (lJ (w.view (jp b)) (bY (bY (bY (bY (bY (bY (bY (bY (bY (bY (bY (o7 _)))))))))))))))) ?_;have w:=(w.drop).pick [1,2,0];have d:=(w.pick [1,0,2]).ob;obtain⟨row,g⟩:∃row:List D,row=[.str (nV k),.int .u8 t.1,.str t.2,.sl (bA b),.bool false,.int .u8 0,.int .u8 0,.int .i32 0,.str ⟨#[]⟩,.sl [],.sl [],.int .i64 0,.int .i64 0,.int .i64 0,.int .i64 0]:=⟨_,rfl⟩;have i:ax (m.vars++[⟨nV k,t.1,t.2,b,false,bR,(0,0)⟩])=ax m.vars++[row]:=by
  rw[g];simp only[ax,aio,aiq,aiL];rw[Va.ah];rfl
 have e:=w.app [row];have j:=(e.pick [1,0,2]).ob;rw[g]at e j;refine Mo ?_;apply Mz mixed
 .intro A B;refine bG W W<|bG W W<|dJ W W W<|bW W W<|dj W W d W<|cY W W W W W<|cr W W W W W W W W<|eV w W W W W W W W (by simp[ax];omega)<|dJ W W W<|bW W W<|fC W W j (aN _ _ _) W W<|TF.nil ⟨by kernel_rfl,rfl⟩
 refine Mx ?_;rw[g]at i;rw[<-i]at e;have u:Wk F H [ij c p ⟨k,m.vars++[⟨nV k,t.1,t.2,b,false,bR,(0,0)⟩]⟩,.ob it bg] _:=ij.close ((e.pick [1,0,2]).set _);exact DC.ret ⟨_,W,_,⟨W,W⟩,u.pick [1,0]⟩
end Go.Proofs.Pz
namespace Go.Ps
open Go.Mt Go.Sm
def eJ(f:Env)(a:List (Nm×Nm))(m:MS)(x:Nm):Env×MS×List aD:=
 match f x with
 |none=>(f,m,[])
 |some b=>if b.k7=a.length then(f,m,[])else
  (f.set x ⟨nV (m.n+1),a.length,b.tk,b.tn⟩,m.fresh (b.tk,b.tn) a,[gY (nV (m.n+1)) ((a.drop b.k7).foldl gS (aZ b.name)) (0,0)])
def nh(r:R)(x:Nm):cM r x=⟨{r.s with vars:=(eJ r.s.vars r.s.ck r.m x).1},(eJ r.s.vars r.s.ck r.m x).2.1,r.q++(eJ r.s.vars r.s.ck r.m x).2.2⟩:=by
 obtain⟨s,m,q⟩:=r;unfold cM eJ oJ;cases h:s.vars x with
 |none=>simp[h]
 |some b=>by_cases a:b.k7=s.ck.length<;>simp[h,a]
def lL(r:R)(x:Nm):fm r x=⟨{r.s with aO:=(eJ r.s.aO r.s.ck r.m x).1},(eJ r.s.aO r.s.ck r.m x).2.1,r.q++(eJ r.s.aO r.s.ck r.m x).2.2⟩:=by
 obtain⟨s,m,q⟩:=r;unfold fm eJ oJ;cases h:s.aO x with
 |none=>simp[h]
 |some b=>by_cases a:b.k7=s.ck.length<;>simp[h,a]
def uw{l:List (Nm×Nm)}{i:Nat}(h:i<l.length):(bA l)[((i:Nat):Int).toNat]?=some [.str l[i].1,.str l[i].2]:=by simp[bA,h]
end Go.Ps
namespace Go.Proofs.Pz
open Go.Mt Go.Sm Go.Ps Go.Proofs
open Tryz
def GY(j:M)(iv c:Nat)(d:List (Nm×Nm))(f:Env)(a:List (Nm×Nm))(s:a.length<=1000000):
  Dt prog 209 [j,mE iv c d,.d (.sl (bA a))] [cN iv f] λr l=>r=.d (.sl (bA (a.map λo=>(o.1,f.nm o.2))))/\l=[cN iv f]:=by
 intro H F k;have w:=Wk.start k;obtain⟨n,e,w⟩:=cN.open w;have w:=w.nil 2;have B:(bA a).length=a.length:=by simp[bA]
 refine MG func209 W ntmps209 W ?_;refine O0 ?_
 repeat refine Mx ?_
 refine Mo ?_;refine DC.block<|DC.loop (λm h=>∃(i:Nat) (b:M) (e:List (Nat×List M)) (g:Hp),h=⟨[(12,.m (.d (.int .i64 ((i:Nat):Int)))),(11,.m (.d (.int .i64 ((a.length:Nat):Int)))),(10,.m (.d (.sl (bA a)))),(7,.m b),(4,.loc 4 0)],e,g⟩/\
   Go.Mt.get e 4=some [.mp iv,.mp c,.d (.sl (bA d))]/\
   Wk F H [.acc 2 (bA ((a.take i).map λo=>(o.1,f.nm o.2))) b,.ob iv (.map n)] g/\i<=a.length/\m=a.length-i) a.length _
  ⟨0,.d (.sl []),_,_,rfl,rfl,w,by omega,rfl⟩ W ?_
 rintro m t ⟨i,u,v,x,rfl,p,w,y,rfl⟩;refine Mx ?_;refine Mo ?_;refine DC.cond W (λb=>?_) (λb=>?_)
 .have g:i<a.length:=by have:=aic b;omega
  have q:=uw g;have h:bA ((a.take (i+1)).map λo=>(o.1,f.nm o.2))=bA ((a.take i).map λo=>(o.1,f.nm o.2))++[[.str a[i].1,.str (f.nm a[i].2)]]:=by rw[qQ _ _ _ _ _ g];simp[bA]
  generalize a[i]=o at q h;refine DC.skip ?_;refine Mo ?_;refine DC.block ?_;refine Mx ?_;refine Mo ?_;apply Mn
  .intro z A;refine TL.go ?_;refine lb e ((w.pick [1,0]).ob) W W W<|TL.go ?_;refine cT w W W W W W W (by exact bS W) (by simp[bA];omega)<|TL.au
  have w:=w.app [[.str o.1,.str (f.nm o.2)]];refine Mx ?_;exact bf (k':=a.length-(i+1)) (by omega) ⟨i+1,_,_,_,rfl,p,by rw[h];exact w,by omega,rfl⟩ W W
 .refine DC.exit ?_;obtain rfl:i=a.length:=by have:=aie b;omega
  rw[aih]at w;refine Mx ?_;refine DC.aR 6 W (w.view (jp _)) ?_;exact DC.ret ⟨_,W,_,⟨W,W⟩,(Ng e w.drop)⟩
def AF(iv b:Nat)(c:List (Nm×Nm))(f:Env)(l:List Nm)(p:l.length<=1000000):
  Dt prog 257 [mE iv b c,.d (.sl (aE l))] [cN iv f] λr a=>r=.d (.sl (aE (l.map f.nm)))/\a=[cN iv f]:=by
 intro H F h;have w:=Wk.start h;obtain⟨j,d,w⟩:=cN.open w;have w:=w.nil 1;have z:(aE l).length=l.length:=by simp[aE]
 refine MG func257 W ntmps257 W ?_;refine O0 ?_
 repeat refine Mx ?_
 refine Mo ?_;refine DC.block<|DC.loop (λm g=>∃(i:Nat) (a:M) (d:List (Nat×List M)) (e:Hp),g=⟨[(10,.m (.d (.int .i64 ((i:Nat):Int)))),(9,.m (.d (.int .i64 ((l.length:Nat):Int)))),(8,.m (.d (.sl (aE l)))),(5,.m a),(2,.loc 2 0)],d,e⟩/\
   Go.Mt.get d 2=some [.mp iv,.mp b,.d (.sl (bA c))]/\
   Wk F H [.acc 1 (aE ((l.take i).map f.nm)) a,.ob iv (.map j)] e/\i<=l.length/\m=l.length-i) l.length _
  ⟨0,.d (.sl []),_,_,rfl,rfl,w,by omega,rfl⟩ W ?_
 rintro m q ⟨i,s,t,u,rfl,k,w,v,rfl⟩;refine Mx ?_;refine Mo ?_;refine DC.cond W (λa=>?_) (λa=>?_)
 .have e:i<l.length:=by have:=aic a;omega
  have n:=fF e;have g:aE ((l.take (i+1)).map f.nm)=aE ((l.take i).map f.nm)++[[.str (f.nm l[i])]]:=by rw[qQ _ _ _ _ _ e];simp[aE]
  generalize l[i]=o at n g;refine DC.skip ?_;refine Mo ?_;refine DC.block ?_;refine Mx ?_;refine Mo ?_;apply Mn
  .intro x y;refine TL.go ?_;refine lb d ((w.pick [1,0]).ob) W W W<|TL.go ?_;refine cT w W W W W W W (by exact bS W) (by simp[aE];omega)<|TL.au
  have w:=w.app [[.str (f.nm o)]];refine Mx ?_;exact bf (k':=l.length-(i+1)) (by omega) ⟨i+1,_,_,_,rfl,k,by rw[g];exact w,by omega,rfl⟩ W W
 .refine DC.exit ?_;obtain rfl:i=l.length:=by have:=aie a;omega
  rw[aih]at w;refine Mx ?_;refine DC.aR 4 W (w.view (cU _)) ?_;exact DC.ret ⟨_,W,_,⟨W,W⟩,(Ng d w.drop)⟩
def yE(it g:Nat)(p:Pg)(m:MS)(iv A j:Nat)(c:List (Nm×Nm))(f:Env)(x:Nm)(F:m.n<1000000000)(G:m.vars.length<=10000000)(I:c.length<=1000000)(J:∀b,f x=some b->b.k7<=c.length):
  Dt prog 255 [.ref g 0,mE iv A c,.mp j,.d (.str x)] [.ob it bg,ij g p m,cN j f] λr l=>r=.d (.sl (cg (eJ f c m x).2.2))/\l=[.ob it bg,ij g p (eJ f c m x).2.1,cN j (eJ f c m x).1]:=by
 intro H Y K;have w:=Wk.start K;have w:=w.pick [2,0,1];obtain⟨N,d,w⟩:=cN.open w;have k:=w.ob;have n:=d.l x;have h:(bA c).length=c.length:=by simp[bA]
 unfold eJ;cases o:f x with
 |none=>
  rw[o]at n;refine MG func255 W ntmps255 W ?_;refine O0 ?_;refine Mo ?_;apply Mn
  .intro q s;refine TL.go ?_
   (refine nH W W W k d.k ?_;rw[n])
   refine TL.au
  refine Mx ?_;refine Mo ?_;refine MM W ?_;refine Mx ?_;have i:=Ng d w;exact DC.ret ⟨_,W,_,⟨W,W⟩,i.pick [1,2,0]⟩
 |some b=>
  rw[o]at n;have O:=J b o
  dsimp only
  refine MG func255 W ntmps255 W ?_;refine O0 ?_;refine Mo ?_;apply Mn
  .intro y z;refine TL.go ?_
   (refine nH W W W k d.k ?_;rw[n])
   refine TL.au
  by_cases q:b.k7=c.length
  .rw[air q];have s:(((b.k7:Nat):Int)==((c.length:Nat):Int))=true:=by simp[q]
   refine Mo ?_;apply Mn
   .intro z C;refine aq W W<|kg W W<|aq W W<|az W ?_;refine aF W W ?_;refine az W ?_;refine aJ W W W W ?_;refine az W ?_;refine aF W W ?_;refine az W ?_;refine aJ W W W W ?_;refine az W ?_;refine aY W W W ?_;rw[h];refine az W ?_;refine ay W W W (r:=.bool true) (by show some (D.bool (((b.k7:Nat):Int)==((c.length:Nat):Int)))=_;rw[s]) ?_;refine TL.au
   refine Mo ?_;refine MM W ?_;refine Mx ?_;have y:=Ng d w;exact DC.ret ⟨_,W,_,⟨W,W⟩,y.pick [1,2,0]⟩
  rw[aid q];have s:(((b.k7:Nat):Int)==((c.length:Nat):Int))=false:=by simp;omega
  refine Mo ?_;apply Mn
  .intro y z;refine aq W W<|kg W W<|aq W W<|az W ?_;refine aF W W ?_;refine az W ?_;refine aJ W W W W ?_;refine az W ?_;refine aF W W ?_;refine az W ?_;refine aJ W W W W ?_;refine az W ?_;refine aY W W W ?_;rw[h];refine az W ?_;refine ay W W W (r:=.bool false) (by show some (D.bool (((b.k7:Nat):Int)==((c.length:Nat):Int)))=_;rw[s]) ?_;refine TL.au
  refine Mo ?_;refine Mw W<|DC.skip ?_;have P:=fE b.name;rw[(aZ b.name).ah]at P;refine Mx ?_;obtain⟨L,t⟩:∃L,L=c.drop b.k7:=⟨_,rfl⟩;have Q:L.length=c.length-b.k7:=by rw[t,akp]
  have R:(bA c).drop b.k7=bA L:=by rw[t];simp[bA]
  have S:zN ((bA c).drop b.k7)=.sl (bA L):=by
   rw[R];cases L with
   |nil=>simp at Q;omega
   |cons a r=>rfl
  have T:(bA L).length=L.length:=by simp[bA]
  refine Mo ?_;apply Mn
  .intro y z;refine TL.go ?_
   (refine yn W W W (by intro e;have:=ajj List.length e;rw[h,List.length_nil]at this;omega) (by rw[h];exact O) (jp c) ?_;rw[S])
   (refine aY W W W ?_;rw[T])
   refine TL.au
  rw[<-t];refine Mo ?_;refine DC.block<|DC.loop (λm h=>∃(i:Nat) (d:List (Nat×List M)),h=⟨[(40,.m (.d (.int .i64 ((i:Nat):Int)))),(39,.m (.d (.int .i64 ((L.length:Nat):Int)))),(38,.m (.d (.sl (bA L)))),(11,.loc 11 0),(9,.loc 9 0),(5,.loc 5 0),(0,.m (.ref g 0)),(2,.m (.mp j)),(3,.m (.d (.str x)))],d,H⟩/\
    Go.Mt.get d 5=some [.mp iv,.mp A,.d (.sl (bA c))]/\Go.Mt.get d 9=some ((oa b).map M.d)/\Go.Mt.get d 11=some ((xC ((L.take i).foldl gS (aZ b.name))).map M.d)/\i<=L.length/\m=L.length-i) L.length _
   ⟨0,_,rfl,rfl,rfl,rfl,by omega,rfl⟩ W ?_
  rintro m1 Z ⟨i,bx,rfl,B,U,u,hi,rfl⟩;refine Mx ?_;refine Mo ?_;refine DC.cond W (λv=>?_) (λv=>?_)
  .have C:i<L.length:=by have:=aic v;omega
   have V:=uw C;have y:(L.take (i+1)).foldl gS (aZ b.name)=gS ((L.take i).foldl gS (aZ b.name)) L[i]:=by rw[ah5 C,aiC];rfl
   generalize (L.take i).foldl gS (aZ b.name)=E at u y;generalize L[i]=z at V y;have X:=AC E z;rw[E.ah,(gS E z).ah]at X;refine DC.skip ?_;refine Mo ?_;refine DC.block ?_
   repeat refine Mx ?_
   exact bf (k':=L.length-(i+1)) (by omega) ⟨i+1,_,rfl,B,U,by rw[y];rfl,by omega,rfl⟩ W W
  .refine DC.exit ?_;obtain rfl:i=L.length:=by have:=aie v;omega
   rw[aih]at u;generalize L.foldl gS (aZ b.name)=E at u⊢;obtain⟨_,C,l',⟨rfl,rfl⟩,w,MR⟩:=Wk.call (a:=[.ob it bg,ij g p m]) (w.pick [1,2,0]) (rM it g p m F G (b.tk,b.tn) c I);have w:=w.pick [2,0,1];have k:=w.ob;have z:=o8 (nV (m.n+1)) E (0,0);rw[eb,E.ah]at z;refine Mx ?_;refine Mo ?_;apply Mn
   .intro V X;refine aq W W<|aq W W<|aq W W<|aF W W<|aJ W W B W ?_
    (refine aY W W W ?_;rw[h])
    refine TL.go ?_;refine eU W W W k d.k<|TL.nil W
   refine Mx ?_;have y:=Ng (d.set x ⟨nV (m.n+1),c.length,b.tk,b.tn⟩) (w.set (.map (dK x (.d (.agg (oa ⟨nV (m.n+1),c.length,b.tk,b.tn⟩))) N)));refine DC.ret ⟨_,W,_,⟨?_,W⟩,y.pick [1,2,0]⟩;show _=M.d (D.sl [(gY (nV (m.n+1)) E (0,0)).cells]);rw[eb];rfl
def CM(it c:Nat)(p:Pg)(m:MS)(iv d:Nat)(a:List (Nm×Nm))(f:Env)(x:Nm)(e:m.n<1000000000)(g:m.vars.length<=10000000)(h:a.length<=1000000)(i:∀b,f x=some b->b.k7<=a.length):
  Dt prog 214 [.ref c 0,mE iv d a,.d (.str x)] [.ob it bg,ij c p m,cN iv f] λr l=>r=.d (.sl (cg (eJ f a m x).2.2))/\l=[.ob it bg,ij c p (eJ f a m x).2.1,cN iv (eJ f a m x).1]:=by
 intro H F j;obtain⟨_,K,k,⟨rfl,rfl⟩,w,n⟩:=Wk.call (r:=[]) (Wk.start j) (yE it c p m iv d iv a f x e g h i);refine MG func214 W ntmps214 W ?_;refine O0 ?_;refine Mx ?_;exact DC.ret ⟨_,W,_,⟨W,W⟩,w⟩
def ux(it d:Nat)(p:Pg)(m:MS)(iv c:Nat)(a:List (Nm×Nm))(f:Env)(x:Nm)(e:m.n<1000000000)(g:m.vars.length<=10000000)(h:a.length<=1000000)(i:∀b,f x=some b->b.k7<=a.length):
  Dt prog 290 [.ref d 0,mE iv c a,.d (.str x)] [.ob it bg,ij d p m,cN c f] λr l=>r=.d (.sl (cg (eJ f a m x).2.2))/\l=[.ob it bg,ij d p (eJ f a m x).2.1,cN c (eJ f a m x).1]:=by
 intro H F j;obtain⟨_,K,k,⟨rfl,rfl⟩,w,n⟩:=Wk.call (r:=[]) (Wk.start j) (yE it d p m iv c c a f x e g h i);refine MG func290 W ntmps290 W ?_;refine O0 ?_;refine Mx ?_;exact DC.ret ⟨_,W,_,⟨W,W⟩,w⟩
end Go.Proofs.Pz
namespace Go.Ps
open Go.Mt Go.Sm
def wF(s:Sc):∀l:List Xp,ig s l=l.map (cp s)
 |[]=>by rw[ig];rfl
 |e::l=>by rw[ig,wF s l];rfl
def GZ(s:Sc)(e:Xp):cp s e=if e.kd=4\/e.kd=12\/e.kd=13 then .mk e.kd e.op e.num (s.vars.nm e.nm) e.names (e.kids.map (cp s)) e.ps
  else if e.kd=5 then .mk 4 e.op e.num (s.aO.nm e.nm) e.names (e.kids.map (cp s)) e.ps
  else .mk e.kd e.op e.num e.nm e.names (e.kids.map (cp s)) e.ps:=by
 cases e with|mk k a n x c b p=>
 rw[cp,wF];rfl
def jq(l:List Xp):∀r∈l.map Xp.cells,r.length=8:=by
 intro r a;rw[aij]at a;obtain⟨t,_,rfl⟩:=a;rw[t.ah];rfl
end Go.Ps
namespace Go.Proofs.Pz
open Go.Mt Go.Sm Go.Ps Go.Proofs
open Tryz
def CN(iv b:Nat)(d:List (Nm×Nm))(s:Sc)(e:Xp)(n:fG e):
  Dt prog 291 [mE iv b d,.d (.agg e.cells)] [cN iv s.vars,cN b s.aO] λr l=>r=.d (.agg (cp s e).cells)/\l=[cN iv s.vars,cN b s.aO]:=by
 have p:∀k∈e.kids,Dt prog 291 [mE iv b d,.d (.agg k.cells)] [cN iv s.vars,cN b s.aO] λr l=>r=.d (.agg (cp s k).cells)/\l=[cN iv s.vars,cN b s.aO]:=
  λk c=>
   have:=Od c
   CN iv b d s k (by cases n with|mk _ _ _ f=>exact f k c)
 have C:e.kids.length<=1000000:=by cases n with|mk _ q _ _=>exact q
 intro H F t;have w:=(Wk.start t).nil 8;have P:(e.kids.map Xp.cells).length=e.kids.length:=by simp
 rw[e.ah];refine MG func291 W ntmps291 W ?_;refine O0 ?_
 repeat refine Mx ?_
 refine Mo ?_;refine DC.block<|DC.loop (λm h=>∃(i:Nat) (f:M) (c:List (Nat×List M)) (g:Hp),h=⟨[(11,.m (.d (.int .i64 ((i:Nat):Int)))),(10,.m (.d (.int .i64 ((e.kids.length:Nat):Int)))),(9,.m (.d (.sl (e.kids.map Xp.cells)))),(5,.m f),(4,.loc 4 0),(3,.loc 3 0),(2,.loc 2 0)],c,g⟩/\
   Go.Mt.get c 2=some [.mp iv,.mp b,.d (.sl (bA d))]/\Go.Mt.get c 3=some ((xC e).map M.d)/\Go.Mt.get c 4=some ((bh 0 0 0 ⟨#[]⟩ [] [] (0,0)).map M.d)/\
   Wk F H [.acc 8 (((e.kids.take i).map (cp s)).map Xp.cells) f,cN iv s.vars,cN b s.aO] g/\i<=e.kids.length/\m=e.kids.length-i) e.kids.length _
  ⟨0,.d (.sl []),_,_,rfl,rfl,rfl,rfl,w,by omega,rfl⟩ W ?_
 rintro m E ⟨i,G,I,J,rfl,u,o,v,w,K,rfl⟩;refine Mx ?_;refine Mo ?_;refine DC.cond W (λg=>?_) (λg=>?_)
 .have c:i<e.kids.length:=by have:=aic g;omega
  have h:(e.kids.map Xp.cells)[((i:Nat):Int).toNat]?=some e.kids[i].cells:=by simp[c]
  have f:((e.kids.take (i+1)).map (cp s)).map Xp.cells=((e.kids.take i).map (cp s)).map Xp.cells++[(cp s e.kids[i]).cells]:=by rw[qQ _ _ _ _ _ c,aio];rfl
  obtain⟨_,x,y,⟨rfl,rfl⟩,w,j⟩:=Wk.call (a:=[_,_]) (r:=[_]) (w.pick [1,2,0]) (p _ (aif c));have w:=w.pick [2,0,1];generalize e.kids[i]=k at h f j;rw[(cp s k).ah]at f;rw[k.ah]at h;rw[k.ah,(cp s k).ah]at j;refine DC.skip ?_;refine Mo ?_;refine DC.block ?_;refine Mx ?_;refine Mo ?_;apply Mn
  .intro z A;refine TL.go ?_;refine cT w W W W W W W (by exact bS W) (by simp only[ah8,ait,aik];omega)<|TL.au
  have w:=w.app [xC (cp s k)];refine Mx ?_;exact bf (k':=e.kids.length-(i+1)) (by omega) ⟨i+1,_,_,_,rfl,u,o,v,by rw[f];exact w,by omega,rfl⟩ W W
 .refine DC.exit ?_;obtain rfl:i=e.kids.length:=by have:=aie g;omega
  rw[aih]at w;refine DC.aR 5 W (w.view (jq _)) ?_;have w:=w.drop;have x:xC e=bh e.kd e.op e.num e.nm e.names (e.kids.map Xp.cells) e.ps:=rfl;rw[x]at o;rw[GZ]
  repeat refine Mx ?_
  refine Mo ?_;refine DC.block ?_;by_cases c:e.kd=4\/e.kd=12\/e.kd=13
  .rw[air c];obtain⟨O,f,w⟩:=cN.open w;have h:=w.ob;have j:=Ng f w;rcases c with c|c|c
   .rw[c];refine Mx ?_;refine Mo ?_;refine MM W<|DC.skip ?_;refine Mo ?_;refine MM W ?_;refine Mo ?_;apply Mn
    .intro L N;refine TL.go ?_;refine lb f h W W W<|TL.au
    refine Mx ?_;rw[Xp.ah];exact DC.ret ⟨_,W,_,⟨W,W⟩,j⟩
   .rw[c];refine Mx ?_;refine Mo ?_;refine Mw W ?_;refine Mx ?_;refine Mo ?_;refine MM W<|DC.skip ?_;refine Mo ?_;refine MM W ?_;refine Mo ?_;apply Mn
    .intro L N;refine TL.go ?_;refine lb f h W W W<|TL.au
    refine Mx ?_;rw[Xp.ah];exact DC.ret ⟨_,W,_,⟨W,W⟩,j⟩
   .rw[c];refine Mx ?_;refine Mo ?_;refine Mw W ?_;refine Mx ?_;refine Mo ?_;refine Mw W ?_;refine Mx ?_;refine Mo ?_;refine MM W ?_;refine Mo ?_;apply Mn
    .intro L N;refine TL.go ?_;refine lb f h W W W<|TL.au
    refine Mx ?_;rw[Xp.ah];exact DC.ret ⟨_,W,_,⟨W,W⟩,j⟩
  rw[aid c];have y:(e.kd==4)=false:=by simp;omega
  have z:(e.kd==12)=false:=by simp;omega
  have A:(e.kd==13)=false:=by simp;omega
  by_cases k:e.kd=5
  .rw[air k,k];have f:=w.pick [1,0];obtain⟨O,h,f⟩:=cN.open f;have j:=f.ob;refine Mx ?_;refine Mo ?_;refine Mw W ?_;refine Mx ?_;refine Mo ?_;refine Mw W ?_;refine Mx ?_;refine Mo ?_;refine Mw W ?_;refine Mx ?_;refine Mo ?_;refine MM W ?_;refine Mo ?_;apply Mz mixed
   .intro L N;refine TF.go ?_;refine uv h j W W W<|TF.au
   refine Mx ?_;rw[Xp.ah];exact DC.ret ⟨_,W,_,⟨W,W⟩,w⟩
  rw[aid k];have B:(e.kd==5)=false:=by simp;omega
  refine Mo ?_;apply Mn
  .intro f h
   (refine ay W W W (r:=.bool false) (by show some (D.bool (e.kd==4))=_;rw[y]) ?_)
   refine TL.au
  refine Mo ?_;refine Mw W ?_;refine Mo ?_;apply Mn
  .intro f h
   (refine ay W W W (r:=.bool false) (by show some (D.bool (e.kd==12))=_;rw[z]) ?_)
   refine TL.au
  refine Mo ?_;refine Mw W ?_;refine Mo ?_;apply Mn
  .intro f h
   (refine ay W W W (r:=.bool false) (by show some (D.bool (e.kd==13))=_;rw[A]) ?_)
   refine TL.au
  refine Mo ?_;refine Mw W ?_;refine Mo ?_;apply Mn
  .intro f h
   (refine ay W W W (r:=.bool false) (by show some (D.bool (e.kd==5))=_;rw[B]) ?_)
   refine TL.au
  refine Mo ?_;refine Mw W<|DC.skip ?_;refine Mx ?_;rw[Xp.ah];exact DC.ret ⟨_,W,_,⟨W,W⟩,w⟩
termination_by SizeOf.sizeOf e
end Go.Proofs.Pz
