/- A part of the proof of the last text of this claim, without conditions. -/
import Derived.Test.YtbafhpblecdbbaaGreatDoorD
set_option maxRecDepth 4000
set_option linter.all false
namespace Go.Ps
open Go.Mt Go.Sm
def jV(H:Hp)(n:Nat):M:=if n=0 then .d (.sl [])else .cy H.length 1 0
def jW(H:Hp)(a n:Nat):Hp:=if n=0 then H else H++[.row true a 1 []]
def gX{α:Type}(L:List (List α))(i:Nat)(h:i<L.length):(L.take (i+1)).flatten=(L.take i).flatten++L[i]:=by
 rw[agp h,List.flatten_append];simp
def er{α:Type}(L:List (List α))(i:Nat):(L.take i).flatten.length<=L.flatten.length:=by
 have:L.flatten=(L.take i).flatten++(L.drop i).flatten:=by rw[<-List.flatten_append,ahf]
 rw[this,agq];omega
end Go.Ps
namespace Go.Proofs.Pz
open Go.Mt Go.Sm Go.Ps Go.Proofs
open Tryz
def Fv(n:Nat)(H:Hp)(a:n<=30000000):CT prog 165 [.d (.sl []),.d (.int .i64 n)] H λr h=>r=jV H n/\h=jW H 4 n:=by
 refine Lf func165 W ntmps165 W λa b=>?_
 repeat refine TC.seq ?_
 refine TC.region ?_;refine ah W W ?_;refine TL.nil ?_
 repeat refine TC.seq ?_
 refine TC.region ?_;refine ai W W ?_;refine av W W W W ?_;refine TL.nil ?_
 repeat refine TC.seq ?_
 refine TC.cond W (λa=>by have:=agr a;omega) (λa=>?_);refine TC.skip ?_
 repeat refine TC.seq ?_
 refine TC.region ?_;refine ai W W ?_;refine ai W W ?_;refine q9 W W ?_;refine ai W W ?_;refine aT W W W ?_;refine cD W W W (by simp) ?_
 (refine cD W W W (by simp;omega) ?_;rw[show((n:Int)-(0-((List.length ([]:List (List D)):Nat):Int)))=(n:Int) by simp])
 refine ah W W ?_;refine TL.nil ?_
 repeat refine TC.seq ?_
 refine TC.region ?_;refine ai W W ?_;refine av W W W W ?_;refine TL.nil ?_
 repeat refine TC.seq ?_
 refine TC.cond W (λa=>?_) (λa=>?_)
 .have b:0<n:=by have:=agr a;omega
  repeat refine TC.seq ?_
  refine TC.region ?_;refine ai W W ?_;refine ai W W ?_;refine q9 W W ?_;refine uE W W W ?_;refine ai W W ?_;refine sx (len:=n) W W W W (by rfl) b (by omega) (by omega) ?_;refine ai W W ?_;refine aT W W W ?_;refine uF true W W W (by exact aii) (by simp) (by simp) ?_;refine ah W W ?_;refine TL.nil ?_
  repeat refine TC.seq ?_
  refine TC.region ?_;refine ai W W ?_;refine ah W W ?_;refine TL.nil ?_;refine TC.ret ⟨_,W,?_,?_⟩
  .simp only[jV,agw (show ¬n=0 by omega)];rfl
  .simp only[jW,agw (show ¬n=0 by omega)];simp
 .refine TC.skip ?_;have b:n=0:=by have:=agv a;omega
  repeat refine TC.seq ?_
  refine TC.region ?_;refine ai W W ?_;refine ah W W ?_;refine TL.nil ?_;refine TC.ret ⟨_,W,?_,?_⟩
  .simp only[jV,agK b];rfl
  .simp only[jW,agK b]
def B1(L:List (List (List D)))(e:∀l∈L,∀r∈l,r.length=4)(t:L.length<=1000)(g:L.flatten.length<=30000000):
  PT prog 112 [.sl (L.map λl=>[D.sl l])] (·=[.sl L.flatten]):=by
 refine Lk (Lf func112 W ntmps112 W λu v=>?_)
 repeat refine TC.seq ?_
 refine TC.region ?_;refine ah W W ?_;refine TL.nil ?_
 repeat refine TC.seq ?_
 refine TC.region ?_;refine ah W W ?_;refine TL.nil ?_
 repeat refine TC.seq ?_
 refine TC.region ?_;refine ai W W ?_
 (refine aT W W W ?_;rw[agt])
 refine ai W W ?_;refine TL.nil ?_
 repeat refine TC.seq ?_
 refine TC.block ?_;refine LI (λk s=>∃(i:Nat),s=⟨[(11,.m (.d (.int .i64 i))),(10,.m (.d (.int .i64 (L.length:Nat)))),(9,.m (.d (.sl (L.map λl=>[D.sl l])))),(3,.m (.d (.int .i64 ((L.take i).flatten.length:Nat)))),(0,.m (.d (.sl (L.map λl=>[D.sl l]))))],[],[]⟩/\i<=L.length/\k=L.length-i) L.length _
  ⟨0,rfl,by omega,rfl⟩ W ?_
 rintro k s ⟨i,rfl,f,rfl⟩;have j:=er L i
 repeat refine TC.seq ?_
 refine TC.region ?_;refine av W W W W ?_;refine TL.nil ?_
 repeat refine TC.seq ?_
 refine TC.cond W (λa=>?_) (λa=>?_)
 .have c:i<L.length:=by have:=agr a;omega
  have d:=gX L i c;have h:=er L (i+1);rw[d,agq]at h;refine TC.skip ?_
  repeat refine TC.seq ?_
  refine TC.block ?_
  repeat refine TC.seq ?_
  refine TC.region ?_;refine aN W W W (ago i) (r:=[.sl L[i]]) (by simp[c]) W ?_;refine ax W W W ?_;refine ah W W ?_;refine TL.nil ?_
  repeat refine TC.seq ?_
  refine TC.region ?_;refine ai W W ?_;refine ai W W ?_;refine aT W W W ?_;refine aI W W W (by omega) ?_;refine ah W W ?_;refine TL.nil ?_
  repeat refine TC.seq ?_
  refine TC.region ?_;refine ai W W ?_;refine av W W W W ?_;refine TL.nil ?_
  repeat refine TC.seq ?_
  refine TC.cond W (λa=>by have:=agr a;omega) (λa=>?_);refine TC.skip ?_
  repeat refine TC.seq ?_
  refine TC.region ?_;refine aI W W W (by omega) ?_;refine ai W W ?_;refine TL.nil ?_;exact again (k':=L.length-(i+1)) (by omega) ⟨i+1,rfl,by omega,rfl⟩ W (kc (by simp;rfl)<|kc (rfl)<|kc (rfl)<|kc (by rw[d,agq,ajj];rfl)<|kc (rfl)<|rfl)
 refine TC.exit ?_;obtain rfl:i=L.length:=by have:=agv a;omega
 rw[agz]
 repeat refine TC.seq ?_
 refine TC.region ?_;refine ai W W ?_
 (refine iQ (Fv L.flatten.length [] g) W W ?_;rintro _ _ ⟨rfl,rfl⟩)
 refine ah W W ?_;refine TL.nil ?_
 repeat refine TC.seq ?_
 refine TC.region ?_;refine ai W W ?_
 (refine aT W W W ?_;rw[agt])
 refine ai W W ?_;refine TL.nil ?_
 repeat refine TC.seq ?_
 refine TC.block ?_;by_cases b:L.flatten.length=0
 .rw[jV,jW,agK b,agK b];refine LI (λk s=>∃(i:Nat),s=⟨[(27,.m (.d (.int .i64 i))),(26,.m (.d (.int .i64 (L.length:Nat)))),(25,.m (.d (.sl (L.map λl=>[D.sl l])))),(6,.m (.d (.sl [])))],[],[]⟩/\i<=L.length/\k=L.length-i) L.length _
   ⟨0,rfl,by omega,rfl⟩ W ?_
  rintro k s ⟨i,rfl,f,rfl⟩
  repeat refine TC.seq ?_
  refine TC.region ?_;refine av W W W W ?_;refine TL.nil ?_
  repeat refine TC.seq ?_
  refine TC.cond W (λa=>?_) (λa=>?_)
  .have c:i<L.length:=by have:=agr a;omega
   have h:L[i]=[]:=by
    have d:=ahu b;rw[aiw]at d;exact d _ (agx c)
   refine TC.skip ?_
   repeat refine TC.seq ?_
   refine TC.block ?_
   repeat refine TC.seq ?_
   refine TC.region ?_;refine aN W W W (ago i) (r:=[.sl []]) (by simp[c,h]) W ?_;refine ax W W W ?_;refine ah W W ?_;refine TL.nil ?_
   repeat refine TC.seq ?_
   refine TC.region ?_;refine ai W W ?_;refine ai W W ?_;refine gO W W W ?_;refine ah W W ?_;refine TL.nil ?_
   repeat refine TC.seq ?_
   refine TC.region ?_;refine aI W W W (by omega) ?_;refine ai W W ?_;refine TL.nil ?_;exact again (k':=L.length-(i+1)) (by omega) ⟨i+1,rfl,by omega,rfl⟩ W (kc (by simp;rfl)<|kc (rfl)<|kc (rfl)<|kc (rfl)<|rfl)
  refine TC.exit ?_
  repeat refine TC.seq ?_
  refine TC.region ?_;refine ai W W ?_;refine ah W W ?_;refine TL.nil ?_;exact TC.ret ⟨_,W,[_],W,by rw[ahu b]⟩
 .rw[jV,jW,agw b,agw b];refine LI (λk s=>∃(i:Nat),s=⟨[(27,.m (.d (.int .i64 i))),(26,.m (.d (.int .i64 (L.length:Nat)))),(25,.m (.d (.sl (L.map λl=>[D.sl l])))),(6,.m (.cy 0 (i+1) (L.take i).flatten.length))],[],[.row true 4 (i+1) (bf (L.take i).flatten)]⟩/\i<=L.length/\k=L.length-i) L.length _
   ⟨0,rfl,by omega,rfl⟩ W ?_
  rintro k s ⟨i,rfl,f,rfl⟩;have j:=er L i
  repeat refine TC.seq ?_
  refine TC.region ?_;refine av W W W W ?_;refine TL.nil ?_
  repeat refine TC.seq ?_
  refine TC.cond W (λa=>?_) (λa=>?_)
  .have c:i<L.length:=by have:=agr a;omega
   have d:=gX L i c;have m:=er L (i+1);rw[d,agq]at m;refine TC.skip ?_
   repeat refine TC.seq ?_
   refine TC.block ?_
   repeat refine TC.seq ?_
   refine TC.region ?_;refine aN W W W (ago i) (r:=[.sl L[i]]) (by simp[c]) W ?_;refine ax W W W ?_;refine ah W W ?_;refine TL.nil ?_
   repeat refine TC.seq ?_
   refine TC.region ?_;refine ai W W ?_;refine ai W W ?_;refine fm W W W W (by rfl) (by exact e _ (agx c)) (by omega) (by omega) ?_;refine ah W W ?_;refine TL.nil ?_
   repeat refine TC.seq ?_
   refine TC.region ?_;refine aI W W W (by omega) ?_;refine ai W W ?_;refine TL.nil ?_;exact again (k':=L.length-(i+1)) (by omega) ⟨i+1,rfl,by omega,rfl⟩ (by rw[d];simp[bf]) (kc (by simp;rfl)<|kc (rfl)<|kc (rfl)<|kc (by rw[d,agq];rfl)<|rfl)
  refine TC.exit ?_;obtain rfl:i=L.length:=by have:=agv a;omega
  rw[agz]
  repeat refine TC.seq ?_
  refine TC.region ?_;refine ai W W ?_;refine ah W W ?_;refine TL.nil ?_;refine TC.bg 2 W (Acc.view (n:=4) (i:=0) (rs:=L.flatten) (.inr ⟨by intro h;rw[h]at b;exact b W,_,W,W⟩) (by intro r p;obtain⟨l,o,q⟩:=ai7.1 p;exact e l o r q)) ?_;exact TC.ret ⟨_,W,[_],W,W⟩
def Fw(n:Nat)(H:Hp)(a:n<=30000000):CT prog 118 [.d (.sl []),.d (.int .i64 n)] H λr h=>r=jV H n/\h=jW H 15 n:=by
 refine Lf func118 W ntmps118 W λa b=>?_
 repeat refine TC.seq ?_
 refine TC.region ?_;refine ah W W ?_;refine TL.nil ?_
 repeat refine TC.seq ?_
 refine TC.region ?_;refine ai W W ?_;refine av W W W W ?_;refine TL.nil ?_
 repeat refine TC.seq ?_
 refine TC.cond W (λa=>by have:=agr a;omega) (λa=>?_);refine TC.skip ?_
 repeat refine TC.seq ?_
 refine TC.region ?_;refine ai W W ?_;refine ai W W ?_;refine q9 W W ?_;refine ai W W ?_;refine aT W W W ?_;refine cD W W W (by simp) ?_
 (refine cD W W W (by simp;omega) ?_;rw[show((n:Int)-(0-((List.length ([]:List (List D)):Nat):Int)))=(n:Int) by simp])
 refine ah W W ?_;refine TL.nil ?_
 repeat refine TC.seq ?_
 refine TC.region ?_;refine ai W W ?_;refine av W W W W ?_;refine TL.nil ?_
 repeat refine TC.seq ?_
 refine TC.cond W (λa=>?_) (λa=>?_)
 .have b:0<n:=by have:=agr a;omega
  repeat refine TC.seq ?_
  refine TC.region ?_;refine ai W W ?_;refine ai W W ?_;refine q9 W W ?_;refine uE W W W ?_;refine ai W W ?_;refine sx (len:=n) W W W W (by rfl) b (by omega) (by omega) ?_;refine ai W W ?_;refine aT W W W ?_;refine uF true W W W (by exact aii) (by simp) (by simp) ?_;refine ah W W ?_;refine TL.nil ?_
  repeat refine TC.seq ?_
  refine TC.region ?_;refine ai W W ?_;refine ah W W ?_;refine TL.nil ?_;refine TC.ret ⟨_,W,?_,?_⟩
  .simp only[jV,agw (show ¬n=0 by omega)];rfl
  .simp only[jW,agw (show ¬n=0 by omega)];simp
 .refine TC.skip ?_;have b:n=0:=by have:=agv a;omega
  repeat refine TC.seq ?_
  refine TC.region ?_;refine ai W W ?_;refine ah W W ?_;refine TL.nil ?_;refine TC.ret ⟨_,W,?_,?_⟩
  .simp only[jV,agK b];rfl
  .simp only[jW,agK b]
def n5(L:List (List (List D)))(e:∀l∈L,∀r∈l,r.length=15)(t:L.length<=1000)(g:L.flatten.length<=30000000):
  PT prog 61 [.sl (L.map λl=>[D.sl l])] (·=[.sl L.flatten]):=by
 refine Lk (Lf func61 W ntmps61 W λu v=>?_)
 repeat refine TC.seq ?_
 refine TC.region ?_;refine ah W W ?_;refine TL.nil ?_
 repeat refine TC.seq ?_
 refine TC.region ?_;refine ah W W ?_;refine TL.nil ?_
 repeat refine TC.seq ?_
 refine TC.region ?_;refine ai W W ?_
 (refine aT W W W ?_;rw[agt])
 refine ai W W ?_;refine TL.nil ?_
 repeat refine TC.seq ?_
 refine TC.block ?_;refine LI (λk s=>∃(i:Nat),s=⟨[(11,.m (.d (.int .i64 i))),(10,.m (.d (.int .i64 (L.length:Nat)))),(9,.m (.d (.sl (L.map λl=>[D.sl l])))),(3,.m (.d (.int .i64 ((L.take i).flatten.length:Nat)))),(0,.m (.d (.sl (L.map λl=>[D.sl l]))))],[],[]⟩/\i<=L.length/\k=L.length-i) L.length _
  ⟨0,rfl,by omega,rfl⟩ W ?_
 rintro k s ⟨i,rfl,f,rfl⟩;have j:=er L i
 repeat refine TC.seq ?_
 refine TC.region ?_;refine av W W W W ?_;refine TL.nil ?_
 repeat refine TC.seq ?_
 refine TC.cond W (λa=>?_) (λa=>?_)
 .have c:i<L.length:=by have:=agr a;omega
  have d:=gX L i c;have h:=er L (i+1);rw[d,agq]at h;refine TC.skip ?_
  repeat refine TC.seq ?_
  refine TC.block ?_
  repeat refine TC.seq ?_
  refine TC.region ?_;refine aN W W W (ago i) (r:=[.sl L[i]]) (by simp[c]) W ?_;refine ax W W W ?_;refine ah W W ?_;refine TL.nil ?_
  repeat refine TC.seq ?_
  refine TC.region ?_;refine ai W W ?_;refine ai W W ?_;refine aT W W W ?_;refine aI W W W (by omega) ?_;refine ah W W ?_;refine TL.nil ?_
  repeat refine TC.seq ?_
  refine TC.region ?_;refine ai W W ?_;refine av W W W W ?_;refine TL.nil ?_
  repeat refine TC.seq ?_
  refine TC.cond W (λa=>by have:=agr a;omega) (λa=>?_);refine TC.skip ?_
  repeat refine TC.seq ?_
  refine TC.region ?_;refine aI W W W (by omega) ?_;refine ai W W ?_;refine TL.nil ?_;exact again (k':=L.length-(i+1)) (by omega) ⟨i+1,rfl,by omega,rfl⟩ W (kc (by simp;rfl)<|kc (rfl)<|kc (rfl)<|kc (by rw[d,agq,ajj];rfl)<|kc (rfl)<|rfl)
 refine TC.exit ?_;obtain rfl:i=L.length:=by have:=agv a;omega
 rw[agz]
 repeat refine TC.seq ?_
 refine TC.region ?_;refine ai W W ?_
 (refine iQ (Fw L.flatten.length [] g) W W ?_;rintro _ _ ⟨rfl,rfl⟩)
 refine ah W W ?_;refine TL.nil ?_
 repeat refine TC.seq ?_
 refine TC.region ?_;refine ai W W ?_
 (refine aT W W W ?_;rw[agt])
 refine ai W W ?_;refine TL.nil ?_
 repeat refine TC.seq ?_
 refine TC.block ?_;by_cases b:L.flatten.length=0
 .rw[jV,jW,agK b,agK b];refine LI (λk s=>∃(i:Nat),s=⟨[(27,.m (.d (.int .i64 i))),(26,.m (.d (.int .i64 (L.length:Nat)))),(25,.m (.d (.sl (L.map λl=>[D.sl l])))),(6,.m (.d (.sl [])))],[],[]⟩/\i<=L.length/\k=L.length-i) L.length _
   ⟨0,rfl,by omega,rfl⟩ W ?_
  rintro k s ⟨i,rfl,f,rfl⟩
  repeat refine TC.seq ?_
  refine TC.region ?_;refine av W W W W ?_;refine TL.nil ?_
  repeat refine TC.seq ?_
  refine TC.cond W (λa=>?_) (λa=>?_)
  .have c:i<L.length:=by have:=agr a;omega
   have h:L[i]=[]:=by
    have d:=ahu b;rw[aiw]at d;exact d _ (agx c)
   refine TC.skip ?_
   repeat refine TC.seq ?_
   refine TC.block ?_
   repeat refine TC.seq ?_
   refine TC.region ?_;refine aN W W W (ago i) (r:=[.sl []]) (by simp[c,h]) W ?_;refine ax W W W ?_;refine ah W W ?_;refine TL.nil ?_
   repeat refine TC.seq ?_
   refine TC.region ?_;refine ai W W ?_;refine ai W W ?_;refine gO W W W ?_;refine ah W W ?_;refine TL.nil ?_
   repeat refine TC.seq ?_
   refine TC.region ?_;refine aI W W W (by omega) ?_;refine ai W W ?_;refine TL.nil ?_;exact again (k':=L.length-(i+1)) (by omega) ⟨i+1,rfl,by omega,rfl⟩ W (kc (by simp;rfl)<|kc (rfl)<|kc (rfl)<|kc (rfl)<|rfl)
  refine TC.exit ?_
  repeat refine TC.seq ?_
  refine TC.region ?_;refine ai W W ?_;refine ah W W ?_;refine TL.nil ?_;exact TC.ret ⟨_,W,[_],W,by rw[ahu b]⟩
 .rw[jV,jW,agw b,agw b];refine LI (λk s=>∃(i:Nat),s=⟨[(27,.m (.d (.int .i64 i))),(26,.m (.d (.int .i64 (L.length:Nat)))),(25,.m (.d (.sl (L.map λl=>[D.sl l])))),(6,.m (.cy 0 (i+1) (L.take i).flatten.length))],[],[.row true 15 (i+1) (bf (L.take i).flatten)]⟩/\i<=L.length/\k=L.length-i) L.length _
   ⟨0,rfl,by omega,rfl⟩ W ?_
  rintro k s ⟨i,rfl,f,rfl⟩;have j:=er L i
  repeat refine TC.seq ?_
  refine TC.region ?_;refine av W W W W ?_;refine TL.nil ?_
  repeat refine TC.seq ?_
  refine TC.cond W (λa=>?_) (λa=>?_)
  .have c:i<L.length:=by have:=agr a;omega
   have d:=gX L i c;have m:=er L (i+1);rw[d,agq]at m;refine TC.skip ?_
   repeat refine TC.seq ?_
   refine TC.block ?_
   repeat refine TC.seq ?_
   refine TC.region ?_;refine aN W W W (ago i) (r:=[.sl L[i]]) (by simp[c]) W ?_;refine ax W W W ?_;refine ah W W ?_;refine TL.nil ?_
   repeat refine TC.seq ?_
   refine TC.region ?_;refine ai W W ?_;refine ai W W ?_;refine fm W W W W (by rfl) (by exact e _ (agx c)) (by omega) (by omega) ?_;refine ah W W ?_;refine TL.nil ?_
   repeat refine TC.seq ?_
   refine TC.region ?_;refine aI W W W (by omega) ?_;refine ai W W ?_;refine TL.nil ?_;exact again (k':=L.length-(i+1)) (by omega) ⟨i+1,rfl,by omega,rfl⟩ (by rw[d];simp[bf]) (kc (by simp;rfl)<|kc (rfl)<|kc (rfl)<|kc (by rw[d,agq];rfl)<|rfl)
  refine TC.exit ?_;obtain rfl:i=L.length:=by have:=agv a;omega
  rw[agz]
  repeat refine TC.seq ?_
  refine TC.region ?_;refine ai W W ?_;refine ah W W ?_;refine TL.nil ?_;refine TC.bg 2 W (Acc.view (n:=15) (i:=0) (rs:=L.flatten) (.inr ⟨by intro h;rw[h]at b;exact b W,_,W,W⟩) (by intro r p;obtain⟨l,o,q⟩:=ai7.1 p;exact e l o r q)) ?_;exact TC.ret ⟨_,W,[_],W,W⟩
def Fy(n:Nat)(H:Hp)(a:n<=30000000):CT prog 253 [.d (.sl []),.d (.int .i64 n)] H λr h=>r=jV H n/\h=jW H 2 n:=by
 refine Lf func253 W ntmps253 W λa b=>?_
 repeat refine TC.seq ?_
 refine TC.region ?_;refine ah W W ?_;refine TL.nil ?_
 repeat refine TC.seq ?_
 refine TC.region ?_;refine ai W W ?_;refine av W W W W ?_;refine TL.nil ?_
 repeat refine TC.seq ?_
 refine TC.cond W (λa=>by have:=agr a;omega) (λa=>?_);refine TC.skip ?_
 repeat refine TC.seq ?_
 refine TC.region ?_;refine ai W W ?_;refine ai W W ?_;refine q9 W W ?_;refine ai W W ?_;refine aT W W W ?_;refine cD W W W (by simp) ?_
 (refine cD W W W (by simp;omega) ?_;rw[show((n:Int)-(0-((List.length ([]:List (List D)):Nat):Int)))=(n:Int) by simp])
 refine ah W W ?_;refine TL.nil ?_
 repeat refine TC.seq ?_
 refine TC.region ?_;refine ai W W ?_;refine av W W W W ?_;refine TL.nil ?_
 repeat refine TC.seq ?_
 refine TC.cond W (λa=>?_) (λa=>?_)
 .have b:0<n:=by have:=agr a;omega
  repeat refine TC.seq ?_
  refine TC.region ?_;refine ai W W ?_;refine ai W W ?_;refine q9 W W ?_;refine uE W W W ?_;refine ai W W ?_;refine sx (len:=n) W W W W (by rfl) b (by omega) (by omega) ?_;refine ai W W ?_;refine aT W W W ?_;refine uF true W W W (by exact aii) (by simp) (by simp) ?_;refine ah W W ?_;refine TL.nil ?_
  repeat refine TC.seq ?_
  refine TC.region ?_;refine ai W W ?_;refine ah W W ?_;refine TL.nil ?_;refine TC.ret ⟨_,W,?_,?_⟩
  .simp only[jV,agw (show ¬n=0 by omega)];rfl
  .simp only[jW,agw (show ¬n=0 by omega)];simp
 .refine TC.skip ?_;have b:n=0:=by have:=agv a;omega
  repeat refine TC.seq ?_
  refine TC.region ?_;refine ai W W ?_;refine ah W W ?_;refine TL.nil ?_;refine TC.ret ⟨_,W,?_,?_⟩
  .simp only[jV,agK b];rfl
  .simp only[jW,agK b]
def B2(L:List (List (List D)))(e:∀l∈L,∀r∈l,r.length=2)(t:L.length<=1000)(g:L.flatten.length<=30000000):
  PT prog 208 [.sl (L.map λl=>[D.sl l])] (·=[.sl L.flatten]):=by
 refine Lk (Lf func208 W ntmps208 W λu v=>?_)
 repeat refine TC.seq ?_
 refine TC.region ?_;refine ah W W ?_;refine TL.nil ?_
 repeat refine TC.seq ?_
 refine TC.region ?_;refine ah W W ?_;refine TL.nil ?_
 repeat refine TC.seq ?_
 refine TC.region ?_;refine ai W W ?_
 (refine aT W W W ?_;rw[agt])
 refine ai W W ?_;refine TL.nil ?_
 repeat refine TC.seq ?_
 refine TC.block ?_;refine LI (λk s=>∃(i:Nat),s=⟨[(11,.m (.d (.int .i64 i))),(10,.m (.d (.int .i64 (L.length:Nat)))),(9,.m (.d (.sl (L.map λl=>[D.sl l])))),(3,.m (.d (.int .i64 ((L.take i).flatten.length:Nat)))),(0,.m (.d (.sl (L.map λl=>[D.sl l]))))],[],[]⟩/\i<=L.length/\k=L.length-i) L.length _
  ⟨0,rfl,by omega,rfl⟩ W ?_
 rintro k s ⟨i,rfl,f,rfl⟩;have j:=er L i
 repeat refine TC.seq ?_
 refine TC.region ?_;refine av W W W W ?_;refine TL.nil ?_
 repeat refine TC.seq ?_
 refine TC.cond W (λa=>?_) (λa=>?_)
 .have c:i<L.length:=by have:=agr a;omega
  have d:=gX L i c;have h:=er L (i+1);rw[d,agq]at h;refine TC.skip ?_
  repeat refine TC.seq ?_
  refine TC.block ?_
  repeat refine TC.seq ?_
  refine TC.region ?_;refine aN W W W (ago i) (r:=[.sl L[i]]) (by simp[c]) W ?_;refine ax W W W ?_;refine ah W W ?_;refine TL.nil ?_
  repeat refine TC.seq ?_
  refine TC.region ?_;refine ai W W ?_;refine ai W W ?_;refine aT W W W ?_;refine aI W W W (by omega) ?_;refine ah W W ?_;refine TL.nil ?_
  repeat refine TC.seq ?_
  refine TC.region ?_;refine ai W W ?_;refine av W W W W ?_;refine TL.nil ?_
  repeat refine TC.seq ?_
  refine TC.cond W (λa=>by have:=agr a;omega) (λa=>?_);refine TC.skip ?_
  repeat refine TC.seq ?_
  refine TC.region ?_;refine aI W W W (by omega) ?_;refine ai W W ?_;refine TL.nil ?_;exact again (k':=L.length-(i+1)) (by omega) ⟨i+1,rfl,by omega,rfl⟩ W (kc (by simp;rfl)<|kc (rfl)<|kc (rfl)<|kc (by rw[d,agq,ajj];rfl)<|kc (rfl)<|rfl)
 refine TC.exit ?_;obtain rfl:i=L.length:=by have:=agv a;omega
 rw[agz]
 repeat refine TC.seq ?_
 refine TC.region ?_;refine ai W W ?_
 (refine iQ (Fy L.flatten.length [] g) W W ?_;rintro _ _ ⟨rfl,rfl⟩)
 refine ah W W ?_;refine TL.nil ?_
 repeat refine TC.seq ?_
 refine TC.region ?_;refine ai W W ?_
 (refine aT W W W ?_;rw[agt])
 refine ai W W ?_;refine TL.nil ?_
 repeat refine TC.seq ?_
 refine TC.block ?_;by_cases b:L.flatten.length=0
 .rw[jV,jW,agK b,agK b];refine LI (λk s=>∃(i:Nat),s=⟨[(27,.m (.d (.int .i64 i))),(26,.m (.d (.int .i64 (L.length:Nat)))),(25,.m (.d (.sl (L.map λl=>[D.sl l])))),(6,.m (.d (.sl [])))],[],[]⟩/\i<=L.length/\k=L.length-i) L.length _
   ⟨0,rfl,by omega,rfl⟩ W ?_
  rintro k s ⟨i,rfl,f,rfl⟩
  repeat refine TC.seq ?_
  refine TC.region ?_;refine av W W W W ?_;refine TL.nil ?_
  repeat refine TC.seq ?_
  refine TC.cond W (λa=>?_) (λa=>?_)
  .have c:i<L.length:=by have:=agr a;omega
   have h:L[i]=[]:=by
    have d:=ahu b;rw[aiw]at d;exact d _ (agx c)
   refine TC.skip ?_
   repeat refine TC.seq ?_
   refine TC.block ?_
   repeat refine TC.seq ?_
   refine TC.region ?_;refine aN W W W (ago i) (r:=[.sl []]) (by simp[c,h]) W ?_;refine ax W W W ?_;refine ah W W ?_;refine TL.nil ?_
   repeat refine TC.seq ?_
   refine TC.region ?_;refine ai W W ?_;refine ai W W ?_;refine gO W W W ?_;refine ah W W ?_;refine TL.nil ?_
   repeat refine TC.seq ?_
   refine TC.region ?_;refine aI W W W (by omega) ?_;refine ai W W ?_;refine TL.nil ?_;exact again (k':=L.length-(i+1)) (by omega) ⟨i+1,rfl,by omega,rfl⟩ W (kc (by simp;rfl)<|kc (rfl)<|kc (rfl)<|kc (rfl)<|rfl)
  refine TC.exit ?_
  repeat refine TC.seq ?_
  refine TC.region ?_;refine ai W W ?_;refine ah W W ?_;refine TL.nil ?_;exact TC.ret ⟨_,W,[_],W,by rw[ahu b]⟩
 .rw[jV,jW,agw b,agw b];refine LI (λk s=>∃(i:Nat),s=⟨[(27,.m (.d (.int .i64 i))),(26,.m (.d (.int .i64 (L.length:Nat)))),(25,.m (.d (.sl (L.map λl=>[D.sl l])))),(6,.m (.cy 0 (i+1) (L.take i).flatten.length))],[],[.row true 2 (i+1) (bf (L.take i).flatten)]⟩/\i<=L.length/\k=L.length-i) L.length _
   ⟨0,rfl,by omega,rfl⟩ W ?_
  rintro k s ⟨i,rfl,f,rfl⟩;have j:=er L i
  repeat refine TC.seq ?_
  refine TC.region ?_;refine av W W W W ?_;refine TL.nil ?_
  repeat refine TC.seq ?_
  refine TC.cond W (λa=>?_) (λa=>?_)
  .have c:i<L.length:=by have:=agr a;omega
   have d:=gX L i c;have m:=er L (i+1);rw[d,agq]at m;refine TC.skip ?_
   repeat refine TC.seq ?_
   refine TC.block ?_
   repeat refine TC.seq ?_
   refine TC.region ?_;refine aN W W W (ago i) (r:=[.sl L[i]]) (by simp[c]) W ?_;refine ax W W W ?_;refine ah W W ?_;refine TL.nil ?_
   repeat refine TC.seq ?_
   refine TC.region ?_;refine ai W W ?_;refine ai W W ?_;refine fm W W W W (by rfl) (by exact e _ (agx c)) (by omega) (by omega) ?_;refine ah W W ?_;refine TL.nil ?_
   repeat refine TC.seq ?_
   refine TC.region ?_;refine aI W W W (by omega) ?_;refine ai W W ?_;refine TL.nil ?_;exact again (k':=L.length-(i+1)) (by omega) ⟨i+1,rfl,by omega,rfl⟩ (by rw[d];simp[bf]) (kc (by simp;rfl)<|kc (rfl)<|kc (rfl)<|kc (by rw[d,agq];rfl)<|rfl)
  refine TC.exit ?_;obtain rfl:i=L.length:=by have:=agv a;omega
  rw[agz]
  repeat refine TC.seq ?_
  refine TC.region ?_;refine ai W W ?_;refine ah W W ?_;refine TL.nil ?_;refine TC.bg 2 W (Acc.view (n:=2) (i:=0) (rs:=L.flatten) (.inr ⟨by intro h;rw[h]at b;exact b W,_,W,W⟩) (by intro r p;obtain⟨l,o,q⟩:=ai7.1 p;exact e l o r q)) ?_;exact TC.ret ⟨_,W,[_],W,W⟩
end Go.Proofs.Pz
namespace Go.Ps
open Go.Mt Go.Sm
def uX:∀(a b:List aJ) (s:DS),dA (a++b) s=((dA a s).1++(dA b (dA a s).2.2).1,(dA a s).2.1++(dA b (dA a s).2.2).2.1,(dA b (dA a s).2.2).2.2)
 |[],b,s=>by simp[dA]
 |q::a,b,s=>by simp[dA,uX a b]
def Fz(q:aJ)(s:DS):dA [q] s=mC q s:=by simp[dA]
def Ds{l:List aJ}{i:Nat}(h:i<l.length)(s:DS):dA (l.take (i+1)) s=((dA (l.take i) s).1++(mC l[i] (dA (l.take i) s).2.2).1,(dA (l.take i) s).2.1++(mC l[i] (dA (l.take i) s).2.2).2.1,(mC l[i] (dA (l.take i) s).2.2).2.2):=by
 rw[agp h,uX,Fz]
def uY:∀(a b:List aP) (s:DS),cu (a++b) s=((cu a s).1++(cu b (cu a s).2).1,(cu b (cu a s).2).2)
 |[],b,s=>by simp[cu]
 |q::a,b,s=>by simp[cu,uY a b]
def Du{l:List aP}{i:Nat}(h:i<l.length)(s:DS):cu (l.take (i+1)) s=((cu (l.take i) s).1++[(uT l[i] (cu (l.take i) s).2).1],(uT l[i] (cu (l.take i) s).2).2):=by
 rw[agp h,uY];simp[cu]
def Bc(a:aP)(s:DS):uT a s=(.mk a.name (fX a.a_ s).1 a.eL a.et a.ps,(fX a.a_ s).2):=by cases a;rw[uT];rfl
def Be(q:aJ)(s:DS):mC q s=tA (.mk q.kd q.lhs q.f q.args q.has q.ex (cu q.aq s).1 q.ps) (cu q.aq s).2:=by cases q;rw[mC];rfl
def Bf(b:bT)(s:DS):fX b s=(.mk (b.vars++(dA b.eqs s).1) (dA b.eqs s).2.1,(dA b.eqs s).2.2):=by cases b;rw[fX];rfl
def Dv(q:aJ)(s:DS):s.n<=(tA q s).2.2.n/\(s.aG.length<=s.n->(tA q s).2.2.aG.length<=(tA q s).2.2.n)/\(tA q s).2.1.length<=4/\(tA q s).1.length<=6:=by
 unfold tA;split
 .refine⟨by simp,λh=>by simp;exact h,by simp[li],by simp[gL]⟩
 .exact⟨ags _,λh=>h,by simp,by simp⟩
mutual
def Hg:∀(b:bT) (s:DS),s.n<=(fX b s).2.n/\(s.aG.length<=s.n->(fX b s).2.aG.length<=(fX b s).2.n)
 |.mk c a,s=>by rw[fX];exact wI a s
def JO:∀(q:aJ) (s:DS),s.n<=(mC q s).2.2.n/\(s.aG.length<=s.n->(mC q s).2.2.aG.length<=(mC q s).2.2.n)
 |.mk k d f h g e a p,s=>by
  rw[mC];have b:=tE a s;have c:=Dv (.mk k d f h g e (cu a s).1 p) (cu a s).2;exact⟨agW b.1 c.1,λh=>c.2.1 (b.2 h)⟩
def wI:∀(l:List aJ) (s:DS),s.n<=(dA l s).2.2.n/\(s.aG.length<=s.n->(dA l s).2.2.aG.length<=(dA l s).2.2.n)
 |[],s=>by rw[dA];exact⟨ags _,λh=>h⟩
 |q::l,s=>by
  rw[dA];have a:=JO q s;have b:=wI l (mC q s).2.2;exact⟨agW a.1 b.1,λh=>b.2 (a.2 h)⟩
def JP:∀(a:aP) (s:DS),s.n<=(uT a s).2.n/\(s.aG.length<=s.n->(uT a s).2.aG.length<=(uT a s).2.n)
 |.mk n b u w p,s=>by rw[uT];exact Hg b s
def tE:∀(l:List aP) (s:DS),s.n<=(cu l s).2.n/\(s.aG.length<=s.n->(cu l s).2.aG.length<=(cu l s).2.n)
 |[],s=>by rw[cu];exact⟨ags _,λh=>h⟩
 |a::l,s=>by
  rw[cu];have b:=JP a s;have c:=tE l (uT a s).2;exact⟨agW b.1 c.1,λh=>c.2 (b.2 h)⟩
end
def uZ:∀(l:List aJ) (s:DS),(dA l s).2.1.length<=4*l.length/\(dA l s).1.length<=6*l.length
 |[],s=>by simp[dA]
 |q::l,s=>by
  have a:=uZ l (mC q s).2.2;have a:=Dv (.mk q.kd q.lhs q.f q.args q.has q.ex (cu q.aq s).1 q.ps) (cu q.aq s).2;rw[<-Be]at a;simp only[dA,agq,agA];omega
inductive B3:bT->Prop where
 |mk {b:bT} (c:b.vars.length<=1000000) (d:b.eqs.length<=1000000)
  (ha:∀q∈b.eqs,q.aq.length<=1000/\(q.kd=4->q.aq≠[])/\∀a∈q.aq,a.name.size<=1000000000/\a.eL.length<=1000000/\a.et.length<=1000000/\(∀t∈a.eL,t.to.size<=1000000000)/\(∀t∈a.et,t.to.size<=1000000000))
  (hb:∀q∈b.eqs,∀a∈q.aq,B3 a.a_):B3 b
def Hh{q:aJ}{s:DS}{b:bT}(f:B3 b)(c:q∈b.eqs):∀a∈(cu q.aq s).1,Hf a:=by
 obtain⟨_,_,g,i⟩:=f;have r:∀(l:List aP) (s:DS),(∀a∈l,a∈q.aq)->∀a∈(cu l s).1,Hf a:=by
  intro l
  induction l with
  |nil=>intro s _ a h;simp[cu]at h
  |cons x l j=>
   intro s d a h;simp only[cu,agu]at h;rcases h with rfl|h
   .rw[Bc];have e:=d x (by simp);obtain⟨k,m,n,o,p⟩:=(g q c).2.2 x e;refine⟨k,m,n,o,p,?_⟩;rw[Bf];show(dA x.a_.eqs s).2.1.length<=_;have:=uZ x.a_.eqs s;cases i q c x e with
    |mk t u _ _=>omega
   .exact j _ (λa h=>d a (by simp[h])) a h
 exact r q.aq s λa h=>h
def q_:∀(l:List aP) (s:DS),(cu l s).1.length=l.length
 |[],s=>by simp[cu]
 |a::l,s=>by simp[cu,q_ l]
end Go.Ps
namespace Go.Proofs.Pz
open Go.Mt Go.Sm Go.Ps Go.Proofs
open Tryz
def vL(it e:Nat)(b:bT)(s:DS)(L:B3 b)(he:s.aG.length<=s.n)(z:(fX b s).2.n<=1000000):
  Dt prog 111 [.ref e 0,.d (.agg b.cells)] [.ob it bK,tD e s] λr l=>r=.d (.agg (fX b s).1.cells)/\l=[.ob it bK,tD e (fX b s).2]:=by
 have ac:=L;obtain⟨hv,A,x,hb⟩:=ac;have ih:∀q∈b.eqs,∀a∈q.aq,∀c:DS,c.aG.length<=c.n->(fX a.a_ c).2.n<=1000000->
   Dt prog 111 [.ref e 0,.d (.agg a.a_.cells)] [.ob it bK,tD e c] λr l=>r=.d (.agg (fX a.a_ c).1.cells)/\l=[.ob it bK,tD e (fX a.a_ c).2]:=
  λq A a x c d j=>
   have:=aJ.EC x;have:=bT.JM A
   vL it e a.a_ c (hb q A a x) d j
 rw[Bf]at z;rw[Bf];intro H F hs;have w:=Wk.start hs;rw[b.aj];have ce:(b.eqs.map aJ.cells).length=b.eqs.length:=by simp
 refine Lj func111 W ntmps111 W ?_;obtain⟨p,K1,O,t,w,h⟩:=Wk.call (a:=[]) w (pq b.vars (by omega));subst t
 repeat refine DC.seq ?_
 apply KZ
 .intro c d;refine bp W W<|aM W W<|TL.nil W
 repeat refine DC.seq ?_
 apply KZ
 .intro c d;refine ay W W<|ax W W W<|aD h W W<|mJ (cs:=[p,.d (.sl [])]) W W W (by simp only[jH];rw[w.zS];rfl)<|aM W W<|aC W W W (fu _) W W<|TL.nil W
 repeat refine DC.seq ?_
 apply KZ
 .intro c d;refine ay W W<|ax W W W ?_
  (refine aT W W W ?_;rw[ce])
  refine ai W W<|TL.nil W
 have w:=w.nil 16
 repeat refine DC.seq ?_
 refine DC.block<|DC.loop (λm h=>∃(i:Nat) (d f:M) (c:List (Nat×List M)) (g:Hp),h=⟨[(20,.m (.d (.int .i64 ((i:Nat):Int)))),(19,.m (.d (.int .i64 ((b.eqs.length:Nat):Int)))),(18,.m (.d (.sl (b.eqs.map aJ.cells)))),(5,.loc 5 0),(4,.loc 4 0),(0,.m (.ref e 0))],c,g⟩/\
   Go.Mt.get c 5=some [d,f]/\Go.Mt.get c 4=some [.d (.sl []),.d (.sl [])]/\
   Wk F H [.acc 16 (cv (dA (b.eqs.take i) s).2.1) f,.acc 15 (aB (b.vars++(dA (b.eqs.take i) s).1)) d,.ob it bK,tD e (dA (b.eqs.take i) s).2.2] g/\i<=b.eqs.length/\m=b.eqs.length-i) b.eqs.length _
  ⟨0,p,.d (.sl []),_,_,rfl,rfl,rfl,by rw[agS,dA,agL];exact w,by omega,rfl⟩ W ?_
 rintro m s1 ⟨i,p,B,bx,P,rfl,f,n,w,hi,rfl⟩
 repeat refine DC.seq ?_
 apply KZ
 .intro c d;refine av W W W W<|TL.nil W
 repeat refine DC.seq ?_
 refine DC.cond W (λg=>?_) (λg=>?_)
 .have C:i<b.eqs.length:=by have:=agr g;omega
  have E:(b.eqs.map aJ.cells)[((i:Nat):Int).toNat]?=some b.eqs[i].cells:=by simp[C]
  have y:=agx C;have o:=Ds C s;obtain⟨R,Q⟩:∃R,R=dA (b.eqs.take i) s:=⟨_,rfl⟩;have k:R.2.2.aG.length<=R.2.2.n/\(mC b.eqs[i] R.2.2).2.2.n<=1000000/\R.2.1.length<=4000000/\R.1.length<=6000000:=by
   have d:=(wI (b.eqs.take i) s).2 he;have j:=uZ (b.eqs.take i) s;have u:b.eqs=b.eqs.take (i+1)++b.eqs.drop (i+1):=(ahf _ _).symm;have c:(dA (b.eqs.take (i+1)) s).2.2.n<=1000000:=by
    rw[u,uX]at z;exact agW (wI _ _).1 z
   rw[o]at c;rw[agM]at j;rw[Q];exact⟨d,c,by omega,by omega⟩
  rw[<-Q]at o w;obtain⟨Rv,U,VY⟩:=x _ y;have G:=Hh (s:=R.2.2) L y;have V:=ih _ y;generalize b.eqs[i]=q at E o k y Rv U VY G V;rw[q.pk]at E;have R6:(q.aq.map aP.cells).length=q.aq.length:=by simp
  refine DC.skip ?_
  repeat refine DC.seq ?_
  refine DC.block ?_
  repeat refine DC.seq ?_
  apply KZ
  .intro c d;refine aN W W W (ago i) E W<|aK W W W<|aM W W<|aC W W W W W W<|TL.nil W
  repeat refine DC.seq ?_
  apply KZ
  .intro c d;refine ah W W<|TL.nil W
  repeat refine DC.seq ?_
  apply KZ
  .intro c d;refine aA W W<|aF W W W W ?_
   (refine aT W W W ?_;rw[R6])
   refine ai W W<|TL.nil W
  have w:=w.nil 7;obtain⟨S,hS⟩:∃S,S=R.2.2:=⟨_,rfl⟩;rw[<-hS]at o k w G
  repeat refine DC.seq ?_
  refine DC.block<|DC.loop (λm g=>∃(j:Nat) (f:M) (c:List (Nat×List M)) (d:Hp),g=⟨[(27,.m (.d (.int .i64 ((j:Nat):Int)))),(26,.m (.d (.int .i64 ((q.aq.length:Nat):Int)))),(25,.m (.d (.sl (q.aq.map aP.cells)))),(8,.m f),(7,.loc 7 0),(20,.m (.d (.int .i64 ((i:Nat):Int)))),(19,.m (.d (.int .i64 ((b.eqs.length:Nat):Int)))),(18,.m (.d (.sl (b.eqs.map aJ.cells)))),(5,.loc 5 0),(4,.loc 4 0),(0,.m (.ref e 0))],c,d⟩/\
    Go.Mt.get c 5=some [p,B]/\Go.Mt.get c 4=some [.d (.sl []),.d (.sl [])]/\Go.Mt.get c 7=some ((xL q).map M.d)/\
    Wk F H [.acc 7 ((cu (q.aq.take j) S).1.map aP.cells) f,.acc 16 (cv R.2.1) B,.acc 15 (aB (b.vars++R.1)) p,.ob it bK,tD e (cu (q.aq.take j) S).2] d/\j<=q.aq.length/\m=q.aq.length-j) q.aq.length _
   ⟨0,.d (.sl []),_,_,rfl,f,n,rfl,w,by omega,rfl⟩ W ?_
  .clear w f n;rintro m s1 ⟨j,m8,bx,P,rfl,f,n,X,w,hj,rfl⟩
   repeat refine DC.seq ?_
   apply KZ
   .intro c d;refine av W W W W<|TL.nil W
   repeat refine DC.seq ?_
   refine DC.cond W (λg=>?_) (λg=>?_)
   .have d:j<q.aq.length:=by have:=agr g;omega
    have u:(q.aq.map aP.cells)[((j:Nat):Int).toNat]?=some q.aq[j].cells:=by simp[d]
    have K:=agx d;have c:=Du d S;have N:(cu (q.aq.take j) S).2.aG.length<=(cu (q.aq.take j) S).2.n:=(tE _ _).2 k.1;have v:(fX q.aq[j].a_ (cu (q.aq.take j) S).2).2.n<=1000000:=by
     have I:(cu (q.aq.take (j+1)) S).2.n<=(cu q.aq S).2.n:=by
      conv=>rhs;rw[<-ahf (j+1) q.aq,uY]
      exact(tE _ _).1
     have J:=(Dv (.mk q.kd q.lhs q.f q.args q.has q.ex (cu q.aq S).1 q.ps) (cu q.aq S).2).1;rw[<-Be]at J;rw[c,Bc]at I;exact agW I (agW J k.2.1)
    have Y:((cu (q.aq.take j) S).1.map aP.cells).length<=1000:=by simp[q_];omega
    rw[Bc]at c;generalize cu (q.aq.take j) S=T at c N v Y w;obtain⟨am,K2,O,⟨Z,t⟩,w,h⟩:=Wk.call (a:=[_,_]) (w.pick [3,4,0,1,2]) (V _ K T.2 N v);subst Z;subst t;generalize q.aq[j]=a at u K c v h w;have L0:(cu (q.aq.take (j+1)) S).1.map aP.cells=T.1.map aP.cells++[[.str a.name,.sl (aB (fX a.a_ T.2).1.vars),.sl ((fX a.a_ T.2).1.eqs.map aJ.cells),.sl (eG a.eL),.sl (eG a.et),.int .i64 a.ps.1,.int .i64 a.ps.2]]:=by
     rw[c,agI,List.map_singleton,aP.aj];rfl
    have P1:(cu (q.aq.take (j+1)) S).2=(fX a.a_ T.2).2:=by rw[c]
    rw[a.aj]at u;rw[bT.aj,bT.aj]at h;have w:=w.pick [2,3,4,0,1];refine DC.skip ?_
    repeat refine DC.seq ?_
    refine DC.block ?_
    repeat refine DC.seq ?_
    apply KZ
    .intro I J;refine aN W W W (ago j) u W<|aK W W W<|aM W W<|aC W W W W W W<|TL.nil W
    repeat refine DC.seq ?_
    apply KZ
    .intro I J;refine ai W W<|aA W W<|aW W W W W W<|aD h W W<|aA W W<|aC W W W W W W<|TL.nil W
    repeat refine DC.seq ?_
    apply KZ
    .intro I J;refine ai W W<|aW W W W W W<|aU W W W W W W W W<|cX w W W W W W W (by exact cM W) (by simp only[agB];omega)<|ah W W<|TL.nil W
    have w:=w.app [[.str a.name,.sl (aB (fX a.a_ T.2).1.vars),.sl ((fX a.a_ T.2).1.eqs.map aJ.cells),.sl (eG a.eL),.sl (eG a.et),.int .i64 a.ps.1,.int .i64 a.ps.2]]
    repeat refine DC.seq ?_
    apply KZ
    .intro I J;refine aI W W W (by omega)<|ai W W<|TL.nil W
    exact bH (k':=q.aq.length-(j+1)) (by omega) ⟨j+1,_,_,_,rfl,f,n,X,by rw[L0,P1];exact w,by omega,rfl⟩ W W
   .refine DC.exit ?_;have Ly:j=q.aq.length:=by have:=agv g;omega
    subst Ly;rw[agz]at w;obtain⟨c,v⟩:∃c:aJ,c=.mk q.kd q.lhs q.f q.args q.has q.ex (cu q.aq S).1 q.ps:=⟨_,rfl⟩;obtain⟨d,I⟩:∃c,c=(cu q.aq S).2:=⟨_,rfl⟩;have am:mC q S=tA c d:=by rw[Be,v,I]
    have d5:d.aG.length<=d.n:=by rw[I];exact(tE _ _).2 k.1
    rw[am]at o k;refine DC.bg 8 W (w.view (uW _)) ?_;have w:Wk F H [.acc 16 (cv R.2.1) B,.acc 15 (aB (b.vars++R.1)) p,.ob it bK,tD e d] P:=by rw[I];exact w.drop
    have J:(cu q.aq S).1=c.aq:=by rw[v];rfl
    have NW:(cv R.2.1).length<=4000000:=by simpa [cv] using k.2.2.1
    have Ot:(aB (b.vars++R.1)).length<=10000000:=by rw[bM,agq];omega
    have K:xL c=[.int .u8 q.kd,.sl (aR q.lhs),.str q.f,.sl (q.args.map Xp.cells),.bool q.has,.int .u8 q.ex.kd,.int .u8 q.ex.op,.int .i32 q.ex.num,.str q.ex.nm,.sl (aR q.ex.names),.sl (q.ex.kids.map Xp.cells),.int .i64 q.ex.ps.1,.int .i64 q.ex.ps.2,.sl ((cu q.aq S).1.map aP.cells),.int .i64 q.ps.1,.int .i64 q.ps.2]:=by rw[v];rfl
    repeat refine DC.seq ?_
    apply KZ
    .intro N T;refine ai W W<|aA W W<|aC W W X W W W<|TL.nil W
    by_cases u:q.kd=4
    .have e4:(q.kd !=4)=false:=by simp[u]
     repeat refine DC.seq ?_
     apply KZ
     .intro N Z;refine aA W W<|aF W W W W ?_
      (refine av W W W (r:=.bool false) (by show some (D.bool (q.kd !=4))=_;rw[e4]) ?_)
      exact TL.nil W
     repeat refine DC.seq ?_
     refine DC.cond W (λN=>by cases N) (λg=>?_);refine DC.skip ?_;have XR:c.kd=4:=by rw[v];exact u
     have LG:(cu q.aq S).1≠[]:=by
      intro Z;have N:=q_ q.aq S;rw[Z]at N;exact U u (ahT.1 N.symm)
     obtain⟨a0,ar,UT⟩:=ah1 LG;have T:tA c d=(gL (d.n+1) c.ps,li (d.n+1) c.aq c.ps,⟨d.n+1,d.aG++[rI (d.n+1) c.aq c.ps]⟩):=by unfold tA;rw[agK XR]
     have P5:d.n+1<=1000000:=by have:=k.2.1;rw[T]at this;exact this
     obtain⟨co,K2,O,⟨hx,t⟩,w,h⟩:=Wk.call (a:=[_,_]) (w.pick [2,3,0,1]) (y9 it e c d (by omega) (by omega) a0 ar (by rw[<-J];exact UT) (by rw[<-J,q_];omega) (by rw[<-J];exact G));subst hx;subst t;rw[c.pk,K]at h;have w:=w.pick [3,2,0,1];have w2:=w.app (aB (gL (d.n+1) c.ps));have Y:=w2.pick [1,0,2,3]
     repeat refine DC.seq ?_
     apply KZ
     .intro N Z;refine ai W W<|aW W W W W W<|aD h W W<|ai W W<|bZ W W W<|bZ W W W<|ah W W<|ah W W<|TL.nil W
     repeat refine DC.seq ?_
     apply KZ
     .intro N Z;refine aA W W<|aF W W f W<|ai W W<|cX w W W W W W W (by exact bR _) (by rw[bM (gL _ _)];simp only[gL,agA,List.length_nil];omega)<|aA W W<|aC W W f (bQ _ _ _) W W<|TL.nil W
     repeat refine DC.seq ?_
     apply KZ
     .intro N Z;refine aA W W<|aF W W W W<|ai W W<|cX Y W W W W W W (by exact dt _) (by simp only[agt,li,agA,List.length_nil];omega)<|aA W W<|aC W W W (bQ _ _ _) W W<|TL.nil W
     repeat refine DC.seq ?_
     apply KZ
     .intro N Z;refine aI W W W (by omega)<|ai W W<|TL.nil W
     exact bH (k':=b.eqs.length-(i+1)) (by omega) ⟨i+1,_,_,_,_,rfl,rfl,n,by
      rw[o,T];simp only[cv,agI];rw[<-ahi,uU];exact(Y.app ((li (d.n+1) c.aq c.ps).map aJ.cells)),by omega,rfl⟩ W W
    .have Y:(q.kd !=4)=true:=by simp[u]
     have Z:¬c.kd=4:=by rw[v];exact u
     have hE:tA c d=([],[c],d):=by unfold tA;rw[agw Z]
     have N:=w.app [xL c];rw[K]at N
     repeat refine DC.seq ?_
     apply KZ
     .intro T Oo;refine aA W W<|aF W W W W ?_
      (refine av W W W (r:=.bool true) (by show some (D.bool (q.kd !=4))=_;rw[Y]) ?_)
      exact TL.nil W
     repeat refine DC.seq ?_
     refine DC.cond W (λg=>?_) (λT=>by cases T)
     repeat refine DC.seq ?_
     apply KZ
     .intro T Oo;refine aA W W<|aF W W f W<|aW W W W W W<|aU W W W W W W W W<|cX w W W W W W W (by exact cM W) (by simp only[agB];omega)<|aA W W<|aC W W f (bQ _ _ _) W W<|TL.nil W
     refine DC.exit ?_
     repeat refine DC.seq ?_
     apply KZ
     .intro T Oo;refine aI W W W (by omega)<|ai W W<|TL.nil W
     exact bH (k':=b.eqs.length-(i+1)) (by omega) ⟨i+1,_,_,_,_,rfl,rfl,n,by
      rw[o,hE];simp only[cv,agI,agL,agH,ag1,c.pk,K];exact N,by omega,rfl⟩ W W
 .refine DC.exit ?_;have c:i=b.eqs.length:=by have:=agv g;omega
  subst c;rw[agz]at w;have d:=w.view (dt _);have j:=(w.pick [1,0,2,3]).view (bR _);refine DC.cZ (Ls:=[.d (.sl (aB (b.vars++(dA b.eqs s).1))),.d (.sl (cv (dA b.eqs s).2.1))]) 5 f (lQ j (lQ d (po _))) ?_
  repeat refine DC.seq ?_
  apply KZ
  .intro k o;refine aW W W W W W<|aC W W n W W W<|TL.nil W
  exact DC.ret ⟨_,W,[.ob it bK,tD e (dA b.eqs s).2.2],⟨by rw[bT.aj];rfl,rfl⟩,w.drop.drop⟩
termination_by SizeOf.sizeOf b
end Go.Proofs.Pz
namespace Go.Ps
open Go.Mt Go.Sm
def u4:∀(a b:List Nd) (s:DS),ei (a++b) s=((ei a s).1++(ei b (ei a s).2).1,(ei b (ei a s).2).2)
 |[],b,s=>by simp[ei]
 |q::a,b,s=>by simp[ei,u4 a b]
def Dw{l:List Nd}{i:Nat}(h:i<l.length)(s:DS):ei (l.take (i+1)) s=((ei (l.take i) s).1++[(xK l[i] (ei (l.take i) s).2).1],(xK l[i] (ei (l.take i) s).2).2):=by
 rw[agp h,u4];simp[ei]
def tF:∀(l:List Nd) (s:DS),s.n<=(ei l s).2.n/\(s.aG.length<=s.n->(ei l s).2.aG.length<=(ei l s).2.n)
 |[],s=>by rw[ei];exact⟨ags _,λh=>h⟩
 |d::l,s=>by
  rw[ei];have a:=Hg d.b s;have b:=tF l (xK d s).2;exact⟨agW a.1 b.1,λh=>b.2 (a.2 h)⟩
def u5:∀(l:List Nd) (s:DS),(ei l s).1.length=l.length
 |[],s=>by simp[ei]
 |a::l,s=>by simp[ei,u5 l]
def pv(l:List Nd):∀r∈l.map Nd.cells,r.length=7:=by intro r a;obtain⟨_,_,rfl⟩:=agC.1 a;rfl
def sI(l:List En):∀r∈l.map En.cells,r.length=4:=by intro r a;obtain⟨_,_,rfl⟩:=agC.1 a;rfl
structure Js(p:Pg):Prop where
 e:p.aG.length<=100000
 n:p.nodes.length<=1000
 b:∀d∈p.nodes,B3 d.b
 m:(ei p.nodes ⟨0,[]⟩).2.n<=500000
end Go.Ps
namespace Go.Proofs.Pz
open Go.Mt Go.Sm Go.Ps Go.Proofs
open Tryz
def y_(it:Nat)(p:Pg)(c:Js p):
  Dt prog 57 [.d (.agg p.cells)] [.ob it bK] λr l=>r=.d (.agg (lO p).cells)/\l=[.ob it bK]:=by
 intro H F x;have w:=Wk.start x;have B:(p.nodes.map Nd.cells).length=p.nodes.length:=by simp
 have D:=c.n;refine Lj func57 W ntmps57 W ?_
 repeat refine DC.seq ?_
 apply KZ
 .intro e f;refine bp W W<|aM W W<|TL.nil W
 repeat refine DC.seq ?_
 apply KZ
 .intro e f;refine bX W W W W W<|nP W W W<|ah W W<|TL.nil W
 repeat refine DC.seq ?_
 apply KZ
 .intro e f;refine aM W W<|TL.nil W
 repeat refine DC.seq ?_
 apply KZ
 .intro e f;refine ay W W<|ax W W W ?_
  (refine aT W W W ?_;rw[B])
  refine ai W W<|TL.nil W
 obtain⟨b,n⟩:∃b,b=H.length:=⟨_,rfl⟩;have w:Wk F H [.acc 7 [] (.d (.sl [])),tD b ⟨0,[]⟩,.ob it bK] (H++[.box [.d (.sl []),.d (.int .i64 0)]]):=by
  refine Wk.nil ?_ 7;refine Ng (φ:= λc:M=>Sep [.ob b (.box [c,.d (.int .i64 ((0:Nat):Int))]),.acc 4 [] c]) (.d (.sl []))<|MP (a:=[_,_]) ?_;rw[n];exact((w.new (.box [.d (.sl []),.d (.int .i64 0)])).nil 4).pick [1,0,2]
 refine L3 [(12,.m (.d (.int .i64 ((0:Nat):Int)))),(11,.m (.d (.int .i64 ((p.nodes.length:Nat):Int)))),(10,.m (.d (.sl (p.nodes.map Nd.cells)))),(4,.loc 4 0),(3,.m (.ref b 0)),(2,.loc 2 0),(1,.m (.d (.ca p.cells 0)))] _ _ (by rw[n];rfl) (λ_=>rfl) W ?_
 repeat refine DC.seq ?_
 refine DC.block<|DC.loop (λm g=>∃(i:Nat) (e:M) (c:List (Nat×List M)) (f:Hp),g=⟨[(12,.m (.d (.int .i64 ((i:Nat):Int)))),(11,.m (.d (.int .i64 ((p.nodes.length:Nat):Int)))),(10,.m (.d (.sl (p.nodes.map Nd.cells)))),(4,.loc 4 0),(3,.m (.ref b 0)),(2,.loc 2 0),(1,.m (.d (.ca p.cells 0)))],c,f⟩/\
   Go.Mt.get c 4=some [.d (.sl []),e]/\Go.Mt.get c 2=some [.d (.sl []),.d (.sl [])]/\
   Wk F H [.acc 7 ((ei (p.nodes.take i) ⟨0,[]⟩).1.map Nd.cells) e,tD b (ei (p.nodes.take i) ⟨0,[]⟩).2,.ob it bK] f/\i<=p.nodes.length/\m=p.nodes.length-i) p.nodes.length _
  ⟨0,.d (.sl []),_,_,rfl,rfl,rfl,w,by omega,rfl⟩ W ?_
 rintro m G ⟨i,I,J,K,rfl,g,o,w,L,rfl⟩
 repeat refine DC.seq ?_
 apply KZ
 .intro e f;refine av W W W W<|TL.nil W
 repeat refine DC.seq ?_
 refine DC.cond W (λh=>?_) (λh=>?_)
 .have j:i<p.nodes.length:=by have:=agr h;omega
  have k:(p.nodes.map Nd.cells)[((i:Nat):Int).toNat]?=some p.nodes[i].cells:=by simp[j]
  have q:=agx j;have e:=Dw j ⟨0,[]⟩;have s:(ei (p.nodes.take i) ⟨0,[]⟩).2.aG.length<=(ei (p.nodes.take i) ⟨0,[]⟩).2.n:=(tF _ _).2 (by simp);have f:(xK p.nodes[i] (ei (p.nodes.take i) ⟨0,[]⟩).2).2.n<=1000000:=by
   have t:(ei (p.nodes.take (i+1)) ⟨0,[]⟩).2.n<=(ei p.nodes ⟨0,[]⟩).2.n:=by
    conv=>rhs;rw[<-ahf (i+1) p.nodes,u4]
    exact(tF _ _).1
   rw[e]at t;have:=c.m;exact agW t (by omega)
  have y:((ei (p.nodes.take i) ⟨0,[]⟩).1.map Nd.cells).length<=1000:=by have:=c.n;simp[u5];omega
  generalize ei (p.nodes.take i) ⟨0,[]⟩=T at e s f y w;have u:=c.b _ q;generalize p.nodes[i]=d at k q e f u;unfold xK at e f;obtain⟨C,N,O,⟨z,A⟩,w,v⟩:=Wk.call (a:=[_,_]) (w.pick [2,1,0]) (vL it b d.b T.2 u s f);subst z;subst A;rw[bT.aj,bT.aj]at v;have w:=w.pick [2,1,0];unfold Nd.cells at k;refine DC.skip ?_
  repeat refine DC.seq ?_
  refine DC.block ?_
  repeat refine DC.seq ?_
  apply KZ
  .intro t E;refine aN W W W (ago i) k W<|aK W W W<|aM W W<|aC W W W W W W<|TL.nil W
  repeat refine DC.seq ?_
  apply KZ
  .intro t E;refine ai W W<|aA W W<|aW W W W W W<|aD v W W<|aA W W<|aC W W W W W W<|TL.nil W
  repeat refine DC.seq ?_
  apply KZ
  .intro t E;refine aA W W<|aF W W g W<|aW W W W W W<|aU W W W W W W W W<|cX w W W W W W W (by exact cM W) (by simp only[agB];omega)<|aA W W<|aC W W g (bQ _ _ _) W W<|TL.nil W
  have w:=w.app [[.str d.name,.sl (aB d.ins),.sl (aB d.outs),.sl (aB (fX d.b T.2).1.vars),.sl ((fX d.b T.2).1.eqs.map aJ.cells),.int .i64 d.ps.1,.int .i64 d.ps.2]]
  repeat refine DC.seq ?_
  apply KZ
  .intro t E;refine aI W W W (by omega)<|ai W W<|TL.nil W
  exact bH (k':=p.nodes.length-(i+1)) (by omega) ⟨i+1,_,_,_,rfl,rfl,o,by rw[e,agI];exact w,by omega,rfl⟩ W W
 .refine DC.exit ?_;have k:i=p.nodes.length:=by have:=agv h;omega
  subst k;rw[agz]at w;obtain⟨S,f⟩:∃S,S=(ei p.nodes ⟨0,[]⟩).2:=⟨_,rfl⟩;have t:S.aG.length<=500000:=by
   have e:=(tF p.nodes ⟨0,[]⟩).2 (by simp);have q:=c.m;rw[f];omega
  rw[<-f]at w;refine DC.cZ (Ls:=[.d (.sl []),.d (.sl ((ei p.nodes ⟨0,[]⟩).1.map Nd.cells))]) 4 g (cq (lQ (w.view (pv _)) (po _))) ?_;have w:=w.drop;obtain⟨s,w⟩:=w.open;have w:=w.split;refine DC.Bb b w.ob (lQ ((w.pick [1,0,2]).view (sI _)) (cq (po _))) ?_;have w:=w.set (.box [.d (.sl (S.aG.map En.cells)),.d (.int .i64 ((S.n:Nat):Int))]);have j:=B1 [p.aG.map En.cells,S.aG.map En.cells] (by
   intro l e;rcases agu.1 e with rfl|e
   .exact sI _
   .rw[ag9]at e;rw[e];exact sI _) (by simp) (by have:=c.e;simp;omega)
  rw[show [p.aG.map En.cells,S.aG.map En.cells].flatten=(p.aG++S.aG).map En.cells by simp]at j
  repeat refine DC.seq ?_
  apply Le mixed
  .intro e q;refine bI W W<|cd W W W<|aO W W<|bO W W W<|bJ W W<|dy W W w.ob W<|bm W W W W W W W W<|bc j W W<|aX W W<|bS W W W W W W<|TF.nil ⟨by kernel_rfl,rfl⟩
  repeat refine DC.seq ?_
  apply KZ
  .intro e q;refine aW W W W W W<|aC W W o W W W<|TL.nil W
  exact DC.ret ⟨_,W,[.ob it bK],⟨by
   unfold lO;rw[<-f];rfl,rfl⟩,w.drop.drop⟩
end Go.Proofs.Pz
namespace Go.Sm
open Go.Mt
variable{α:Type}{i:Nat}{l:List α}{p:α->Bool}
def kS(o:Option Nat):Int:=match o with
 |some i=>(i:Int)
 |none=> -1
def oM(hi:i<l.length)(h:p l[i]=true)(a:∀(j:Nat) (a:j<l.length),j<i->p l[j]=false):kS (l.findIdx? p)=(i:Int):=by
 have:l.findIdx? p=some i:=by
  rw[ahd];exact⟨hi,h,λj b=>by rw[a j (by omega) b];simp⟩
 rw[this];rfl
def mM(a:∀(j:Nat) (a:j<l.length),p l[j]=false):kS (l.findIdx? p)= -1:=by
 have:l.findIdx? p=none:=by
  rw[ahF];intro d c;obtain⟨j,b,rfl⟩:=ahr c;exact a j b
 rw[this];rfl
def xM(l:List Nm)(x:Nm):Hd l x=kS (l.findIdx? λy=>decide (y=x)):=rfl
def Hi(l:List Nm)(x:Nm):di l x=decide (Hd l x>=0):=by
 rw[xM];cases h:l.findIdx? λy=>decide (y=x)with
 |none=>
  rw[ahF]at h;have:di l x=false:=by
   rw[<-aiB];intro e;have:=h _ (ki.1 e);simp at this
  rw[this];simp[kS]
 |some i=>
  rw[ahd]at h;obtain⟨b,a,_⟩:=h;have:di l x=true:=ki.2 (by have:=agx b;simp at a;rw[a]at this;exact this);rw[this];simp[kS]
def rc(l:List α)(p:α->Bool):(l.findIdx? p=none/\l.find? p=none)\/∃(i:Nat) (h:i<l.length),l.findIdx? p=some i/\l.find? p=some l[i]:=by
 cases h:l.findIdx? p with
 |none=>
  refine .inl ⟨W,?_⟩;rw[ahF]at h;rw[aiV];intro x a;rw[h x a];simp
 |some i=>
  rw[ahd]at h;obtain⟨a,b,c⟩:=h;refine .inr ⟨i,a,W,?_⟩;rw[aiG];exact⟨b,i,a,W,λj a=>by have:=c j a;simpa using this⟩
def xN{l:List En}(h:i<l.length):(l.map En.cells)[((i:Nat):Int).toNat]?=some l[i].cells:=by simp[h]
structure kL(en:List En):Prop where
 n:en.length<=1000000
 c:∀e∈en,e.fo.length<=1000000
def mD{n:Int}(h: -2147483648<=n/\n<=2147483647):IntKind.i64.wrap n=n:=IntWalk.i64_in _ ⟨by omega,by omega⟩
end Go.Sm
namespace Go.Proofs.Pz
open Go.Mt Go.Sm Go.Ps Go.Proofs
open Tryz
def pQ(l:List Nd)(a:Nat)[bu prog a](LX:List D)(p:Nd->Bool)(t:l.length<=10000000)(n:∀c∈l,PT prog a (.agg c.cells::LX) (·=[.bool (p c)])):PT prog 141 [.sl (l.map Nd.cells),.fn a LX] (·=[.int .i64 (kS (l.findIdx? p))]):=by
 refine Lk (Lf func141 W ntmps141 W λu v=>?_)
 repeat refine TC.seq ?_
 refine TC.region<|ah W W<|TL.nil ?_
 repeat refine TC.seq ?_
 refine TC.region<|ai W W ?_
 (refine aT W W W ?_;rw[agt])
 refine ai W W<|TL.nil ?_
 repeat refine TC.seq ?_
 refine TC.block<|LI (λk s=>∃i:Nat,s=⟨[(8,.m (.d (.int .i64 i))),(7,.m (.d (.int .i64 (l.length:Nat)))),(0,.m (.d (.sl (l.map Nd.cells)))),(1,.m (.d (.fn a LX)))],[],[]⟩/\i<=l.length/\k=l.length-i/\(∀(j:Nat) (a:j<l.length),j<i->p l[j]=false)) l.length _
  ⟨0,rfl,by omega,rfl,by intro j e h;omega⟩ W ?_
 rintro r s ⟨i,rfl,w,rfl,c⟩
 repeat refine TC.seq ?_
 refine TC.region<|av W W W W<|TL.nil ?_
 repeat refine TC.seq ?_
 refine TC.cond W (λd=>?_) (λd=>?_)
 .have e:i<l.length:=by have:=agr d;omega
  have j:(l.map Nd.cells)[((i:Nat):Int).toNat]?=some l[i].cells:=by simp[e]
  have f:=n _ (agx e);obtain⟨b,g⟩:∃b,b=p l[i]:=⟨_,rfl⟩;rw[<-g]at f;unfold Nd.cells at j f;refine TC.skip ?_
  repeat refine TC.seq ?_
  refine TC.block ?_
  repeat refine TC.seq ?_
  refine TC.region<|ai W W<|ah W W<|TL.nil ?_
  repeat refine TC.seq ?_
  refine TC.region<|ai W W<|ai W W<|ai W W<|aN W W W (ago i) j W<|aK W W W<|te f W W W<|TL.nil ?_
  repeat refine TC.seq ?_
  refine TC.cond W (λh=>?_) (λh=>?_)
  .repeat refine TC.seq ?_
   refine TC.region<|ai W W<|ah W W<|TL.nil<|TC.ret ⟨_,W,[_],W,by rw[oM e (g.symm.trans h) (λj a h=>c j a h)]⟩
  .refine TC.skip ?_
   repeat refine TC.seq ?_
   refine TC.region<|aI W W W (by omega)<|ai W W<|TL.nil<|again (k':=l.length-(i+1)) (by omega) ⟨i+1,rfl,by omega,rfl,?_⟩ W (kc (by simp;rfl)<|kc (rfl)<|kc (rfl)<|kc (rfl)<|rfl);intro k o m;rcases ahI.1 m with q|rfl
   .exact c k o q
   .exact g.symm.trans h
 .refine TC.exit ?_;have e:i=l.length:=by have:=agv d;omega
  repeat refine TC.seq ?_
  refine TC.region<|ah W W<|TL.nil<|TC.ret ⟨_,W,[_],W,by rw[mM (λj a=>c j a (by omega))]⟩
def kV(l:List En)(a:Nat)[bu prog a](LX:List D)(p:En->Bool)(t:l.length<=10000000)(n:∀c∈l,PT prog a (.agg c.cells::LX) (·=[.bool (p c)])):PT prog 176 [.sl (l.map En.cells),.fn a LX] (·=[.int .i64 (kS (l.findIdx? p))]):=by
 refine Lk (Lf func176 W ntmps176 W λu v=>?_)
 repeat refine TC.seq ?_
 refine TC.region<|ah W W<|TL.nil ?_
 repeat refine TC.seq ?_
 refine TC.region<|ai W W ?_
 (refine aT W W W ?_;rw[agt])
 refine ai W W<|TL.nil ?_
 repeat refine TC.seq ?_
 refine TC.block<|LI (λk s=>∃i:Nat,s=⟨[(8,.m (.d (.int .i64 i))),(7,.m (.d (.int .i64 (l.length:Nat)))),(0,.m (.d (.sl (l.map En.cells)))),(1,.m (.d (.fn a LX)))],[],[]⟩/\i<=l.length/\k=l.length-i/\(∀(j:Nat) (a:j<l.length),j<i->p l[j]=false)) l.length _
  ⟨0,rfl,by omega,rfl,by intro j e h;omega⟩ W ?_
 rintro r s ⟨i,rfl,w,rfl,c⟩
 repeat refine TC.seq ?_
 refine TC.region<|av W W W W<|TL.nil ?_
 repeat refine TC.seq ?_
 refine TC.cond W (λd=>?_) (λd=>?_)
 .have e:i<l.length:=by have:=agr d;omega
  have j:(l.map En.cells)[((i:Nat):Int).toNat]?=some l[i].cells:=by simp[e]
  have f:=n _ (agx e);obtain⟨b,g⟩:∃b,b=p l[i]:=⟨_,rfl⟩;rw[<-g]at f;unfold En.cells at j f;refine TC.skip ?_
  repeat refine TC.seq ?_
  refine TC.block ?_
  repeat refine TC.seq ?_
  refine TC.region<|ai W W<|ah W W<|TL.nil ?_
  repeat refine TC.seq ?_
  refine TC.region<|ai W W<|ai W W<|ai W W<|aN W W W (ago i) j W<|aK W W W<|te f W W W<|TL.nil ?_
  repeat refine TC.seq ?_
  refine TC.cond W (λh=>?_) (λh=>?_)
  .repeat refine TC.seq ?_
   refine TC.region<|ai W W<|ah W W<|TL.nil<|TC.ret ⟨_,W,[_],W,by rw[oM e (g.symm.trans h) (λj a h=>c j a h)]⟩
  .refine TC.skip ?_
   repeat refine TC.seq ?_
   refine TC.region<|aI W W W (by omega)<|ai W W<|TL.nil<|again (k':=l.length-(i+1)) (by omega) ⟨i+1,rfl,by omega,rfl,?_⟩ W (kc (by simp;rfl)<|kc (rfl)<|kc (rfl)<|kc (rfl)<|rfl);intro k o m;rcases ahI.1 m with q|rfl
   .exact c k o q
   .exact g.symm.trans h
 .refine TC.exit ?_;have e:i=l.length:=by have:=agv d;omega
  repeat refine TC.seq ?_
  refine TC.region<|ah W W<|TL.nil<|TC.ret ⟨_,W,[_],W,by rw[mM (λj a=>c j a (by omega))]⟩
def qp(l:List Va)(a:Nat)[bu prog a](LX:List D)(p:Va->Bool)(t:l.length<=10000000)(n:∀c∈l,PT prog a (.agg c.cells::LX) (·=[.bool (p c)])):PT prog 180 [.sl (l.map Va.cells),.fn a LX] (·=[.int .i64 (kS (l.findIdx? p))]):=by
 refine Lk (Lf func180 W ntmps180 W λu v=>?_)
 repeat refine TC.seq ?_
 refine TC.region<|ah W W<|TL.nil ?_
 repeat refine TC.seq ?_
 refine TC.region<|ai W W ?_
 (refine aT W W W ?_;rw[agt])
 refine ai W W<|TL.nil ?_
 repeat refine TC.seq ?_
 refine TC.block<|LI (λk s=>∃i:Nat,s=⟨[(8,.m (.d (.int .i64 i))),(7,.m (.d (.int .i64 (l.length:Nat)))),(0,.m (.d (.sl (l.map Va.cells)))),(1,.m (.d (.fn a LX)))],[],[]⟩/\i<=l.length/\k=l.length-i/\(∀(j:Nat) (a:j<l.length),j<i->p l[j]=false)) l.length _
  ⟨0,rfl,by omega,rfl,by intro j e h;omega⟩ W ?_
 rintro r s ⟨i,rfl,w,rfl,c⟩
 repeat refine TC.seq ?_
 refine TC.region<|av W W W W<|TL.nil ?_
 repeat refine TC.seq ?_
 refine TC.cond W (λd=>?_) (λd=>?_)
 .have e:i<l.length:=by have:=agr d;omega
  have j:(l.map Va.cells)[((i:Nat):Int).toNat]?=some l[i].cells:=by simp[e]
  have f:=n _ (agx e);obtain⟨b,g⟩:∃b,b=p l[i]:=⟨_,rfl⟩;rw[<-g]at f;rw[Va.aj]at j f;refine TC.skip ?_
  repeat refine TC.seq ?_
  refine TC.block ?_
  repeat refine TC.seq ?_
  refine TC.region<|ai W W<|ah W W<|TL.nil ?_
  repeat refine TC.seq ?_
  refine TC.region<|ai W W<|ai W W<|ai W W<|aN W W W (ago i) j W<|aK W W W<|te f W W W<|TL.nil ?_
  repeat refine TC.seq ?_
  refine TC.cond W (λh=>?_) (λh=>?_)
  .repeat refine TC.seq ?_
   refine TC.region<|ai W W<|ah W W<|TL.nil<|TC.ret ⟨_,W,[_],W,by rw[oM e (g.symm.trans h) (λj a h=>c j a h)]⟩
  .refine TC.skip ?_
   repeat refine TC.seq ?_
   refine TC.region<|aI W W W (by omega)<|ai W W<|TL.nil<|again (k':=l.length-(i+1)) (by omega) ⟨i+1,rfl,by omega,rfl,?_⟩ W (kc (by simp;rfl)<|kc (rfl)<|kc (rfl)<|kc (rfl)<|rfl);intro k o m;rcases ahI.1 m with q|rfl
   .exact c k o q
   .exact g.symm.trans h
 .refine TC.exit ?_;have e:i=l.length:=by have:=agv d;omega
  repeat refine TC.seq ?_
  refine TC.region<|ah W W<|TL.nil<|TC.ret ⟨_,W,[_],W,by rw[mM (λj a=>c j a (by omega))]⟩
def za(d:Nd)(x:Nm):PT prog 142 [.agg d.cells,.ca [.str x] 0] (·=[.bool (decide (d.name=x))]):=by
 unfold Nd.cells;refine Lk (Lf func142 W ntmps142 W λa b=>?_)
 repeat refine TC.seq ?_
 refine TC.region<|bp W W<|ah W W<|TL.nil ?_
 repeat refine TC.seq ?_
 refine TC.region<|ay W W<|ax W W W<|ax W W W<|s_ W W W<|ah W W<|TL.nil<|TC.ret ⟨_,W,[_],W,W⟩
def pw(P:Pg)(x:Nm)(a:P.nodes.length<=1000000):PT prog 90 [.agg P.cells,.str x] (·=[.int .i64 (kS (gu P.nodes x))]):=by
 refine Lk (Lf func90 W ntmps90 W λa b=>?_)
 repeat refine TC.seq ?_
 refine TC.region<|bp W W<|bp W W<|ah W W<|TL.nil ?_
 repeat refine TC.seq ?_
 refine TC.region<|ay W W<|ax W W W<|nO W W<|aL (pQ P.nodes 142 [.ca [.str x] 0] (λd=>decide (d.name=x)) (by omega) (λd _=>za d x)) W W<|ah W W<|TL.nil<|TC.ret ⟨_,rfl,[_],rfl,rfl⟩
def zd(d:En)(x:Nm):PT prog 178 [.agg d.cells,.ca [.str x] 0] (·=[.bool (decide (d.name=x))]):=by
 unfold En.cells;refine Lk (Lf func178 W ntmps178 W λa b=>?_)
 repeat refine TC.seq ?_
 refine TC.region<|bp W W<|ah W W<|TL.nil ?_
 repeat refine TC.seq ?_
 refine TC.region<|ay W W<|ax W W W<|ax W W W<|s_ W W W<|ah W W<|TL.nil<|TC.ret ⟨_,W,[_],W,W⟩
def tG(l:List En)(x:Nm)(a:l.length<=1000000):PT prog 127 [.sl (l.map En.cells),.str x] (·=[.int .i64 (kS (l.findIdx? λe=>decide (e.name=x)))]):=by
 refine Lk (Lf func127 W ntmps127 W λa b=>?_)
 repeat refine TC.seq ?_
 refine TC.region<|bp W W<|ah W W<|TL.nil ?_
 repeat refine TC.seq ?_
 refine TC.region<|ai W W<|nO W W<|aL (kV l 178 [.ca [.str x] 0] (λd=>decide (d.name=x)) (by omega) (λd _=>zd d x)) W W<|ah W W<|TL.nil<|TC.ret ⟨_,rfl,[_],rfl,rfl⟩
def FA(d:Va)(x:Nm):PT prog 293 [.agg d.cells,.ca [.str x] 0] (·=[.bool (decide (d.name=x))]):=by
 rw[Va.aj];refine Lk (Lf func293 W ntmps293 W λa b=>?_)
 repeat refine TC.seq ?_
 refine TC.region<|bp W W<|ah W W<|TL.nil ?_
 repeat refine TC.seq ?_
 refine TC.region<|ay W W<|ax W W W<|ax W W W<|s_ W W W<|ah W W<|TL.nil<|TC.ret ⟨_,W,[_],W,W⟩
def tH(l:List Va)(x:Nm)(a:l.length<=10000000):PT prog 268 [.sl (aB l),.str x] (·=[.int .i64 (kS (rA l x))]):=by
 refine Lk (Lf func268 W ntmps268 W λb c=>?_)
 repeat refine TC.seq ?_
 refine TC.region<|bp W W<|ah W W<|TL.nil ?_
 repeat refine TC.seq ?_
 refine TC.region<|ai W W<|nO W W<|aL (qp l 293 [.ca [.str x] 0] (λd=>decide (d.name=x)) a (λd _=>FA d x)) W W<|ah W W<|TL.nil<|TC.ret ⟨_,rfl,[_],rfl,rfl⟩
def iC{l:List Nm}{i:Nat}(h:i<l.length):(aR l)[((i:Nat):Int).toNat]?=some [.str l[i]]:=by simp[aR,h]
def FB(l:List Nm)(x:Nm)(m:l.length<=10000000):PT prog 129 [.sl (aR l),.str x] (·=[.int .i64 (Hd l x)]):=by
 refine Lk (Lf func129 W ntmps129 W λn o=>?_)
 repeat refine TC.seq ?_
 refine TC.region<|ah W W<|TL.nil ?_
 repeat refine TC.seq ?_
 refine TC.region<|ai W W ?_
 (refine aT W W W ?_;rw[agt])
 refine ai W W<|TL.nil ?_
 repeat refine TC.seq ?_
 refine TC.block<|LI (λk s=>∃i:Nat,s=⟨[(8,.m (.d (.int .i64 i))),(7,.m (.d (.int .i64 (l.length:Nat)))),(0,.m (.d (.sl (aR l)))),(1,.m (.d (.str x)))],[],[]⟩/\i<=l.length/\k=l.length-i/\(∀(j:Nat) (a:j<l.length),j<i->decide (l[j]=x)=false)) l.length _
  ⟨0,rfl,by omega,rfl,by intro j c h;omega⟩ W ?_
 rintro k s ⟨i,rfl,p,rfl,a⟩
 repeat refine TC.seq ?_
 refine TC.region<|av W W W W<|TL.nil ?_
 repeat refine TC.seq ?_
 refine TC.cond W (λb=>?_) (λb=>?_)
 .have d:i<l.length:=by have:=agr b;omega
  refine TC.skip ?_
  repeat refine TC.seq ?_
  refine TC.block ?_
  repeat refine TC.seq ?_
  refine TC.region<|ai W W<|ah W W<|TL.nil ?_
  repeat refine TC.seq ?_
  refine TC.region<|ai W W<|ai W W<|ai W W<|aN W W W (ago i) (iC d) W<|ax W W W<|s_ W W W<|TL.nil ?_
  repeat refine TC.seq ?_
  refine TC.cond W (λc=>?_) (λc=>?_)
  .repeat refine TC.seq ?_
   refine TC.region<|ai W W<|ah W W<|TL.nil<|TC.ret ⟨_,W,[_],W,by rw[xM,oM d (aha (agr c).symm) (λj b h=>a j b h)]⟩
  .refine TC.skip ?_
   repeat refine TC.seq ?_
   refine TC.region<|aI W W W (by omega)<|ai W W<|TL.nil<|again (k':=l.length-(i+1)) (by omega) ⟨i+1,rfl,by omega,rfl,?_⟩ W (kc (by simp;rfl)<|kc (rfl)<|kc (rfl)<|kc (rfl)<|rfl);intro j f h;rcases ahI.1 h with g|rfl
   .exact a j f g
   .exact ahc λe=>agv c e.symm
 .refine TC.exit ?_;have c:i=l.length:=by have:=agv b;omega
  repeat refine TC.seq ?_
  refine TC.region<|ah W W<|TL.nil<|TC.ret ⟨_,W,[_],W,by rw[xM,mM (λj b=>a j b (by omega))]⟩
def jz(l:List Nm)(x:Nm)(a:l.length<=10000000):PT prog 82 [.sl (aR l),.str x] (·=[.bool (di l x)]):=by
 rw[Hi];refine Lk (Lf func82 W ntmps82 W λb c=>?_)
 repeat refine TC.seq ?_
 refine TC.region<|ah W W<|TL.nil ?_
 repeat refine TC.seq ?_
 refine TC.region<|ai W W<|ai W W<|aL (FB l x a) W W<|av W W W W<|ah W W<|TL.nil<|TC.ret ⟨_,W,[_],W,W⟩
def FC{en:List En}(l:kL en)(a:Int)(b:Nm):PT prog 75 [.sl (en.map En.cells),.agg [.int .u8 a,.str b]] (·=[.sl (aR (kI en a b))]):=by
 refine Lk (Lf func75 W ntmps75 W λs t=>?_)
 repeat refine TC.seq ?_
 refine TC.region<|bp W W<|ah W W<|TL.nil ?_
 repeat refine TC.seq ?_
 refine TC.region<|ay W W<|ax W W W<|TL.nil ?_
 repeat refine TC.seq ?_
 refine TC.block ?_;by_cases c:a=1
 .have g:(a==1)=true:=by simp[c]
  repeat refine TC.seq ?_
  refine TC.region ?_
  (refine av W W W (r:=.bool true) (by show some (D.bool (a==1))=_;rw[g]) ?_)
  refine ah W W<|TL.nil ?_
  repeat refine TC.seq ?_
  refine TC.cond W (λd=>?_) (λf=>by cases f)
  repeat refine TC.seq ?_
  refine TC.region<|aU W W W W W W W W<|ah W W<|TL.nil<|TC.ret ⟨_,W,[_],W,by rw[kI,agK c];rfl⟩
 have g:(a==1)=false:=by simp[c]
 repeat refine TC.seq ?_
 refine TC.region ?_
 (refine av W W W (r:=.bool false) (by show some (D.bool (a==1))=_;rw[g]) ?_)
 refine ah W W<|TL.nil ?_
 repeat refine TC.seq ?_
 refine TC.cond W (λf=>by cases f) (λd=>?_);by_cases f:a=3
 .have h:(a==3)=true:=by simp[f]
  repeat refine TC.seq ?_
  refine TC.region ?_
  (refine av W W W (r:=.bool true) (by show some (D.bool (a==3))=_;rw[h]) ?_)
  refine ah W W<|TL.nil ?_
  repeat refine TC.seq ?_
  refine TC.cond W (λd=>?_) (λi=>by cases i);rcases rc en (λe=>decide (e.name=b))with⟨j,k⟩|⟨i,p,j,k⟩
  .have m:=tG en b l.n;rw[j]at m
   repeat refine TC.seq ?_
   refine TC.region<|ai W W<|ay W W<|ax W W W<|aL m W W<|ah W W<|TL.nil ?_
   repeat refine TC.seq ?_
   refine TC.region<|ai W W<|av W W W W<|TL.nil ?_
   repeat refine TC.seq ?_
   refine TC.cond W (λn=>by cases n) (λd=>?_);refine TC.skip ?_
   repeat refine TC.seq ?_
   refine TC.region<|ah W W<|TL.nil<|TC.ret ⟨_,W,[_],W,by rw[kI,agw c,agK f,k];rfl⟩
  .have m:=tG en b l.n;rw[j]at m;have n:=xN p;have q:kI en a b=en[i].fo:=by rw[kI,agw c,agK f,k]
   rw[q];unfold En.cells at n
   repeat refine TC.seq ?_
   refine TC.region<|ai W W<|ay W W<|ax W W W<|aL m W W<|ah W W<|TL.nil ?_
   repeat refine TC.seq ?_
   refine TC.region<|ai W W ?_
   (refine av W W W (r:=.bool true) (by show some (D.bool (decide (((i:Nat):Int)>=0)))=_;rw[aha (ago i)]) ?_)
   refine TL.nil ?_
   repeat refine TC.seq ?_
   refine TC.cond W (λd=>?_) (λo=>by cases o)
   repeat refine TC.seq ?_
   refine TC.region<|ai W W<|ai W W<|aN W W W (ago i) n W<|ay W W<|ax W W W<|ah W W<|TL.nil<|TC.ret ⟨_,W,[_],W,W⟩
 have h:(a==3)=false:=by simp[f]
 repeat refine TC.seq ?_
 refine TC.region ?_
 (refine av W W W (r:=.bool false) (by show some (D.bool (a==3))=_;rw[h]) ?_)
 refine ah W W<|TL.nil ?_
 repeat refine TC.seq ?_
 refine TC.cond W (λi=>by cases i) (λd=>?_);refine TC.skip ?_
 repeat refine TC.seq ?_
 refine TC.region<|ah W W<|TL.nil<|TC.ret ⟨_,W,[_],W,by rw[kI,agw c,agw f];rfl⟩
def ze(d:En)(x:Nm)(a:d.fo.length<=1000000):PT prog 177 [.agg d.cells,.ca [.str x] 0] (·=[.bool (di d.fo x)]):=by
 unfold En.cells;refine Lk (Lf func177 W ntmps177 W λa b=>?_)
 repeat refine TC.seq ?_
 refine TC.region<|bp W W<|ah W W<|TL.nil ?_
 repeat refine TC.seq ?_
 refine TC.region<|ay W W<|ax W W W<|ax W W W<|aL (jz _ _ (by omega)) W W<|ah W W<|TL.nil<|TC.ret ⟨_,rfl,[_],rfl,rfl⟩
def tI{en:List En}(a:kL en)(x:Nm):PT prog 125 [.sl (en.map En.cells),.str x] (·=[.int .i64 (kS (en.findIdx? λe=>di e.fo x))]):=by
 refine Lk (Lf func125 W ntmps125 W λb c=>?_)
 repeat refine TC.seq ?_
 refine TC.region<|bp W W<|ah W W<|TL.nil ?_
 repeat refine TC.seq ?_
 refine TC.region<|ai W W<|nO W W<|aL (kV en 177 [.ca [.str x] 0] (λd=>di d.fo x) (agW a.n (by decide)) (λd b=>ze d x (a.c d b))) W W<|ah W W<|TL.nil<|TC.ret ⟨_,rfl,[_],rfl,rfl⟩
end Go.Proofs.Pz
namespace Go.Sm
open Go.Mt
variable{rs:List (List D)}{m:M}{H:Hp}
def pL(rs:List (List D))(m:M)(H:Hp):Prop:=(rs=[]/\m=.d (.sl [])/\H=[])\/(rs≠[]/\∃a,m=.cy 0 a rs.length/\H=[.row true 1 a (bf rs)])
def pL.acc(h:pL rs m H):Acc 1 0 rs m H:=by
 rcases h with⟨a,b,_⟩|⟨a,c,b,d⟩
 .exact .inl ⟨a,b⟩
 .exact .inr ⟨a,c,b,by rw[d];rfl⟩
def pL.app(h:pL rs m H)(r:List D):pL (rs++[r]) (cQ m H [r]) (eg 1 m H [r]):=by
 rcases h with⟨rfl,rfl,rfl⟩|⟨b,a,rfl,rfl⟩
 .exact .inr ⟨by simp,0,by simp[cQ,sy],by simp[eg,jf]⟩
 .exact .inr ⟨by simp,a+1,by simp[cQ],by simp[eg,bf]⟩
def jb(l:List Nm)(x:Nm):(dh l x).length<=l.length+1:=by unfold dh;split<;>simp
def jS(r l:List Nm):(r.foldl dh l).length<=l.length+r.length:=by
 induction r generalizing l with
 |nil=>simp
 |cons a r b=>simp only[agy,agA];have:=b (dh l a);have:=jb l a;omega
mutual
def pM:aJ->Nat
 |.mk _ b _ _ _ _ a _=>b.length+jX a
def jX:List aP->Nat
 |[]=>0
 |a::r=>qt a+jX r
def qt:aP->Nat
 |.mk _ b _ _ _=>kM b
def kM:bT->Nat
 |.mk _ a=>nf a
def nf:List aJ->Nat
 |[]=>0
 |q::r=>pM q+nf r
end
mutual
def xO:∀q:aJ,(cp q).length<=pM q
 |.mk _ b _ _ _ _ a _=>by rw[cp,pM];exact qu b a
def qu:∀(l:List Nm) (r:List aP),(aZ l r).length<=l.length+jX r
 |l,[]=>by rw[aZ,jX];omega
 |l,a::r=>by rw[aZ,jX];have b:=qu ((pj a).foldl dh l) r;have b:=jS (pj a) l;have b:=Dx a;omega
def Dx:∀a:aP,(pj a).length<=qt a
 |.mk _ b _ _ _=>by rw[pj,qt];exact sJ b
def sJ:∀b:bT,(cE b).length<=kM b
 |.mk c a=>by rw[cE,kM];have:=vM c [] a;simpa using this
def vM:∀(a:List Va) (l:List Nm) (r:List aJ),(jR a l r).length<=l.length+nf r
 |a,l,[]=>by rw[jR,nf];omega
 |a,l,q::r=>by
  rw[jR,nf];have b:=vM a (((cp q).filter λx=>(rA a x).isNone).foldl dh l) r;have b:=jS ((cp q).filter λx=>(rA a x).isNone) l;have b:=aif (λx=>(rA a x).isNone) (cp q);have a:=xO q;omega
end
def re{α:Type}{l:List α}(h:l.length=16):∃a b c d e f g i j k m n o p q r,l=[a,b,c,d,e,f,g,i,j,k,m,n,o,p,q,r]:=by
 match l,h with
 |[a,b,c,d,e,f,g,i,j,k,m,n,o,p,q,r],_=>exact⟨_,_,_,_,_,_,_,_,_,_,_,_,_,_,_,_,W⟩
end Go.Sm
namespace Go.Mt
end Go.Mt
namespace Go.Proofs.Pz
open Go.Mt Go.Sm Go.Ps Go.Proofs
open Tryz
def EG(l:List Nm)(x:Nm)(f:l.length<=1000000){m:M}{H:Hp}(h:pL (aR l) m H):∃r K,pL (aR (dh l x)) r K/\CT prog 179 [m,.d (.str x)] H λa b=>a=r/\b=K:=by
 have c:=h.acc.view (dq l);have a:=jz l x (by omega);cases b:di l x with
 |true=>
  rw[b]at a;refine⟨m,H,by rw[dh,agK b];exact h,?_⟩;refine Lf func179 W ntmps179 W λg i=>?_
  repeat refine TC.seq ?_
  refine TC.region<|ah W W<|TL.nil ?_
  repeat refine TC.seq ?_
  refine TC.region<|ai W W<|ai W W ?_
  (refine TL.bg 5 W c ?_;refine aL a W W ?_)
  refine TL.nil ?_
  repeat refine TC.seq ?_
  refine TC.cond W (λa=>?_) (λd=>by cases d)
  repeat refine TC.seq ?_
  refine TC.region<|ai W W<|ah W W<|TL.nil<|TC.ret ⟨_,W,W,W⟩
 |false=>
  rw[b]at a;have e:aR (dh l x)=aR l++[[.str x]]:=by rw[dh,agw (by rw[b];simp)];simp[aR]
  refine⟨_,_,by rw[e];exact h.app [.str x],?_⟩;refine Lf func179 W ntmps179 W λg i=>?_
  repeat refine TC.seq ?_
  refine TC.region<|ah W W<|TL.nil ?_
  repeat refine TC.seq ?_
  refine TC.region<|ai W W<|ai W W ?_
  (refine TL.bg 5 W c ?_;refine aL a W W ?_)
  refine TL.nil ?_
  repeat refine TC.seq ?_
  refine TC.cond W (λd=>by cases d) (λa=>?_);refine TC.skip ?_
  repeat refine TC.seq ?_
  refine TC.region<|ai W W<|ai W W<|aU W W W W W W W W<|lZ (rows:=[[.str x]]) h.acc W W W W W (by exact cM W) (by simp[aR];omega) (by simp[aR];omega)<|ah W W<|TL.nil<|TC.ret ⟨_,rfl,rfl,rfl⟩
def FD(l:List Nm)(c:l.length<=1000000):∃r K,pL (aR l) r K/\CT prog 206 [.d (.sl (aR l))] [] λa c=>a=r/\c=K:=by
 cases l with
 |nil=>
  refine⟨.d (.sl []),[],.inl ⟨W,W,W⟩,?_⟩;refine Lf func206 W ntmps206 W λd e=>?_
  repeat refine TC.seq ?_
  refine TC.region<|ah W W<|TL.nil ?_
  repeat refine TC.seq ?_
  refine TC.region<|ai W W ?_
  (refine tr W W (λb=>?_))
  refine TL.nil ?_;cases b with
  |true=>
   repeat refine TC.seq ?_
   refine TC.cond W (λf=>?_) (λa=>by cases a)
   repeat refine TC.seq ?_
   refine TC.region<|ah W W<|TL.nil<|TC.ret ⟨_,W,W,W⟩
  |false=>
   repeat refine TC.seq ?_
   refine TC.cond W (λa=>by cases a) (λa=>?_);refine TC.skip ?_
   repeat refine TC.seq ?_
   refine TC.region<|aU W W W W W W W W<|ai W W<|gO W W W<|ah W W<|TL.nil<|TC.ret ⟨_,W,W,W⟩
 |cons a l=>
  refine⟨_,_,.inr ⟨by simp,0,rfl,rfl⟩,?_⟩;refine Lf func206 W ntmps206 W λe f=>?_
  repeat refine TC.seq ?_
  refine TC.region<|ah W W<|TL.nil ?_
  repeat refine TC.seq ?_
  refine TC.region<|ai W W<|qc W (by kernel_rfl) W<|TL.nil ?_
  repeat refine TC.seq ?_
  refine TC.cond W (λd=>by cases d) (λd=>?_);refine TC.skip ?_
  repeat refine TC.seq ?_
  refine TC.region<|aU W W W W W W W W<|ai W W<|fl true W W W W (by rfl) (by simp) (by exact dq (a::l)) (by simp at c⊢;omega)<|ah W W<|TL.nil<|TC.ret ⟨_,rfl,by simp[mi],rfl⟩
def FE(a:List Va)(x:Nm):decide (kS (rA a x)<0)=(rA a x).isNone:=by
 cases h:rA a x with
 |none=>simp[kS]
 |some i=>simp only[kS,Option.isNone_some];exact ahc (by omega)
def B4(q:aJ)(C:q.aq.length<=1000)(s:pM q<=1000000)(t:∀a∈q.aq,PT prog 229 [.agg a.a_.cells] (·=[.sl (aR (cE a.a_))])):PT prog 187 [.agg q.cells] (·=[.sl (aR (cp q))]):=by
 obtain⟨D,l,z,R,P,d,a,E⟩:=q;simp only[aJ.aq]at C t;rw[pM]at s;rw[cp,aJ.aj];simp only[aJ.kd,aJ.lhs,aJ.f,aJ.args,aJ.has,aJ.ex,aJ.aq,aJ.ps];rw[d.aj];obtain⟨F,G,Q,I⟩:=FD l (by omega);obtain⟨S,ac⟩:∃b,b=eQ D l z (R.map Xp.cells) P (bD d.kd d.op d.num d.nm d.names (d.kids.map Xp.cells) d.ps) (a.map aP.cells) E:=⟨_,rfl⟩;refine Lk (Lf func187 W ntmps187 W λT U=>?_)
 repeat refine TC.seq ?_
 refine TC.region<|bp W W<|ah W W<|TL.nil ?_
 repeat refine TC.seq ?_
 refine TC.region<|ay W W<|ax W W W<|aD I W W<|ah W W<|TL.nil ?_
 repeat refine TC.seq ?_
 refine TC.region<|ay W W<|ax W W W ?_
 (refine aT W W W ?_;rw[agt])
 refine ai W W<|TL.nil<|TC.rename [(14,.m (.d (.int .i64 ((0:Nat):Int)))),(13,.m (.d (.int .i64 ((a.length:Nat):Int)))),(12,.m (.d (.sl (a.map aP.cells)))),(3,.m F)] G W W ?_
 repeat refine TC.seq ?_
 refine TC.block<|LI (λk s=>∃(i:Nat) (c:List (Nat×List M)) (m:M) (H:Hp) (b:List Nm),s=⟨[(14,.m (.d (.int .i64 ((i:Nat):Int)))),(13,.m (.d (.int .i64 ((a.length:Nat):Int)))),(12,.m (.d (.sl (a.map aP.cells)))),(3,.m m)],c,H⟩/\i<=a.length/\k=a.length-i/\pL (aR b) m H/\aZ b (a.drop i)=aZ l a/\b.length+jX (a.drop i)<=1000000) a.length _
  ⟨0,_,_,_,l,rfl,by omega,rfl,Q,rfl,s⟩ W ?_
 rintro A B ⟨i,J,m,H,n,rfl,V,rfl,g,c,h⟩
 repeat refine TC.seq ?_
 refine TC.region<|av W W W W<|TL.nil ?_
 repeat refine TC.seq ?_
 refine TC.cond W (λe=>?_) (λe=>?_)
 .have o:i<a.length:=by have:=agr e;omega
  have p:(a.map aP.cells)[((i:Nat):Int).toNat]?=some a[i].cells:=by simp[o]
  have k:=t _ (agx o);rw[ahv o]at c h;rw[aZ]at c;rw[jX]at h;have K:pj a[i]=cE a[i].a_:=by cases a[i];rw[pj];rfl
  rw[K]at c;have L:qt a[i]=kM a[i].a_:=by cases a[i];rw[qt];rfl
  rw[L]at h;have u:=sJ a[i].a_;generalize a[i]=y at p k c h u;rw[bT.aj]at k;rw[aP.aj]at p;generalize cE y.a_=b at c k u;refine TC.skip ?_
  repeat refine TC.seq ?_
  refine TC.block ?_
  repeat refine TC.seq ?_
  refine TC.region<|aN W W W (ago i) p W<|aK W W W<|aM W W<|aC W W W W W W<|TL.nil ?_
  repeat refine TC.seq ?_
  refine TC.region<|aA W W<|aW W W W W W<|aL k W W ?_
  (refine aT W W W ?_;rw[agt])
  refine ai W W<|TL.nil<|TC.rename [(22,.m (.d (.int .i64 ((0:Nat):Int)))),(21,.m (.d (.int .i64 ((b.length:Nat):Int)))),(20,.m (.d (.sl (aR b)))),(3,.m m),(14,.m (.d (.int .i64 ((i:Nat):Int)))),(13,.m (.d (.int .i64 ((a.length:Nat):Int)))),(12,.m (.d (.sl (a.map aP.cells))))] H W W ?_
  repeat refine TC.seq ?_
  refine TC.block<|LI (λk s=>∃(j:Nat) (d:List (Nat×List M)) (m:M) (H:Hp) (c:List Nm),s=⟨[(22,.m (.d (.int .i64 ((j:Nat):Int)))),(21,.m (.d (.int .i64 ((b.length:Nat):Int)))),(20,.m (.d (.sl (aR b)))),(3,.m m),(14,.m (.d (.int .i64 ((i:Nat):Int)))),(13,.m (.d (.int .i64 ((a.length:Nat):Int)))),(12,.m (.d (.sl (a.map aP.cells))))],d,H⟩/\j<=b.length/\k=b.length-j/\pL (aR c) m H/\(b.drop j).foldl dh c=b.foldl dh n/\c.length<=n.length+j) b.length _
   ⟨0,_,_,_,n,rfl,by omega,rfl,g,rfl,by omega⟩ W ?_
  rintro A B ⟨j,J,m,H,r,rfl,X,rfl,g,f,Y⟩
  repeat refine TC.seq ?_
  refine TC.region<|av W W W W<|TL.nil ?_
  repeat refine TC.seq ?_
  refine TC.cond W (λe=>?_) (λe=>?_)
  .have v:j<b.length:=by have:=agr e;omega
   have w:=iC v;rw[ahv v,agy]at f;generalize b[j]=x at w f;obtain⟨Z,H2,N,O⟩:=EG r x (by omega) g;have TU:=jb r x;refine TC.skip ?_
   repeat refine TC.seq ?_
   refine TC.block ?_
   repeat refine TC.seq ?_
   refine TC.region<|aN W W W (ago j) w W<|ax W W W<|ah W W<|TL.nil ?_
   repeat refine TC.seq ?_
   refine TC.region<|ai W W<|ai W W<|aD O W W<|ah W W<|TL.nil ?_
   repeat refine TC.seq ?_
   refine TC.region<|aI W W W (by omega)<|ai W W<|TL.nil<|again (k':=b.length-(j+1)) (by omega) ⟨j+1,_,_,_,dh r x,rfl,by omega,rfl,N,f,by omega⟩ W (kc (by simp;rfl)<|kc (rfl)<|kc (rfl)<|kc (rfl)<|kc (rfl)<|kc (rfl)<|kc (rfl)<|rfl)
  .refine TC.exit ?_;have v:j=b.length:=by have:=agv e;omega
   subst v;rw[ain]at f;simp only[ah2]at f;rw[<-f]at c
   repeat refine TC.seq ?_
   refine TC.region<|aI W W W (by omega)<|ai W W<|TL.nil<|again (k':=a.length-(i+1)) (by omega) ⟨i+1,_,_,_,_,rfl,by omega,rfl,g,c,by omega⟩ W (kc (by simp;rfl)<|kc (rfl)<|kc (rfl)<|kc (rfl)<|rfl)
 .refine TC.exit ?_;have b:i=a.length:=by have:=agv e;omega
  subst b;rw[ain,aZ]at c;subst c
  repeat refine TC.seq ?_
  refine TC.region<|ai W W<|ah W W<|TL.nil<|TC.bg 2 W (g.acc.view (dq _))<|TC.ret ⟨_,W,[_],W,W⟩
def Hj(b:bT)(G:b.vars.length<=1000000)(I:b.eqs.length<=1000000)(v:kM b<=1000000)(w:∀q∈b.eqs,PT prog 187 [.agg q.cells] (·=[.sl (aR (cp q))])):PT prog 229 [.agg b.cells] (·=[.sl (aR (cE b))]):=by
 obtain⟨d,a⟩:=b;simp only[bT.vars,bT.eqs]at I w G;rw[kM]at v;rw[cE,bT.aj];simp only[bT.vars,bT.eqs];refine Lk (Lf func229 W ntmps229 W λP Q=>?_)
 repeat refine TC.seq ?_
 refine TC.region<|bp W W<|ah W W<|TL.nil ?_
 repeat refine TC.seq ?_
 refine TC.region<|ah W W<|TL.nil ?_
 repeat refine TC.seq ?_
 refine TC.region<|ay W W<|ax W W W ?_
 (refine aT W W W ?_;rw[agt])
 refine ai W W<|TL.nil<|TC.rename [(11,.m (.d (.int .i64 ((0:Nat):Int)))),(10,.m (.d (.int .i64 ((a.length:Nat):Int)))),(9,.m (.d (.sl (a.map aJ.cells)))),(3,.m (.d (.sl []))),(1,.m (.d (.ca [.sl (aB d),.sl (a.map aJ.cells)] 0)))] [] W W ?_
 repeat refine TC.seq ?_
 refine TC.block<|LI (λk s=>∃(i:Nat) (c:List (Nat×List M)) (m:M) (H:Hp) (l:List Nm),s=⟨[(11,.m (.d (.int .i64 ((i:Nat):Int)))),(10,.m (.d (.int .i64 ((a.length:Nat):Int)))),(9,.m (.d (.sl (a.map aJ.cells)))),(3,.m m),(1,.m (.d (.ca [.sl (aB d),.sl (a.map aJ.cells)] 0)))],c,H⟩/\i<=a.length/\k=a.length-i/\pL (aR l) m H/\jR d l (a.drop i)=jR d [] a/\l.length+nf (a.drop i)<=1000000) a.length _
  ⟨0,_,_,_,[],rfl,by omega,rfl,.inl ⟨rfl,rfl,rfl⟩,rfl,by simpa using v⟩ W ?_
 rintro E F ⟨i,J,m,H,p,rfl,R,rfl,h,g,q⟩
 repeat refine TC.seq ?_
 refine TC.region<|av W W W W<|TL.nil ?_
 repeat refine TC.seq ?_
 refine TC.cond W (λe=>?_) (λe=>?_)
 .have s:i<a.length:=by have:=agr e;omega
  have t:(a.map aJ.cells)[((i:Nat):Int).toNat]?=some a[i].cells:=by simp[s]
  have k:=w _ (agx s);rw[ahv s]at g q;rw[jR]at g;rw[nf]at q;have y:=xO a[i];have z:=a[i].len;generalize a[i]=C at t k g q y z;generalize cp C=c at g k y;obtain⟨S,T,U,V,X,Y,Z,a7,a8,a9,b0,b1,b2,b3,b4,b5,L⟩:=re z;rw[L]at t k;refine TC.skip ?_
  repeat refine TC.seq ?_
  refine TC.block ?_
  repeat refine TC.seq ?_
  refine TC.region<|aN W W W (ago i) t W<|aK W W W<|aM W W<|aC W W W W W W<|TL.nil ?_
  repeat refine TC.seq ?_
  refine TC.region<|aW W W W W W<|aL k W W ?_
  (refine aT W W W ?_;rw[agt])
  refine ai W W<|TL.nil<|TC.rename [(18,.m (.d (.int .i64 ((0:Nat):Int)))),(17,.m (.d (.int .i64 ((c.length:Nat):Int)))),(16,.m (.d (.sl (aR c)))),(3,.m m),(11,.m (.d (.int .i64 ((i:Nat):Int)))),(10,.m (.d (.int .i64 ((a.length:Nat):Int)))),(9,.m (.d (.sl (a.map aJ.cells)))),(1,.m (.d (.ca [.sl (aB d),.sl (a.map aJ.cells)] 0)))] H W W ?_
  repeat refine TC.seq ?_
  refine TC.block<|LI (λk s=>∃(j:Nat) (f:List (Nat×List M)) (m:M) (H:Hp) (e:List Nm),s=⟨[(18,.m (.d (.int .i64 ((j:Nat):Int)))),(17,.m (.d (.int .i64 ((c.length:Nat):Int)))),(16,.m (.d (.sl (aR c)))),(3,.m m),(11,.m (.d (.int .i64 ((i:Nat):Int)))),(10,.m (.d (.int .i64 ((a.length:Nat):Int)))),(9,.m (.d (.sl (a.map aJ.cells)))),(1,.m (.d (.ca [.sl (aB d),.sl (a.map aJ.cells)] 0)))],f,H⟩/\j<=c.length/\k=c.length-j/\pL (aR e) m H/\((c.drop j).filter λx=>(rA d x).isNone).foldl dh e=(c.filter λx=>(rA d x).isNone).foldl dh p/\e.length<=p.length+j) c.length _
   ⟨0,_,_,_,p,rfl,by omega,rfl,h,rfl,by omega⟩ W ?_
  rintro E F ⟨j,J,m,H,l,rfl,hj,rfl,h,f,Nw⟩
  repeat refine TC.seq ?_
  refine TC.region<|av W W W W<|TL.nil ?_
  repeat refine TC.seq ?_
  refine TC.cond W (λe=>?_) (λe=>?_)
  .have A:j<c.length:=by have:=agr e;omega
   have u:=iC A;rw[ahv A]at f;generalize c[j]=x at u f;have B:=tH d x (by omega);have n:=FE d x;cases o:(rA d x).isNone with
   |true=>
    rw[o]at n;rw[ai8 (by simpa using o),agy]at f;obtain⟨m2,H2,N,O⟩:=EG l x (by omega) h;have TU:=jb l x;refine TC.skip ?_
    repeat refine TC.seq ?_
    refine TC.block ?_
    repeat refine TC.seq ?_
    refine TC.region<|aN W W W (ago j) u W<|ax W W W<|ah W W<|TL.nil ?_
    repeat refine TC.seq ?_
    refine TC.region<|ay W W<|ax W W W<|ai W W<|aL B W W ?_
    (refine av W W W (r:=.bool true) (by show some (D.bool (decide _))=_;rw[n]) ?_)
    refine TL.nil ?_
    repeat refine TC.seq ?_
    refine TC.cond W (λe=>?_) (λK=>by cases K)
    repeat refine TC.seq ?_
    refine TC.region<|ai W W<|ai W W<|aD O W W<|ah W W<|TL.nil ?_
    repeat refine TC.seq ?_
    refine TC.region<|aI W W W (by omega)<|ai W W<|TL.nil<|again (k':=c.length-(j+1)) (by omega) ⟨j+1,_,_,_,dh l x,rfl,by omega,rfl,N,f,by omega⟩ W (kc (by simp;rfl)<|kc (rfl)<|kc (rfl)<|kc (rfl)<|kc (rfl)<|kc (rfl)<|kc (rfl)<|kc (rfl)<|rfl)
   |false=>
    rw[o]at n;rw[ai9 (by rw[o];simp)]at f;refine TC.skip ?_
    repeat refine TC.seq ?_
    refine TC.block ?_
    repeat refine TC.seq ?_
    refine TC.region<|aN W W W (ago j) u W<|ax W W W<|ah W W<|TL.nil ?_
    repeat refine TC.seq ?_
    refine TC.region<|ay W W<|ax W W W<|ai W W<|aL B W W ?_
    (refine av W W W (r:=.bool false) (by show some (D.bool (decide _))=_;rw[n]) ?_)
    refine TL.nil ?_
    repeat refine TC.seq ?_
    refine TC.cond W (λK=>by cases K) (λe=>?_);refine TC.skip ?_
    repeat refine TC.seq ?_
    refine TC.region<|aI W W W (by omega)<|ai W W<|TL.nil<|again (k':=c.length-(j+1)) (by omega) ⟨j+1,_,_,_,l,rfl,by omega,rfl,h,f,by omega⟩ W (kc (by simp;rfl)<|kc (rfl)<|kc (rfl)<|kc (rfl)<|kc (rfl)<|kc (rfl)<|kc (rfl)<|kc (rfl)<|rfl)
  .refine TC.exit ?_;have n:j=c.length:=by have:=agv e;omega
   subst n;rw[ain]at f;simp only[List.filter_nil,ah2]at f;rw[<-f]at g
   repeat refine TC.seq ?_
   refine TC.region<|aI W W W (by omega)<|ai W W<|TL.nil<|again (k':=a.length-(i+1)) (by omega) ⟨i+1,_,_,_,_,rfl,by omega,rfl,h,g,by omega⟩ W (kc (by simp;rfl)<|kc (rfl)<|kc (rfl)<|kc (rfl)<|kc (rfl)<|rfl)
 .refine TC.exit ?_;have c:i=a.length:=by have:=agv e;omega
  subst c;rw[ain,jR]at g;subst g
  repeat refine TC.seq ?_
  refine TC.region<|ai W W<|ah W W<|TL.nil<|TC.bg 2 W (h.acc.view (dq _))<|TC.ret ⟨_,W,[_],W,W⟩
def u6{q:aJ}{a:aP}(h:a∈q.aq):kM a.a_<=pM q:=by
 obtain⟨e,j,f,l,k,g,c,i⟩:=q;simp only[aJ.aq]at h;rw[pM]
 suffices kM a.a_<=jX c by omega
 induction c with
 |nil=>cases h
 |cons b r d=>
  rw[jX];rcases agu.1 h with rfl|h
  .have:qt a=kM a.a_:=by cases a;rw[qt];rfl
   omega
  .have:=d h;omega
def Hk{b:bT}{q:aJ}(h:q∈b.eqs):pM q<=kM b:=by
 obtain⟨d,c⟩:=b;simp only[bT.eqs]at h;rw[kM]
 induction c with
 |nil=>cases h
 |cons b r a=>
  rw[nf];rcases agu.1 h with rfl|h
  .omega
  .have:=a h;omega
def B5(b:bT)(e:yZ b):kM b<=1000000->PT prog 229 [.agg b.cells] (·=[.sl (aR (cE b))]):=by
 induction e with
 | @mk l k f g m h n o p i=>
  intro j;refine Hj _ f g j λq a=>?_
  have r:=Hk (b:=.mk l k) a;refine B4 q (h q a) (by omega) λd c=>i q a d c ?_
  have:=u6 c;omega
def Hl(q:aJ)(a:q.aq.length<=1000)(c:∀a∈q.aq,yZ a.a_)(b:pM q<=1000000):PT prog 187 [.agg q.cells] (·=[.sl (aR (cp q))]):=
 B4 q a b λa b=>B5 a.a_ (c a b) (by have:=u6 b;omega)
end Go.Proofs.Pz
namespace Go.Ps
open Go.Mt Go.Sm
mutual
def cm:Xp->Nat
 |.mk _ _ _ _ _ a _=>1+bF a
def bF:List Xp->Nat
 |[]=>0
 |e::l=>cm e+bF l
end
mutual
def oN:∀(e:Xp) (l:List Nm),(lP e l).length<=l.length+cm e
 |.mk k b n x c a p,l=>by
  rw[lP,cm];split
  .have:=ng a (dh l x);have:=jb l x;omega
  .split
   .have:=ng a l;have:=jb (fp a l) x;omega
   .have:=ng a l;omega
def ng:∀(r:List Xp) (l:List Nm),(fp r l).length<=l.length+bF r
 |[],l=>by rw[fp];omega
 |e::r,l=>by rw[fp,bF];have:=oN e l;have:=ng r (lP e l);omega
end
mutual
def px:∀(e:Xp) (l:List Nm),(kJ e l).length<=l.length+cm e
 |.mk k b n x c a p,l=>by
  rw[kJ,cm];split
  .have:=n6 a (dh l x);have:=jb l x;omega
  .have:=n6 a l;omega
def n6:∀(r:List Xp) (l:List Nm),(iu r l).length<=l.length+bF r
 |[],l=>by rw[iu];omega
 |e::r,l=>by rw[iu,bF];have:=px e l;have:=n6 r (kJ e l);omega
end
inductive iW:Xp->Prop where
 |mk {e:Xp} (b:e.kd=12->∃a,e.kids=[a]) (c:e.kids.length<=1000000) (d:e.names.length<=1000000) (f:∀k∈e.kids,iW k):iW e
def Bg(e:Xp):cm e=1+bF e.kids:=by cases e;rw[cm];rfl
def kj(a b:List Xp):bF (a++b)=bF a+bF b:=by
 induction a with
 |nil=>simp[bF]
 |cons x a c=>simp only[agQ,bF,c];omega
def xP:∀(a b:List Xp) (l:List Nm),fp (a++b) l=fp b (fp a l)
 |[],b,l=>by simp[fp]
 |e::a,b,l=>by simp[fp,xP a b]
def vN:∀(a b:List Xp) (l:List Nm),iu (a++b) l=iu b (iu a l)
 |[],b,l=>by simp[iu]
 |e::a,b,l=>by simp[iu,vN a b]
def Hm(e:Xp)(l:List Nm):lP e l=if e.kd=4\/e.kd=13 then fp e.kids (dh l e.nm)else if e.kd=12 then dh (fp e.kids l) e.nm else fp e.kids l:=by cases e;rw[lP];rfl
def FF(e:Xp)(l:List Nm):kJ e l=iu e.kids (if e.kd=5 then dh l e.nm else l):=by cases e;rw[kJ];rfl
end Go.Ps
namespace Go.Proofs.Pz
open Go.Mt Go.Sm Go.Ps Go.Proofs
open Tryz
def tJ(l:List Nm)(x:Nm)(d:l.length<=10000000)(m:M):Dt prog 179 [m,.d (.str x)] [.acc 1 (aR l) m] λr a=>a=[.acc 1 (aR (dh l x)) r]:=by
 intro H F f;have w:=Wk.start f;have c:=w.view (dq l);have a:=jz l x d;refine Lj func179 W ntmps179 W ?_;cases b:di l x with
 |true=>
  rw[b]at a;have e:dh l x=l:=by rw[dh,agK b]
  rw[e]
  repeat refine DC.seq ?_
  apply KZ
  .intro g h;refine ah W W<|TL.nil W
  repeat refine DC.seq ?_
  apply KZ
  .intro g h;refine ai W W<|ai W W ?_
   (refine TL.bg 5 W c ?_;refine aL a W W ?_)
   exact TL.nil W
  repeat refine DC.seq ?_
  refine DC.cond W (λa=>?_) (λg=>by cases g)
  repeat refine DC.seq ?_
  apply KZ
  .intro g h;refine ai W W<|ah W W<|TL.nil W
  exact DC.ret ⟨_,W,_,W,w⟩
 |false=>
  rw[b]at a;have e:aR (dh l x)=aR l++[[.str x]]:=by rw[dh,agw (by rw[b];simp)];simp[aR]
  rw[e]
  repeat refine DC.seq ?_
  apply KZ
  .intro g h;refine ah W W<|TL.nil W
  repeat refine DC.seq ?_
  apply KZ
  .intro g h;refine ai W W<|ai W W ?_
   (refine TL.bg 5 W c ?_;refine aL a W W ?_)
   exact TL.nil W
  repeat refine DC.seq ?_
  refine DC.cond W (λg=>by cases g) (λa=>?_);refine DC.skip ?_
  repeat refine DC.seq ?_
  apply KZ
  .intro g h;refine ai W W<|ai W W<|aU W W W W W W W W<|cX w W W W W W W (by exact cM W) (by simp only[agt,agB];omega)<|ah W W<|TL.nil W
  exact DC.ret ⟨_,W,_,W,w.app [[.str x]]⟩
def zV(e:Xp)(l:List Nm)(m:M)(n:iW e)(o:l.length+cm e<=1000000):Dt prog 182 [m,.d (.agg e.cells)] [.acc 1 (aR l) m] λr a=>a=[.acc 1 (aR (kJ e l)) r]:=by
 have p:∀k∈e.kids,∀(l:List Nm) (m:M),l.length+cm k<=1000000->Dt prog 182 [m,.d (.agg k.cells)] [.acc 1 (aR l) m] λr b=>b=[.acc 1 (aR (kJ k l)) r]:=
  λk a l m h=>
   have:=MT a
   zV k l m (by cases n with|mk _ _ _ j=>exact j k a) h
 have v:e.kids.length<=1000000:=by cases n with|mk _ d _ _=>exact d
 rw[Bg]at o;intro H F y;have w:=Wk.start y;rw[FF,e.aj];have t:(e.kids.map Xp.cells).length=e.kids.length:=by simp
 obtain⟨c,f⟩:∃a,a=if e.kd=5 then dh l e.nm else l:=⟨_,rfl⟩
 have I:c.length<=l.length+1:=by rw[f];split;exact jb l e.nm;omega
 rw[<-f];refine Lj func182 W ntmps182 W ?_
 repeat refine DC.seq ?_
 apply KZ
 .intro h j;refine bp W W<|ah W W<|TL.nil W
 obtain⟨q,z,A,g⟩:∃a b,Wk F H [.acc 1 (aR c) a] b/\(if e.kd=5 then CT prog 179 [m,.d (.str e.nm)] H λc d=>c=a/\d=b else a=m/\b=H):=by
  by_cases h:e.kd=5
  .obtain⟨x,K,k,j,w,b⟩:=Wk.call (r:=[]) w (tJ l e.nm (by omega) m);subst j;refine⟨x,K,?_,by rw[agK h];exact b⟩;rw[f,agK h];exact w
  .exact⟨m,H,by rw[f,agw h];exact w,by rw[agw h];exact⟨W,W⟩⟩
 refine DC.seq<|DC.GX ⟨[(3,.m (.d (.ca (xC e) 0))),(0,.m q)],[],z⟩ ?_ ?_
 .by_cases h:e.kd=5
  .rw[agK h]at g;have j:(e.kd==5)=true:=by simp[h]
   repeat refine DC.seq ?_
   apply KZ
   .intro k s;refine ay W W<|ax W W W ?_
    (refine av W W W (r:=.bool true) (by show some (D.bool (e.kd==5))=_;rw[j]) ?_)
    exact TL.nil W
   repeat refine DC.seq ?_
   refine DC.cond W (λb=>?_) (λa=>by cases a)
   repeat refine DC.seq ?_
   apply KZ
   .intro k s;refine ai W W<|ay W W<|ax W W W<|aD g W W<|ah W W<|TL.nil W
   exact pf W W
  .rw[agw h]at g;obtain⟨rfl,rfl⟩:=g;have j:(e.kd==5)=false:=by simp[h]
   repeat refine DC.seq ?_
   apply KZ
   .intro k s;refine ay W W<|ax W W W ?_
    (refine av W W W (r:=.bool false) (by show some (D.bool (e.kd==5))=_;rw[j]) ?_)
    exact TL.nil W
   repeat refine DC.seq ?_
   refine DC.cond W (λa=>by cases a) (λb=>?_);refine DC.skip<|pf W W
 have B:xC e=bD e.kd e.op e.num e.nm e.names (e.kids.map Xp.cells) e.ps:=rfl;rw[B];generalize e.kids=a at p v o t⊢
 repeat refine DC.seq ?_
 apply KZ
 .intro h j;refine ay W W<|ax W W W ?_
  (refine aT W W W ?_;rw[t])
  refine ai W W<|TL.nil W
 repeat refine DC.seq ?_
 refine DC.block<|DC.loop (λm f=>∃(i:Nat) (b:M) (g:List (Nat×List M)) (d:Hp),f=⟨[(17,.m (.d (.int .i64 ((i:Nat):Int)))),(16,.m (.d (.int .i64 ((a.length:Nat):Int)))),(15,.m (.d (.sl (a.map Xp.cells)))),(0,.m b)],g,d⟩/\
   Wk F H [.acc 1 (aR (iu (a.take i) c)) b] d/\i<=a.length/\m=a.length-i) a.length _
  ⟨0,q,_,_,rfl,by rw[agS,iu];exact A,by omega,rfl⟩ W ?_
 rintro m L ⟨i,C,N,O,rfl,w,P,rfl⟩
 repeat refine DC.seq ?_
 apply KZ
 .intro h j;refine av W W W W<|TL.nil W
 repeat refine DC.seq ?_
 refine DC.cond W (λb=>?_) (λb=>?_)
 .have h:i<a.length:=by have:=agr b;omega
  have j:(a.map Xp.cells)[((i:Nat):Int).toNat]?=some a[i].cells:=by simp[h]
  have s:iu (a.take (i+1)) c=kJ a[i] (iu (a.take i) c):=by rw[agp h,vN];simp[iu]
  have Q:=n6 (a.take i) c;have R:bF (a.take i)+cm a[i]<=bF a:=by
   have d:bF a=bF (a.take (i+1))+bF (a.drop (i+1)):=by rw[<-kj,ahf]
   rw[agp h,kj]at d;simp only[bF]at d;omega
  obtain⟨E,S,G,x,w,k⟩:=Wk.call (r:=[]) w (p _ (agx h) _ C (by omega));subst x;generalize a[i]=u at j s k w;rw[u.aj]at j k;refine DC.skip ?_
  repeat refine DC.seq ?_
  refine DC.block ?_
  repeat refine DC.seq ?_
  apply KZ
  .intro J K;refine aN W W W (ago i) j W<|aK W W W<|aM W W<|aC W W W W W W<|TL.nil W
  repeat refine DC.seq ?_
  apply KZ
  .intro J K;refine ai W W<|aW W W W W W<|aD k W W<|ah W W<|TL.nil W
  repeat refine DC.seq ?_
  apply KZ
  .intro J K;refine aI W W W (by omega)<|ai W W<|TL.nil W
  exact bH (k':=a.length-(i+1)) (by omega) ⟨i+1,_,_,_,rfl,by rw[s];exact w,by omega,rfl⟩ W W
 .refine DC.exit ?_;have h:i=a.length:=by have:=agv b;omega
  subst h;rw[agz]at w
  repeat refine DC.seq ?_
  apply KZ
  .intro j k;refine ai W W<|ah W W<|TL.nil W
  exact DC.ret ⟨_,W,_,W,w⟩
termination_by SizeOf.sizeOf e
def zW(e:Xp)(l:List Nm)(m:M)(o:iW e)(h:l.length+cm e<=1000000):Dt prog 130 [m,.d (.agg e.cells),.d (.bool false)] [.acc 1 (aR l) m] λr a=>a=[.acc 1 (aR (lP e l)) r]:=by
 have j:∀k∈e.kids,∀(l:List Nm) (m:M),l.length+cm k<=1000000->Dt prog 130 [m,.d (.agg k.cells),.d (.bool false)] [.acc 1 (aR l) m] λr c=>c=[.acc 1 (aR (lP k l)) r]:=
  λk a l m b=>
   have:=MT a
   zW k l m (by cases o with|mk _ _ _ f=>exact f k a) b
 have C:e.kids.length<=1000000:=by cases o with|mk _ k _ _=>exact k
 have E:e.kd=12->∃a,e.kids=[a]:=by cases o with|mk B _ _ _=>exact B
 rw[Bg]at h;intro H F G;have w:=Wk.start G;rw[Hm,e.aj];have A:(e.kids.map Xp.cells).length=e.kids.length:=by simp
 refine Lj func130 W ntmps130 W ?_;by_cases c:e.kd=12
 .obtain⟨f,p⟩:=E c;have z:(e.kd==4)=false:=by simp[c]
  have I:(e.kd==13)=false:=by simp[c]
  have J:(e.kd==12)=true:=by simp[c]
  rw[p]at j h;simp only[bF]at h;obtain⟨v,Q,y,q,w,t⟩:=Wk.call (r:=[]) w (j f (by simp) l m (by omega));subst q;have R:=oN f l;obtain⟨S,T,y,q,w,K⟩:=Wk.call (r:=[]) w (tJ (lP f l) e.nm (by omega) v);subst q;have u:(e.kids.map Xp.cells)[((0:Nat):Int).toNat]?=some f.cells:=by rw[p];rfl
  rw[f.aj]at u t;have s:(if e.kd=4\/e.kd=13 then fp e.kids (dh l e.nm)else if e.kd=12 then dh (fp e.kids l) e.nm else fp e.kids l)=dh (lP f l) e.nm:=by
   rw[agw (by omega),agK c,p];simp[fp]
  rw[s]
  repeat refine DC.seq ?_
  apply KZ
  .intro U V;refine bp W W<|ah W W<|TL.nil W
  repeat refine DC.seq ?_
  apply KZ
  .intro U V;refine ay W W<|ax W W W<|TL.nil W
  repeat refine DC.seq ?_
  refine DC.block ?_
  repeat refine DC.seq ?_
  apply KZ
  .intro U V
   (refine av W W W (r:=.bool false) (by show some (D.bool (e.kd==4))=_;rw[z]) ?_)
   refine ah W W<|TL.nil W
  repeat refine DC.seq ?_
  refine DC.cond W (λa=>by cases a) (λb=>?_)
  repeat refine DC.seq ?_
  apply KZ
  .intro U V
   (refine av W W W (r:=.bool false) (by show some (D.bool (e.kd==13))=_;rw[I]) ?_)
   refine ah W W<|TL.nil W
  repeat refine DC.seq ?_
  refine DC.cond W (λa=>by cases a) (λb=>?_)
  repeat refine DC.seq ?_
  apply KZ
  .intro U V
   (refine av W W W (r:=.bool true) (by show some (D.bool (e.kd==12))=_;rw[J]) ?_)
   refine ah W W<|TL.nil W
  repeat refine DC.seq ?_
  refine DC.cond W (λ_=>?_) (λa=>by cases a)
  repeat refine DC.seq ?_
  apply KZ
  .intro U V;refine ai W W<|ay W W<|ax W W W<|aN W W W (ago 0) u W<|aK W W W<|ai W W<|aD t W W<|ah W W<|TL.nil W
  repeat refine DC.seq ?_
  apply KZ
  .intro U V;refine ai W W<|ay W W<|ax W W W<|aD K W W<|ah W W<|TL.nil W
  exact DC.ret ⟨_,W,_,W,w⟩
 obtain⟨d,n⟩:∃a,a=if e.kd=4\/e.kd=13 then dh l e.nm else l:=⟨_,rfl⟩
 have X:d.length<=l.length+1:=by rw[n];split;exact jb l e.nm;omega
 have s:(if e.kd=4\/e.kd=13 then fp e.kids (dh l e.nm)else if e.kd=12 then dh (fp e.kids l) e.nm else fp e.kids l)=fp e.kids d:=by
  rw[n];simp only[agw c];split<;>rfl
 rw[s]
 repeat refine DC.seq ?_
 apply KZ
 .intro f p;refine bp W W<|ah W W<|TL.nil W
 obtain⟨x,L,N,g⟩:∃a b,Wk F H [.acc 1 (aR d) a] b/\(if e.kd=4\/e.kd=13 then CT prog 179 [m,.d (.str e.nm)] H λc d=>c=a/\d=b else a=m/\b=H):=by
  by_cases f:e.kd=4\/e.kd=13
  .obtain⟨p,K,t,q,w,b⟩:=Wk.call (r:=[]) w (tJ l e.nm (by omega) m);subst q;refine⟨p,K,?_,by rw[agK f];exact b⟩;rw[n,agK f];exact w
  .exact⟨m,H,by rw[n,agw f];exact w,by rw[agw f];exact⟨W,W⟩⟩
 refine DC.seq<|DC.GX ⟨[(4,.m (.d (.ca (xC e) 0))),(0,.m x),(2,.m (.d (.bool false)))],[],L⟩ ?_ ?_
 .by_cases q:e.kd=4
  .rw[agK (.inl q)]at g;have f:(e.kd==4)=true:=by simp[q]
   repeat refine DC.seq ?_
   apply KZ
   .intro J K;refine ay W W<|ax W W W<|TL.nil W
   repeat refine DC.seq ?_
   refine DC.block ?_
   repeat refine DC.seq ?_
   apply KZ
   .intro J K
    (refine av W W W (r:=.bool true) (by show some (D.bool (e.kd==4))=_;rw[f]) ?_)
    refine ah W W<|TL.nil W
   repeat refine DC.seq ?_
   refine DC.cond W (λb=>?_) (λa=>by cases a);refine DC.skip ?_
   repeat refine DC.seq ?_
   refine DC.cond W (λb=>?_) (λa=>by cases a)
   repeat refine DC.seq ?_
   apply KZ
   .intro J K;refine ai W W<|ay W W<|ax W W W<|aD g W W<|ah W W<|TL.nil W
   exact pf W W
  have f:(e.kd==4)=false:=by simp[q]
  by_cases t:e.kd=13
  .rw[agK (.inr t)]at g;have p:(e.kd==13)=true:=by simp[t]
   repeat refine DC.seq ?_
   apply KZ
   .intro J K;refine ay W W<|ax W W W<|TL.nil W
   repeat refine DC.seq ?_
   refine DC.block ?_
   repeat refine DC.seq ?_
   apply KZ
   .intro J K
    (refine av W W W (r:=.bool false) (by show some (D.bool (e.kd==4))=_;rw[f]) ?_)
    refine ah W W<|TL.nil W
   repeat refine DC.seq ?_
   refine DC.cond W (λa=>by cases a) (λb=>?_)
   repeat refine DC.seq ?_
   apply KZ
   .intro J K
    (refine av W W W (r:=.bool true) (by show some (D.bool (e.kd==13))=_;rw[p]) ?_)
    refine ah W W<|TL.nil W
   repeat refine DC.seq ?_
   refine DC.cond W (λb=>?_) (λa=>by cases a)
   repeat refine DC.seq ?_
   apply KZ
   .intro J K;refine ai W W<|ay W W<|ax W W W<|aD g W W<|ah W W<|TL.nil W
   exact pf W W
  have p:(e.kd==13)=false:=by simp[t]
  have I:(e.kd==12)=false:=by simp[c]
  rw[agw (by omega)]at g;obtain⟨rfl,rfl⟩:=g
  repeat refine DC.seq ?_
  apply KZ
  .intro J K;refine ay W W<|ax W W W<|TL.nil W
  repeat refine DC.seq ?_
  refine DC.block ?_
  repeat refine DC.seq ?_
  apply KZ
  .intro J K
   (refine av W W W (r:=.bool false) (by show some (D.bool (e.kd==4))=_;rw[f]) ?_)
   refine ah W W<|TL.nil W
  repeat refine DC.seq ?_
  refine DC.cond W (λa=>by cases a) (λb=>?_)
  repeat refine DC.seq ?_
  apply KZ
  .intro J K
   (refine av W W W (r:=.bool false) (by show some (D.bool (e.kd==13))=_;rw[p]) ?_)
   refine ah W W<|TL.nil W
  repeat refine DC.seq ?_
  refine DC.cond W (λa=>by cases a) (λb=>?_)
  repeat refine DC.seq ?_
  apply KZ
  .intro J K
   (refine av W W W (r:=.bool false) (by show some (D.bool (e.kd==12))=_;rw[I]) ?_)
   refine ah W W<|TL.nil W
  repeat refine DC.seq ?_
  refine DC.cond W (λa=>by cases a) (λb=>?_);by_cases y:e.kd=10
  .have u:(e.kd==10)=true:=by simp[y]
   repeat refine DC.seq ?_
   apply KZ
   .intro J K
    (refine av W W W (r:=.bool true) (by show some (D.bool (e.kd==10))=_;rw[u]) ?_)
    refine ah W W<|TL.nil W
   repeat refine DC.seq ?_
   refine DC.cond W (λb=>?_) (λa=>by cases a)
   repeat refine DC.seq ?_
   apply KZ
   .intro J K;refine ai W W<|TL.nil W
   repeat refine DC.seq ?_
   refine DC.cond W (λa=>by cases a) (λb=>?_);refine DC.skip<|pf W W
  have u:(e.kd==10)=false:=by simp[y]
  repeat refine DC.seq ?_
  apply KZ
  .intro J K
   (refine av W W W (r:=.bool false) (by show some (D.bool (e.kd==10))=_;rw[u]) ?_)
   refine ah W W<|TL.nil W
  repeat refine DC.seq ?_
  refine DC.cond W (λa=>by cases a) (λb=>?_);by_cases z:e.kd=9
  .have v:(e.kd==9)=true:=by simp[z]
   repeat refine DC.seq ?_
   apply KZ
   .intro J K
    (refine av W W W (r:=.bool true) (by show some (D.bool (e.kd==9))=_;rw[v]) ?_)
    refine ah W W<|TL.nil W
   repeat refine DC.seq ?_
   refine DC.cond W (λb=>?_) (λa=>by cases a)
   repeat refine DC.seq ?_
   apply KZ
   .intro J K;refine ai W W<|TL.nil W
   repeat refine DC.seq ?_
   refine DC.cond W (λa=>by cases a) (λb=>?_);refine DC.skip<|pf W W
  have v:(e.kd==9)=false:=by simp[z]
  repeat refine DC.seq ?_
  apply KZ
  .intro J K
   (refine av W W W (r:=.bool false) (by show some (D.bool (e.kd==9))=_;rw[v]) ?_)
   refine ah W W<|TL.nil W
  repeat refine DC.seq ?_
  refine DC.cond W (λa=>by cases a) (λb=>?_);refine DC.skip<|pf W W
 have O:xC e=bD e.kd e.op e.num e.nm e.names (e.kids.map Xp.cells) e.ps:=rfl;rw[O];generalize e.kids=a at j C h A⊢
 repeat refine DC.seq ?_
 apply KZ
 .intro f p;refine ay W W<|ax W W W ?_
  (refine aT W W W ?_;rw[A])
  refine ai W W<|TL.nil W
 repeat refine DC.seq ?_
 refine DC.block<|DC.loop (λm f=>∃(i:Nat) (b:M) (g:List (Nat×List M)) (c:Hp),f=⟨[(48,.m (.d (.int .i64 ((i:Nat):Int)))),(47,.m (.d (.int .i64 ((a.length:Nat):Int)))),(46,.m (.d (.sl (a.map Xp.cells)))),(0,.m b),(2,.m (.d (.bool false)))],g,c⟩/\
   Wk F H [.acc 1 (aR (fp (a.take i) d)) b] c/\i<=a.length/\m=a.length-i) a.length _
  ⟨0,x,_,_,rfl,by rw[agS,fp];exact N,by omega,rfl⟩ W ?_
 rintro m Y ⟨i,P,Z,H1,rfl,w,hi,rfl⟩
 repeat refine DC.seq ?_
 apply KZ
 .intro f p;refine av W W W W<|TL.nil W
 repeat refine DC.seq ?_
 refine DC.cond W (λb=>?_) (λb=>?_)
 .have f:i<a.length:=by have:=agr b;omega
  have p:(a.map Xp.cells)[((i:Nat):Int).toNat]?=some a[i].cells:=by simp[f]
  have t:fp (a.take (i+1)) d=lP a[i] (fp (a.take i) d):=by rw[agp f,xP];simp[fp]
  have Q:=ng (a.take i) d;have R:bF (a.take i)+cm a[i]<=bF a:=by
   have k:bF a=bF (a.take (i+1))+bF (a.drop (i+1)):=by rw[<-kj,ahf]
   rw[agp f,kj]at k;simp only[bF]at k;omega
  obtain⟨y,I,z,v,w,q⟩:=Wk.call (r:=[]) w (j _ (agx f) _ P (by omega));subst v;generalize a[i]=u at p t q w;rw[u.aj]at p q;refine DC.skip ?_
  repeat refine DC.seq ?_
  refine DC.block ?_
  repeat refine DC.seq ?_
  apply KZ
  .intro J K;refine aN W W W (ago i) p W<|aK W W W<|aM W W<|aC W W W W W W<|TL.nil W
  repeat refine DC.seq ?_
  apply KZ
  .intro J K;refine ai W W<|aW W W W W W<|ai W W<|aD q W W<|ah W W<|TL.nil W
  repeat refine DC.seq ?_
  apply KZ
  .intro J K;refine aI W W W (by omega)<|ai W W<|TL.nil W
  exact bH (k':=a.length-(i+1)) (by omega) ⟨i+1,_,_,_,rfl,by rw[t];exact w,by omega,rfl⟩ W W
 .refine DC.exit ?_;have f:i=a.length:=by have:=agv b;omega
  subst f;rw[agz]at w
  repeat refine DC.seq ?_
  apply KZ
  .intro p q;refine ai W W<|ah W W<|TL.nil W
  exact DC.ret ⟨_,W,_,W,w⟩
termination_by SizeOf.sizeOf e
def IM(e:Xp)(b:iW e)(c:cm e<=1000000):Dt prog 83 [.d (.agg e.cells)] [] λr a=>r=.d (.sl (aR (lP e [])))/\a=[]:=by
 intro H F d;have w:=(Wk.start d).nil 1;obtain⟨x,K,g,f,w,a⟩:=Wk.call (r:=[]) w (zW e [] (.d (.sl [])) b (by simpa using c));subst f;rw[e.aj]at a⊢;refine Lj func83 W ntmps83 W ?_
 repeat refine DC.seq ?_
 apply KZ
 .intro h i;refine bp W W<|ah W W<|TL.nil W
 repeat refine DC.seq ?_
 apply KZ
 .intro h i;refine aK W W W<|aD a W W<|ah W W<|TL.nil W
 refine DC.bg 2 W (w.view (dq _))<|DC.ret ⟨_,W,[],⟨W,W⟩,w.drop⟩
def Dy(e:Xp)(b:iW e)(c:cm e<=1000000):Dt prog 137 [.d (.agg e.cells)] [] λr a=>r=.d (.sl (aR (kJ e [])))/\a=[]:=by
 intro H F d;have w:=(Wk.start d).nil 1;obtain⟨x,K,g,f,w,a⟩:=Wk.call (r:=[]) w (zV e [] (.d (.sl [])) b (by simpa using c));subst f;rw[e.aj]at a⊢;refine Lj func137 W ntmps137 W ?_
 repeat refine DC.seq ?_
 apply KZ
 .intro h i;refine bp W W<|ah W W<|TL.nil W
 repeat refine DC.seq ?_
 apply KZ
 .intro h i;refine aK W W W<|aD a W W<|ah W W<|TL.nil W
 refine DC.bg 2 W (w.view (dq _))<|DC.ret ⟨_,W,[],⟨W,W⟩,w.drop⟩
end Go.Proofs.Pz
namespace Go.Ps
open Go.Mt Go.Sm
abbrev fH(t:Int×Nm):List D:=[.int .u8 t.1,.str t.2]
def xQ(a:List Va)(f:Nm->Int×Nm):Prop:=∀v∈a,(v.tk,v.tn)=f v.name
def FG(a:List Va)(x:Nm):Prop:=∃v∈a,v.name=x
def rB(op:Int):Int:=if op=1\/op=8\/op=9\/op=10 then 1 else if 2<=op/\op<=7 then 2 else if 13<=op/\op<=16 then 2 else 0
def Bh{a:List Va}{f:Nm->Int×Nm}{x:Nm}(d:xQ a f)(e:FG a x):∃(i:Nat) (h:i<a.length),rA a x=some i/\(a[i].tk,a[i].tn)=f x:=by
 obtain⟨v,g,rfl⟩:=e;rcases rc a (λu=>decide (u.name=v.name))with⟨c,b⟩|⟨i,h,c,b⟩
 .rw[aiV]at b;exact absurd (b v g) (by simp)
 .refine⟨i,h,?_,?_⟩
  .exact c
  .have:=List.find?_some b;rw[d _ (agx h),agr this]
def kN{a:List Va}{i:Nat}(h:i<a.length):(aB a)[((i:Nat):Int).toNat]?=some a[i].cells:=by simp[aB,h]
end Go.Ps
namespace Go.Proofs.Pz
open Go.Mt Go.Sm Go.Ps Go.Proofs
open Tryz
instance:tm prog 53:=⟨by kernel_rfl⟩
def Hn{a:List Va}{f:Nm->Int×Nm}(e:xQ a f)(g:a.length<=10000000){x:Nm}(h:FG a x):PT prog 317 [.sl (aB a),.str x] (·=[.agg (fH (f x))]):=by
 obtain⟨i,j,k,c⟩:=Bh e h;have d:=tH a x g;rw[k]at d;have b:=kN j;rw[<-c];generalize a[i]=v at b c;rw[Va.aj]at b;refine Lk (Lf func317 W ntmps317 W λl m=>?_)
 repeat refine TC.seq ?_
 refine TC.region ?_;refine aM W W ?_;refine TL.nil ?_
 repeat refine TC.seq ?_
 refine TC.region ?_;refine ai W W ?_;refine ai W W ?_;refine ai W W ?_;refine aL d W W ?_;refine aN W W W (ago i) b W ?_;refine ay W W ?_;refine fA W W W ?_;refine aC W W W W W W ?_;refine TL.nil ?_;exact TC.ret ⟨_,W,[_],W,W⟩
def oq(op:Int)(h:1<=op/\op<=16):PT prog 126 [.int .u8 op] (·=[.int .u8 (rB op),.int .u8 (qm op)]):=by
 have a:op=1\/op=2\/op=3\/op=4\/op=5\/op=6\/op=7\/op=8\/op=9\/op=10\/op=11\/op=12\/op=13\/op=14\/op=15\/op=16:=by omega
 rcases a with rfl|rfl|rfl|rfl|rfl|rfl|rfl|rfl|rfl|rfl|rfl|rfl|rfl|rfl|rfl|rfl
 all_goals
  refine Lk (Lf func126 W ntmps126 W λb c=>?_)
  repeat first|((with_reducible apply TC.seq))|((with_reducible apply TC.block))|((with_reducible apply LK);rfl)|((with_reducible apply Ll);rfl)|((with_reducible apply TC.skip))|((with_reducible apply TC.exit))|((with_reducible apply TC.ret))|((with_reducible apply gF))|((with_reducible apply qg))|((with_reducible apply tw))|((with_reducible apply kG))|((with_reducible apply tx))|((with_reducible apply qh))|((apply TC.region);(repeat first|((with_reducible apply ai);rfl;rfl)|((with_reducible apply ah);rfl;rfl)|((with_reducible apply(av (r:=.bool true)));rfl;rfl;rfl;rfl)|((with_reducible apply(av (r:=.bool false)));rfl;rfl;rfl;rfl));(apply TL.nil))
  exact⟨_,W,[_,_],W,W⟩
def Bi{a b:Int×Nm}(h:a=b):(!(decide (a.1=b.1)&&decide (a.2=b.2)))=false:=by subst h;simp
def tK(e:Xp)(b:List (Int×Nm))(f:Int×Nm)(d:b.head?=some f)(q:1<=e.op/\e.op<=16)(A:b.length<=1000000)(h:∀t∈b,(rB e.op≠0->t.1=rB e.op)/\t=f):
  PT prog 318 [.agg e.cells,.sl (b.map fH)] (·=[.agg (fH (qm e.op,⟨#[]⟩))]):=by
 have s:=oq e.op q;rw[e.aj];refine Lk (Lf func318 W ntmps318 W λB C=>?_)
 repeat refine TC.seq ?_
 refine TC.region ?_;refine bp W W ?_;refine aM W W ?_;refine TL.nil ?_
 repeat refine TC.seq ?_
 refine TC.region ?_;refine ay W W ?_;refine ax W W W ?_
 (refine tc s W W ?_;rintro _ rfl)
 refine ai W W ?_;refine bZ W W W ?_;refine bZ W W W ?_;refine ah W W ?_;refine ah W W ?_;refine TL.nil ?_;have x:(b.map fH).length=b.length:=by simp
 have k:(b.map fH)[((0:Nat):Int).toNat]?=some (fH f):=by cases b with|nil=>cases d|cons a r=>injection d with d;subst d;rfl
 repeat refine TC.seq ?_
 refine TC.region ?_;refine ai W W ?_
 (refine aT W W W ?_;rw[x])
 refine ai W W ?_;refine TL.nil ?_
 repeat refine TC.seq ?_
 refine TC.block ?_;refine LI (λk s=>∃(i:Nat) (c:List (Nat×List M)),s=⟨[(17,.m (.d (.int .i64 i))),(16,.m (.d (.int .i64 (b.length:Nat)))),(15,.m (.d (.sl (b.map fH)))),(6,.m (.d (.int .u8 (qm e.op)))),(5,.m (.d (.int .u8 (rB e.op)))),(4,.loc 4 0),(2,.m (.d (.ca (xC e) 0))),(1,.m (.d (.sl (b.map fH))))],c,[]⟩/\Go.Mt.get c 4=some [.d (.int .u8 0),.d (.str ⟨#[]⟩)]/\i<=b.length/\k=b.length-i) b.length _
  ⟨0,_,rfl,rfl,by omega,rfl⟩ W ?_
 rintro y z ⟨i,E,rfl,g,F,rfl⟩
 repeat refine TC.seq ?_
 refine TC.region ?_;refine av W W W W ?_;refine TL.nil ?_
 repeat refine TC.seq ?_
 refine TC.cond W (λc=>?_) (λc=>?_)
 .have l:i<b.length:=by have:=agr c;omega
  clear c;have m:(b.map fH)[((i:Nat):Int).toNat]?=some (fH b[i]):=by simp[l]
  obtain⟨n,o⟩:=h _ (agx l);generalize b[i]=t at m n o;have p:=Bi o;refine TC.skip ?_
  repeat refine TC.seq ?_
  refine TC.block ?_
  repeat refine TC.seq ?_
  refine TC.region ?_;refine aN W W W (ago i) m W ?_;refine aK W W W ?_;refine aM W W ?_;refine aC W W W W W W ?_;refine TL.nil ?_;by_cases j:rB e.op=0
  .have v:(rB e.op !=0)=false:=by simp[j]
   repeat refine TC.seq ?_
   refine Na mixed ?_;refine aO W W ?_
   (refine lY W W W (r:=.bool false) (by show some (D.bool (rB e.op !=0))=_;rw[v]) ?_)
   refine aO W W ?_;refine f_ W W W W ?_;refine f_ W W W W ?_;refine f_ W W W W ?_;refine f_ W W W W ?_;refine qZ W W W ?_;refine aO W W ?_;refine bA W W ?_;refine bG W W W W W ?_;refine bA W W ?_;refine aO W W ?_;refine bA W W ?_;refine bE W W W (ago 0) k W ?_;refine bA W W ?_;refine cx W W W ?_;refine bA W W ?_;refine tu W W W ?_;rw[p];refine qZ W W W ?_;refine TF.nil ⟨by kernel_rfl,?_⟩
   repeat refine TC.seq ?_
   refine TC.cond W (λu=>by cases u) (λc=>?_);refine TC.skip ?_
   repeat refine TC.seq ?_
   refine TC.region ?_;refine aI W W W (by omega) ?_;refine ai W W ?_;refine TL.nil ?_;exact again (k':=b.length-(i+1)) (by omega) ⟨i+1,_,rfl,g,by omega,rfl⟩ W W
  .have v:(rB e.op !=0)=true:=by simp[j]
   have w:(t.1 !=rB e.op)=false:=by simp[n j]
   repeat refine TC.seq ?_
   refine Na mixed ?_;refine aO W W ?_
   (refine lY W W W (r:=.bool true) (by show some (D.bool (rB e.op !=0))=_;rw[v]) ?_)
   refine aO W W ?_;refine bA W W ?_;refine aX W W ?_;refine bA W W ?_;refine bC W W W W ?_;refine bA W W ?_;refine aO W W ?_;refine bA W W ?_;refine lY W W W (r:=.bool false) (by show some (D.bool (t.1 !=rB e.op))=_;rw[w]) ?_;refine qZ W W W ?_;refine aO W W ?_;refine bA W W ?_;refine bG W W W W W ?_;refine bA W W ?_;refine aO W W ?_;refine bA W W ?_;refine bE W W W (ago 0) k W ?_;refine bA W W ?_;refine cx W W W ?_;refine bA W W ?_;refine tu W W W ?_;rw[p];refine qZ W W W ?_;refine TF.nil ⟨by kernel_rfl,?_⟩
   repeat refine TC.seq ?_
   refine TC.cond W (λu=>by cases u) (λc=>?_);refine TC.skip ?_
   repeat refine TC.seq ?_
   refine TC.region ?_;refine aI W W W (by omega) ?_;refine ai W W ?_;refine TL.nil ?_;exact again (k':=b.length-(i+1)) (by omega) ⟨i+1,_,rfl,g,by omega,rfl⟩ W W
 .refine TC.exit ?_
  repeat refine TC.seq ?_
  refine TC.region ?_;refine ai W W ?_;refine bX W W W W W ?_;refine aC W W g W W W ?_;refine TL.nil ?_;exact TC.ret ⟨_,W,[_],W,W⟩
end Go.Proofs.Pz
namespace Go.Ps
open Go.Mt Go.Sm
def Kl(en:List En)(f:Nm->Int×Nm)(a:Nm->Prop)(e:Xp):Prop:=
 e.kd=1\/e.kd=2\/(e.kd=3/\∃t∈en,di t.fo e.nm=true)\/(e.kd=4/\a e.nm)\/(e.kd=5/\a e.nm)\/
 ((e.kd=6\/e.kd=7)/\(1<=e.op/\e.op<=16)/\∃a r,e.kids=a::r/\∀k∈e.kids,(rB e.op≠0->(dD en f k).1=rB e.op)/\dD en f k=dD en f a)\/
 (e.kd=8/\∃a b c,e.kids=[a,b,c]/\(dD en f a).1=1/\dD en f b=dD en f c)\/
 ((e.kd=9\/e.kd=11)/\∃a b,e.kids=[a,b]/\dD en f a=dD en f b)\/(e.kd=10/\∃a,e.kids=[a])
inductive ou(en:List En)(f:Nm->Int×Nm)(a:Nm->Prop):Xp->Prop where
 |mk {e:Xp} (b:∀k∈e.kids,ou en f a k) (c:e.kids.length<=1000000) (h:Kl en f a e):ou en f a e
def Bj(en:List En)(f:Nm->Int×Nm)(e:Xp):dD en f e=if e.kd=1 then(2,⟨#[]⟩)else if e.kd=2 then(1,⟨#[]⟩)else if e.kd=3 then(3,nZ en e.nm)else if e.kd=4\/e.kd=5 then f e.nm
  else if e.kd=6\/e.kd=7 then(qm e.op,⟨#[]⟩)
  else match e.kids with
   |[]=>(0,⟨#[]⟩)
   |a::r=>if e.kd=8 then(match r with|[]=>(0,⟨#[]⟩)|b::_=>dD en f b)else dD en f a:=by
 cases e with|mk k a n x d c p=>
 rw[dD.eq_def];rfl
def Dz{en:List En}{x:Nm}(h:∃t∈en,di t.fo x=true):∃(i:Nat) (hi:i<en.length),en.findIdx? (λe=>di e.fo x)=some i/\nZ en x=en[i].name:=by
 obtain⟨t,c,d⟩:=h;rcases rc en (λu=>di u.fo x)with⟨b,a⟩|⟨i,h,b,a⟩
 .rw[aiV]at a;exact absurd d (a t c)
 .exact⟨i,h,b,by rw[nZ,a]⟩
def FH(l:List (Int×Nm)):∀r∈l.map fH,r.length=2:=by
 intro r a;rw[agC]at a;obtain⟨t,_,rfl⟩:=a;rfl
end Go.Ps
namespace Go.Proofs.Pz
open Go.Mt Go.Sm Go.Ps Go.Proofs
open Tryz
def fv{en:List En}(A:kL en)(o:List (List D)){l:List Va}{f:Nm->Int×Nm}(p:xQ l f)(q:l.length<=10000000)(e:Xp)(x:ou en f (FG l) e):
  Dt prog 313 [.d (.ca [.sl (en.map En.cells),.sl o] 0),.d (.sl (aB l)),.d (.agg e.cells)] [] λr d=>r=.d (.agg (fH (dD en f e)))/\d=[]:=by
 have C:∀k∈e.kids,Dt prog 313 [.d (.ca [.sl (en.map En.cells),.sl o] 0),.d (.sl (aB l)),.d (.agg k.cells)] [] λr B=>r=.d (.agg (fH (dD en f k)))/\B=[]:=
  λk d=>
   have:=MT d
   fv A o p q k (by cases x with|mk g _ _=>exact g k d)
 obtain⟨E,O⟩:e.kids.length<=1000000/\Kl en f (FG l) e:=by cases x with|mk _ g y=>exact⟨g,y⟩
 intro K L P;have w:=(Wk.start P).nil 2;have U:(e.kids.map Xp.cells).length=e.kids.length:=by simp
 rw[e.aj];refine Lj func313 W ntmps313 W ?_
 repeat refine DC.seq ?_
 apply KZ
 .intro d h;refine bp W W ?_;refine aM W W ?_;exact TL.nil W
 repeat refine DC.seq ?_
 apply KZ
 .intro d h;refine ah W W ?_;exact TL.nil W
 repeat refine DC.seq ?_
 apply KZ
 .intro d h;refine ay W W ?_;refine ax W W W ?_
  (refine aT W W W ?_;rw[U])
  refine ai W W ?_;exact TL.nil W
 refine L3 [(13,.m (.d (.int .i64 ((0:Nat):Int)))),(12,.m (.d (.int .i64 ((e.kids.length:Nat):Int)))),(11,.m (.d (.sl (e.kids.map Xp.cells)))),(7,.m (.d (.sl []))),(6,.loc 6 0),(5,.m (.d (.ca (xC e) 0))),(1,.m (.d (.sl (aB l)))),(0,.m (.d (.ca [.sl (en.map En.cells),.sl o] 0)))] _ _ W (λ_=>rfl) W ?_
 repeat refine DC.seq ?_
 refine DC.block ?_;refine DC.loop (λm j=>∃(i:Nat) (d:M) (g:List (Nat×List M)) (h:Hp),j=⟨[(13,.m (.d (.int .i64 ((i:Nat):Int)))),(12,.m (.d (.int .i64 ((e.kids.length:Nat):Int)))),(11,.m (.d (.sl (e.kids.map Xp.cells)))),(7,.m d),(6,.loc 6 0),(5,.m (.d (.ca (xC e) 0))),(1,.m (.d (.sl (aB l)))),(0,.m (.d (.ca [.sl (en.map En.cells),.sl o] 0)))],g,h⟩/\
   Go.Mt.get g 6=some [.d (.int .u8 0),.d (.str ⟨#[]⟩)]/\
   Wk L K [.acc 2 (((e.kids.take i).map (dD en f)).map fH) d] h/\i<=e.kids.length/\m=e.kids.length-i) e.kids.length _
  ⟨0,.d (.sl []),_,_,rfl,rfl,w,by omega,rfl⟩ W ?_
 clear w;rintro m Y ⟨i,Z,bx,H1,rfl,j,w,t,rfl⟩
 repeat refine DC.seq ?_
 apply KZ
 .intro d h;refine av W W W W ?_;exact TL.nil W
 repeat refine DC.seq ?_
 refine DC.cond W (λu=>?_) (λu=>?_)
 .have d:i<e.kids.length:=by have:=agr u;omega
  clear u;have h:(e.kids.map Xp.cells)[((i:Nat):Int).toNat]?=some e.kids[i].cells:=by simp[d]
  have s:((e.kids.take (i+1)).map (dD en f)).map fH=((e.kids.take i).map (dD en f)).map fH++[fH (dD en f e.kids[i])]:=by rw[rJ _ _ _ _ _ d,agI];rfl
  obtain⟨v,G,B,⟨rfl,rfl⟩,w,k⟩:=Wk.call (a:=[]) w (C _ (agx d));generalize e.kids[i]=n at h s k w;rw[n.aj]at h k;refine DC.skip ?_
  repeat refine DC.seq ?_
  refine DC.block ?_
  repeat refine DC.seq ?_
  apply KZ
  .intro z F;refine aN W W W (ago i) h W ?_;refine aK W W W ?_;refine aM W W ?_;refine aC W W W W W W ?_;exact TL.nil W
  repeat refine DC.seq ?_
  apply KZ
  .intro z F;refine ai W W ?_;refine ai W W ?_;refine ai W W ?_;refine aW W W W W W ?_;refine aD k W W ?_;refine aU W W W W W W W W ?_;refine cX w W W W W W W (by exact cM W) (by simp only[agt,agM,agB];omega) ?_;refine ah W W ?_;exact TL.nil W
  have w:=w.app [fH (dD en f n)]
  repeat refine DC.seq ?_
  apply KZ
  .intro z F;refine aI W W W (by omega) ?_;refine ai W W ?_;exact TL.nil W
  exact bH (k':=e.kids.length-(i+1)) (by omega) ⟨i+1,_,_,_,rfl,j,by rw[s];exact w,by omega,rfl⟩ W W
 .refine DC.exit ?_;obtain rfl:i=e.kids.length:=by have:=agv u;omega
  rw[agz]at w;have F:=w.view (FH _);refine DC.bg 7 W F ?_;have k:=w.drop;clear F w
  repeat refine DC.seq ?_
  apply KZ
  .intro z J;refine ay W W ?_;refine ax W W W ?_;exact TL.nil W
  rw[Bj];have G:xC e=bD e.kd e.op e.num e.nm e.names (e.kids.map Xp.cells) e.ps:=rfl;rw[G];clear G C x;rcases O with h|h|⟨h,v,n,Q⟩|⟨h,s⟩|⟨h,s⟩|⟨h,H,a,r,d,I⟩|⟨h,a,b,c,d,g,y⟩|⟨h,a,b,d,g⟩|⟨h,a,d⟩
  .rw[h];simp only[ah3]
   repeat refine DC.seq ?_
   refine DC.block ?_
   repeat refine DC.seq ?_
   apply KZ
   .intro z J;refine av W W W (r:=.bool false) W ?_;refine ah W W ?_;exact TL.nil W
   repeat refine DC.seq ?_
   refine Lc W ?_
   repeat refine DC.seq ?_
   apply KZ
   .intro z J;refine av W W W (r:=.bool false) W ?_;refine ah W W ?_;exact TL.nil W
   repeat refine DC.seq ?_
   refine Lc W ?_
   repeat refine DC.seq ?_
   apply KZ
   .intro z J;refine av W W W (r:=.bool false) W ?_;refine ah W W ?_;exact TL.nil W
   repeat refine DC.seq ?_
   refine Lc W ?_
   repeat refine DC.seq ?_
   apply KZ
   .intro z J;refine av W W W (r:=.bool false) W ?_;refine ah W W ?_;exact TL.nil W
   repeat refine DC.seq ?_
   refine Lc W ?_;refine DC.skip ?_
   repeat refine DC.seq ?_
   apply KZ
   .intro z J;refine ay W W ?_;refine ax W W W ?_;exact TL.nil W
   repeat refine DC.seq ?_
   refine DC.block ?_
   repeat refine DC.seq ?_
   apply KZ
   .intro z J;refine av W W W (r:=.bool true) W ?_;refine ah W W ?_;exact TL.nil W
   repeat refine DC.seq ?_
   refine Lo W ?_
   repeat refine DC.seq ?_
   apply KZ
   .intro z J;refine bX W W W W W ?_;refine aC W W j W W W ?_;exact TL.nil W
   exact DC.ret ⟨_,W,_,⟨W,W⟩,k⟩
  .rw[h];rw[agw (by omega),agK W]
   repeat refine DC.seq ?_
   refine DC.block ?_
   repeat refine DC.seq ?_
   apply KZ
   .intro z J;refine av W W W (r:=.bool false) W ?_;refine ah W W ?_;exact TL.nil W
   repeat refine DC.seq ?_
   refine Lc W ?_
   repeat refine DC.seq ?_
   apply KZ
   .intro z J;refine av W W W (r:=.bool false) W ?_;refine ah W W ?_;exact TL.nil W
   repeat refine DC.seq ?_
   refine Lc W ?_
   repeat refine DC.seq ?_
   apply KZ
   .intro z J;refine av W W W (r:=.bool false) W ?_;refine ah W W ?_;exact TL.nil W
   repeat refine DC.seq ?_
   refine Lc W ?_
   repeat refine DC.seq ?_
   apply KZ
   .intro z J;refine av W W W (r:=.bool false) W ?_;refine ah W W ?_;exact TL.nil W
   repeat refine DC.seq ?_
   refine Lc W ?_;refine DC.skip ?_
   repeat refine DC.seq ?_
   apply KZ
   .intro z J;refine ay W W ?_;refine ax W W W ?_;exact TL.nil W
   repeat refine DC.seq ?_
   refine DC.block ?_
   repeat refine DC.seq ?_
   apply KZ
   .intro z J;refine av W W W (r:=.bool false) W ?_;refine ah W W ?_;exact TL.nil W
   repeat refine DC.seq ?_
   refine Lc W ?_
   repeat refine DC.seq ?_
   apply KZ
   .intro z J;refine av W W W (r:=.bool true) W ?_;refine ah W W ?_;exact TL.nil W
   repeat refine DC.seq ?_
   refine Lo W ?_
   repeat refine DC.seq ?_
   apply KZ
   .intro z J;refine bX W W W W W ?_;refine aC W W j W W W ?_;exact TL.nil W
   exact DC.ret ⟨_,W,_,⟨W,W⟩,k⟩
  .rw[h];rw[agw (by omega),agw (by omega),agK W];obtain⟨i,t,N,R⟩:=Dz ⟨v,n,Q⟩;rw[R];have J:=tI A e.nm;rw[N]at J;have z:=xN t;generalize en[i]=V at z;unfold En.cells at z
   repeat refine DC.seq ?_
   refine DC.block ?_
   repeat refine DC.seq ?_
   apply KZ
   .intro S T;refine av W W W (r:=.bool false) W ?_;refine ah W W ?_;exact TL.nil W
   repeat refine DC.seq ?_
   refine Lc W ?_
   repeat refine DC.seq ?_
   apply KZ
   .intro S T;refine av W W W (r:=.bool false) W ?_;refine ah W W ?_;exact TL.nil W
   repeat refine DC.seq ?_
   refine Lc W ?_
   repeat refine DC.seq ?_
   apply KZ
   .intro S T;refine av W W W (r:=.bool false) W ?_;refine ah W W ?_;exact TL.nil W
   repeat refine DC.seq ?_
   refine Lc W ?_
   repeat refine DC.seq ?_
   apply KZ
   .intro S T;refine av W W W (r:=.bool false) W ?_;refine ah W W ?_;exact TL.nil W
   repeat refine DC.seq ?_
   refine Lc W ?_;refine DC.skip ?_
   repeat refine DC.seq ?_
   apply KZ
   .intro S T;refine ay W W ?_;refine ax W W W ?_;exact TL.nil W
   repeat refine DC.seq ?_
   refine DC.block ?_
   repeat refine DC.seq ?_
   apply KZ
   .intro S T;refine av W W W (r:=.bool false) W ?_;refine ah W W ?_;exact TL.nil W
   repeat refine DC.seq ?_
   refine Lc W ?_
   repeat refine DC.seq ?_
   apply KZ
   .intro S T;refine av W W W (r:=.bool false) W ?_;refine ah W W ?_;exact TL.nil W
   repeat refine DC.seq ?_
   refine Lc W ?_
   repeat refine DC.seq ?_
   apply KZ
   .intro S T;refine av W W W (r:=.bool true) W ?_;refine ah W W ?_;exact TL.nil W
   repeat refine DC.seq ?_
   refine Lo W ?_
   repeat refine DC.seq ?_
   apply Le mixed
   .intro S T;refine aO W W ?_;refine bO W W W ?_;refine bI W W ?_;refine bI W W ?_;refine cd W W W ?_;refine aO W W ?_;refine bO W W W ?_;refine bI W W ?_;refine bI W W ?_;refine cd W W W ?_;refine bI W W ?_;refine cd W W W ?_;refine bc J W W ?_;refine bE W W W (ago i) z W ?_;refine bI W W ?_;refine cd W W W ?_;refine dU W W W W W ?_;refine bS W W j W W W ?_;exact TF.nil ⟨by kernel_rfl,rfl⟩
   exact DC.ret ⟨_,W,_,⟨W,W⟩,k⟩
  .rw[h];rw[agw (by omega),agw (by omega),agw (by omega),agK (.inl W)];obtain⟨i,t,g,_⟩:=Bh p s;have z:=tH l e.nm q;rw[g]at z;have J:=Hn p q s;have N:decide (((i:Nat):Int)<0)=false:=ahc (by omega)
   repeat refine DC.seq ?_
   refine DC.block ?_
   repeat refine DC.seq ?_
   apply KZ
   .intro R S;refine av W W W (r:=.bool true) W ?_;refine ah W W ?_;exact TL.nil W
   repeat refine DC.seq ?_
   refine Lo W ?_;refine DC.skip ?_
   repeat refine DC.seq ?_
   refine Lo W ?_
   repeat refine DC.seq ?_
   apply KZ
   .intro R S;refine ai W W ?_;refine ay W W ?_;refine ax W W W ?_;refine aL z W W ?_
    (refine av W W W (r:=.bool false) (by show some (D.bool (decide (((i:Nat):Int)<0)))=_;rw[N]) ?_)
    exact TL.nil W
   repeat refine DC.seq ?_
   refine Lc W ?_;refine DC.skip ?_
   repeat refine DC.seq ?_
   apply KZ
   .intro R S;refine ay W W ?_;refine ax W W W ?_;exact TL.nil W
   repeat refine DC.seq ?_
   refine DC.block ?_
   repeat refine DC.seq ?_
   apply KZ
   .intro R S;refine av W W W (r:=.bool false) W ?_;refine ah W W ?_;exact TL.nil W
   repeat refine DC.seq ?_
   refine Lc W ?_
   repeat refine DC.seq ?_
   apply KZ
   .intro R S;refine av W W W (r:=.bool false) W ?_;refine ah W W ?_;exact TL.nil W
   repeat refine DC.seq ?_
   refine Lc W ?_
   repeat refine DC.seq ?_
   apply KZ
   .intro R S;refine av W W W (r:=.bool false) W ?_;refine ah W W ?_;exact TL.nil W
   repeat refine DC.seq ?_
   refine Lc W ?_
   repeat refine DC.seq ?_
   apply KZ
   .intro R S;refine av W W W (r:=.bool true) W ?_;refine ah W W ?_;exact TL.nil W
   repeat refine DC.seq ?_
   refine Lo W ?_;refine DC.skip ?_
   repeat refine DC.seq ?_
   refine Lo W ?_
   repeat refine DC.seq ?_
   apply KZ
   .intro R S;refine ai W W ?_;refine ay W W ?_;refine ax W W W ?_;refine aL J W W ?_;refine aC W W j W W W ?_;exact TL.nil W
   exact DC.ret ⟨_,W,_,⟨W,W⟩,k⟩
  .rw[h];rw[agw (by omega),agw (by omega),agw (by omega),agK (.inr W)];obtain⟨i,t,g,_⟩:=Bh p s;have z:=tH l e.nm q;rw[g]at z;have J:=Hn p q s;have N:decide (((i:Nat):Int)<0)=false:=ahc (by omega)
   repeat refine DC.seq ?_
   refine DC.block ?_
   repeat refine DC.seq ?_
   apply KZ
   .intro R S;refine av W W W (r:=.bool false) W ?_;refine ah W W ?_;exact TL.nil W
   repeat refine DC.seq ?_
   refine Lc W ?_
   repeat refine DC.seq ?_
   apply KZ
   .intro R S;refine av W W W (r:=.bool true) W ?_;refine ah W W ?_;exact TL.nil W
   repeat refine DC.seq ?_
   refine Lo W ?_;refine DC.skip ?_
   repeat refine DC.seq ?_
   refine Lo W ?_
   repeat refine DC.seq ?_
   apply KZ
   .intro R S;refine ai W W ?_;refine ay W W ?_;refine ax W W W ?_;refine aL z W W ?_
    (refine av W W W (r:=.bool false) (by show some (D.bool (decide (((i:Nat):Int)<0)))=_;rw[N]) ?_)
    exact TL.nil W
   repeat refine DC.seq ?_
   refine Lc W ?_;refine DC.skip ?_
   repeat refine DC.seq ?_
   apply KZ
   .intro R S;refine ay W W ?_;refine ax W W W ?_;exact TL.nil W
   repeat refine DC.seq ?_
   refine DC.block ?_
   repeat refine DC.seq ?_
   apply KZ
   .intro R S;refine av W W W (r:=.bool false) W ?_;refine ah W W ?_;exact TL.nil W
   repeat refine DC.seq ?_
   refine Lc W ?_
   repeat refine DC.seq ?_
   apply KZ
   .intro R S;refine av W W W (r:=.bool false) W ?_;refine ah W W ?_;exact TL.nil W
   repeat refine DC.seq ?_
   refine Lc W ?_
   repeat refine DC.seq ?_
   apply KZ
   .intro R S;refine av W W W (r:=.bool false) W ?_;refine ah W W ?_;exact TL.nil W
   repeat refine DC.seq ?_
   refine Lc W ?_
   repeat refine DC.seq ?_
   apply KZ
   .intro R S;refine av W W W (r:=.bool false) W ?_;refine ah W W ?_;exact TL.nil W
   repeat refine DC.seq ?_
   refine Lc W ?_
   repeat refine DC.seq ?_
   apply KZ
   .intro R S;refine av W W W (r:=.bool true) W ?_;refine ah W W ?_;exact TL.nil W
   repeat refine DC.seq ?_
   refine Lo W ?_
   repeat refine DC.seq ?_
   apply KZ
   .intro R S;refine ai W W ?_;refine ay W W ?_;refine ax W W W ?_;refine aL J W W ?_;refine aC W W j W W W ?_;exact TL.nil W
   exact DC.ret ⟨_,W,_,⟨W,W⟩,k⟩
  .rcases h with h|h
   .rw[agw (by omega),agw (by omega),agw (by omega),agw (by omega),agK (.inl h)];have z:=tK e (e.kids.map (dD en f)) (dD en f a) (by rw[d];rfl) H (by rw[agt];exact E) (by intro v n;rw[agC]at n;obtain⟨J,N,rfl⟩:=n;exact I J N);rw[e.aj]at z;rw[h]at z⊢
    repeat refine DC.seq ?_
    refine DC.block ?_
    repeat refine DC.seq ?_
    apply KZ
    .intro R S;refine av W W W (r:=.bool false) W ?_;refine ah W W ?_;exact TL.nil W
    repeat refine DC.seq ?_
    refine Lc W ?_
    repeat refine DC.seq ?_
    apply KZ
    .intro R S;refine av W W W (r:=.bool false) W ?_;refine ah W W ?_;exact TL.nil W
    repeat refine DC.seq ?_
    refine Lc W ?_
    repeat refine DC.seq ?_
    apply KZ
    .intro R S;refine av W W W (r:=.bool false) W ?_;refine ah W W ?_;exact TL.nil W
    repeat refine DC.seq ?_
    refine Lc W ?_
    repeat refine DC.seq ?_
    apply KZ
    .intro R S;refine av W W W (r:=.bool false) W ?_;refine ah W W ?_;exact TL.nil W
    repeat refine DC.seq ?_
    refine Lc W ?_;refine DC.skip ?_
    repeat refine DC.seq ?_
    apply KZ
    .intro R S;refine ay W W ?_;refine ax W W W ?_;exact TL.nil W
    repeat refine DC.seq ?_
    refine DC.block ?_
    repeat refine DC.seq ?_
    apply KZ
    .intro R S;refine av W W W (r:=.bool false) W ?_;refine ah W W ?_;exact TL.nil W
    repeat refine DC.seq ?_
    refine Lc W ?_
    repeat refine DC.seq ?_
    apply KZ
    .intro R S;refine av W W W (r:=.bool false) W ?_;refine ah W W ?_;exact TL.nil W
    repeat refine DC.seq ?_
    refine Lc W ?_
    repeat refine DC.seq ?_
    apply KZ
    .intro R S;refine av W W W (r:=.bool false) W ?_;refine ah W W ?_;exact TL.nil W
    repeat refine DC.seq ?_
    refine Lc W ?_
    repeat refine DC.seq ?_
    apply KZ
    .intro R S;refine av W W W (r:=.bool false) W ?_;refine ah W W ?_;exact TL.nil W
    repeat refine DC.seq ?_
    refine Lc W ?_
    repeat refine DC.seq ?_
    apply KZ
    .intro R S;refine av W W W (r:=.bool false) W ?_;refine ah W W ?_;exact TL.nil W
    repeat refine DC.seq ?_
    refine Lc W ?_
    repeat refine DC.seq ?_
    apply KZ
    .intro R S;refine av W W W (r:=.bool true) W ?_;refine ah W W ?_;exact TL.nil W
    repeat refine DC.seq ?_
    refine Lo W ?_;refine DC.skip ?_
    repeat refine DC.seq ?_
    refine Lo W ?_
    repeat refine DC.seq ?_
    apply KZ
    .intro R S;refine aK W W W ?_;refine ai W W ?_;refine aL z W W ?_;refine aC W W j W W W ?_;exact TL.nil W
    exact DC.ret ⟨_,W,_,⟨W,W⟩,k⟩
   .rw[agw (by omega),agw (by omega),agw (by omega),agw (by omega),agK (.inr h)];have z:=tK e (e.kids.map (dD en f)) (dD en f a) (by rw[d];rfl) H (by rw[agt];exact E) (by intro v n;rw[agC]at n;obtain⟨J,N,rfl⟩:=n;exact I J N);rw[e.aj]at z;rw[h]at z⊢
    repeat refine DC.seq ?_
    refine DC.block ?_
    repeat refine DC.seq ?_
    apply KZ
    .intro R S;refine av W W W (r:=.bool false) W ?_;refine ah W W ?_;exact TL.nil W
    repeat refine DC.seq ?_
    refine Lc W ?_
    repeat refine DC.seq ?_
    apply KZ
    .intro R S;refine av W W W (r:=.bool false) W ?_;refine ah W W ?_;exact TL.nil W
    repeat refine DC.seq ?_
    refine Lc W ?_
    repeat refine DC.seq ?_
    apply KZ
    .intro R S;refine av W W W (r:=.bool false) W ?_;refine ah W W ?_;exact TL.nil W
    repeat refine DC.seq ?_
    refine Lc W ?_
    repeat refine DC.seq ?_
    apply KZ
    .intro R S;refine av W W W (r:=.bool false) W ?_;refine ah W W ?_;exact TL.nil W
    repeat refine DC.seq ?_
    refine Lc W ?_;refine DC.skip ?_
    repeat refine DC.seq ?_
    apply KZ
    .intro R S;refine ay W W ?_;refine ax W W W ?_;exact TL.nil W
    repeat refine DC.seq ?_
    refine DC.block ?_
    repeat refine DC.seq ?_
    apply KZ
    .intro R S;refine av W W W (r:=.bool false) W ?_;refine ah W W ?_;exact TL.nil W
    repeat refine DC.seq ?_
    refine Lc W ?_
    repeat refine DC.seq ?_
    apply KZ
    .intro R S;refine av W W W (r:=.bool false) W ?_;refine ah W W ?_;exact TL.nil W
    repeat refine DC.seq ?_
    refine Lc W ?_
    repeat refine DC.seq ?_
    apply KZ
    .intro R S;refine av W W W (r:=.bool false) W ?_;refine ah W W ?_;exact TL.nil W
    repeat refine DC.seq ?_
    refine Lc W ?_
    repeat refine DC.seq ?_
    apply KZ
    .intro R S;refine av W W W (r:=.bool false) W ?_;refine ah W W ?_;exact TL.nil W
    repeat refine DC.seq ?_
    refine Lc W ?_
    repeat refine DC.seq ?_
    apply KZ
    .intro R S;refine av W W W (r:=.bool false) W ?_;refine ah W W ?_;exact TL.nil W
    repeat refine DC.seq ?_
    refine Lc W ?_
    repeat refine DC.seq ?_
    apply KZ
    .intro R S;refine av W W W (r:=.bool false) W ?_;refine ah W W ?_;exact TL.nil W
    repeat refine DC.seq ?_
    refine Lc W ?_
    repeat refine DC.seq ?_
    apply KZ
    .intro R S;refine av W W W (r:=.bool true) W ?_;refine ah W W ?_;exact TL.nil W
    repeat refine DC.seq ?_
    refine Lo W ?_
    repeat refine DC.seq ?_
    apply KZ
    .intro R S;refine aK W W W ?_;refine ai W W ?_;refine aL z W W ?_;refine aC W W j W W W ?_;exact TL.nil W
    exact DC.ret ⟨_,W,_,⟨W,W⟩,k⟩
  .rw[agw (by omega),agw (by omega),agw (by omega),agw (by omega),agw (by omega)];have J:(match e.kids with|[]=>((0:Int),(⟨#[]⟩:Nm))|a::r=>if e.kd=8 then(match r with|[]=>(0,⟨#[]⟩)|b::_=>dD en f b)else dD en f a)=dD en f b:=by rw[d,h];rfl
   rw[J,h];have N:((e.kids.map (dD en f)).map fH)[((0:Nat):Int).toNat]?=some (fH (dD en f a)):=by rw[d];rfl
   have z:((e.kids.map (dD en f)).map fH)[((1:Nat):Int).toNat]?=some (fH (dD en f b)):=by rw[d];rfl
   have R:((e.kids.map (dD en f)).map fH)[((2:Nat):Int).toNat]?=some (fH (dD en f c)):=by rw[d];rfl
   have S:((dD en f a).1 !=1)=false:=by simp[g]
   have T:=Bi y
   repeat refine DC.seq ?_
   refine DC.block ?_
   repeat refine DC.seq ?_
   apply KZ
   .intro V X;refine av W W W (r:=.bool false) W ?_;refine ah W W ?_;exact TL.nil W
   repeat refine DC.seq ?_
   refine Lc W ?_
   repeat refine DC.seq ?_
   apply KZ
   .intro V X;refine av W W W (r:=.bool false) W ?_;refine ah W W ?_;exact TL.nil W
   repeat refine DC.seq ?_
   refine Lc W ?_
   repeat refine DC.seq ?_
   apply KZ
   .intro V X;refine av W W W (r:=.bool false) W ?_;refine ah W W ?_;exact TL.nil W
   repeat refine DC.seq ?_
   refine Lc W ?_
   repeat refine DC.seq ?_
   apply KZ
   .intro V X;refine av W W W (r:=.bool false) W ?_;refine ah W W ?_;exact TL.nil W
   repeat refine DC.seq ?_
   refine Lc W ?_;refine DC.skip ?_
   repeat refine DC.seq ?_
   apply KZ
   .intro V X;refine ay W W ?_;refine ax W W W ?_;exact TL.nil W
   repeat refine DC.seq ?_
   refine DC.block ?_
   repeat refine DC.seq ?_
   apply KZ
   .intro V X;refine av W W W (r:=.bool false) W ?_;refine ah W W ?_;exact TL.nil W
   repeat refine DC.seq ?_
   refine Lc W ?_
   repeat refine DC.seq ?_
   apply KZ
   .intro V X;refine av W W W (r:=.bool false) W ?_;refine ah W W ?_;exact TL.nil W
   repeat refine DC.seq ?_
   refine Lc W ?_
   repeat refine DC.seq ?_
   apply KZ
   .intro V X;refine av W W W (r:=.bool false) W ?_;refine ah W W ?_;exact TL.nil W
   repeat refine DC.seq ?_
   refine Lc W ?_
   repeat refine DC.seq ?_
   apply KZ
   .intro V X;refine av W W W (r:=.bool false) W ?_;refine ah W W ?_;exact TL.nil W
   repeat refine DC.seq ?_
   refine Lc W ?_
   repeat refine DC.seq ?_
   apply KZ
   .intro V X;refine av W W W (r:=.bool false) W ?_;refine ah W W ?_;exact TL.nil W
   repeat refine DC.seq ?_
   refine Lc W ?_
   repeat refine DC.seq ?_
   apply KZ
   .intro V X;refine av W W W (r:=.bool false) W ?_;refine ah W W ?_;exact TL.nil W
   repeat refine DC.seq ?_
   refine Lc W ?_
   repeat refine DC.seq ?_
   apply KZ
   .intro V X;refine av W W W (r:=.bool false) W ?_;refine ah W W ?_;exact TL.nil W
   repeat refine DC.seq ?_
   refine Lc W ?_
   repeat refine DC.seq ?_
   apply KZ
   .intro V X;refine av W W W (r:=.bool true) W ?_;refine ah W W ?_;exact TL.nil W
   repeat refine DC.seq ?_
   refine Lo W ?_
   repeat refine DC.seq ?_
   apply Le mixed
   .intro V X;refine aO W W ?_;refine bE W W W (ago 0) N W ?_;refine bI W W ?_;refine cd W W W ?_
    (refine lY W W W (r:=.bool false) (by show some (D.bool ((dD en f a).1 !=1))=_;rw[S]) ?_)
    refine aO W W ?_;refine bA W W ?_;refine aO W W ?_;refine bA W W ?_;refine bE W W W (ago 1) z W ?_;refine bA W W ?_;refine cx W W W ?_;refine bA W W ?_;refine aO W W ?_;refine bA W W ?_;refine bE W W W (ago 2) R W ?_;refine bA W W ?_;refine cx W W W ?_;refine bA W W ?_;refine tu W W W ?_;rw[T];refine qZ W W W ?_;exact TF.nil ⟨by kernel_rfl,rfl⟩
   repeat refine DC.seq ?_
   refine Lc W ?_;refine DC.skip ?_
   repeat refine DC.seq ?_
   apply KZ
   .intro V X;refine ai W W ?_;refine aN W W W (ago 1) z W ?_;refine aK W W W ?_;refine aC W W j W W W ?_;exact TL.nil W
   exact DC.ret ⟨_,W,_,⟨W,W⟩,k⟩
  .rcases h with h|h
   .rw[agw (by omega),agw (by omega),agw (by omega),agw (by omega),agw (by omega)];have J:(match e.kids with|[]=>((0:Int),(⟨#[]⟩:Nm))|a::r=>if e.kd=8 then(match r with|[]=>(0,⟨#[]⟩)|b::_=>dD en f b)else dD en f a)=dD en f a:=by rw[d,h];rfl
    rw[J,h];have z:((e.kids.map (dD en f)).map fH)[((0:Nat):Int).toNat]?=some (fH (dD en f a)):=by rw[d];rfl
    have N:((e.kids.map (dD en f)).map fH)[((1:Nat):Int).toNat]?=some (fH (dD en f b)):=by rw[d];rfl
    have R:=Bi g
    repeat refine DC.seq ?_
    refine DC.block ?_
    repeat refine DC.seq ?_
    apply KZ
    .intro S T;refine av W W W (r:=.bool false) W ?_;refine ah W W ?_;exact TL.nil W
    repeat refine DC.seq ?_
    refine Lc W ?_
    repeat refine DC.seq ?_
    apply KZ
    .intro S T;refine av W W W (r:=.bool false) W ?_;refine ah W W ?_;exact TL.nil W
    repeat refine DC.seq ?_
    refine Lc W ?_
    repeat refine DC.seq ?_
    apply KZ
    .intro S T;refine av W W W (r:=.bool false) W ?_;refine ah W W ?_;exact TL.nil W
    repeat refine DC.seq ?_
    refine Lc W ?_
    repeat refine DC.seq ?_
    apply KZ
    .intro S T;refine av W W W (r:=.bool false) W ?_;refine ah W W ?_;exact TL.nil W
    repeat refine DC.seq ?_
    refine Lc W ?_;refine DC.skip ?_
    repeat refine DC.seq ?_
    apply KZ
    .intro S T;refine ay W W ?_;refine ax W W W ?_;exact TL.nil W
    repeat refine DC.seq ?_
    refine DC.block ?_
    repeat refine DC.seq ?_
    apply KZ
    .intro S T;refine av W W W (r:=.bool false) W ?_;refine ah W W ?_;exact TL.nil W
    repeat refine DC.seq ?_
    refine Lc W ?_
    repeat refine DC.seq ?_
    apply KZ
    .intro S T;refine av W W W (r:=.bool false) W ?_;refine ah W W ?_;exact TL.nil W
    repeat refine DC.seq ?_
    refine Lc W ?_
    repeat refine DC.seq ?_
    apply KZ
    .intro S T;refine av W W W (r:=.bool false) W ?_;refine ah W W ?_;exact TL.nil W
    repeat refine DC.seq ?_
    refine Lc W ?_
    repeat refine DC.seq ?_
    apply KZ
    .intro S T;refine av W W W (r:=.bool false) W ?_;refine ah W W ?_;exact TL.nil W
    repeat refine DC.seq ?_
    refine Lc W ?_
    repeat refine DC.seq ?_
    apply KZ
    .intro S T;refine av W W W (r:=.bool false) W ?_;refine ah W W ?_;exact TL.nil W
    repeat refine DC.seq ?_
    refine Lc W ?_
    repeat refine DC.seq ?_
    apply KZ
    .intro S T;refine av W W W (r:=.bool false) W ?_;refine ah W W ?_;exact TL.nil W
    repeat refine DC.seq ?_
    refine Lc W ?_
    repeat refine DC.seq ?_
    apply KZ
    .intro S T;refine av W W W (r:=.bool false) W ?_;refine ah W W ?_;exact TL.nil W
    repeat refine DC.seq ?_
    refine Lc W ?_
    repeat refine DC.seq ?_
    apply KZ
    .intro S T;refine av W W W (r:=.bool false) W ?_;refine ah W W ?_;exact TL.nil W
    repeat refine DC.seq ?_
    refine Lc W ?_
    repeat refine DC.seq ?_
    apply KZ
    .intro S T;refine av W W W (r:=.bool true) W ?_;refine ah W W ?_;exact TL.nil W
    repeat refine DC.seq ?_
    refine Lo W ?_;refine DC.skip ?_
    repeat refine DC.seq ?_
    refine Lo W ?_
    repeat refine DC.seq ?_
    apply Le mixed
    .intro S T;refine aO W W ?_;refine bE W W W (ago 0) z W ?_;refine cx W W W ?_;refine aO W W ?_;refine bE W W W (ago 1) N W ?_;refine cx W W W ?_
     (refine tu W W W ?_;rw[R])
     exact TF.nil ⟨by kernel_rfl,rfl⟩
    repeat refine DC.seq ?_
    refine Lc W ?_;refine DC.skip ?_
    repeat refine DC.seq ?_
    apply KZ
    .intro S T;refine ai W W ?_;refine aN W W W (ago 0) z W ?_;refine aK W W W ?_;refine aC W W j W W W ?_;exact TL.nil W
    exact DC.ret ⟨_,W,_,⟨W,W⟩,k⟩
   .rw[agw (by omega),agw (by omega),agw (by omega),agw (by omega),agw (by omega)];have J:(match e.kids with|[]=>((0:Int),(⟨#[]⟩:Nm))|a::r=>if e.kd=8 then(match r with|[]=>(0,⟨#[]⟩)|b::_=>dD en f b)else dD en f a)=dD en f a:=by rw[d,h];rfl
    rw[J,h];have z:((e.kids.map (dD en f)).map fH)[((0:Nat):Int).toNat]?=some (fH (dD en f a)):=by rw[d];rfl
    have N:((e.kids.map (dD en f)).map fH)[((1:Nat):Int).toNat]?=some (fH (dD en f b)):=by rw[d];rfl
    have R:=Bi g
    repeat refine DC.seq ?_
    refine DC.block ?_
    repeat refine DC.seq ?_
    apply KZ
    .intro S T;refine av W W W (r:=.bool false) W ?_;refine ah W W ?_;exact TL.nil W
    repeat refine DC.seq ?_
    refine Lc W ?_
    repeat refine DC.seq ?_
    apply KZ
    .intro S T;refine av W W W (r:=.bool false) W ?_;refine ah W W ?_;exact TL.nil W
    repeat refine DC.seq ?_
    refine Lc W ?_
    repeat refine DC.seq ?_
    apply KZ
    .intro S T;refine av W W W (r:=.bool false) W ?_;refine ah W W ?_;exact TL.nil W
    repeat refine DC.seq ?_
    refine Lc W ?_
    repeat refine DC.seq ?_
    apply KZ
    .intro S T;refine av W W W (r:=.bool false) W ?_;refine ah W W ?_;exact TL.nil W
    repeat refine DC.seq ?_
    refine Lc W ?_;refine DC.skip ?_
    repeat refine DC.seq ?_
    apply KZ
    .intro S T;refine ay W W ?_;refine ax W W W ?_;exact TL.nil W
    repeat refine DC.seq ?_
    refine DC.block ?_
    repeat refine DC.seq ?_
    apply KZ
    .intro S T;refine av W W W (r:=.bool false) W ?_;refine ah W W ?_;exact TL.nil W
    repeat refine DC.seq ?_
    refine Lc W ?_
    repeat refine DC.seq ?_
    apply KZ
    .intro S T;refine av W W W (r:=.bool false) W ?_;refine ah W W ?_;exact TL.nil W
    repeat refine DC.seq ?_
    refine Lc W ?_
    repeat refine DC.seq ?_
    apply KZ
    .intro S T;refine av W W W (r:=.bool false) W ?_;refine ah W W ?_;exact TL.nil W
    repeat refine DC.seq ?_
    refine Lc W ?_
    repeat refine DC.seq ?_
    apply KZ
    .intro S T;refine av W W W (r:=.bool false) W ?_;refine ah W W ?_;exact TL.nil W
    repeat refine DC.seq ?_
    refine Lc W ?_
    repeat refine DC.seq ?_
    apply KZ
    .intro S T;refine av W W W (r:=.bool false) W ?_;refine ah W W ?_;exact TL.nil W
    repeat refine DC.seq ?_
    refine Lc W ?_
    repeat refine DC.seq ?_
    apply KZ
    .intro S T;refine av W W W (r:=.bool false) W ?_;refine ah W W ?_;exact TL.nil W
    repeat refine DC.seq ?_
    refine Lc W ?_
    repeat refine DC.seq ?_
    apply KZ
    .intro S T;refine av W W W (r:=.bool false) W ?_;refine ah W W ?_;exact TL.nil W
    repeat refine DC.seq ?_
    refine Lc W ?_
    repeat refine DC.seq ?_
    apply KZ
    .intro S T;refine av W W W (r:=.bool false) W ?_;refine ah W W ?_;exact TL.nil W
    repeat refine DC.seq ?_
    refine Lc W ?_
    repeat refine DC.seq ?_
    apply KZ
    .intro S T;refine av W W W (r:=.bool false) W ?_;refine ah W W ?_;exact TL.nil W
    repeat refine DC.seq ?_
    refine Lc W ?_
    repeat refine DC.seq ?_
    apply KZ
    .intro S T;refine av W W W (r:=.bool true) W ?_;refine ah W W ?_;exact TL.nil W
    repeat refine DC.seq ?_
    refine Lo W ?_
    repeat refine DC.seq ?_
    apply Le mixed
    .intro S T;refine aO W W ?_;refine bE W W W (ago 0) z W ?_;refine cx W W W ?_;refine aO W W ?_;refine bE W W W (ago 1) N W ?_;refine cx W W W ?_
     (refine tu W W W ?_;rw[R])
     exact TF.nil ⟨by kernel_rfl,rfl⟩
    repeat refine DC.seq ?_
    refine Lc W ?_;refine DC.skip ?_
    repeat refine DC.seq ?_
    apply KZ
    .intro S T;refine ai W W ?_;refine aN W W W (ago 0) z W ?_;refine aK W W W ?_;refine aC W W j W W W ?_;exact TL.nil W
    exact DC.ret ⟨_,W,_,⟨W,W⟩,k⟩
  .rw[agw (by omega),agw (by omega),agw (by omega),agw (by omega),agw (by omega)];have z:(match e.kids with|[]=>((0:Int),(⟨#[]⟩:Nm))|a::r=>if e.kd=8 then(match r with|[]=>(0,⟨#[]⟩)|b::_=>dD en f b)else dD en f a)=dD en f a:=by rw[d,h];rfl
   rw[z,h];have J:((e.kids.map (dD en f)).map fH)[((0:Nat):Int).toNat]?=some (fH (dD en f a)):=by rw[d];rfl
   repeat refine DC.seq ?_
   refine DC.block ?_
   repeat refine DC.seq ?_
   apply KZ
   .intro N R;refine av W W W (r:=.bool false) W ?_;refine ah W W ?_;exact TL.nil W
   repeat refine DC.seq ?_
   refine Lc W ?_
   repeat refine DC.seq ?_
   apply KZ
   .intro N R;refine av W W W (r:=.bool false) W ?_;refine ah W W ?_;exact TL.nil W
   repeat refine DC.seq ?_
   refine Lc W ?_
   repeat refine DC.seq ?_
   apply KZ
   .intro N R;refine av W W W (r:=.bool false) W ?_;refine ah W W ?_;exact TL.nil W
   repeat refine DC.seq ?_
   refine Lc W ?_
   repeat refine DC.seq ?_
   apply KZ
   .intro N R;refine av W W W (r:=.bool false) W ?_;refine ah W W ?_;exact TL.nil W
   repeat refine DC.seq ?_
   refine Lc W ?_;refine DC.skip ?_
   repeat refine DC.seq ?_
   apply KZ
   .intro N R;refine ay W W ?_;refine ax W W W ?_;exact TL.nil W
   repeat refine DC.seq ?_
   refine DC.block ?_
   repeat refine DC.seq ?_
   apply KZ
   .intro N R;refine av W W W (r:=.bool false) W ?_;refine ah W W ?_;exact TL.nil W
   repeat refine DC.seq ?_
   refine Lc W ?_
   repeat refine DC.seq ?_
   apply KZ
   .intro N R;refine av W W W (r:=.bool false) W ?_;refine ah W W ?_;exact TL.nil W
   repeat refine DC.seq ?_
   refine Lc W ?_
   repeat refine DC.seq ?_
   apply KZ
   .intro N R;refine av W W W (r:=.bool false) W ?_;refine ah W W ?_;exact TL.nil W
   repeat refine DC.seq ?_
   refine Lc W ?_
   repeat refine DC.seq ?_
   apply KZ
   .intro N R;refine av W W W (r:=.bool false) W ?_;refine ah W W ?_;exact TL.nil W
   repeat refine DC.seq ?_
   refine Lc W ?_
   repeat refine DC.seq ?_
   apply KZ
   .intro N R;refine av W W W (r:=.bool false) W ?_;refine ah W W ?_;exact TL.nil W
   repeat refine DC.seq ?_
   refine Lc W ?_
   repeat refine DC.seq ?_
   apply KZ
   .intro N R;refine av W W W (r:=.bool false) W ?_;refine ah W W ?_;exact TL.nil W
   repeat refine DC.seq ?_
   refine Lc W ?_
   repeat refine DC.seq ?_
   apply KZ
   .intro N R;refine av W W W (r:=.bool false) W ?_;refine ah W W ?_;exact TL.nil W
   repeat refine DC.seq ?_
   refine Lc W ?_
   repeat refine DC.seq ?_
   apply KZ
   .intro N R;refine av W W W (r:=.bool false) W ?_;refine ah W W ?_;exact TL.nil W
   repeat refine DC.seq ?_
   refine Lc W ?_
   repeat refine DC.seq ?_
   apply KZ
   .intro N R;refine av W W W (r:=.bool false) W ?_;refine ah W W ?_;exact TL.nil W
   repeat refine DC.seq ?_
   refine Lc W ?_
   repeat refine DC.seq ?_
   apply KZ
   .intro N R;refine av W W W (r:=.bool false) W ?_;refine ah W W ?_;exact TL.nil W
   repeat refine DC.seq ?_
   refine Lc W ?_
   repeat refine DC.seq ?_
   apply KZ
   .intro N R;refine av W W W (r:=.bool false) W ?_;refine ah W W ?_;exact TL.nil W
   repeat refine DC.seq ?_
   refine Lc W ?_
   repeat refine DC.seq ?_
   apply KZ
   .intro N R;refine av W W W (r:=.bool false) W ?_;refine ah W W ?_;exact TL.nil W
   repeat refine DC.seq ?_
   refine Lc W ?_;refine DC.skip ?_
   repeat refine DC.seq ?_
   apply KZ
   .intro N R;refine ai W W ?_;refine aN W W W (ago 0) J W ?_;refine aK W W W ?_;refine aC W W j W W W ?_;exact TL.nil W
   exact DC.ret ⟨_,W,_,⟨W,W⟩,k⟩
termination_by SizeOf.sizeOf e
def Km{sl:List (Nat×V)}{bx:List (Nat×List M)}{L:Hp}{A B:M}{cs:List M}(a:Go.Mt.get sl 6=some (.m (.ref 0 0)))(b:Go.Mt.get sl 7=some (.m (.ref 1 0)))(c:L[0]?=some (.box cs))(d:ef prog 53 cs 0=some A)(e:L[1]?=some (.box [B]))(f:ef prog 382 [B] 0=some B):
  s7 prog f307 ⟨sl,bx,L⟩=some (mi [A,B]):=by
 show(nL prog ⟨sl,bx,L⟩ [.cell 6 53,.cell 7 382]).map mi=_;simp only[nL,wC,a,b,c,e,d,f];rfl
def zf{p:Pg}(k:kL p.aG){a:List Va}{f:Nm->Int×Nm}(l:xQ a f)(m:a.length<=10000000)(e:Xp)(n:ou p.aG f (FG a) e):
  PT prog 307 [.agg p.cells,.sl (aB a),.agg e.cells] (·=[.agg (fH (dD p.aG f e)),.mh]):=by
 have j:=fv k (p.nodes.map Nd.cells) l m e n [.box [.d (.int .u8 0),.d (.str ⟨#[]⟩)],.box [.d .mh]] (λ_=>False) (λ_ h=>h);obtain⟨u,K,⟨v,⟨rfl,rfl⟩,o⟩,c⟩:=j;obtain⟨w,_,b⟩:=o;have q:=b.iG 0 (by simp) (λh=>h);have r:=b.iG 1 (by simp) (λh=>h);have x:2<=K.length:=b.len;rw[e.aj]at c⊢;refine Lk (CT.Fk (g:=312) (LX:=[.ref 1 0]) func307 W ntmps307 W
  (UJ:=⟨[(7,.m (.ref 1 0)),(6,.m (.ref 0 0)),(5,.m (.d (.ca (bD e.kd e.op e.num e.nm e.names (e.kids.map Xp.cells) e.ps) 0))),(3,.m (.d (.ca [.sl (p.aG.map En.cells),.sl (p.nodes.map Nd.cells)] 0))),(0,.m (.d (.agg [.sl (p.aG.map En.cells),.sl (p.nodes.map Nd.cells)]))),(1,.m (.d (.sl (aB a)))),(2,.m (.d (.agg (bD e.kd e.op e.num e.nm e.names (e.kids.map Xp.cells) e.ps))))],[],[.box [.d (.int .u8 0),.d (.str ⟨#[]⟩)],.box [.d .mh]]⟩)
  rfl W (by kernel_rfl) func312 W ntmps312 W W (λh i=>?_) (λh i d=>?_) (λK h i=>?_))
 rotate_right
 .repeat first|((with_reducible apply TC.seq))|((with_reducible apply TC.block))|((with_reducible apply LK);rfl)|((with_reducible apply Ll);rfl)|((with_reducible apply TC.skip))|((with_reducible apply TC.exit))|((with_reducible apply TC.ret))|((with_reducible apply gF))|((with_reducible apply qg))|((with_reducible apply tw))|((with_reducible apply kG))|((with_reducible apply tx))|((with_reducible apply qh))|((apply TC.region);(repeat first|((with_reducible apply II);rfl;rfl;rfl)|((with_reducible apply ah);rfl;rfl)|((with_reducible apply ai);rfl;rfl));(apply TL.nil))
  exact⟨.inl W,W,_,W⟩
 .repeat refine TC.seq ?_
  refine TC.region ?_;refine bp W W ?_;refine bp W W ?_;refine uH W ?_;refine uH W ?_;refine TL.nil ?_;exact⟨W,W⟩
 repeat refine TC.seq ?_
 refine TC.region ?_;refine aK W W W ?_;refine bX W W W W W ?_;refine bp W W ?_;refine ah W W ?_;refine TL.nil ?_;have s:=q;have t:(K.set 0 (.box ((fH (dD p.aG f e)).map M.d)))[1]?=some (.box [.d .mh]):=by rw[ag8 (by decide)];exact r
 repeat refine TC.seq ?_
 refine TC.region ?_;refine ai W W ?_;refine ai W W ?_;refine aK W W W ?_;refine aD c W W ?_;refine c8 W W s W W W ?_;refine c8 W W t W W W ?_;refine TL.nil ?_;refine TC.ret ⟨.inr W,_,Km W W (cs:=(fH (dD p.aG f e)).map M.d) ?_ W ?_ W,[_,_],W,W⟩
 .exact(ag8 (by decide)).trans (ajd (by omega))
 .exact ajd (by rw[aiP];omega)
end Go.Proofs.Pz
namespace Go.Ps
open Go.Mt Go.Sm
variable{F0:Nat->Prop}{H0 H:Hp}{r:List As}{im i:Nat}{p:Pg}{m:MS}{es:List (D×M)}
def gV(b:Nat)(p:Pg)(m:MS):As:=.ex λa:M=>Sep [.ob b (.box [.d (.sl (p.aG.map En.cells)),.d (.sl (p.nodes.map Nd.cells)),a,.d (.int .i64 ((m.n:Nat):Int))]),.acc 15 (aB m.vars) a]
def gV.close{mv:M}(w:Wk F0 H0 (.ob im (.box [.d (.sl (p.aG.map En.cells)),.d (.sl (p.nodes.map Nd.cells)),mv,.d (.int .i64 ((m.n:Nat):Int))]):: .acc 15 (aB m.vars) mv::r) H):Wk F0 H0 (gV im p m::r) H:=
 Ng (φ:= λmv:M=>Sep [.ob im (.box [.d (.sl (p.aG.map En.cells)),.d (.sl (p.nodes.map Nd.cells)),mv,.d (.int .i64 ((m.n:Nat):Int))]),.acc 15 (aB m.vars) mv]) mv (MP (a:=[_,_]) w)
def gV.open(w:Wk F0 H0 (gV im p m::r) H):∃mv,Wk F0 H0 (.ob im (.box [.d (.sl (p.aG.map En.cells)),.d (.sl (p.nodes.map Nd.cells)),mv,.d (.int .i64 ((m.n:Nat):Int))]):: .acc 15 (aB m.vars) mv::r) H:=by
 obtain⟨mv,w⟩:=w.open;exact⟨mv,w.split⟩
abbrev nG(b:Bd):List D:=[.str b.name,.int .i64 ((b.kK:Nat):Int),.int .u8 b.tk,.str b.tn]
def Env.dp(f:Env)(x:Nm):Nat:=match f x with|some b=>b.kK|none=>0
variable{f:Env}
structure iH(es:List (D×M))(f:Env):Prop where
 k:strKeys es=true
 nd:(es.map Prod.fst).Nodup
 l:∀x,eP x es=(f x).map λb=>M.d (.agg (nG b))
def cP(i:Nat)(f:Env):As:=.ex λa:List (D×M)=>Sep [.ob i (.map a),.fact (iH a f)]
def LQ(h:iH es f)(w:Wk F0 H0 (.ob i (.map es)::r) H):Wk F0 H0 (cP i f::r) H:=
 Ng (φ:= λes:List (D×M)=>Sep [.ob i (.map es),.fact (iH es f)]) es (MP (a:=[_,_]) ((Wk.zI h w).perm (List.Perm.swap _ _ _)))
def cP.open(w:Wk F0 H0 (cP i f::r) H):∃es,iH es f/\Wk F0 H0 (.ob i (.map es)::r) H:=by
 obtain⟨es,w⟩:=w.open;have w:=Wk.split (a:=[_,_]) w;have w:=w.perm (List.Perm.swap _ _ _);exact⟨es,w.BO,w.drop⟩
abbrev l9(iv il:Nat)(ck:List (Nm×Nm)):M:=.agg [.mp iv,.mp il,.d (.sl (bW ck))]
def py(x y:Nm)(v:M):∀{es:List (D×M)},strKeys es=true->eP y (dH x v es)=if y=x then some v else eP y es
 |[],_=>by
  rw[dH,gY];by_cases h:y=x
  .subst h;simp
  .rw[agw (ahJ h),agw h]
 |(d,m)::r,h=>by
  cases d with
  |str s=>
   rw[mZ];by_cases b:s=x
   .subst b;rw[agK W,gY,gY];by_cases a:y=s
    .subst a;simp
    .rw[agw (ahJ a),agw a,agw (ahJ a)]
   .rw[agw b,gY,gY,py x y v (es:=r) (by simpa [strKeys] using h)];by_cases a:s=y
    .subst a;rw[agK W,agK W,agw b]
    .rw[agw a,agw a]
  |_=>simp[strKeys]at h
def iH.set(h:iH es f)(x:Nm)(b:Bd):iH (dH x (.d (.agg (nG b))) es) (f.set x b):=by
 have d:=cI.1 h.k;have g:strKeys (dH x (.d (.agg (nG b))) es)=true/\((dH x (.d (.agg (nG b))) es).map Prod.fst).Nodup:=by
  rcases k_ (k:=x) (v:=.d (.agg (nG b))) d with a|⟨a,j⟩
  .refine⟨cI.2 λe c=>?_,by rw[a];exact h.nd⟩;have:e.1∈es.map Prod.fst:=a▸ag4 c;rw[agC]at this;obtain⟨i,l,m⟩:=this;rw[<-m];exact d i l
  .refine⟨cI.2 λe l=>?_,by rw[a,ah6];exact⟨h.nd,by simp,by intro p o b i;rw[ag9]at i;subst i;exactλe=>j (e▸o)⟩⟩;have:e.1∈es.map Prod.fst++[.str x]:=a▸ag4 l;rw[agG,ag9]at this;rcases this with c|c
   .rw[agC]at c;obtain⟨m,c,n⟩:=c;rw[<-n];exact d m c
   .exact⟨x,c⟩
 refine⟨g.1,g.2,λy=>?_⟩;rw[py x y _ h.k,h.l];unfold Env.set;by_cases a:y=x
 .rw[agK a,agK a];rfl
 .rw[agw a,agw a]
def iH.nil:iH [] (λ_=>none):=⟨rfl,by simp,λ_=>rfl⟩
end Go.Ps
namespace Go.Proofs.Pz
open Go.Mt Go.Sm Go.Ps Go.Proofs
open Tryz
variable{x y:Operand}{T t n off e i:Nat}{cs LP:List M}{es:List (D×M)}{f:Env}{kk:Nm}
section
variable{X:cY}{ops:Array Oper}{rest:List Oper}{post:St->Prop}{Lw:List Ef->St->Prop}{sl:List (Nat×V)}{bx:List (Nat×List M)}{H:Hp}{d ty:Nat}{pos:String}{af:Array Edge}
def u7{P:Program}[ht:dw P t n](a:sub cs off n=some LP):ef P t cs off=some (pack LP):=by
 obtain⟨b,c⟩:=sub_eq a;simp only[ef,ht.agg,ht.size,agV b,ag6];rw[c]
def dP[ht:dw X.P T n](a:Nat.blt d X.n=true)(b:bj sl x=some (.loc t off))(c:Go.Mt.get bx t=some cs)(e:sub cs off n=some LP)(f:fY LP=none)
  (k:TL X ops rest ⟨(d,.m (.agg LP))::sl,bx,H⟩ post):TL X ops (⟨some d,.load T x,ty,pos,af,none⟩::rest) ⟨sl,bx,H⟩ post:=
 LA W W a (qW b c (by rw[u7 e];simp[pack,f])) k
def mN[ht:dw X.P T n](a:Nat.blt d X.n=true)(b:bj sl x=some (.loc t off))(c:Go.Mt.get bx t=some cs)(f:sub cs off n=some LP)(g:fY LP=none)
  (k:TF X ops rest ⟨(d,.m (.agg LP))::sl,bx,H⟩ λa b=>Lw (⟨some d,.m (.agg LP),[t],[],none,false,none⟩::a) b):TF X ops (⟨some d,.load T x,ty,pos,af,none⟩::rest) ⟨sl,bx,H⟩ Lw:=
 TF.cons (e:=⟨some d,.m (.agg LP),[t],[],none,false,none⟩) (Lm W W (bL a) λa a=>qW ((a.ev (x:=x) (by simp[Op.operands,Call.operands])).trans b) ((a.bx t (by simp)).trans c) (by rw[u7 f];simp[pack,g])) W k
abbrev Ho(f:Env)(x:Nm):List D:=[.str (f.nm x),.int .i64 ((f.dp x:Nat):Int),.int .u8 (f.ty x).1,.str (f.ty x).2]
def Hq(h:iH es f)(x:Nm):(match eP x es with|some m=>m|none=>.d (.agg [.str ⟨#[]⟩,.int .i64 0,.int .u8 0,.str ⟨#[]⟩]))=M.d (.agg (Ho f x)):=by
 rw[h.l];unfold Ho Env.nm Env.dp Env.ty;cases f x<;>rfl
def kO[ht:iq X.P T e][j:fC X.P e (.agg [.str ⟨#[]⟩,.int .i64 0,.int .u8 0,.str ⟨#[]⟩])](a:iH es f)(b:H[i]?=some (.map es))(c:Nat.blt d X.n=true)(g:bj sl x=some (.m (.mp i)))(h:bj sl y=some (.m (.d (.str kk))))
  (k:TL X ops rest ⟨(d,.m (.d (.agg (Ho f kk))))::sl,bx,H⟩ post):TL X ops (⟨some d,.lookup T x y false,ty,pos,af,none⟩::rest) ⟨sl,bx,H⟩ post:=
 sv c g h b a.k (by rw[<-Hq a]at k;exact k)
def tM[ht:iq X.P T e][j:fC X.P e (.agg [.str ⟨#[]⟩,.int .i64 0,.int .u8 0,.str ⟨#[]⟩])](a:iH es f)(b:H[i]?=some (.map es))(c:Nat.blt d X.n=true)(g:bj sl x=some (.m (.mp i)))(h:bj sl y=some (.m (.d (.str kk))))
  (k:TF X ops rest ⟨(d,.m (.d (.agg (Ho f kk))))::sl,bx,H⟩ λes a=>Lw (⟨some d,.m (.d (.agg (Ho f kk))),[],[],none,true,none⟩::es) a):TF X ops (⟨some d,.lookup T x y false,ty,pos,af,none⟩::rest) ⟨sl,bx,H⟩ Lw:=
 xo c g h b a.k (by rw[<-Hq a]at k;exact k)
end
def sK{X:cY}{ops:Array Oper}{rest:List Oper}{a:List Ef->St->Prop}{sl:List (Nat×V)}{bx:List (Nat×List M)}{H:Hp}{d ty:Nat}{pos:String}{af:Array Edge}{b c:Nat}{s u:ByteArray}(e:Nat.blt d X.n=true)(f:bj sl x=some (.m (.d (.str s))))(g:bj sl y=some (.m (.d (.str u))))(h:Nat.ble s.size 1000=true)(i:u.size<=4000000000)
  (k:TF X ops rest ⟨(d,(.m (.d (.str (s++u)))))::sl,bx,H⟩ λb c=>a (⟨some d,(.m (.d (.str (s++u)))),[],[],none,false,none⟩::b) c):TF X ops (⟨some d,.binOp .add b x y c,ty,pos,af,none⟩::rest) ⟨sl,bx,H⟩ a:=
 oG e f g (by have:=agT h;omega) k
def rf(it d:Nat)(p:Pg)(m:MS)(y:m.n<1000000000)(z:m.vars.length<=10000000)(t:Int×Nm)(b:List (Nm×Nm))(A:b.length<=1000000):
  Dt prog 210 [.ref d 0,.d (.agg (fH t)),.d (.sl (bW b))] [.ob it bK,gV d p m] λr l=>r=.d (.str (nV (m.n+1)))/\l=[.ob it bK,gV d p (m.fresh t b)]:=by
 intro H F n;have w:=Wk.start n;have w:=w.pick [1,0];obtain⟨o,w⟩:=gV.open w;have c:=w.ob;have h:((m.n:Nat):Int)+1=((m.n+1:Nat):Int):=by omega
 have f:m.n+1<=1000000000:=by omega
 unfold MS.fresh;generalize B:m.n+1=k at h f⊢;refine Lj func210 W ntmps210 W ?_
 repeat refine DC.seq ?_
 apply KZ
 .intro C E;refine bp W W<|ah W W<|TL.nil W
 repeat refine DC.seq ?_
 apply KZ
 .intro C E;refine ai W W<|dG W W W<|eB W W<|eC W W c W ?_
  (refine aI W W W (by omega) ?_;rw[h])
  refine dG W W W<|eB W W<|c8 W W c W W W<|TL.nil W
 have w:=w.set (.box [.d (.sl (p.aG.map En.cells)),.d (.sl (p.nodes.map Nd.cells)),o,.d (.int .i64 ((k:Nat):Int))]);have c:=w.ob;have w:=w.pick [2,1,0];have q:=qo f w.ob;obtain⟨s,G,I,u,w,v⟩:=Wk.call (a:=[]) w (pt b (by omega));subst u
 repeat refine DC.seq ?_
 apply Le mixed
 .intro C E;refine aO W W<|bO W W W<|bJ W W<|dy W W c W<|fO q W W<|sK W W W W (agW (gR k f) (by omega:21<=4000000000))<|cx W W W<|aO W W<|bt v W W<|uV (cs:=[.d (.str (nV k)),.d (.int .u8 t.1),.d (.str t.2),s,.d (.bool false),.d (.int .u8 0),.d (.int .u8 0),.d (.int .i32 0),.d (.str ⟨#[]⟩),.d (.sl []),.d (.sl []),.d (.int .i64 0),.d (.int .i64 0),.d (.int .i64 0),.d (.int .i64 0)]) W W W (by simp only[jH];rw[w.zS];rfl)<|fk W<|bS W W W (fu _) W W<|TF.nil ⟨by kernel_rfl,rfl⟩
 refine DC.cZ (Ls:=[.d (.str (nV k)),.d (.int .u8 t.1),.d (.str t.2),.d (.sl (bW b)),.d (.bool false),.d (.int .u8 0),.d (.int .u8 0),.d (.int .i32 0),.d (.str ⟨#[]⟩),.d (.sl []),.d (.sl []),.d (.int .i64 0),.d (.int .i64 0),.d (.int .i64 0),.d (.int .i64 0)]) 7 W (cq (cq (cq (lQ (w.view (ja b)) (cq (cq (cq (cq (cq (cq (cq (cq (cq (cq (cq (po _)))))))))))))))) ?_;have w:=(w.drop).pick [1,2,0];have c:=(w.pick [1,0,2]).ob;obtain⟨row,g⟩:∃row:List D,row=[.str (nV k),.int .u8 t.1,.str t.2,.sl (bW b),.bool false,.int .u8 0,.int .u8 0,.int .i32 0,.str ⟨#[]⟩,.sl [],.sl [],.int .i64 0,.int .i64 0,.int .i64 0,.int .i64 0]:=⟨_,rfl⟩;have i:aB (m.vars++[⟨nV k,t.1,t.2,b,false,cg,(0,0)⟩])=aB m.vars++[row]:=by
  rw[g];simp only[aB,agI,agH,ag1];rw[Va.aj];rfl
 have e:=w.app [row];have j:=(e.pick [1,0,2]).ob;rw[g]at e j
 repeat refine DC.seq ?_
 apply Le mixed
 .intro C E;refine aO W W<|aO W W<|bO W W W<|bJ W W<|dy W W c W<|bG W W W W W<|bm W W W W W W W W<|fa w W W W W W W W (by simp[aB];omega)<|bO W W W<|bJ W W<|iy W W j (bQ _ _ _) W W<|TF.nil ⟨by kernel_rfl,rfl⟩
 repeat refine DC.seq ?_
 apply KZ
 .intro C E;refine aA W W<|aF W W W W<|ah W W<|TL.nil W
 rw[g]at i;rw[<-i]at e;have x:Wk F H [gV d p ⟨k,m.vars++[⟨nV k,t.1,t.2,b,false,cg,(0,0)⟩]⟩,.ob it bK] _:=gV.close ((e.pick [1,0,2]).set _);exact DC.ret ⟨_,W,_,⟨W,W⟩,x.pick [1,0]⟩
end Go.Proofs.Pz
