/- A part of the proof of the last text of this claim, without conditions. -/
import Derived.Test.YtbafhpblecdbbaaGreatDoorH
set_option maxRecDepth 4000
set_option linter.all false
namespace Go.Ps
open Go.Mt Go.Sm
def gE(H:Hp)(n:Nat):M:=if n=0 then .d (.sl [])else .bB H.length 1 0
def gF(H:Hp)(ec n:Nat):Hp:=if n=0 then H else H++[.row true ec 1 []]
theorem eD{α:Type}(L:List (List α))(i:Nat)(h:i<L.length):(L.take (i+1)).flatten=(L.take i).flatten++L[i]:=by
 rw[List.take_succ_eq_append_getElem h,List.flatten_append];simp
theorem cR{α:Type}(L:List (List α))(i:Nat):(L.take i).flatten.length<=L.flatten.length:=by
 have:L.flatten=(L.take i).flatten++(L.drop i).flatten:=by rw[<-List.flatten_append,List.take_append_drop]
 rw[this,List.length_append];omega
end Go.Ps
namespace Go.Proofs.Pz
open Go.Mt Go.Sm Go.Ps Go.Proofs
open Tryz
theorem AZ(n:Nat)(H:Hp)(hn:n<=1000000):CT prog 165 [.d (.sl []),.d (.int .i64 n)] H λr h=>r=gE H n/\h=gF H 4 n:=by
 refine CT.aG func165 rfl ntmps165 rfl λs0 Oo=>?_
 repeat refine TC.seq ?_
 refine TC.region ?_;refine aa rfl rfl ?_;refine TL.nil ?_
 repeat refine TC.seq ?_
 refine TC.region ?_;refine ah rfl rfl ?_;refine ak rfl rfl rfl rfl ?_;refine TL.nil ?_
 repeat refine TC.seq ?_
 refine TC.cond rfl (λhc=>by have:=of_decide_eq_true hc;omega) (λhc=>?_);refine TC.skip ?_
 repeat refine TC.seq ?_
 refine TC.region ?_;refine ah rfl rfl ?_;refine ah rfl rfl ?_;refine mL rfl rfl ?_;refine ah rfl rfl ?_;refine bg rfl rfl rfl ?_;refine iV rfl rfl rfl (by simp) ?_
 (refine iV rfl rfl rfl (by simp;omega) ?_;rw[show((n:Int)-(0-((List.length ([]:List (List D)):Nat):Int)))=(n:Int) by simp])
 refine aa rfl rfl ?_;refine TL.nil ?_
 repeat refine TC.seq ?_
 refine TC.region ?_;refine ah rfl rfl ?_;refine ak rfl rfl rfl rfl ?_;refine TL.nil ?_
 repeat refine TC.seq ?_
 refine TC.cond rfl (λhc=>?_) (λhc=>?_)
 ·have hp:0<n:=by have:=of_decide_eq_true hc;omega
  repeat refine TC.seq ?_
  refine TC.region ?_;refine ah rfl rfl ?_;refine ah rfl rfl ?_;refine mL rfl rfl ?_;refine pM rfl rfl rfl ?_;refine ah rfl rfl ?_;refine nU (len:=n) rfl rfl rfl rfl (by rfl) hp (by omega) (by omega) ?_;refine ah rfl rfl ?_;refine bg rfl rfl rfl ?_;refine pN true rfl rfl rfl (by exact List.getElem?_concat_length) (by simp) (by simp) ?_;refine aa rfl rfl ?_;refine TL.nil ?_
  repeat refine TC.seq ?_
  refine TC.region ?_;refine ah rfl rfl ?_;refine aa rfl rfl ?_;refine TL.nil ?_;refine TC.ret ⟨_,rfl,?_,?_⟩
  ·simp only[gE,if_neg (show ¬n=0 by omega)];rfl
  ·simp only[gF,if_neg (show ¬n=0 by omega)];simp
 ·refine TC.skip ?_;have hp:n=0:=by have:=of_decide_eq_false hc;omega
  repeat refine TC.seq ?_
  refine TC.region ?_;refine ah rfl rfl ?_;refine aa rfl rfl ?_;refine TL.nil ?_;refine TC.ret ⟨_,rfl,?_,?_⟩
  ·simp only[gE,if_pos hp];rfl
  ·simp only[gF,if_pos hp]
theorem xy(L:List (List (List D)))(hl:∀l∈L,∀r∈l,r.length=4)(hL:L.length<=1000)(Ll:L.flatten.length<=1000000):
  PT prog 112 [.sl (L.map λl=>[D.sl l])] (·=[.sl L.flatten]):=by
 refine PT.du (CT.aG func112 rfl ntmps112 rfl λs0 Oo=>?_)
 repeat refine TC.seq ?_
 refine TC.region ?_;refine aa rfl rfl ?_;refine TL.nil ?_
 repeat refine TC.seq ?_
 refine TC.region ?_;refine aa rfl rfl ?_;refine TL.nil ?_
 repeat refine TC.seq ?_
 refine TC.region ?_;refine ah rfl rfl ?_
 (refine bg rfl rfl rfl ?_;rw[List.length_map])
 refine ah rfl rfl ?_;refine TL.nil ?_
 repeat refine TC.seq ?_
 refine TC.block ?_;refine TC.ep (λk s=>∃(i:Nat),s=⟨[(11,.m (.d (.int .i64 i))),(10,.m (.d (.int .i64 (L.length:Nat)))),(9,.m (.d (.sl (L.map λl=>[D.sl l])))),(3,.m (.d (.int .i64 ((L.take i).flatten.length:Nat)))),(0,.m (.d (.sl (L.map λl=>[D.sl l]))))],[],[]⟩/\i<=L.length/\k=L.length-i) L.length _
  ⟨0,rfl,by omega,rfl⟩ rfl ?_
 rintro k s ⟨i,rfl,hi,rfl⟩;have Hx:=cR L i
 repeat refine TC.seq ?_
 refine TC.region ?_;refine ak rfl rfl rfl rfl ?_;refine TL.nil ?_
 repeat refine TC.seq ?_
 refine TC.cond rfl (λhc=>?_) (λhc=>?_)
 ·have FH:i<L.length:=by have:=of_decide_eq_true hc;omega
  have Ip:=eD L i FH;have GN:=cR L (i+1);rw[Ip,List.length_append]at GN;refine TC.skip ?_
  repeat refine TC.seq ?_
  refine TC.block ?_
  repeat refine TC.seq ?_
  refine TC.region ?_;refine aO rfl rfl rfl (Int.natCast_nonneg i) (r:=[.sl L[i]]) (by simp[FH]) rfl ?_;refine ax rfl rfl rfl ?_;refine aa rfl rfl ?_;refine TL.nil ?_
  repeat refine TC.seq ?_
  refine TC.region ?_;refine ah rfl rfl ?_;refine ah rfl rfl ?_;refine bg rfl rfl rfl ?_;refine aV rfl rfl rfl (by omega) ?_;refine aa rfl rfl ?_;refine TL.nil ?_
  repeat refine TC.seq ?_
  refine TC.region ?_;refine ah rfl rfl ?_;refine ak rfl rfl rfl rfl ?_;refine TL.nil ?_
  repeat refine TC.seq ?_
  refine TC.cond rfl (λhc=>by have:=of_decide_eq_true hc;omega) (λhc=>?_);refine TC.skip ?_
  repeat refine TC.seq ?_
  refine TC.region ?_;refine aV rfl rfl rfl (by omega) ?_;refine ah rfl rfl ?_;refine TL.nil ?_;exact again (k':=L.length-(i+1)) (by omega) ⟨i+1,rfl,by omega,rfl⟩ rfl (kc (by simp;rfl)<|kc (rfl)<|kc (rfl)<|kc (by rw[Ip,List.length_append,Int.natCast_add];rfl)<|kc (rfl)<|rfl)
 refine TC.exit ?_;obtain rfl:i=L.length:=by have:=of_decide_eq_false hc;omega
 rw[List.take_length]
 repeat refine TC.seq ?_
 refine TC.region ?_;refine ah rfl rfl ?_
 (refine dF (AZ L.flatten.length [] Ll) rfl rfl ?_;rintro _ _ ⟨rfl,rfl⟩)
 refine aa rfl rfl ?_;refine TL.nil ?_
 repeat refine TC.seq ?_
 refine TC.region ?_;refine ah rfl rfl ?_
 (refine bg rfl rfl rfl ?_;rw[List.length_map])
 refine ah rfl rfl ?_;refine TL.nil ?_
 repeat refine TC.seq ?_
 refine TC.block ?_;by_cases h0:L.flatten.length=0
 ·rw[gE,gF,if_pos h0,if_pos h0];refine TC.ep (λk s=>∃(i:Nat),s=⟨[(27,.m (.d (.int .i64 i))),(26,.m (.d (.int .i64 (L.length:Nat)))),(25,.m (.d (.sl (L.map λl=>[D.sl l])))),(6,.m (.d (.sl [])))],[],[]⟩/\i<=L.length/\k=L.length-i) L.length _
   ⟨0,rfl,by omega,rfl⟩ rfl ?_
  rintro k s ⟨i,rfl,hi,rfl⟩
  repeat refine TC.seq ?_
  refine TC.region ?_;refine ak rfl rfl rfl rfl ?_;refine TL.nil ?_
  repeat refine TC.seq ?_
  refine TC.cond rfl (λhc=>?_) (λhc=>?_)
  ·have FH:i<L.length:=by have:=of_decide_eq_true hc;omega
   have hz:L[i]=[]:=by
    have h1:=List.eq_nil_of_length_eq_zero h0;rw[List.flatten_eq_nil_iff]at h1;exact h1 _ (List.getElem_mem FH)
   refine TC.skip ?_
   repeat refine TC.seq ?_
   refine TC.block ?_
   repeat refine TC.seq ?_
   refine TC.region ?_;refine aO rfl rfl rfl (Int.natCast_nonneg i) (r:=[.sl []]) (by simp[FH,hz]) rfl ?_;refine ax rfl rfl rfl ?_;refine aa rfl rfl ?_;refine TL.nil ?_
   repeat refine TC.seq ?_
   refine TC.region ?_;refine ah rfl rfl ?_;refine ah rfl rfl ?_;refine dC rfl rfl rfl ?_;refine aa rfl rfl ?_;refine TL.nil ?_
   repeat refine TC.seq ?_
   refine TC.region ?_;refine aV rfl rfl rfl (by omega) ?_;refine ah rfl rfl ?_;refine TL.nil ?_;exact again (k':=L.length-(i+1)) (by omega) ⟨i+1,rfl,by omega,rfl⟩ rfl (kc (by simp;rfl)<|kc (rfl)<|kc (rfl)<|kc (rfl)<|rfl)
  refine TC.exit ?_
  repeat refine TC.seq ?_
  refine TC.region ?_;refine ah rfl rfl ?_;refine aa rfl rfl ?_;refine TL.nil ?_;exact TC.ret ⟨_,rfl,[_],rfl,by rw[List.eq_nil_of_length_eq_zero h0]⟩
 ·rw[gE,gF,if_neg h0,if_neg h0];refine TC.ep (λk s=>∃(i:Nat),s=⟨[(27,.m (.d (.int .i64 i))),(26,.m (.d (.int .i64 (L.length:Nat)))),(25,.m (.d (.sl (L.map λl=>[D.sl l])))),(6,.m (.bB 0 (i+1) (L.take i).flatten.length))],[],[.row true 4 (i+1) (br (L.take i).flatten)]⟩/\i<=L.length/\k=L.length-i) L.length _
   ⟨0,rfl,by omega,rfl⟩ rfl ?_
  rintro k s ⟨i,rfl,hi,rfl⟩;have Hx:=cR L i
  repeat refine TC.seq ?_
  refine TC.region ?_;refine ak rfl rfl rfl rfl ?_;refine TL.nil ?_
  repeat refine TC.seq ?_
  refine TC.cond rfl (λhc=>?_) (λhc=>?_)
  ·have FH:i<L.length:=by have:=of_decide_eq_true hc;omega
   have Ip:=eD L i FH;have GN:=cR L (i+1);rw[Ip,List.length_append]at GN;refine TC.skip ?_
   repeat refine TC.seq ?_
   refine TC.block ?_
   repeat refine TC.seq ?_
   refine TC.region ?_;refine aO rfl rfl rfl (Int.natCast_nonneg i) (r:=[.sl L[i]]) (by simp[FH]) rfl ?_;refine ax rfl rfl rfl ?_;refine aa rfl rfl ?_;refine TL.nil ?_
   repeat refine TC.seq ?_
   refine TC.region ?_;refine ah rfl rfl ?_;refine ah rfl rfl ?_;refine k9 rfl rfl rfl rfl (by rfl) (by exact hl _ (List.getElem_mem FH)) (by omega) (by omega) ?_;refine aa rfl rfl ?_;refine TL.nil ?_
   repeat refine TC.seq ?_
   refine TC.region ?_;refine aV rfl rfl rfl (by omega) ?_;refine ah rfl rfl ?_;refine TL.nil ?_;exact again (k':=L.length-(i+1)) (by omega) ⟨i+1,rfl,by omega,rfl⟩ (by rw[Ip];simp[br]) (kc (by simp;rfl)<|kc (rfl)<|kc (rfl)<|kc (by rw[Ip,List.length_append];rfl)<|rfl)
  refine TC.exit ?_;obtain rfl:i=L.length:=by have:=of_decide_eq_false hc;omega
  rw[List.take_length]
  repeat refine TC.seq ?_
  refine TC.region ?_;refine ah rfl rfl ?_;refine aa rfl rfl ?_;refine TL.nil ?_;refine TC.bC 2 rfl (Acc.view (n:=4) (i:=0) (rs:=L.flatten) (.inr ⟨by intro h;rw[h]at h0;exact h0 rfl,_,rfl,rfl⟩) (by intro r hr;obtain⟨l,h1,h2⟩:=List.mem_flatten.1 hr;exact hl l h1 r h2)) ?_;exact TC.ret ⟨_,rfl,[_],rfl,rfl⟩
theorem A0(n:Nat)(H:Hp)(hn:n<=1000000):CT prog 118 [.d (.sl []),.d (.int .i64 n)] H λr h=>r=gE H n/\h=gF H 15 n:=by
 refine CT.aG func118 rfl ntmps118 rfl λs0 Oo=>?_
 repeat refine TC.seq ?_
 refine TC.region ?_;refine aa rfl rfl ?_;refine TL.nil ?_
 repeat refine TC.seq ?_
 refine TC.region ?_;refine ah rfl rfl ?_;refine ak rfl rfl rfl rfl ?_;refine TL.nil ?_
 repeat refine TC.seq ?_
 refine TC.cond rfl (λhc=>by have:=of_decide_eq_true hc;omega) (λhc=>?_);refine TC.skip ?_
 repeat refine TC.seq ?_
 refine TC.region ?_;refine ah rfl rfl ?_;refine ah rfl rfl ?_;refine mL rfl rfl ?_;refine ah rfl rfl ?_;refine bg rfl rfl rfl ?_;refine iV rfl rfl rfl (by simp) ?_
 (refine iV rfl rfl rfl (by simp;omega) ?_;rw[show((n:Int)-(0-((List.length ([]:List (List D)):Nat):Int)))=(n:Int) by simp])
 refine aa rfl rfl ?_;refine TL.nil ?_
 repeat refine TC.seq ?_
 refine TC.region ?_;refine ah rfl rfl ?_;refine ak rfl rfl rfl rfl ?_;refine TL.nil ?_
 repeat refine TC.seq ?_
 refine TC.cond rfl (λhc=>?_) (λhc=>?_)
 ·have hp:0<n:=by have:=of_decide_eq_true hc;omega
  repeat refine TC.seq ?_
  refine TC.region ?_;refine ah rfl rfl ?_;refine ah rfl rfl ?_;refine mL rfl rfl ?_;refine pM rfl rfl rfl ?_;refine ah rfl rfl ?_;refine nU (len:=n) rfl rfl rfl rfl (by rfl) hp (by omega) (by omega) ?_;refine ah rfl rfl ?_;refine bg rfl rfl rfl ?_;refine pN true rfl rfl rfl (by exact List.getElem?_concat_length) (by simp) (by simp) ?_;refine aa rfl rfl ?_;refine TL.nil ?_
  repeat refine TC.seq ?_
  refine TC.region ?_;refine ah rfl rfl ?_;refine aa rfl rfl ?_;refine TL.nil ?_;refine TC.ret ⟨_,rfl,?_,?_⟩
  ·simp only[gE,if_neg (show ¬n=0 by omega)];rfl
  ·simp only[gF,if_neg (show ¬n=0 by omega)];simp
 ·refine TC.skip ?_;have hp:n=0:=by have:=of_decide_eq_false hc;omega
  repeat refine TC.seq ?_
  refine TC.region ?_;refine ah rfl rfl ?_;refine aa rfl rfl ?_;refine TL.nil ?_;refine TC.ret ⟨_,rfl,?_,?_⟩
  ·simp only[gE,if_pos hp];rfl
  ·simp only[gF,if_pos hp]
theorem xz(L:List (List (List D)))(hl:∀l∈L,∀r∈l,r.length=15)(hL:L.length<=1000)(Ll:L.flatten.length<=1000000):
  PT prog 61 [.sl (L.map λl=>[D.sl l])] (·=[.sl L.flatten]):=by
 refine PT.du (CT.aG func61 rfl ntmps61 rfl λs0 Oo=>?_)
 repeat refine TC.seq ?_
 refine TC.region ?_;refine aa rfl rfl ?_;refine TL.nil ?_
 repeat refine TC.seq ?_
 refine TC.region ?_;refine aa rfl rfl ?_;refine TL.nil ?_
 repeat refine TC.seq ?_
 refine TC.region ?_;refine ah rfl rfl ?_
 (refine bg rfl rfl rfl ?_;rw[List.length_map])
 refine ah rfl rfl ?_;refine TL.nil ?_
 repeat refine TC.seq ?_
 refine TC.block ?_;refine TC.ep (λk s=>∃(i:Nat),s=⟨[(11,.m (.d (.int .i64 i))),(10,.m (.d (.int .i64 (L.length:Nat)))),(9,.m (.d (.sl (L.map λl=>[D.sl l])))),(3,.m (.d (.int .i64 ((L.take i).flatten.length:Nat)))),(0,.m (.d (.sl (L.map λl=>[D.sl l]))))],[],[]⟩/\i<=L.length/\k=L.length-i) L.length _
  ⟨0,rfl,by omega,rfl⟩ rfl ?_
 rintro k s ⟨i,rfl,hi,rfl⟩;have Hx:=cR L i
 repeat refine TC.seq ?_
 refine TC.region ?_;refine ak rfl rfl rfl rfl ?_;refine TL.nil ?_
 repeat refine TC.seq ?_
 refine TC.cond rfl (λhc=>?_) (λhc=>?_)
 ·have FH:i<L.length:=by have:=of_decide_eq_true hc;omega
  have Ip:=eD L i FH;have GN:=cR L (i+1);rw[Ip,List.length_append]at GN;refine TC.skip ?_
  repeat refine TC.seq ?_
  refine TC.block ?_
  repeat refine TC.seq ?_
  refine TC.region ?_;refine aO rfl rfl rfl (Int.natCast_nonneg i) (r:=[.sl L[i]]) (by simp[FH]) rfl ?_;refine ax rfl rfl rfl ?_;refine aa rfl rfl ?_;refine TL.nil ?_
  repeat refine TC.seq ?_
  refine TC.region ?_;refine ah rfl rfl ?_;refine ah rfl rfl ?_;refine bg rfl rfl rfl ?_;refine aV rfl rfl rfl (by omega) ?_;refine aa rfl rfl ?_;refine TL.nil ?_
  repeat refine TC.seq ?_
  refine TC.region ?_;refine ah rfl rfl ?_;refine ak rfl rfl rfl rfl ?_;refine TL.nil ?_
  repeat refine TC.seq ?_
  refine TC.cond rfl (λhc=>by have:=of_decide_eq_true hc;omega) (λhc=>?_);refine TC.skip ?_
  repeat refine TC.seq ?_
  refine TC.region ?_;refine aV rfl rfl rfl (by omega) ?_;refine ah rfl rfl ?_;refine TL.nil ?_;exact again (k':=L.length-(i+1)) (by omega) ⟨i+1,rfl,by omega,rfl⟩ rfl (kc (by simp;rfl)<|kc (rfl)<|kc (rfl)<|kc (by rw[Ip,List.length_append,Int.natCast_add];rfl)<|kc (rfl)<|rfl)
 refine TC.exit ?_;obtain rfl:i=L.length:=by have:=of_decide_eq_false hc;omega
 rw[List.take_length]
 repeat refine TC.seq ?_
 refine TC.region ?_;refine ah rfl rfl ?_
 (refine dF (A0 L.flatten.length [] Ll) rfl rfl ?_;rintro _ _ ⟨rfl,rfl⟩)
 refine aa rfl rfl ?_;refine TL.nil ?_
 repeat refine TC.seq ?_
 refine TC.region ?_;refine ah rfl rfl ?_
 (refine bg rfl rfl rfl ?_;rw[List.length_map])
 refine ah rfl rfl ?_;refine TL.nil ?_
 repeat refine TC.seq ?_
 refine TC.block ?_;by_cases h0:L.flatten.length=0
 ·rw[gE,gF,if_pos h0,if_pos h0];refine TC.ep (λk s=>∃(i:Nat),s=⟨[(27,.m (.d (.int .i64 i))),(26,.m (.d (.int .i64 (L.length:Nat)))),(25,.m (.d (.sl (L.map λl=>[D.sl l])))),(6,.m (.d (.sl [])))],[],[]⟩/\i<=L.length/\k=L.length-i) L.length _
   ⟨0,rfl,by omega,rfl⟩ rfl ?_
  rintro k s ⟨i,rfl,hi,rfl⟩
  repeat refine TC.seq ?_
  refine TC.region ?_;refine ak rfl rfl rfl rfl ?_;refine TL.nil ?_
  repeat refine TC.seq ?_
  refine TC.cond rfl (λhc=>?_) (λhc=>?_)
  ·have FH:i<L.length:=by have:=of_decide_eq_true hc;omega
   have hz:L[i]=[]:=by
    have h1:=List.eq_nil_of_length_eq_zero h0;rw[List.flatten_eq_nil_iff]at h1;exact h1 _ (List.getElem_mem FH)
   refine TC.skip ?_
   repeat refine TC.seq ?_
   refine TC.block ?_
   repeat refine TC.seq ?_
   refine TC.region ?_;refine aO rfl rfl rfl (Int.natCast_nonneg i) (r:=[.sl []]) (by simp[FH,hz]) rfl ?_;refine ax rfl rfl rfl ?_;refine aa rfl rfl ?_;refine TL.nil ?_
   repeat refine TC.seq ?_
   refine TC.region ?_;refine ah rfl rfl ?_;refine ah rfl rfl ?_;refine dC rfl rfl rfl ?_;refine aa rfl rfl ?_;refine TL.nil ?_
   repeat refine TC.seq ?_
   refine TC.region ?_;refine aV rfl rfl rfl (by omega) ?_;refine ah rfl rfl ?_;refine TL.nil ?_;exact again (k':=L.length-(i+1)) (by omega) ⟨i+1,rfl,by omega,rfl⟩ rfl (kc (by simp;rfl)<|kc (rfl)<|kc (rfl)<|kc (rfl)<|rfl)
  refine TC.exit ?_
  repeat refine TC.seq ?_
  refine TC.region ?_;refine ah rfl rfl ?_;refine aa rfl rfl ?_;refine TL.nil ?_;exact TC.ret ⟨_,rfl,[_],rfl,by rw[List.eq_nil_of_length_eq_zero h0]⟩
 ·rw[gE,gF,if_neg h0,if_neg h0];refine TC.ep (λk s=>∃(i:Nat),s=⟨[(27,.m (.d (.int .i64 i))),(26,.m (.d (.int .i64 (L.length:Nat)))),(25,.m (.d (.sl (L.map λl=>[D.sl l])))),(6,.m (.bB 0 (i+1) (L.take i).flatten.length))],[],[.row true 15 (i+1) (br (L.take i).flatten)]⟩/\i<=L.length/\k=L.length-i) L.length _
   ⟨0,rfl,by omega,rfl⟩ rfl ?_
  rintro k s ⟨i,rfl,hi,rfl⟩;have Hx:=cR L i
  repeat refine TC.seq ?_
  refine TC.region ?_;refine ak rfl rfl rfl rfl ?_;refine TL.nil ?_
  repeat refine TC.seq ?_
  refine TC.cond rfl (λhc=>?_) (λhc=>?_)
  ·have FH:i<L.length:=by have:=of_decide_eq_true hc;omega
   have Ip:=eD L i FH;have GN:=cR L (i+1);rw[Ip,List.length_append]at GN;refine TC.skip ?_
   repeat refine TC.seq ?_
   refine TC.block ?_
   repeat refine TC.seq ?_
   refine TC.region ?_;refine aO rfl rfl rfl (Int.natCast_nonneg i) (r:=[.sl L[i]]) (by simp[FH]) rfl ?_;refine ax rfl rfl rfl ?_;refine aa rfl rfl ?_;refine TL.nil ?_
   repeat refine TC.seq ?_
   refine TC.region ?_;refine ah rfl rfl ?_;refine ah rfl rfl ?_;refine k9 rfl rfl rfl rfl (by rfl) (by exact hl _ (List.getElem_mem FH)) (by omega) (by omega) ?_;refine aa rfl rfl ?_;refine TL.nil ?_
   repeat refine TC.seq ?_
   refine TC.region ?_;refine aV rfl rfl rfl (by omega) ?_;refine ah rfl rfl ?_;refine TL.nil ?_;exact again (k':=L.length-(i+1)) (by omega) ⟨i+1,rfl,by omega,rfl⟩ (by rw[Ip];simp[br]) (kc (by simp;rfl)<|kc (rfl)<|kc (rfl)<|kc (by rw[Ip,List.length_append];rfl)<|rfl)
  refine TC.exit ?_;obtain rfl:i=L.length:=by have:=of_decide_eq_false hc;omega
  rw[List.take_length]
  repeat refine TC.seq ?_
  refine TC.region ?_;refine ah rfl rfl ?_;refine aa rfl rfl ?_;refine TL.nil ?_;refine TC.bC 2 rfl (Acc.view (n:=15) (i:=0) (rs:=L.flatten) (.inr ⟨by intro h;rw[h]at h0;exact h0 rfl,_,rfl,rfl⟩) (by intro r hr;obtain⟨l,h1,h2⟩:=List.mem_flatten.1 hr;exact hl l h1 r h2)) ?_;exact TC.ret ⟨_,rfl,[_],rfl,rfl⟩
theorem A3(n:Nat)(H:Hp)(hn:n<=1000000):CT prog 253 [.d (.sl []),.d (.int .i64 n)] H λr h=>r=gE H n/\h=gF H 2 n:=by
 refine CT.aG func253 rfl ntmps253 rfl λs0 Oo=>?_
 repeat refine TC.seq ?_
 refine TC.region ?_;refine aa rfl rfl ?_;refine TL.nil ?_
 repeat refine TC.seq ?_
 refine TC.region ?_;refine ah rfl rfl ?_;refine ak rfl rfl rfl rfl ?_;refine TL.nil ?_
 repeat refine TC.seq ?_
 refine TC.cond rfl (λhc=>by have:=of_decide_eq_true hc;omega) (λhc=>?_);refine TC.skip ?_
 repeat refine TC.seq ?_
 refine TC.region ?_;refine ah rfl rfl ?_;refine ah rfl rfl ?_;refine mL rfl rfl ?_;refine ah rfl rfl ?_;refine bg rfl rfl rfl ?_;refine iV rfl rfl rfl (by simp) ?_
 (refine iV rfl rfl rfl (by simp;omega) ?_;rw[show((n:Int)-(0-((List.length ([]:List (List D)):Nat):Int)))=(n:Int) by simp])
 refine aa rfl rfl ?_;refine TL.nil ?_
 repeat refine TC.seq ?_
 refine TC.region ?_;refine ah rfl rfl ?_;refine ak rfl rfl rfl rfl ?_;refine TL.nil ?_
 repeat refine TC.seq ?_
 refine TC.cond rfl (λhc=>?_) (λhc=>?_)
 ·have hp:0<n:=by have:=of_decide_eq_true hc;omega
  repeat refine TC.seq ?_
  refine TC.region ?_;refine ah rfl rfl ?_;refine ah rfl rfl ?_;refine mL rfl rfl ?_;refine pM rfl rfl rfl ?_;refine ah rfl rfl ?_;refine nU (len:=n) rfl rfl rfl rfl (by rfl) hp (by omega) (by omega) ?_;refine ah rfl rfl ?_;refine bg rfl rfl rfl ?_;refine pN true rfl rfl rfl (by exact List.getElem?_concat_length) (by simp) (by simp) ?_;refine aa rfl rfl ?_;refine TL.nil ?_
  repeat refine TC.seq ?_
  refine TC.region ?_;refine ah rfl rfl ?_;refine aa rfl rfl ?_;refine TL.nil ?_;refine TC.ret ⟨_,rfl,?_,?_⟩
  ·simp only[gE,if_neg (show ¬n=0 by omega)];rfl
  ·simp only[gF,if_neg (show ¬n=0 by omega)];simp
 ·refine TC.skip ?_;have hp:n=0:=by have:=of_decide_eq_false hc;omega
  repeat refine TC.seq ?_
  refine TC.region ?_;refine ah rfl rfl ?_;refine aa rfl rfl ?_;refine TL.nil ?_;refine TC.ret ⟨_,rfl,?_,?_⟩
  ·simp only[gE,if_pos hp];rfl
  ·simp only[gF,if_pos hp]
theorem xA(L:List (List (List D)))(hl:∀l∈L,∀r∈l,r.length=2)(hL:L.length<=1000)(Ll:L.flatten.length<=1000000):
  PT prog 208 [.sl (L.map λl=>[D.sl l])] (·=[.sl L.flatten]):=by
 refine PT.du (CT.aG func208 rfl ntmps208 rfl λs0 Oo=>?_)
 repeat refine TC.seq ?_
 refine TC.region ?_;refine aa rfl rfl ?_;refine TL.nil ?_
 repeat refine TC.seq ?_
 refine TC.region ?_;refine aa rfl rfl ?_;refine TL.nil ?_
 repeat refine TC.seq ?_
 refine TC.region ?_;refine ah rfl rfl ?_
 (refine bg rfl rfl rfl ?_;rw[List.length_map])
 refine ah rfl rfl ?_;refine TL.nil ?_
 repeat refine TC.seq ?_
 refine TC.block ?_;refine TC.ep (λk s=>∃(i:Nat),s=⟨[(11,.m (.d (.int .i64 i))),(10,.m (.d (.int .i64 (L.length:Nat)))),(9,.m (.d (.sl (L.map λl=>[D.sl l])))),(3,.m (.d (.int .i64 ((L.take i).flatten.length:Nat)))),(0,.m (.d (.sl (L.map λl=>[D.sl l]))))],[],[]⟩/\i<=L.length/\k=L.length-i) L.length _
  ⟨0,rfl,by omega,rfl⟩ rfl ?_
 rintro k s ⟨i,rfl,hi,rfl⟩;have Hx:=cR L i
 repeat refine TC.seq ?_
 refine TC.region ?_;refine ak rfl rfl rfl rfl ?_;refine TL.nil ?_
 repeat refine TC.seq ?_
 refine TC.cond rfl (λhc=>?_) (λhc=>?_)
 ·have FH:i<L.length:=by have:=of_decide_eq_true hc;omega
  have Ip:=eD L i FH;have GN:=cR L (i+1);rw[Ip,List.length_append]at GN;refine TC.skip ?_
  repeat refine TC.seq ?_
  refine TC.block ?_
  repeat refine TC.seq ?_
  refine TC.region ?_;refine aO rfl rfl rfl (Int.natCast_nonneg i) (r:=[.sl L[i]]) (by simp[FH]) rfl ?_;refine ax rfl rfl rfl ?_;refine aa rfl rfl ?_;refine TL.nil ?_
  repeat refine TC.seq ?_
  refine TC.region ?_;refine ah rfl rfl ?_;refine ah rfl rfl ?_;refine bg rfl rfl rfl ?_;refine aV rfl rfl rfl (by omega) ?_;refine aa rfl rfl ?_;refine TL.nil ?_
  repeat refine TC.seq ?_
  refine TC.region ?_;refine ah rfl rfl ?_;refine ak rfl rfl rfl rfl ?_;refine TL.nil ?_
  repeat refine TC.seq ?_
  refine TC.cond rfl (λhc=>by have:=of_decide_eq_true hc;omega) (λhc=>?_);refine TC.skip ?_
  repeat refine TC.seq ?_
  refine TC.region ?_;refine aV rfl rfl rfl (by omega) ?_;refine ah rfl rfl ?_;refine TL.nil ?_;exact again (k':=L.length-(i+1)) (by omega) ⟨i+1,rfl,by omega,rfl⟩ rfl (kc (by simp;rfl)<|kc (rfl)<|kc (rfl)<|kc (by rw[Ip,List.length_append,Int.natCast_add];rfl)<|kc (rfl)<|rfl)
 refine TC.exit ?_;obtain rfl:i=L.length:=by have:=of_decide_eq_false hc;omega
 rw[List.take_length]
 repeat refine TC.seq ?_
 refine TC.region ?_;refine ah rfl rfl ?_
 (refine dF (A3 L.flatten.length [] Ll) rfl rfl ?_;rintro _ _ ⟨rfl,rfl⟩)
 refine aa rfl rfl ?_;refine TL.nil ?_
 repeat refine TC.seq ?_
 refine TC.region ?_;refine ah rfl rfl ?_
 (refine bg rfl rfl rfl ?_;rw[List.length_map])
 refine ah rfl rfl ?_;refine TL.nil ?_
 repeat refine TC.seq ?_
 refine TC.block ?_;by_cases h0:L.flatten.length=0
 ·rw[gE,gF,if_pos h0,if_pos h0];refine TC.ep (λk s=>∃(i:Nat),s=⟨[(27,.m (.d (.int .i64 i))),(26,.m (.d (.int .i64 (L.length:Nat)))),(25,.m (.d (.sl (L.map λl=>[D.sl l])))),(6,.m (.d (.sl [])))],[],[]⟩/\i<=L.length/\k=L.length-i) L.length _
   ⟨0,rfl,by omega,rfl⟩ rfl ?_
  rintro k s ⟨i,rfl,hi,rfl⟩
  repeat refine TC.seq ?_
  refine TC.region ?_;refine ak rfl rfl rfl rfl ?_;refine TL.nil ?_
  repeat refine TC.seq ?_
  refine TC.cond rfl (λhc=>?_) (λhc=>?_)
  ·have FH:i<L.length:=by have:=of_decide_eq_true hc;omega
   have hz:L[i]=[]:=by
    have h1:=List.eq_nil_of_length_eq_zero h0;rw[List.flatten_eq_nil_iff]at h1;exact h1 _ (List.getElem_mem FH)
   refine TC.skip ?_
   repeat refine TC.seq ?_
   refine TC.block ?_
   repeat refine TC.seq ?_
   refine TC.region ?_;refine aO rfl rfl rfl (Int.natCast_nonneg i) (r:=[.sl []]) (by simp[FH,hz]) rfl ?_;refine ax rfl rfl rfl ?_;refine aa rfl rfl ?_;refine TL.nil ?_
   repeat refine TC.seq ?_
   refine TC.region ?_;refine ah rfl rfl ?_;refine ah rfl rfl ?_;refine dC rfl rfl rfl ?_;refine aa rfl rfl ?_;refine TL.nil ?_
   repeat refine TC.seq ?_
   refine TC.region ?_;refine aV rfl rfl rfl (by omega) ?_;refine ah rfl rfl ?_;refine TL.nil ?_;exact again (k':=L.length-(i+1)) (by omega) ⟨i+1,rfl,by omega,rfl⟩ rfl (kc (by simp;rfl)<|kc (rfl)<|kc (rfl)<|kc (rfl)<|rfl)
  refine TC.exit ?_
  repeat refine TC.seq ?_
  refine TC.region ?_;refine ah rfl rfl ?_;refine aa rfl rfl ?_;refine TL.nil ?_;exact TC.ret ⟨_,rfl,[_],rfl,by rw[List.eq_nil_of_length_eq_zero h0]⟩
 ·rw[gE,gF,if_neg h0,if_neg h0];refine TC.ep (λk s=>∃(i:Nat),s=⟨[(27,.m (.d (.int .i64 i))),(26,.m (.d (.int .i64 (L.length:Nat)))),(25,.m (.d (.sl (L.map λl=>[D.sl l])))),(6,.m (.bB 0 (i+1) (L.take i).flatten.length))],[],[.row true 2 (i+1) (br (L.take i).flatten)]⟩/\i<=L.length/\k=L.length-i) L.length _
   ⟨0,rfl,by omega,rfl⟩ rfl ?_
  rintro k s ⟨i,rfl,hi,rfl⟩;have Hx:=cR L i
  repeat refine TC.seq ?_
  refine TC.region ?_;refine ak rfl rfl rfl rfl ?_;refine TL.nil ?_
  repeat refine TC.seq ?_
  refine TC.cond rfl (λhc=>?_) (λhc=>?_)
  ·have FH:i<L.length:=by have:=of_decide_eq_true hc;omega
   have Ip:=eD L i FH;have GN:=cR L (i+1);rw[Ip,List.length_append]at GN;refine TC.skip ?_
   repeat refine TC.seq ?_
   refine TC.block ?_
   repeat refine TC.seq ?_
   refine TC.region ?_;refine aO rfl rfl rfl (Int.natCast_nonneg i) (r:=[.sl L[i]]) (by simp[FH]) rfl ?_;refine ax rfl rfl rfl ?_;refine aa rfl rfl ?_;refine TL.nil ?_
   repeat refine TC.seq ?_
   refine TC.region ?_;refine ah rfl rfl ?_;refine ah rfl rfl ?_;refine k9 rfl rfl rfl rfl (by rfl) (by exact hl _ (List.getElem_mem FH)) (by omega) (by omega) ?_;refine aa rfl rfl ?_;refine TL.nil ?_
   repeat refine TC.seq ?_
   refine TC.region ?_;refine aV rfl rfl rfl (by omega) ?_;refine ah rfl rfl ?_;refine TL.nil ?_;exact again (k':=L.length-(i+1)) (by omega) ⟨i+1,rfl,by omega,rfl⟩ (by rw[Ip];simp[br]) (kc (by simp;rfl)<|kc (rfl)<|kc (rfl)<|kc (by rw[Ip,List.length_append];rfl)<|rfl)
  refine TC.exit ?_;obtain rfl:i=L.length:=by have:=of_decide_eq_false hc;omega
  rw[List.take_length]
  repeat refine TC.seq ?_
  refine TC.region ?_;refine ah rfl rfl ?_;refine aa rfl rfl ?_;refine TL.nil ?_;refine TC.bC 2 rfl (Acc.view (n:=2) (i:=0) (rs:=L.flatten) (.inr ⟨by intro h;rw[h]at h0;exact h0 rfl,_,rfl,rfl⟩) (by intro r hr;obtain⟨l,h1,h2⟩:=List.mem_flatten.1 hr;exact hl l h1 r h2)) ?_;exact TC.ret ⟨_,rfl,[_],rfl,rfl⟩
end Go.Proofs.Pz
namespace Go.Ps
open Go.Mt Go.Sm
theorem qp:∀(a b:List aF) (s:DS),cP (a++b) s=((cP a s).1++(cP b (cP a s).2.2).1,(cP a s).2.1++(cP b (cP a s).2.2).2.1,(cP b (cP a s).2.2).2.2)
 |[],b,s=>by simp[cP]
 |q::a,b,s=>by simp[cP,qp a b]
theorem A4(q:aF)(s:DS):cP [q] s=ls q s:=by simp[cP]
theorem yR{l:List aF}{i:Nat}(h:i<l.length)(s:DS):cP (l.take (i+1)) s=((cP (l.take i) s).1++(ls l[i] (cP (l.take i) s).2.2).1,(cP (l.take i) s).2.1++(ls l[i] (cP (l.take i) s).2.2).2.1,(ls l[i] (cP (l.take i) s).2.2).2.2):=by
 rw[List.take_succ_eq_append_getElem h,qp,A4]
theorem qq:∀(a b:List aT) (s:DS),cv (a++b) s=((cv a s).1++(cv b (cv a s).2).1,(cv b (cv a s).2).2)
 |[],b,s=>by simp[cv]
 |q::a,b,s=>by simp[cv,qq a b]
theorem yS{l:List aT}{i:Nat}(h:i<l.length)(s:DS):cv (l.take (i+1)) s=((cv (l.take i) s).1++[(rF l[i] (cv (l.take i) s).2).1],(rF l[i] (cv (l.take i) s).2).2):=by
 rw[List.take_succ_eq_append_getElem h,qq];simp[cv]
theorem v7(a:aT)(s:DS):rF a s=(.mk a.name (gZ a.be s).1 a.jb a.jc a.ps,(gZ a.be s).2):=by cases a;rw[rF];rfl
theorem v8(q:aF)(s:DS):ls q s=pi (.mk q.kd q.lhs q.f q.args q.has q.ex (cv q.aj s).1 q.ps) (cv q.aj s).2:=by cases q;rw[ls];rfl
theorem v_(b:bJ)(s:DS):gZ b s=(.mk (b.vars++(cP b.eqs s).1) (cP b.eqs s).2.1,(cP b.eqs s).2.2):=by cases b;rw[gZ];rfl
theorem wa(q:aF)(s:DS):s.n<=(pi q s).2.2.n/\(s.ao.length<=s.n->(pi q s).2.2.ao.length<=(pi q s).2.2.n)/\(pi q s).2.1.length<=4/\(pi q s).1.length<=6:=by
 unfold pi;split
 ·refine⟨by simp,λh=>by simp;exact h,by simp[mi],by simp[iR]⟩
 ·exact⟨Nat.le_refl _,λh=>h,by simp,by simp⟩
mutual
theorem Cj:∀(b:bJ) (s:DS),s.n<=(gZ b s).2.n/\(s.ao.length<=s.n->(gZ b s).2.ao.length<=(gZ b s).2.n)
 |.mk vars eqs,s=>by rw[gZ];exact rV eqs s
theorem Ei:∀(q:aF) (s:DS),s.n<=(ls q s).2.2.n/\(s.ao.length<=s.n->(ls q s).2.2.ao.length<=(ls q s).2.2.n)
 |.mk k lhs f args has e aj p,s=>by
  rw[ls];have h1:=po aj s;have h2:=wa (.mk k lhs f args has e (cv aj s).1 p) (cv aj s).2;exact⟨Nat.le_trans h1.1 h2.1,λh=>h2.2.1 (h1.2 h)⟩
theorem rV:∀(l:List aF) (s:DS),s.n<=(cP l s).2.2.n/\(s.ao.length<=s.n->(cP l s).2.2.ao.length<=(cP l s).2.2.n)
 |[],s=>by rw[cP];exact⟨Nat.le_refl _,λh=>h⟩
 |q::l,s=>by
  rw[cP];have h1:=Ei q s;have h2:=rV l (ls q s).2.2;exact⟨Nat.le_trans h1.1 h2.1,λh=>h2.2 (h1.2 h)⟩
theorem Ej:∀(a:aT) (s:DS),s.n<=(rF a s).2.n/\(s.ao.length<=s.n->(rF a s).2.ao.length<=(rF a s).2.n)
 |.mk n b u w p,s=>by rw[rF];exact Cj b s
theorem po:∀(l:List aT) (s:DS),s.n<=(cv l s).2.n/\(s.ao.length<=s.n->(cv l s).2.ao.length<=(cv l s).2.n)
 |[],s=>by rw[cv];exact⟨Nat.le_refl _,λh=>h⟩
 |a::l,s=>by
  rw[cv];have h1:=Ej a s;have h2:=po l (rF a s).2;exact⟨Nat.le_trans h1.1 h2.1,λh=>h2.2 (h1.2 h)⟩
end
theorem qt:∀(l:List aF) (s:DS),(cP l s).2.1.length<=4*l.length/\(cP l s).1.length<=6*l.length
 |[],s=>by simp[cP]
 |q::l,s=>by
  have h1:=qt l (ls q s).2.2;have h2:=wa (.mk q.kd q.lhs q.f q.args q.has q.ex (cv q.aj s).1 q.ps) (cv q.aj s).2;rw[<-v8]at h2;simp only[cP,List.length_append,List.length_cons];omega
inductive yT:bJ->Prop where
 |mk {b:bJ} (hv:b.vars.length<=1000000) (hq:b.eqs.length<=1000000)
  (ha:∀q∈b.eqs,q.aj.length<=1000/\(q.kd=4->q.aj≠[])/\∀a∈q.aj,a.name.size<=1000000000/\a.jb.length<=1000000/\a.jc.length<=1000000/\(∀t∈a.jb,t.to.size<=1000000000)/\(∀t∈a.jc,t.to.size<=1000000000))
  (hb:∀q∈b.eqs,∀a∈q.aj,yT a.be):yT b
theorem Ck{q:aF}{s:DS}{b:bJ}(hg:yT b)(hq:q∈b.eqs):∀a∈(cv q.aj s).1,Ci a:=by
 obtain⟨_,_,ha,hb⟩:=hg;have key:∀(l:List aT) (s:DS),(∀a∈l,a∈q.aj)->∀a∈(cv l s).1,Ci a:=by
  intro l
  induction l with
  |nil=>intro s _ a h;simp[cv]at h
  |cons x l ih=>
   intro s hl a h;simp only[cv,List.mem_cons]at h;rcases h with rfl|h
   ·rw[v7];have hx:=hl x (by simp);obtain⟨h1,h2,h3,h4,h5⟩:=(ha q hq).2.2 x hx;refine⟨h1,h2,h3,h4,h5,?_⟩;show(gZ x.be s).1.eqs.length<=100000000;rw[v_];show(cP x.be.eqs s).2.1.length<=_;have:=qt x.be.eqs s;cases hb q hq x hx with
    |mk h6 h7 _ _=>omega
   ·exact ih _ (λa h=>hl a (by simp[h])) a h
 exact key q.aj s λa h=>h
theorem mV:∀(l:List aT) (s:DS),(cv l s).1.length=l.length
 |[],s=>by simp[cv]
 |a::l,s=>by simp[cv,mV l]
end Go.Ps
namespace Go.Proofs.Pz
open Go.Mt Go.Sm Go.Ps Go.Proofs
open Tryz
theorem q9(it im:Nat)(b:bJ)(s:DS)(hg:yT b)(he:s.ao.length<=s.n)(hn:(gZ b s).2.n<=1000000):
  Dt prog 111 [.ref im 0,.d (.agg b.cells)] [.ob it aZ,kR im s] λr l=>r=.d (.agg (gZ b s).1.cells)/\l=[.ob it aZ,kR im (gZ b s).2]:=by
 have MK:=hg;obtain⟨hv,hq,ha,hb⟩:=MK;have ih:∀q∈b.eqs,∀a∈q.aj,∀s':DS,s'.ao.length<=s'.n->(gZ a.be s').2.n<=1000000->
   Dt prog 111 [.ref im 0,.d (.agg a.be.cells)] [.ob it aZ,kR im s'] λr l=>r=.d (.agg (gZ a.be s').1.cells)/\l=[.ob it aZ,kR im (gZ a.be s').2]:=
  λq hq a ha s' h1 h2=>
   have:=aF.Dg ha;have:=bJ.D' hq
   q9 it im a.be s' (hb q hq a ha) h1 h2
 rw[v_]at hn;rw[v_];intro H F hs;have w:=Wk.start hs;rw[b.ai];have hlen:(b.eqs.map aF.cells).length=b.eqs.length:=by simp
 refine DT.aG func111 rfl ntmps111 rfl ?_;obtain⟨mv,K1,l',GC,w,FX⟩:=Wk.call (a:=[]) w (yQ b.vars (by omega));subst GC;have Mb:=w.Ch
 repeat refine DC.seq ?_
 apply DC.ae
 ·intro s0 Oo;refine b_ rfl rfl ?_;refine aM rfl rfl ?_;exact TL.nil rfl
 repeat refine DC.seq ?_
 apply DC.ae
 ·intro s0 Oo;refine az rfl rfl ?_;refine ax rfl rfl rfl ?_;refine bn FX rfl rfl ?_;refine mU (cs:=[mv,.d (.sl [])]) rfl rfl rfl (by simp only[gU];rw[Mb];rfl) ?_;refine aM rfl rfl ?_;refine av rfl rfl rfl (fX _) rfl rfl ?_;exact TL.nil rfl
 repeat refine DC.seq ?_
 apply DC.ae
 ·intro s0 Oo;refine az rfl rfl ?_;refine ax rfl rfl rfl ?_
  (refine bg rfl rfl rfl ?_;rw[hlen])
  refine ah rfl rfl ?_;exact TL.nil rfl
 have w:=w.nil 16;refine DC.ca [(20,.m (.d (.int .i64 ((0:Nat):Int)))),(19,.m (.d (.int .i64 ((b.eqs.length:Nat):Int)))),(18,.m (.d (.sl (b.eqs.map aF.cells)))),(5,.loc 5 0),(4,.loc 4 0),(0,.m (.ref im 0))] _ _ rfl (λ_=>rfl) rfl ?_
 repeat refine DC.seq ?_
 refine DC.block ?_;refine DC.loop (λm s1=>∃(i:Nat) (mv me:M) (bx:List (Nat×List M)) (H1:Hp),s1=⟨[(20,.m (.d (.int .i64 ((i:Nat):Int)))),(19,.m (.d (.int .i64 ((b.eqs.length:Nat):Int)))),(18,.m (.d (.sl (b.eqs.map aF.cells)))),(5,.loc 5 0),(4,.loc 4 0),(0,.m (.ref im 0))],bx,H1⟩/\
   Go.Mt.get bx 5=some [mv,me]/\Go.Mt.get bx 4=some [.d (.sl []),.d (.sl [])]/\
   Wk F H [.acc 16 (bm (cP (b.eqs.take i) s).2.1) me,.acc 15 (aJ (b.vars++(cP (b.eqs.take i) s).1)) mv,.ob it aZ,kR im (cP (b.eqs.take i) s).2.2] H1/\i<=b.eqs.length/\m=b.eqs.length-i) b.eqs.length _
  ⟨0,mv,.d (.sl []),_,_,rfl,rfl,rfl,by rw[List.take_zero,cP,List.append_nil];exact w,by omega,rfl⟩ rfl ?_
 clear w FX Mb;rintro m s1 ⟨i,mv,me,bx,H1,rfl,Gz,F9,w,hi,rfl⟩
 repeat refine DC.seq ?_
 apply DC.ae
 ·intro s0 Oo;refine ak rfl rfl rfl rfl ?_;exact TL.nil rfl
 repeat refine DC.seq ?_
 refine DC.cond rfl (λhc=>?_) (λhc=>?_)
 ·have FH:i<b.eqs.length:=by have:=of_decide_eq_true hc;omega
  clear hc;have FF:(b.eqs.map aF.cells)[((i:Nat):Int).toNat]?=some b.eqs[i].cells:=by simp[FH]
  have G_:=List.getElem_mem FH;have FU:=yR FH s;obtain⟨R,hR⟩:∃R,R=cP (b.eqs.take i) s:=⟨_,rfl⟩;have Lm:R.2.2.ao.length<=R.2.2.n/\(ls b.eqs[i] R.2.2).2.2.n<=1000000/\R.2.1.length<=4000000/\R.1.length<=6000000:=by
   have h1:=(rV (b.eqs.take i) s).2 he;have h2:=qt (b.eqs.take i) s;have h3:b.eqs=b.eqs.take (i+1)++b.eqs.drop (i+1):=(List.take_append_drop _ _).symm;have h4:(cP (b.eqs.take (i+1)) s).2.2.n<=1000000:=by
    rw[h3,qp]at hn;exact Nat.le_trans (rV _ _).1 hn
   rw[FU]at h4;rw[List.length_take]at h2;rw[hR];exact⟨h1,h4,by omega,by omega⟩
  rw[<-hR]at FU w;obtain⟨NL,NF,O4⟩:=ha _ G_;have M4:=Ck (s:=R.2.2) hg G_;have QF:=ih _ G_;generalize b.eqs[i]=q at FF FU Lm G_ NL NF O4 M4 QF;rw[q.ly]at FF;have KR:(q.aj.map aT.cells).length=q.aj.length:=by simp
  refine DC.skip ?_
  repeat refine DC.seq ?_
  refine DC.block ?_
  repeat refine DC.seq ?_
  apply DC.ae
  ·intro s0 Oo;refine aO rfl rfl rfl (Int.natCast_nonneg i) FF rfl ?_;refine aW rfl rfl rfl ?_;refine aM rfl rfl ?_;refine av rfl rfl rfl rfl rfl rfl ?_;exact TL.nil rfl
  repeat refine DC.seq ?_
  apply DC.ae
  ·intro s0 Oo;refine aa rfl rfl ?_;exact TL.nil rfl
  repeat refine DC.seq ?_
  apply DC.ae
  ·intro s0 Oo;refine aq rfl rfl ?_;refine aB rfl rfl rfl rfl ?_
   (refine bg rfl rfl rfl ?_;rw[KR])
   refine ah rfl rfl ?_;exact TL.nil rfl
  have w:=w.nil 7;obtain⟨S,hS⟩:∃S,S=R.2.2:=⟨_,rfl⟩;rw[<-hS]at FU Lm w M4;refine DC.ca [(27,.m (.d (.int .i64 ((0:Nat):Int)))),(26,.m (.d (.int .i64 ((q.aj.length:Nat):Int)))),(25,.m (.d (.sl (q.aj.map aT.cells)))),(8,.m (.d (.sl []))),(7,.loc 7 0),(20,.m (.d (.int .i64 ((i:Nat):Int)))),(19,.m (.d (.int .i64 ((b.eqs.length:Nat):Int)))),(18,.m (.d (.sl (b.eqs.map aF.cells)))),(5,.loc 5 0),(4,.loc 4 0),(0,.m (.ref im 0))] _ _ rfl (λ_=>rfl) rfl ?_
  repeat refine DC.seq ?_
  refine DC.block ?_;refine DC.loop (λm s1=>∃(j:Nat) (m8:M) (bx:List (Nat×List M)) (H1:Hp),s1=⟨[(27,.m (.d (.int .i64 ((j:Nat):Int)))),(26,.m (.d (.int .i64 ((q.aj.length:Nat):Int)))),(25,.m (.d (.sl (q.aj.map aT.cells)))),(8,.m m8),(7,.loc 7 0),(20,.m (.d (.int .i64 ((i:Nat):Int)))),(19,.m (.d (.int .i64 ((b.eqs.length:Nat):Int)))),(18,.m (.d (.sl (b.eqs.map aF.cells)))),(5,.loc 5 0),(4,.loc 4 0),(0,.m (.ref im 0))],bx,H1⟩/\
    Go.Mt.get bx 5=some [mv,me]/\Go.Mt.get bx 4=some [.d (.sl []),.d (.sl [])]/\Go.Mt.get bx 7=some ((rH q).map M.d)/\
    Wk F H [.acc 7 ((cv (q.aj.take j) S).1.map aT.cells) m8,.acc 16 (bm R.2.1) me,.acc 15 (aJ (b.vars++R.1)) mv,.ob it aZ,kR im (cv (q.aj.take j) S).2] H1/\j<=q.aj.length/\m=q.aj.length-j) q.aj.length _
   ⟨0,.d (.sl []),_,_,rfl,Gz,F9,rfl,w,by omega,rfl⟩ rfl ?_
  ·clear w Gz F9;rintro m s1 ⟨j,m8,bx,H1,rfl,Gz,F9,GD,w,hj,rfl⟩
   repeat refine DC.seq ?_
   apply DC.ae
   ·intro s0 Oo;refine ak rfl rfl rfl rfl ?_;exact TL.nil rfl
   repeat refine DC.seq ?_
   refine DC.cond rfl (λhc=>?_) (λhc=>?_)
   ·have Gb:j<q.aj.length:=by have:=of_decide_eq_true hc;omega
    clear hc;have LU:(q.aj.map aT.cells)[((j:Nat):Int).toNat]?=some q.aj[j].cells:=by simp[Gb]
    have M5:=List.getElem_mem Gb;have KS:=yS Gb S;have hT:(cv (q.aj.take j) S).2.ao.length<=(cv (q.aj.take j) S).2.n:=(po _ _).2 Lm.1;have Ln:(gZ q.aj[j].be (cv (q.aj.take j) S).2).2.n<=1000000:=by
     have h1:(cv (q.aj.take (j+1)) S).2.n<=(cv q.aj S).2.n:=by
      conv=>rhs;rw[<-List.take_append_drop (j+1) q.aj,qq]
      exact(po _ _).1
     have h2:=(wa (.mk q.kd q.lhs q.f q.args q.has q.ex (cv q.aj S).1 q.ps) (cv q.aj S).2).1;rw[<-v8]at h2;rw[KS,v7]at h1;exact Nat.le_trans h1 (Nat.le_trans h2 Lm.2.1)
    have O5:((cv (q.aj.take j) S).1.map aT.cells).length<=1000:=by simp[mV];omega
    rw[v7]at KS;generalize cv (q.aj.take j) S=T at KS hT Ln O5 w;obtain⟨x,K2,l',⟨hx,GC⟩,w,FX⟩:=Wk.call (a:=[_,_]) (w.pick [3,4,0,1,2]) (QF _ M5 T.2 hT Ln);subst hx;subst GC;generalize q.aj[j]=a at LU M5 KS Ln FX w;have H8:(cv (q.aj.take (j+1)) S).1.map aT.cells=T.1.map aT.cells++[[.str a.name,.sl (aJ (gZ a.be T.2).1.vars),.sl ((gZ a.be T.2).1.eqs.map aF.cells),.sl (ic a.jb),.sl (ic a.jc),.int .i64 a.ps.1,.int .i64 a.ps.2]]:=by
     rw[KS,List.map_append,List.map_singleton,aT.ai];rfl
    have IJ:(cv (q.aj.take (j+1)) S).2=(gZ a.be T.2).2:=by rw[KS]
    rw[a.ai]at LU;rw[bJ.ai,bJ.ai]at FX;have w:Wk F H [.acc 7 (T.1.map aT.cells) m8,.acc 16 (bm R.2.1) me,.acc 15 (aJ (b.vars++R.1)) mv,.ob it aZ,kR im (gZ a.be T.2).2] K2:=w.pick [2,3,4,0,1];refine DC.skip ?_
    repeat refine DC.seq ?_
    refine DC.block ?_
    repeat refine DC.seq ?_
    apply DC.ae
    ·intro s0 Oo;refine aO rfl rfl rfl (Int.natCast_nonneg j) LU rfl ?_;refine aW rfl rfl rfl ?_;refine aM rfl rfl ?_;refine av rfl rfl rfl rfl rfl rfl ?_;exact TL.nil rfl
    repeat refine DC.seq ?_
    apply DC.ae
    ·intro s0 Oo;refine ah rfl rfl ?_;refine aq rfl rfl ?_;refine aY rfl rfl rfl rfl rfl ?_;refine bn FX rfl rfl ?_;refine aq rfl rfl ?_;refine av rfl rfl rfl rfl rfl rfl ?_;exact TL.nil rfl
    repeat refine DC.seq ?_
    apply DC.ae
    ·intro s0 Oo;refine ah rfl rfl ?_;refine aY rfl rfl rfl rfl rfl ?_;refine aD rfl rfl rfl rfl rfl rfl rfl rfl ?_;refine cK w rfl rfl rfl rfl rfl rfl (by exact cO rfl) (by simp only[List.length_singleton];omega) ?_;refine aa rfl rfl ?_;exact TL.nil rfl
    have w:=w.app [[.str a.name,.sl (aJ (gZ a.be T.2).1.vars),.sl ((gZ a.be T.2).1.eqs.map aF.cells),.sl (ic a.jb),.sl (ic a.jc),.int .i64 a.ps.1,.int .i64 a.ps.2]]
    repeat refine DC.seq ?_
    apply DC.ae
    ·intro s0 Oo;refine aV rfl rfl rfl (by omega) ?_;refine ah rfl rfl ?_;exact TL.nil rfl
    exact cb (k':=q.aj.length-(j+1)) (by omega) ⟨j+1,_,_,_,rfl,Gz,F9,GD,by rw[H8,IJ];exact w,by omega,rfl⟩ rfl rfl
   ·refine DC.exit ?_;have Gb:j=q.aj.length:=by have:=of_decide_eq_false hc;omega
    subst Gb;rw[List.take_length]at w;obtain⟨q',M6⟩:∃q':aF,q'=.mk q.kd q.lhs q.f q.args q.has q.ex (cv q.aj S).1 q.ps:=⟨_,rfl⟩;obtain⟨S2,O6⟩:∃S2,S2=(cv q.aj S).2:=⟨_,rfl⟩;have Se:ls q S=pi q' S2:=by rw[v8,M6,O6]
    have Sf:S2.n<=(pi q' S2).2.2.n:=(wa _ _).1;have Uy:S2.ao.length<=S2.n:=by rw[O6];exact(po _ _).2 Lm.1
    rw[Se]at FU Lm;have IR:=w.view (qn _);refine DC.bC 8 rfl IR ?_;have w:Wk F H [.acc 16 (bm R.2.1) me,.acc 15 (aJ (b.vars++R.1)) mv,.ob it aZ,kR im S2] H1:=by rw[O6];exact w.drop
    have NM:(cv q.aj S).1=q'.aj:=by rw[M6];rfl
    have J8:(bm R.2.1).length<=4000000:=by simpa [bm] using Lm.2.2.1
    have Jr:(aJ (b.vars++R.1)).length<=10000000:=by rw[mT,List.length_append];omega
    have M7:rH q'=[.int .u8 q.kd,.sl (aU q.lhs),.str q.f,.sl (q.args.map Xp.cells),.bool q.has,.int .u8 q.ex.kd,.int .u8 q.ex.op,.int .i32 q.ex.num,.str q.ex.nm,.sl (aU q.ex.names),.sl (q.ex.kids.map Xp.cells),.int .i64 q.ex.ps.1,.int .i64 q.ex.ps.2,.sl ((cv q.aj S).1.map aT.cells),.int .i64 q.ps.1,.int .i64 q.ps.2]:=by rw[M6];rfl
    repeat refine DC.seq ?_
    apply DC.ae
    ·intro s0 Oo;refine ah rfl rfl ?_;refine aq rfl rfl ?_;refine av rfl rfl GD rfl rfl rfl ?_;exact TL.nil rfl
    by_cases h4:q.kd=4
    ·have e4:(q.kd !=4)=false:=by simp[h4]
     repeat refine DC.seq ?_
     apply DC.ae
     ·intro s0 Oo;refine aq rfl rfl ?_;refine aB rfl rfl rfl rfl ?_
      (refine ak rfl rfl rfl (r:=.bool false) (by show some (D.bool (q.kd !=4))=_;rw[e4]) ?_)
      exact TL.nil rfl
     repeat refine DC.seq ?_
     refine DC.cond rfl (λhc=>by cases hc) (λhc=>?_);refine DC.skip ?_;have MJ:q'.kd=4:=by rw[M6];exact h4
     have FV:(cv q.aj S).1≠[]:=by
      intro h;have h1:=mV q.aj S;rw[h]at h1;exact NF h4 (List.length_eq_zero_iff.1 h1.symm)
     obtain⟨a0,ar,Sh⟩:=List.exists_cons_of_ne_nil FV;have hE:pi q' S2=(iR (S2.n+1) q'.ps,mi (S2.n+1) q'.aj q'.ps,⟨S2.n+1,S2.ao++[ni (S2.n+1) q'.aj q'.ps]⟩):=by unfold pi;rw[if_pos MJ]
     have Uz:S2.n+1<=1000000:=by have:=Lm.2.1;rw[hE]at this;exact this
     have Si:=uk it im q' S2 (by omega) (by omega) a0 ar (by rw[<-NM];exact Sh) (by rw[<-NM,mV];omega) (by rw[<-NM];exact M4);obtain⟨x,K2,l',⟨hx,GC⟩,w,FX⟩:=Wk.call (a:=[_,_]) (w.pick [2,3,0,1]) Si;subst hx;subst GC;rw[q'.ly,M7]at FX;have w:Wk F H [.acc 15 (aJ (b.vars++R.1)) mv,.acc 16 (bm R.2.1) me,.ob it aZ,kR im ⟨S2.n+1,S2.ao++[ni (S2.n+1) q'.aj q'.ps]⟩] K2:=w.pick [3,2,0,1];have w2:=w.app (aJ (iR (S2.n+1) q'.ps));have w3:Wk F H [.acc 16 (bm R.2.1) me,.acc 15 _ _,.ob it aZ,kR im ⟨S2.n+1,S2.ao++[ni (S2.n+1) q'.aj q'.ps]⟩] _:=w2.pick [1,0,2,3];have w4:=w3.app ((mi (S2.n+1) q'.aj q'.ps).map aF.cells)
     repeat refine DC.seq ?_
     apply DC.ae
     ·intro s0 Oo;refine ah rfl rfl ?_;refine aY rfl rfl rfl rfl rfl ?_;refine bn FX rfl rfl ?_;refine ah rfl rfl ?_;refine aR rfl rfl rfl ?_;refine aR rfl rfl rfl ?_;refine aa rfl rfl ?_;refine aa rfl rfl ?_;exact TL.nil rfl
     repeat refine DC.seq ?_
     apply DC.ae
     ·intro s0 Oo;refine aq rfl rfl ?_;refine aB rfl rfl Gz rfl ?_;refine ah rfl rfl ?_;refine cK w rfl rfl rfl rfl rfl rfl (by exact fP _) (by rw[mT (iR _ _)];simp only[iR,List.length_cons,List.length_nil];omega) ?_;refine aq rfl rfl ?_;refine av rfl rfl Gz (cW _ _ _) rfl rfl ?_;exact TL.nil rfl
     repeat refine DC.seq ?_
     apply DC.ae
     ·intro s0 Oo;refine aq rfl rfl ?_;refine aB rfl rfl rfl rfl ?_;refine ah rfl rfl ?_;refine cK w3 rfl rfl rfl rfl rfl rfl (by exact cg _) (by simp only[List.length_map,mi,List.length_cons,List.length_nil];omega) ?_;refine aq rfl rfl ?_;refine av rfl rfl rfl (cW _ _ _) rfl rfl ?_;exact TL.nil rfl
     repeat refine DC.seq ?_
     apply DC.ae
     ·intro s0 Oo;refine aV rfl rfl rfl (by omega) ?_;refine ah rfl rfl ?_;exact TL.nil rfl
     exact cb (k':=b.eqs.length-(i+1)) (by omega) ⟨i+1,_,_,_,_,rfl,rfl,F9,by
      rw[FU,hE];simp only[bm,List.map_append];rw[<-List.append_assoc,ql];exact w4,by omega,rfl⟩ rfl rfl
    ·have e4:(q.kd !=4)=true:=by simp[h4]
     have MJ:¬q'.kd=4:=by rw[M6];exact h4
     have hE:pi q' S2=([],[q'],S2):=by unfold pi;rw[if_neg MJ]
     have w2:=w.app [rH q'];rw[M7]at w2
     repeat refine DC.seq ?_
     apply DC.ae
     ·intro s0 Oo;refine aq rfl rfl ?_;refine aB rfl rfl rfl rfl ?_
      (refine ak rfl rfl rfl (r:=.bool true) (by show some (D.bool (q.kd !=4))=_;rw[e4]) ?_)
      exact TL.nil rfl
     repeat refine DC.seq ?_
     refine DC.cond rfl (λhc=>?_) (λhc=>by cases hc)
     repeat refine DC.seq ?_
     apply DC.ae
     ·intro s0 Oo;refine aq rfl rfl ?_;refine aB rfl rfl Gz rfl ?_;refine aY rfl rfl rfl rfl rfl ?_;refine aD rfl rfl rfl rfl rfl rfl rfl rfl ?_;refine cK w rfl rfl rfl rfl rfl rfl (by exact cO rfl) (by simp only[List.length_singleton];omega) ?_;refine aq rfl rfl ?_;refine av rfl rfl Gz (cW _ _ _) rfl rfl ?_;exact TL.nil rfl
     refine DC.exit ?_
     repeat refine DC.seq ?_
     apply DC.ae
     ·intro s0 Oo;refine aV rfl rfl rfl (by omega) ?_;refine ah rfl rfl ?_;exact TL.nil rfl
     exact cb (k':=b.eqs.length-(i+1)) (by omega) ⟨i+1,_,_,_,_,rfl,rfl,F9,by
      rw[FU,hE];simp only[bm,List.map_append,List.append_nil,List.map_cons,List.map_nil,q'.ly,M7];exact w2,by omega,rfl⟩ rfl rfl
 ·refine DC.exit ?_;have FH:i=b.eqs.length:=by have:=of_decide_eq_false hc;omega
  subst FH;rw[List.take_length]at w;have H8:=w.view (cg _);have IJ:=(w.pick [1,0,2,3]).view (fP _);refine DC.eK (FG:=[.d (.sl (aJ (b.vars++(cP b.eqs s).1))),.d (.sl (bm (cP b.eqs s).2.1))]) 5 Gz (pk IJ (pk H8 (qm _))) ?_
  repeat refine DC.seq ?_
  apply DC.ae
  ·intro s0 Oo;refine aY rfl rfl rfl rfl rfl ?_;refine av rfl rfl F9 rfl rfl rfl ?_;exact TL.nil rfl
  exact DC.ret ⟨_,rfl,[.ob it aZ,kR im (cP b.eqs s).2.2],⟨by rw[bJ.ai];rfl,rfl⟩,w.drop.drop⟩
termination_by SizeOf.sizeOf b
end Go.Proofs.Pz
namespace Go.Ps
open Go.Mt Go.Sm
theorem qu:∀(a b:List Nd) (s:DS),dD (a++b) s=((dD a s).1++(dD b (dD a s).2).1,(dD b (dD a s).2).2)
 |[],b,s=>by simp[dD]
 |q::a,b,s=>by simp[dD,qu a b]
theorem yU{l:List Nd}{i:Nat}(h:i<l.length)(s:DS):dD (l.take (i+1)) s=((dD (l.take i) s).1++[(xu l[i] (dD (l.take i) s).2).1],(xu l[i] (dD (l.take i) s).2).2):=by
 rw[List.take_succ_eq_append_getElem h,qu];simp[dD]
theorem rW:∀(l:List Nd) (s:DS),s.n<=(dD l s).2.n/\(s.ao.length<=s.n->(dD l s).2.ao.length<=(dD l s).2.n)
 |[],s=>by rw[dD];exact⟨Nat.le_refl _,λh=>h⟩
 |d::l,s=>by
  rw[dD];have h1:=Cj d.b s;have h2:=rW l (xu d s).2;exact⟨Nat.le_trans h1.1 h2.1,λh=>h2.2 (h1.2 h)⟩
theorem uW:∀(l:List Nd) (s:DS),(dD l s).1.length=l.length
 |[],s=>by simp[dD]
 |a::l,s=>by simp[dD,uW l]
theorem yV(l:List Nd):∀r∈l.map Nd.cells,r.length=7:=by intro r hr;obtain⟨_,_,rfl⟩:=List.mem_map.1 hr;rfl
theorem ou(l:List En):∀r∈l.map En.cells,r.length=4:=by intro r hr;obtain⟨_,_,rfl⟩:=List.mem_map.1 hr;rfl
structure DV(p:Pg):Prop where
 e:p.ao.length<=100000
 n:p.nodes.length<=1000
 b:∀d∈p.nodes,yT d.b
 m:(dD p.nodes ⟨0,[]⟩).2.n<=500000
end Go.Ps
namespace Go.Proofs.Pz
open Go.Mt Go.Sm Go.Ps Go.Proofs
open Tryz
theorem ul(it:Nat)(p:Pg)(hp:DV p):
  Dt prog 57 [.d (.agg p.cells)] [.ob it aZ] λr l=>r=.d (.agg (Cg p).cells)/\l=[.ob it aZ]:=by
 intro H F hs;have w:=Wk.start hs;have hlen:(p.nodes.map Nd.cells).length=p.nodes.length:=by simp
 have UB:=hp.n;refine DT.aG func57 rfl ntmps57 rfl ?_
 repeat refine DC.seq ?_
 apply DC.ae
 ·intro s0 Oo;refine b_ rfl rfl ?_;refine aM rfl rfl ?_;exact TL.nil rfl
 repeat refine DC.seq ?_
 apply DC.ae
 ·intro s0 Oo;refine bH rfl rfl rfl rfl rfl ?_;refine zx rfl rfl rfl ?_;refine aa rfl rfl ?_;exact TL.nil rfl
 repeat refine DC.seq ?_
 apply DC.ae
 ·intro s0 Oo;refine aM rfl rfl ?_;exact TL.nil rfl
 repeat refine DC.seq ?_
 apply DC.ae
 ·intro s0 Oo;refine az rfl rfl ?_;refine ax rfl rfl rfl ?_
  (refine bg rfl rfl rfl ?_;rw[hlen])
  refine ah rfl rfl ?_;exact TL.nil rfl
 obtain⟨im,QG⟩:∃im,im=H.length:=⟨_,rfl⟩;have w:Wk F H [.acc 7 [] (.d (.sl [])),kR im ⟨0,[]⟩,.ob it aZ] (H++[.box [.d (.sl []),.d (.int .i64 0)]]):=by
  refine Wk.nil ?_ 7;refine Wk.close (φ:= λmv:M=>Sep [.ob im (.box [mv,.d (.int .i64 ((0:Nat):Int))]),.acc 4 [] mv]) (.d (.sl [])) ?_;refine Wk.join (a:=[_,_]) ?_;rw[QG];exact((w.new (.box [.d (.sl []),.d (.int .i64 0)])).nil 4).pick [1,0,2]
 refine DC.ca [(12,.m (.d (.int .i64 ((0:Nat):Int)))),(11,.m (.d (.int .i64 ((p.nodes.length:Nat):Int)))),(10,.m (.d (.sl (p.nodes.map Nd.cells)))),(4,.loc 4 0),(3,.m (.ref im 0)),(2,.loc 2 0),(1,.m (.d (.bM p.cells 0)))] _ _ (by rw[QG];rfl) (λ_=>rfl) rfl ?_
 repeat refine DC.seq ?_
 refine DC.block ?_;refine DC.loop (λm s1=>∃(i:Nat) (mn:M) (bx:List (Nat×List M)) (H1:Hp),s1=⟨[(12,.m (.d (.int .i64 ((i:Nat):Int)))),(11,.m (.d (.int .i64 ((p.nodes.length:Nat):Int)))),(10,.m (.d (.sl (p.nodes.map Nd.cells)))),(4,.loc 4 0),(3,.m (.ref im 0)),(2,.loc 2 0),(1,.m (.d (.bM p.cells 0)))],bx,H1⟩/\
   Go.Mt.get bx 4=some [.d (.sl []),mn]/\Go.Mt.get bx 2=some [.d (.sl []),.d (.sl [])]/\
   Wk F H [.acc 7 ((dD (p.nodes.take i) ⟨0,[]⟩).1.map Nd.cells) mn,kR im (dD (p.nodes.take i) ⟨0,[]⟩).2,.ob it aZ] H1/\i<=p.nodes.length/\m=p.nodes.length-i) p.nodes.length _
  ⟨0,.d (.sl []),_,_,rfl,rfl,rfl,w,by omega,rfl⟩ rfl ?_
 clear w;rintro m s1 ⟨i,mn,bx,H1,rfl,F9,Gs,w,hi,rfl⟩
 repeat refine DC.seq ?_
 apply DC.ae
 ·intro s0 Oo;refine ak rfl rfl rfl rfl ?_;exact TL.nil rfl
 repeat refine DC.seq ?_
 refine DC.cond rfl (λhc=>?_) (λhc=>?_)
 ·have FH:i<p.nodes.length:=by have:=of_decide_eq_true hc;omega
  clear hc;have FF:(p.nodes.map Nd.cells)[((i:Nat):Int).toNat]?=some p.nodes[i].cells:=by simp[FH]
  have G_:=List.getElem_mem FH;have FU:=yU FH ⟨0,[]⟩;have hT:(dD (p.nodes.take i) ⟨0,[]⟩).2.ao.length<=(dD (p.nodes.take i) ⟨0,[]⟩).2.n:=(rW _ _).2 (by simp);have Ln:(xu p.nodes[i] (dD (p.nodes.take i) ⟨0,[]⟩).2).2.n<=1000000:=by
   have h1:(dD (p.nodes.take (i+1)) ⟨0,[]⟩).2.n<=(dD p.nodes ⟨0,[]⟩).2.n:=by
    conv=>rhs;rw[<-List.take_append_drop (i+1) p.nodes,qu]
    exact(rW _ _).1
   rw[FU]at h1;have:=hp.m;exact Nat.le_trans h1 (by omega)
  have O5:((dD (p.nodes.take i) ⟨0,[]⟩).1.map Nd.cells).length<=1000:=by have:=hp.n;simp[uW];omega
  generalize dD (p.nodes.take i) ⟨0,[]⟩=T at FU hT Ln O5 w;have QH:=hp.b _ G_;generalize p.nodes[i]=d at FF G_ FU Ln QH;unfold xu at FU Ln;obtain⟨x,K2,l',⟨hx,GC⟩,w,FX⟩:=Wk.call (a:=[_,_]) (w.pick [2,1,0]) (q9 it im d.b T.2 QH hT Ln);subst hx;subst GC;rw[bJ.ai,bJ.ai]at FX;have w:Wk F H [.acc 7 (T.1.map Nd.cells) mn,kR im (gZ d.b T.2).2,.ob it aZ] K2:=w.pick [2,1,0];unfold Nd.cells at FF;refine DC.skip ?_
  repeat refine DC.seq ?_
  refine DC.block ?_
  repeat refine DC.seq ?_
  apply DC.ae
  ·intro s0 Oo;refine aO rfl rfl rfl (Int.natCast_nonneg i) FF rfl ?_;refine aW rfl rfl rfl ?_;refine aM rfl rfl ?_;refine av rfl rfl rfl rfl rfl rfl ?_;exact TL.nil rfl
  repeat refine DC.seq ?_
  apply DC.ae
  ·intro s0 Oo;refine ah rfl rfl ?_;refine aq rfl rfl ?_;refine aY rfl rfl rfl rfl rfl ?_;refine bn FX rfl rfl ?_;refine aq rfl rfl ?_;refine av rfl rfl rfl rfl rfl rfl ?_;exact TL.nil rfl
  repeat refine DC.seq ?_
  apply DC.ae
  ·intro s0 Oo;refine aq rfl rfl ?_;refine aB rfl rfl F9 rfl ?_;refine aY rfl rfl rfl rfl rfl ?_;refine aD rfl rfl rfl rfl rfl rfl rfl rfl ?_;refine cK w rfl rfl rfl rfl rfl rfl (by exact cO rfl) (by simp only[List.length_singleton];omega) ?_;refine aq rfl rfl ?_;refine av rfl rfl F9 (cW _ _ _) rfl rfl ?_;exact TL.nil rfl
  have w:=w.app [[.str d.name,.sl (aJ d.ins),.sl (aJ d.outs),.sl (aJ (gZ d.b T.2).1.vars),.sl ((gZ d.b T.2).1.eqs.map aF.cells),.int .i64 d.ps.1,.int .i64 d.ps.2]]
  repeat refine DC.seq ?_
  apply DC.ae
  ·intro s0 Oo;refine aV rfl rfl rfl (by omega) ?_;refine ah rfl rfl ?_;exact TL.nil rfl
  exact cb (k':=p.nodes.length-(i+1)) (by omega) ⟨i+1,_,_,_,rfl,rfl,Gs,by rw[FU,List.map_append];exact w,by omega,rfl⟩ rfl rfl
 ·refine DC.exit ?_;have FH:i=p.nodes.length:=by have:=of_decide_eq_false hc;omega
  subst FH;rw[List.take_length]at w;obtain⟨S,hS⟩:∃S,S=(dD p.nodes ⟨0,[]⟩).2:=⟨_,rfl⟩;have Sf:S.ao.length<=500000:=by
   have h1:=(rW p.nodes ⟨0,[]⟩).2 (by simp);have h2:=hp.m;rw[hS];omega
  rw[<-hS]at w;have H8:=w.view (yV _);refine DC.eK (FG:=[.d (.sl []),.d (.sl ((dD p.nodes ⟨0,[]⟩).1.map Nd.cells))]) 4 F9 (db (pk H8 (qm _))) ?_;have w:Wk F H [kR im S,.ob it aZ] H1:=w.drop;obtain⟨mv,w⟩:=w.open;have w:Wk F H [.ob im (.box [mv,.d (.int .i64 ((S.n:Nat):Int))]),.acc 4 (S.ao.map En.cells) mv,.ob it aZ] H1:=w.split;have IJ:=(w.pick [1,0,2]).view (ou _);refine DC.vZ im w.ob (pk IJ (db (qm _))) ?_;have w:=w.set (.box [.d (.sl (S.ao.map En.cells)),.d (.int .i64 ((S.n:Nat):Int))]);have Sj:=w.ob;have Kr:=xy [p.ao.map En.cells,S.ao.map En.cells] (by
   intro l hl;rcases List.mem_cons.1 hl with rfl|hl
   ·exact ou _
   ·rw[List.mem_singleton]at hl;rw[hl];exact ou _) (by simp) (by have:=hp.e;simp;omega)
  rw[show [p.ao.map En.cells,S.ao.map En.cells].flatten=(p.ao++S.ao).map En.cells by simp]at Kr
  repeat refine DC.seq ?_
  apply DC.da mixed
  ·intro s0 Oo;refine bY rfl rfl ?_;refine cx rfl rfl rfl ?_;refine aH rfl rfl ?_;refine dL rfl rfl rfl ?_;refine fU rfl rfl ?_;refine kI rfl rfl Sj rfl ?_;refine bj rfl rfl rfl rfl rfl rfl rfl rfl ?_;refine bX Kr rfl rfl ?_;refine aP rfl rfl ?_;refine cc rfl rfl rfl rfl rfl rfl ?_;exact TF.nil ⟨by kernel_rfl,rfl⟩
  repeat refine DC.seq ?_
  apply DC.ae
  ·intro s0 Oo;refine aY rfl rfl rfl rfl rfl ?_;refine av rfl rfl Gs rfl rfl rfl ?_;exact TL.nil rfl
  exact DC.ret ⟨_,rfl,[.ob it aZ],⟨by
   unfold Cg;rw[<-hS];rfl,rfl⟩,w.drop.drop⟩
end Go.Proofs.Pz
namespace Go.Sm
open Go.Mt
def rI(o:Option Nat):Int:=match o with
 |some i=>(i:Int)
 |none=> -1
theorem tm{α:Type}{l:List α}{p:α->Bool}{i:Nat}(hi:i<l.length)(h:p l[i]=true)(HL:∀(j:Nat) (hj:j<l.length),j<i->p l[j]=false):rI (l.findIdx? p)=(i:Int):=by
 have:l.findIdx? p=some i:=by
  rw[List.findIdx?_eq_some_iff_getElem];exact⟨hi,h,λj hj=>by rw[HL j (by omega) hj];simp⟩
 rw[this];rfl
theorem qv{α:Type}{l:List α}{p:α->Bool}(HL:∀(j:Nat) (hj:j<l.length),p l[j]=false):rI (l.findIdx? p)= -1:=by
 have:l.findIdx? p=none:=by
  rw[List.findIdx?_eq_none_iff];intro d hd;obtain⟨j,hj,rfl⟩:=List.getElem_of_mem hd;exact HL j hj
 rw[this];rfl
theorem tq(l:List Nm)(x:Nm):qY l x=rI (l.findIdx? λy=>decide (y=x)):=rfl
theorem Cl(l:List Nm)(x:Nm):dh l x=decide (qY l x>=0):=by
 rw[tq];cases h:l.findIdx? λy=>decide (y=x)with
 |none=>
  rw[List.findIdx?_eq_none_iff]at h;have:dh l x=false:=by
   rw[<-Bool.not_eq_true];intro e;have:=h _ (uS.1 e);simp at this
  rw[this];simp[rI]
 |some i=>
  rw[List.findIdx?_eq_some_iff_getElem]at h;obtain⟨h1,h2,_⟩:=h;have:dh l x=true:=uS.2 (by have:=List.getElem_mem h1;simp at h2;rw[h2]at this;exact this);rw[this];simp[rI]
theorem uX{α:Type}(l:List α)(p:α->Bool):(l.findIdx? p=none/\l.find? p=none)\/∃(i:Nat) (h:i<l.length),l.findIdx? p=some i/\l.find? p=some l[i]:=by
 cases h:l.findIdx? p with
 |none=>
  refine .inl ⟨rfl,?_⟩;rw[List.findIdx?_eq_none_iff]at h;rw[List.find?_eq_none];intro x hx;rw[h x hx];simp
 |some i=>
  rw[List.findIdx?_eq_some_iff_getElem]at h;obtain⟨h1,h2,h3⟩:=h;refine .inr ⟨i,h1,rfl,?_⟩;rw[List.find?_eq_some_iff_getElem];exact⟨h2,i,h1,rfl,λj hj=>by have:=h3 j hj;simpa using this⟩
theorem Cm{l:List En}{i:Nat}(h:i<l.length):(l.map En.cells)[((i:Nat):Int).toNat]?=some l[i].cells:=by simp[h]
structure q_(en:List En):Prop where
 n:en.length<=1000000
 c:∀e∈en,e.fh.length<=1000000
end Go.Sm
namespace Go.Proofs.Pz
open Go.Mt Go.Sm Go.Ps Go.Proofs
open Tryz
theorem lI(l:List En)(cf:Nat)[bp prog cf](FR:List D)(p:En->Bool)(hl:l.length<=1000000)(hp:∀a∈l,PT prog cf (.agg a.cells::FR) (·=[.bool (p a)])):PT prog 176 [.sl (l.map En.cells),.fn cf FR] (·=[.int .i64 (rI (l.findIdx? p))]):=by
 refine PT.du (CT.aG func176 rfl ntmps176 rfl λs0 Oo=>?_)
 repeat refine TC.seq ?_
 refine TC.region ?_;refine aa rfl rfl ?_;refine TL.nil ?_
 repeat refine TC.seq ?_
 refine TC.region ?_;refine ah rfl rfl ?_
 (refine bg rfl rfl rfl ?_;rw[List.length_map])
 refine ah rfl rfl ?_;refine TL.nil ?_
 repeat refine TC.seq ?_
 refine TC.block ?_;refine TC.ep (λk s=>∃i:Nat,s=⟨[(8,.m (.d (.int .i64 i))),(7,.m (.d (.int .i64 (l.length:Nat)))),(0,.m (.d (.sl (l.map En.cells)))),(1,.m (.d (.fn cf FR)))],[],[]⟩/\i<=l.length/\k=l.length-i/\(∀(j:Nat) (hj:j<l.length),j<i->p l[j]=false)) l.length _
  ⟨0,rfl,by omega,rfl,by intro j hj h;omega⟩ rfl ?_
 rintro k s ⟨i,rfl,hi,rfl,HL⟩
 repeat refine TC.seq ?_
 refine TC.region ?_;refine ak rfl rfl rfl rfl ?_;refine TL.nil ?_
 repeat refine TC.seq ?_
 refine TC.cond rfl (λhc=>?_) (λhc=>?_)
 ·have FH:i<l.length:=by have:=of_decide_eq_true hc;omega
  clear hc;have FF:(l.map En.cells)[((i:Nat):Int).toNat]?=some l[i].cells:=by simp[FH]
  have hf:=hp _ (List.getElem_mem FH);obtain⟨b,hb⟩:∃b,b=p l[i]:=⟨_,rfl⟩;rw[<-hb]at hf;unfold En.cells at FF hf;refine TC.skip ?_
  repeat refine TC.seq ?_
  refine TC.block ?_
  repeat refine TC.seq ?_
  refine TC.region ?_;refine ah rfl rfl ?_;refine aa rfl rfl ?_;refine TL.nil ?_
  repeat refine TC.seq ?_
  refine TC.region ?_;refine ah rfl rfl ?_;refine ah rfl rfl ?_;refine ah rfl rfl ?_;refine aO rfl rfl rfl (Int.natCast_nonneg i) FF rfl ?_;refine aW rfl rfl rfl ?_;refine wD hf rfl rfl rfl ?_;refine TL.nil ?_
  repeat refine TC.seq ?_
  refine TC.cond rfl (λGb=>?_) (λGb=>?_)
  ·repeat refine TC.seq ?_
   refine TC.region ?_;refine ah rfl rfl ?_;refine aa rfl rfl ?_;refine TL.nil ?_;exact TC.ret ⟨_,rfl,[_],rfl,by rw[tm FH (hb.symm.trans Gb) (λj hj h=>HL j hj h)]⟩
  ·refine TC.skip ?_
   repeat refine TC.seq ?_
   refine TC.region ?_;refine aV rfl rfl rfl (by omega) ?_;refine ah rfl rfl ?_;refine TL.nil ?_;refine again (k':=l.length-(i+1)) (by omega) ⟨i+1,rfl,by omega,rfl,?_⟩ rfl (kc (by simp;rfl)<|kc (rfl)<|kc (rfl)<|kc (rfl)<|rfl);intro j hj h;rcases Nat.lt_succ_iff_lt_or_eq.1 h with h1|rfl
   ·exact HL j hj h1
   ·exact hb.symm.trans Gb
 ·refine TC.exit ?_;have FH:i=l.length:=by have:=of_decide_eq_false hc;omega
  repeat refine TC.seq ?_
  refine TC.region ?_;refine aa rfl rfl ?_;refine TL.nil ?_;exact TC.ret ⟨_,rfl,[_],rfl,by rw[qv (λj hj=>HL j hj (by omega))]⟩
theorem mj(l:List Va)(cf:Nat)[bp prog cf](FR:List D)(p:Va->Bool)(hl:l.length<=1000000)(hp:∀a∈l,PT prog cf (.agg a.cells::FR) (·=[.bool (p a)])):PT prog 180 [.sl (l.map Va.cells),.fn cf FR] (·=[.int .i64 (rI (l.findIdx? p))]):=by
 refine PT.du (CT.aG func180 rfl ntmps180 rfl λs0 Oo=>?_)
 repeat refine TC.seq ?_
 refine TC.region ?_;refine aa rfl rfl ?_;refine TL.nil ?_
 repeat refine TC.seq ?_
 refine TC.region ?_;refine ah rfl rfl ?_
 (refine bg rfl rfl rfl ?_;rw[List.length_map])
 refine ah rfl rfl ?_;refine TL.nil ?_
 repeat refine TC.seq ?_
 refine TC.block ?_;refine TC.ep (λk s=>∃i:Nat,s=⟨[(8,.m (.d (.int .i64 i))),(7,.m (.d (.int .i64 (l.length:Nat)))),(0,.m (.d (.sl (l.map Va.cells)))),(1,.m (.d (.fn cf FR)))],[],[]⟩/\i<=l.length/\k=l.length-i/\(∀(j:Nat) (hj:j<l.length),j<i->p l[j]=false)) l.length _
  ⟨0,rfl,by omega,rfl,by intro j hj h;omega⟩ rfl ?_
 rintro k s ⟨i,rfl,hi,rfl,HL⟩
 repeat refine TC.seq ?_
 refine TC.region ?_;refine ak rfl rfl rfl rfl ?_;refine TL.nil ?_
 repeat refine TC.seq ?_
 refine TC.cond rfl (λhc=>?_) (λhc=>?_)
 ·have FH:i<l.length:=by have:=of_decide_eq_true hc;omega
  clear hc;have FF:(l.map Va.cells)[((i:Nat):Int).toNat]?=some l[i].cells:=by simp[FH]
  have hf:=hp _ (List.getElem_mem FH);obtain⟨b,hb⟩:∃b,b=p l[i]:=⟨_,rfl⟩;rw[<-hb]at hf;rw[Va.ai]at FF hf;refine TC.skip ?_
  repeat refine TC.seq ?_
  refine TC.block ?_
  repeat refine TC.seq ?_
  refine TC.region ?_;refine ah rfl rfl ?_;refine aa rfl rfl ?_;refine TL.nil ?_
  repeat refine TC.seq ?_
  refine TC.region ?_;refine ah rfl rfl ?_;refine ah rfl rfl ?_;refine ah rfl rfl ?_;refine aO rfl rfl rfl (Int.natCast_nonneg i) FF rfl ?_;refine aW rfl rfl rfl ?_;refine wD hf rfl rfl rfl ?_;refine TL.nil ?_
  repeat refine TC.seq ?_
  refine TC.cond rfl (λGb=>?_) (λGb=>?_)
  ·repeat refine TC.seq ?_
   refine TC.region ?_;refine ah rfl rfl ?_;refine aa rfl rfl ?_;refine TL.nil ?_;exact TC.ret ⟨_,rfl,[_],rfl,by rw[tm FH (hb.symm.trans Gb) (λj hj h=>HL j hj h)]⟩
  ·refine TC.skip ?_
   repeat refine TC.seq ?_
   refine TC.region ?_;refine aV rfl rfl rfl (by omega) ?_;refine ah rfl rfl ?_;refine TL.nil ?_;refine again (k':=l.length-(i+1)) (by omega) ⟨i+1,rfl,by omega,rfl,?_⟩ rfl (kc (by simp;rfl)<|kc (rfl)<|kc (rfl)<|kc (rfl)<|rfl);intro j hj h;rcases Nat.lt_succ_iff_lt_or_eq.1 h with h1|rfl
   ·exact HL j hj h1
   ·exact hb.symm.trans Gb
 ·refine TC.exit ?_;have FH:i=l.length:=by have:=of_decide_eq_false hc;omega
  repeat refine TC.seq ?_
  refine TC.region ?_;refine aa rfl rfl ?_;refine TL.nil ?_;exact TC.ret ⟨_,rfl,[_],rfl,by rw[qv (λj hj=>HL j hj (by omega))]⟩
theorem A5(d:Va)(x:Nm):PT prog 293 [.agg d.cells,.bM [.str x] 0] (·=[.bool (decide (d.name=x))]):=by
 rw[Va.ai];refine PT.du (CT.aG func293 rfl ntmps293 rfl λs0 Oo=>?_)
 repeat refine TC.seq ?_
 refine TC.region ?_;refine b_ rfl rfl ?_;refine aa rfl rfl ?_;refine TL.nil ?_
 repeat refine TC.seq ?_
 refine TC.region ?_;refine az rfl rfl ?_;refine ax rfl rfl rfl ?_;refine ax rfl rfl rfl ?_;refine wC rfl rfl rfl ?_;refine aa rfl rfl ?_;refine TL.nil ?_;exact TC.ret ⟨_,rfl,[_],rfl,rfl⟩
theorem pq(l:List Va)(x:Nm)(hl:l.length<=1000000):PT prog 268 [.sl (aJ l),.str x] (·=[.int .i64 (rI (oq l x))]):=by
 have h:=mj l 293 [.bM [.str x] 0] (λd=>decide (d.name=x)) hl (λd _=>A5 d x);refine PT.du (CT.aG func268 rfl ntmps268 rfl λs0 Oo=>?_)
 repeat refine TC.seq ?_
 refine TC.region ?_;refine b_ rfl rfl ?_;refine aa rfl rfl ?_;refine TL.nil ?_
 repeat refine TC.seq ?_
 refine TC.region ?_;refine ah rfl rfl ?_;refine qJ rfl rfl ?_;refine bL h rfl rfl ?_;refine aa rfl rfl ?_;refine TL.nil ?_;exact TC.ret ⟨_,rfl,[_],rfl,rfl⟩
theorem fv{l:List Nm}{i:Nat}(h:i<l.length):(aU l)[((i:Nat):Int).toNat]?=some [.str l[i]]:=by simp[aU,h]
theorem A6(l:List Nm)(x:Nm)(hl:l.length<=1000000):PT prog 129 [.sl (aU l),.str x] (·=[.int .i64 (qY l x)]):=by
 refine PT.du (CT.aG func129 rfl ntmps129 rfl λs0 Oo=>?_)
 repeat refine TC.seq ?_
 refine TC.region ?_;refine aa rfl rfl ?_;refine TL.nil ?_
 repeat refine TC.seq ?_
 refine TC.region ?_;refine ah rfl rfl ?_
 (refine bg rfl rfl rfl ?_;rw[List.length_map])
 refine ah rfl rfl ?_;refine TL.nil ?_
 repeat refine TC.seq ?_
 refine TC.block ?_;refine TC.ep (λk s=>∃i:Nat,s=⟨[(8,.m (.d (.int .i64 i))),(7,.m (.d (.int .i64 (l.length:Nat)))),(0,.m (.d (.sl (aU l)))),(1,.m (.d (.str x)))],[],[]⟩/\i<=l.length/\k=l.length-i/\(∀(j:Nat) (hj:j<l.length),j<i->decide (l[j]=x)=false)) l.length _
  ⟨0,rfl,by omega,rfl,by intro j hj h;omega⟩ rfl ?_
 rintro k s ⟨i,rfl,hi,rfl,HL⟩
 repeat refine TC.seq ?_
 refine TC.region ?_;refine ak rfl rfl rfl rfl ?_;refine TL.nil ?_
 repeat refine TC.seq ?_
 refine TC.cond rfl (λhc=>?_) (λhc=>?_)
 ·have FH:i<l.length:=by have:=of_decide_eq_true hc;omega
  clear hc;have FF:=fv FH;refine TC.skip ?_
  repeat refine TC.seq ?_
  refine TC.block ?_
  repeat refine TC.seq ?_
  refine TC.region ?_;refine ah rfl rfl ?_;refine aa rfl rfl ?_;refine TL.nil ?_
  repeat refine TC.seq ?_
  refine TC.region ?_;refine ah rfl rfl ?_;refine ah rfl rfl ?_;refine ah rfl rfl ?_;refine aO rfl rfl rfl (Int.natCast_nonneg i) FF rfl ?_;refine ax rfl rfl rfl ?_;refine wC rfl rfl rfl ?_;refine TL.nil ?_
  repeat refine TC.seq ?_
  refine TC.cond rfl (λGb=>?_) (λGb=>?_)
  ·repeat refine TC.seq ?_
   refine TC.region ?_;refine ah rfl rfl ?_;refine aa rfl rfl ?_;refine TL.nil ?_;exact TC.ret ⟨_,rfl,[_],rfl,by rw[tq,tm FH (decide_eq_true (of_decide_eq_true Gb).symm) (λj hj h=>HL j hj h)]⟩
  ·refine TC.skip ?_
   repeat refine TC.seq ?_
   refine TC.region ?_;refine aV rfl rfl rfl (by omega) ?_;refine ah rfl rfl ?_;refine TL.nil ?_;refine again (k':=l.length-(i+1)) (by omega) ⟨i+1,rfl,by omega,rfl,?_⟩ rfl (kc (by simp;rfl)<|kc (rfl)<|kc (rfl)<|kc (rfl)<|rfl);intro j hj h;rcases Nat.lt_succ_iff_lt_or_eq.1 h with h1|rfl
   ·exact HL j hj h1
   ·exact decide_eq_false λe=>of_decide_eq_false Gb e.symm
 ·refine TC.exit ?_;have FH:i=l.length:=by have:=of_decide_eq_false hc;omega
  repeat refine TC.seq ?_
  refine TC.region ?_;refine aa rfl rfl ?_;refine TL.nil ?_;exact TC.ret ⟨_,rfl,[_],rfl,by rw[tq,qv (λj hj=>HL j hj (by omega))]⟩
theorem jn(l:List Nm)(x:Nm)(hl:l.length<=1000000):PT prog 82 [.sl (aU l),.str x] (·=[.bool (dh l x)]):=by
 rw[Cl];refine PT.du (CT.aG func82 rfl ntmps82 rfl λs0 Oo=>?_)
 repeat refine TC.seq ?_
 refine TC.region ?_;refine aa rfl rfl ?_;refine TL.nil ?_
 repeat refine TC.seq ?_
 refine TC.region ?_;refine ah rfl rfl ?_;refine ah rfl rfl ?_;refine bL (A6 l x hl) rfl rfl ?_;refine ak rfl rfl rfl rfl ?_;refine aa rfl rfl ?_;refine TL.nil ?_;exact TC.ret ⟨_,rfl,[_],rfl,rfl⟩
theorem um(d:En)(x:Nm)(hd:d.fh.length<=1000000):PT prog 177 [.agg d.cells,.bM [.str x] 0] (·=[.bool (dh d.fh x)]):=by
 unfold En.cells;refine PT.du (CT.aG func177 rfl ntmps177 rfl λs0 Oo=>?_)
 repeat refine TC.seq ?_
 refine TC.region ?_;refine b_ rfl rfl ?_;refine aa rfl rfl ?_;refine TL.nil ?_
 repeat refine TC.seq ?_
 refine TC.region ?_;refine az rfl rfl ?_;refine ax rfl rfl rfl ?_;refine ax rfl rfl rfl ?_;refine bL (jn _ _ hd) rfl rfl ?_;refine aa rfl rfl ?_;refine TL.nil ?_;exact TC.ret ⟨_,rfl,[_],rfl,rfl⟩
theorem we{en:List En}(G7:q_ en)(x:Nm):PT prog 125 [.sl (en.map En.cells),.str x] (·=[.int .i64 (rI (en.findIdx? λe=>dh e.fh x))]):=by
 have h:=lI en 177 [.bM [.str x] 0] (λd=>dh d.fh x) G7.n (λd hd=>um d x (G7.c d hd));refine PT.du (CT.aG func125 rfl ntmps125 rfl λs0 Oo=>?_)
 repeat refine TC.seq ?_
 refine TC.region ?_;refine b_ rfl rfl ?_;refine aa rfl rfl ?_;refine TL.nil ?_
 repeat refine TC.seq ?_
 refine TC.region ?_;refine ah rfl rfl ?_;refine qJ rfl rfl ?_;refine bL h rfl rfl ?_;refine aa rfl rfl ?_;refine TL.nil ?_;exact TC.ret ⟨_,rfl,[_],rfl,rfl⟩
end Go.Proofs.Pz
namespace Go.Sm
open Go.Mt
def lE(rs:List (List D))(m:M)(H:Hp):Prop:=(rs=[]/\m=.d (.sl [])/\H=[])\/(rs≠[]/\∃FD,m=.bB 0 FD rs.length/\H=[.row true 1 FD (br rs)])
theorem lE.acc{rs:List (List D)}{m:M}{H:Hp}(h:lE rs m H):Acc 1 0 rs m H:=by
 rcases h with⟨h1,h2,_⟩|⟨h1,FD,h2,h3⟩
 ·exact .inl ⟨h1,h2⟩
 ·exact .inr ⟨h1,FD,h2,by rw[h3];rfl⟩
theorem lE.app{rs:List (List D)}{m:M}{H:Hp}(h:lE rs m H)(r:List D):lE (rs++[r]) (dT m H [r]) (fo 1 m H [r]):=by
 rcases h with⟨rfl,rfl,rfl⟩|⟨h1,FD,rfl,rfl⟩
 ·exact .inr ⟨by simp,0,by simp[dT,vu],by simp[fo,pO]⟩
 ·exact .inr ⟨by simp,FD+1,by simp[dT],by simp[fo,br]⟩
theorem gN(l:List Nm)(x:Nm):(dl l x).length<=l.length+1:=by unfold dl;split<;>simp
theorem lF(r l:List Nm):(r.foldl dl l).length<=l.length+r.length:=by
 induction r generalizing l with
 |nil=>simp
 |cons a r ih=>simp only[List.foldl_cons,List.length_cons];have:=ih (dl l a);have:=gN l a;omega
mutual
def lG:aF->Nat
 |.mk _ lhs _ _ _ _ aj _=>lhs.length+jd aj
def jd:List aT->Nat
 |[]=>0
 |a::r=>ml a+jd r
def ml:aT->Nat
 |.mk _ b _ _ _=>iE b
def iE:bJ->Nat
 |.mk _ eqs=>lA eqs
def lA:List aF->Nat
 |[]=>0
 |q::r=>lG q+lA r
end
mutual
theorem tr:∀q:aF,(bV q).length<=lG q
 |.mk _ lhs _ _ _ _ aj _=>by rw[bV,lG];exact ra lhs aj
theorem ra:∀(l:List Nm) (r:List aT),(bE l r).length<=l.length+jd r
 |l,[]=>by rw[bE,jd];omega
 |l,a::r=>by rw[bE,jd];have h1:=ra ((ot a).foldl dl l) r;have h2:=lF (ot a) l;have h3:=yW a;omega
theorem yW:∀a:aT,(ot a).length<=ml a
 |.mk _ b _ _ _=>by rw[ot,ml];exact ov b
theorem ov:∀b:bJ,(cX b).length<=iE b
 |.mk vars eqs=>by rw[cX,iE];have:=rc vars [] eqs;simpa using this
theorem rc:∀(vars:List Va) (l:List Nm) (r:List aF),(jk vars l r).length<=l.length+lA r
 |vars,l,[]=>by rw[jk,lA];omega
 |vars,l,q::r=>by
  rw[jk,lA];have h1:=rc vars (((bV q).filter λx=>(oq vars x).isNone).foldl dl l) r;have h2:=lF ((bV q).filter λx=>(oq vars x).isNone) l;have h3:=List.length_filter_le (λx=>(oq vars x).isNone) (bV q);have h4:=tr q;omega
end
theorem Dp{α:Type}{l:List α}(h:l.length=16):∃a0 a1 a2 a3 a4 a5 a6 a7 a8 a9 b0 b1 b2 b3 b4 b5,l=[a0,a1,a2,a3,a4,a5,a6,a7,a8,a9,b0,b1,b2,b3,b4,b5]:=by
 match l,h with
 |[a0,a1,a2,a3,a4,a5,a6,a7,a8,a9,b0,b1,b2,b3,b4,b5],_=>exact⟨_,_,_,_,_,_,_,_,_,_,_,_,_,_,_,_,rfl⟩
end Go.Sm
namespace Go.Mt
end Go.Mt
namespace Go.Proofs.Pz
open Go.Mt Go.Sm Go.Ps Go.Proofs
open Tryz
theorem z_(l:List Nm)(x:Nm)(hl:l.length<=1000000){m:M}{H:Hp}(h:lE (aU l) m H):∃r K,lE (aU (dl l x)) r K/\CT prog 179 [m,.d (.str x)] H λr' K'=>r'=r/\K'=K:=by
 have hv:=h.acc.view (et l);have hc:=jn l x hl;cases hh:dh l x with
 |true=>
  rw[hh]at hc;refine⟨m,H,by rw[dl,if_pos hh];exact h,?_⟩;refine CT.aG func179 rfl ntmps179 rfl λs0 Oo=>?_
  repeat refine TC.seq ?_
  refine TC.region ?_;refine aa rfl rfl ?_;refine TL.nil ?_
  repeat refine TC.seq ?_
  refine TC.region ?_;refine ah rfl rfl ?_;refine ah rfl rfl ?_
  (refine TL.bC 5 rfl hv ?_;refine bL hc rfl rfl ?_)
  refine TL.nil ?_
  repeat refine TC.seq ?_
  refine TC.cond rfl (λhc=>?_) (λhc=>by cases hc)
  repeat refine TC.seq ?_
  refine TC.region ?_;refine ah rfl rfl ?_;refine aa rfl rfl ?_;refine TL.nil ?_;exact TC.ret ⟨_,rfl,rfl,rfl⟩
 |false=>
  rw[hh]at hc;have e:aU (dl l x)=aU l++[[.str x]]:=by rw[dl,if_neg (by rw[hh];simp)];simp[aU]
  refine⟨_,_,by rw[e];exact h.app [.str x],?_⟩;refine CT.aG func179 rfl ntmps179 rfl λs0 Oo=>?_
  repeat refine TC.seq ?_
  refine TC.region ?_;refine aa rfl rfl ?_;refine TL.nil ?_
  repeat refine TC.seq ?_
  refine TC.region ?_;refine ah rfl rfl ?_;refine ah rfl rfl ?_
  (refine TL.bC 5 rfl hv ?_;refine bL hc rfl rfl ?_)
  refine TL.nil ?_
  repeat refine TC.seq ?_
  refine TC.cond rfl (λhc=>by cases hc) (λhc=>?_);refine TC.skip ?_
  repeat refine TC.seq ?_
  refine TC.region ?_;refine ah rfl rfl ?_;refine ah rfl rfl ?_;refine aD rfl rfl rfl rfl rfl rfl rfl rfl ?_;refine BV (rows:=[[.str x]]) h.acc rfl rfl rfl rfl rfl (by exact cO rfl) (by simp[aU];omega) (by simp[aU];omega) ?_;refine aa rfl rfl ?_;refine TL.nil ?_;exact TC.ret ⟨_,rfl,rfl,rfl⟩
theorem A7(l:List Nm)(hl:l.length<=1000000):∃r K,lE (aU l) r K/\CT prog 206 [.d (.sl (aU l))] [] λr' K'=>r'=r/\K'=K:=by
 cases l with
 |nil=>
  refine⟨.d (.sl []),[],.inl ⟨rfl,rfl,rfl⟩,?_⟩;refine CT.aG func206 rfl ntmps206 rfl λs0 Oo=>?_
  repeat refine TC.seq ?_
  refine TC.region ?_;refine aa rfl rfl ?_;refine TL.nil ?_
  repeat refine TC.seq ?_
  refine TC.region ?_;refine ah rfl rfl ?_
  (refine kn rfl rfl (λb=>?_))
  refine TL.nil ?_;cases b with
  |true=>
   repeat refine TC.seq ?_
   refine TC.cond rfl (λhc=>?_) (λhc=>by cases hc)
   repeat refine TC.seq ?_
   refine TC.region ?_;refine aa rfl rfl ?_;refine TL.nil ?_;exact TC.ret ⟨_,rfl,rfl,rfl⟩
  |false=>
   repeat refine TC.seq ?_
   refine TC.cond rfl (λhc=>by cases hc) (λhc=>?_);refine TC.skip ?_
   repeat refine TC.seq ?_
   refine TC.region ?_;refine aD rfl rfl rfl rfl rfl rfl rfl rfl ?_;refine ah rfl rfl ?_;refine dC rfl rfl rfl ?_;refine aa rfl rfl ?_;refine TL.nil ?_;exact TC.ret ⟨_,rfl,rfl,rfl⟩
 |cons a l=>
  refine⟨_,_,.inr ⟨by simp,0,rfl,rfl⟩,?_⟩;refine CT.aG func206 rfl ntmps206 rfl λs0 Oo=>?_
  repeat refine TC.seq ?_
  refine TC.region ?_;refine aa rfl rfl ?_;refine TL.nil ?_
  repeat refine TC.seq ?_
  refine TC.region ?_;refine ah rfl rfl ?_;refine pe rfl (by kernel_rfl) rfl ?_;refine TL.nil ?_
  repeat refine TC.seq ?_
  refine TC.cond rfl (λhc=>by cases hc) (λhc=>?_);refine TC.skip ?_
  repeat refine TC.seq ?_
  refine TC.region ?_;refine aD rfl rfl rfl rfl rfl rfl rfl rfl ?_;refine ah rfl rfl ?_;refine jL true rfl rfl rfl rfl (by rfl) (by simp) (by exact et (a::l)) (by simp at hl⊢;omega) ?_;refine aa rfl rfl ?_;refine TL.nil ?_;exact TC.ret ⟨_,rfl,by simp[fD],rfl⟩
theorem A8(vars:List Va)(x:Nm):decide (rI (oq vars x)<0)=(oq vars x).isNone:=by
 cases h:oq vars x with
 |none=>simp[rI]
 |some i=>simp only[rI,Option.isNone_some];exact decide_eq_false (by omega)
theorem xB(q:aF)(hk:q.aj.length<=1000)(hb:lG q<=1000000)(hA:∀a∈q.aj,PT prog 229 [.agg a.be.cells] (·=[.sl (aU (cX a.be))])):PT prog 187 [.agg q.cells] (·=[.sl (aU (bV q))]):=by
 obtain⟨kd,lhs,f,args,has,ex,aj,ps⟩:=q;simp only[aF.aj]at hk hA;rw[lG]at hb;rw[bV,aF.ai];simp only[aF.kd,aF.lhs,aF.f,aF.args,aF.has,aF.ex,aF.aj,aF.ps];rw[ex.ai];obtain⟨m0,H0,Sk,LJ⟩:=A7 lhs (by omega);obtain⟨QC,UE⟩:∃QC,QC=dN kd lhs f (args.map Xp.cells) has (gw ex.kd ex.op ex.num ex.nm ex.names (ex.kids.map Xp.cells) ex.ps) (aj.map aT.cells) ps:=⟨_,rfl⟩;refine PT.du (CT.aG func187 rfl ntmps187 rfl λs0 Oo=>?_)
 repeat refine TC.seq ?_
 refine TC.region ?_;refine b_ rfl rfl ?_;refine aa rfl rfl ?_;refine TL.nil ?_
 repeat refine TC.seq ?_
 refine TC.region ?_;refine az rfl rfl ?_;refine ax rfl rfl rfl ?_;refine bn LJ rfl rfl ?_;refine aa rfl rfl ?_;refine TL.nil ?_
 repeat refine TC.seq ?_
 refine TC.region ?_;refine az rfl rfl ?_;refine ax rfl rfl rfl ?_
 (refine bg rfl rfl rfl ?_;rw[List.length_map])
 refine ah rfl rfl ?_;refine TL.nil ?_;refine TC.rename [(14,.m (.d (.int .i64 ((0:Nat):Int)))),(13,.m (.d (.int .i64 ((aj.length:Nat):Int)))),(12,.m (.d (.sl (aj.map aT.cells)))),(3,.m m0)] H0 rfl rfl ?_
 repeat refine TC.seq ?_
 refine TC.block ?_;refine TC.ep (λk s=>∃(i:Nat) (bx:List (Nat×List M)) (m:M) (H:Hp) (l:List Nm),s=⟨[(14,.m (.d (.int .i64 ((i:Nat):Int)))),(13,.m (.d (.int .i64 ((aj.length:Nat):Int)))),(12,.m (.d (.sl (aj.map aT.cells)))),(3,.m m)],bx,H⟩/\i<=aj.length/\k=aj.length-i/\lE (aU l) m H/\bE l (aj.drop i)=bE lhs aj/\l.length+jd (aj.drop i)<=1000000) aj.length _
  ⟨0,_,_,_,lhs,rfl,by omega,rfl,Sk,rfl,hb⟩ rfl ?_
 rintro k s ⟨i,bx,m,H,l,rfl,hi,rfl,ha,hd,hl⟩
 repeat refine TC.seq ?_
 refine TC.region ?_;refine ak rfl rfl rfl rfl ?_;refine TL.nil ?_
 repeat refine TC.seq ?_
 refine TC.cond rfl (λhc=>?_) (λhc=>?_)
 ·have FH:i<aj.length:=by have:=of_decide_eq_true hc;omega
  clear hc;have FF:(aj.map aT.cells)[((i:Nat):Int).toNat]?=some aj[i].cells:=by simp[FH]
  have Gi:=hA _ (List.getElem_mem FH);rw[List.drop_eq_getElem_cons FH]at hd hl;rw[bE]at hd;rw[jd]at hl;have JN:ot aj[i]=cX aj[i].be:=by cases aj[i];rw[ot];rfl
  rw[JN]at hd;have QI:ml aj[i]=iE aj[i].be:=by cases aj[i];rw[ml];rfl
  rw[QI]at hl;have GW:=ov aj[i].be;generalize aj[i]=a at FF Gi hd hl GW;rw[bJ.ai]at Gi;rw[aT.ai]at FF;generalize cX a.be=ds at hd Gi GW;refine TC.skip ?_
  repeat refine TC.seq ?_
  refine TC.block ?_
  repeat refine TC.seq ?_
  refine TC.region ?_;refine aO rfl rfl rfl (Int.natCast_nonneg i) FF rfl ?_;refine aW rfl rfl rfl ?_;refine aM rfl rfl ?_;refine av rfl rfl rfl rfl rfl rfl ?_;refine TL.nil ?_
  repeat refine TC.seq ?_
  refine TC.region ?_;refine aq rfl rfl ?_;refine aY rfl rfl rfl rfl rfl ?_;refine bL Gi rfl rfl ?_
  (refine bg rfl rfl rfl ?_;rw[List.length_map])
  refine ah rfl rfl ?_;refine TL.nil ?_;refine TC.rename [(22,.m (.d (.int .i64 ((0:Nat):Int)))),(21,.m (.d (.int .i64 ((ds.length:Nat):Int)))),(20,.m (.d (.sl (aU ds)))),(3,.m m),(14,.m (.d (.int .i64 ((i:Nat):Int)))),(13,.m (.d (.int .i64 ((aj.length:Nat):Int)))),(12,.m (.d (.sl (aj.map aT.cells))))] H rfl rfl ?_
  repeat refine TC.seq ?_
  refine TC.block ?_;refine TC.ep (λk s=>∃(j:Nat) (bx:List (Nat×List M)) (m:M) (H:Hp) (l1:List Nm),s=⟨[(22,.m (.d (.int .i64 ((j:Nat):Int)))),(21,.m (.d (.int .i64 ((ds.length:Nat):Int)))),(20,.m (.d (.sl (aU ds)))),(3,.m m),(14,.m (.d (.int .i64 ((i:Nat):Int)))),(13,.m (.d (.int .i64 ((aj.length:Nat):Int)))),(12,.m (.d (.sl (aj.map aT.cells))))],bx,H⟩/\j<=ds.length/\k=ds.length-j/\lE (aU l1) m H/\(ds.drop j).foldl dl l1=ds.foldl dl l/\l1.length<=l.length+j) ds.length _
   ⟨0,_,_,_,l,rfl,by omega,rfl,ha,rfl,by omega⟩ rfl ?_
  rintro k s ⟨j,bx,m,H,l1,rfl,hj,rfl,ha,HV,Hr⟩
  repeat refine TC.seq ?_
  refine TC.region ?_;refine ak rfl rfl rfl rfl ?_;refine TL.nil ?_
  repeat refine TC.seq ?_
  refine TC.cond rfl (λhc=>?_) (λhc=>?_)
  ·have Gb:j<ds.length:=by have:=of_decide_eq_true hc;omega
   clear hc;have G4:=fv Gb;rw[List.drop_eq_getElem_cons Gb,List.foldl_cons]at HV;generalize ds[j]=x at G4 HV;obtain⟨m2,H2,LQ,KT⟩:=z_ l1 x (by omega) ha;have Mc:=gN l1 x;refine TC.skip ?_
   repeat refine TC.seq ?_
   refine TC.block ?_
   repeat refine TC.seq ?_
   refine TC.region ?_;refine aO rfl rfl rfl (Int.natCast_nonneg j) G4 rfl ?_;refine ax rfl rfl rfl ?_;refine aa rfl rfl ?_;refine TL.nil ?_
   repeat refine TC.seq ?_
   refine TC.region ?_;refine ah rfl rfl ?_;refine ah rfl rfl ?_;refine bn KT rfl rfl ?_;refine aa rfl rfl ?_;refine TL.nil ?_
   repeat refine TC.seq ?_
   refine TC.region ?_;refine aV rfl rfl rfl (by omega) ?_;refine ah rfl rfl ?_;refine TL.nil ?_;exact again (k':=ds.length-(j+1)) (by omega) ⟨j+1,_,_,_,dl l1 x,rfl,by omega,rfl,LQ,HV,by omega⟩ rfl (kc (by simp;rfl)<|kc (rfl)<|kc (rfl)<|kc (rfl)<|kc (rfl)<|kc (rfl)<|kc (rfl)<|rfl)
  ·refine TC.exit ?_;have Gb:j=ds.length:=by have:=of_decide_eq_false hc;omega
   subst Gb;rw[List.drop_length]at HV;simp only[List.foldl_nil]at HV;rw[<-HV]at hd
   repeat refine TC.seq ?_
   refine TC.region ?_;refine aV rfl rfl rfl (by omega) ?_;refine ah rfl rfl ?_;refine TL.nil ?_;exact again (k':=aj.length-(i+1)) (by omega) ⟨i+1,_,_,_,_,rfl,by omega,rfl,ha,hd,by omega⟩ rfl (kc (by simp;rfl)<|kc (rfl)<|kc (rfl)<|kc (rfl)<|rfl)
 ·refine TC.exit ?_;have FH:i=aj.length:=by have:=of_decide_eq_false hc;omega
  subst FH;rw[List.drop_length,bE]at hd;subst hd
  repeat refine TC.seq ?_
  refine TC.region ?_;refine ah rfl rfl ?_;refine aa rfl rfl ?_;refine TL.nil ?_;refine TC.bC 2 rfl (ha.acc.view (et _)) ?_;exact TC.ret ⟨_,rfl,[_],rfl,rfl⟩
theorem Cn(b:bJ)(hv:b.vars.length<=1000000)(hk:b.eqs.length<=1000000)(hb:iE b<=1000000)(hQ:∀q∈b.eqs,PT prog 187 [.agg q.cells] (·=[.sl (aU (bV q))])):PT prog 229 [.agg b.cells] (·=[.sl (aU (cX b))]):=by
 obtain⟨vars,eqs⟩:=b;simp only[bJ.vars,bJ.eqs]at hk hQ hv;rw[iE]at hb;rw[cX,bJ.ai];simp only[bJ.vars,bJ.eqs];refine PT.du (CT.aG func229 rfl ntmps229 rfl λs0 Oo=>?_)
 repeat refine TC.seq ?_
 refine TC.region ?_;refine b_ rfl rfl ?_;refine aa rfl rfl ?_;refine TL.nil ?_
 repeat refine TC.seq ?_
 refine TC.region ?_;refine aa rfl rfl ?_;refine TL.nil ?_
 repeat refine TC.seq ?_
 refine TC.region ?_;refine az rfl rfl ?_;refine ax rfl rfl rfl ?_
 (refine bg rfl rfl rfl ?_;rw[List.length_map])
 refine ah rfl rfl ?_;refine TL.nil ?_;refine TC.rename [(11,.m (.d (.int .i64 ((0:Nat):Int)))),(10,.m (.d (.int .i64 ((eqs.length:Nat):Int)))),(9,.m (.d (.sl (eqs.map aF.cells)))),(3,.m (.d (.sl []))),(1,.m (.d (.bM [.sl (aJ vars),.sl (eqs.map aF.cells)] 0)))] [] rfl rfl ?_
 repeat refine TC.seq ?_
 refine TC.block ?_;refine TC.ep (λk s=>∃(i:Nat) (bx:List (Nat×List M)) (m:M) (H:Hp) (l:List Nm),s=⟨[(11,.m (.d (.int .i64 ((i:Nat):Int)))),(10,.m (.d (.int .i64 ((eqs.length:Nat):Int)))),(9,.m (.d (.sl (eqs.map aF.cells)))),(3,.m m),(1,.m (.d (.bM [.sl (aJ vars),.sl (eqs.map aF.cells)] 0)))],bx,H⟩/\i<=eqs.length/\k=eqs.length-i/\lE (aU l) m H/\jk vars l (eqs.drop i)=jk vars [] eqs/\l.length+lA (eqs.drop i)<=1000000) eqs.length _
  ⟨0,_,_,_,[],rfl,by omega,rfl,.inl ⟨rfl,rfl,rfl⟩,rfl,by simpa using hb⟩ rfl ?_
 rintro k s ⟨i,bx,m,H,l,rfl,hi,rfl,ha,hd,hl⟩
 repeat refine TC.seq ?_
 refine TC.region ?_;refine ak rfl rfl rfl rfl ?_;refine TL.nil ?_
 repeat refine TC.seq ?_
 refine TC.cond rfl (λhc=>?_) (λhc=>?_)
 ·have FH:i<eqs.length:=by have:=of_decide_eq_true hc;omega
  clear hc;have FF:(eqs.map aF.cells)[((i:Nat):Int).toNat]?=some eqs[i].cells:=by simp[FH]
  have Gi:=hQ _ (List.getElem_mem FH);rw[List.drop_eq_getElem_cons FH]at hd hl;rw[jk]at hd;rw[lA]at hl;have GW:=tr eqs[i];have J8:=eqs[i].len;generalize eqs[i]=q at FF Gi hd hl GW J8;generalize bV q=ds at hd Gi GW;obtain⟨a0,a1,a2,a3,a4,a5,a6,a7,a8,a9,b0,b1,b2,b3,b4,b5,Ik⟩:=Dp J8;rw[Ik]at FF Gi;refine TC.skip ?_
  repeat refine TC.seq ?_
  refine TC.block ?_
  repeat refine TC.seq ?_
  refine TC.region ?_;refine aO rfl rfl rfl (Int.natCast_nonneg i) FF rfl ?_;refine aW rfl rfl rfl ?_;refine aM rfl rfl ?_;refine av rfl rfl rfl rfl rfl rfl ?_;refine TL.nil ?_
  repeat refine TC.seq ?_
  refine TC.region ?_;refine aY rfl rfl rfl rfl rfl ?_;refine bL Gi rfl rfl ?_
  (refine bg rfl rfl rfl ?_;rw[List.length_map])
  refine ah rfl rfl ?_;refine TL.nil ?_;refine TC.rename [(18,.m (.d (.int .i64 ((0:Nat):Int)))),(17,.m (.d (.int .i64 ((ds.length:Nat):Int)))),(16,.m (.d (.sl (aU ds)))),(3,.m m),(11,.m (.d (.int .i64 ((i:Nat):Int)))),(10,.m (.d (.int .i64 ((eqs.length:Nat):Int)))),(9,.m (.d (.sl (eqs.map aF.cells)))),(1,.m (.d (.bM [.sl (aJ vars),.sl (eqs.map aF.cells)] 0)))] H rfl rfl ?_
  repeat refine TC.seq ?_
  refine TC.block ?_;refine TC.ep (λk s=>∃(j:Nat) (bx:List (Nat×List M)) (m:M) (H:Hp) (l1:List Nm),s=⟨[(18,.m (.d (.int .i64 ((j:Nat):Int)))),(17,.m (.d (.int .i64 ((ds.length:Nat):Int)))),(16,.m (.d (.sl (aU ds)))),(3,.m m),(11,.m (.d (.int .i64 ((i:Nat):Int)))),(10,.m (.d (.int .i64 ((eqs.length:Nat):Int)))),(9,.m (.d (.sl (eqs.map aF.cells)))),(1,.m (.d (.bM [.sl (aJ vars),.sl (eqs.map aF.cells)] 0)))],bx,H⟩/\j<=ds.length/\k=ds.length-j/\lE (aU l1) m H/\((ds.drop j).filter λx=>(oq vars x).isNone).foldl dl l1=(ds.filter λx=>(oq vars x).isNone).foldl dl l/\l1.length<=l.length+j) ds.length _
   ⟨0,_,_,_,l,rfl,by omega,rfl,ha,rfl,by omega⟩ rfl ?_
  rintro k s ⟨j,bx,m,H,l1,rfl,hj,rfl,ha,HV,Hr⟩
  repeat refine TC.seq ?_
  refine TC.region ?_;refine ak rfl rfl rfl rfl ?_;refine TL.nil ?_
  repeat refine TC.seq ?_
  refine TC.cond rfl (λhc=>?_) (λhc=>?_)
  ·have Gb:j<ds.length:=by have:=of_decide_eq_true hc;omega
   clear hc;have G4:=fv Gb;rw[List.drop_eq_getElem_cons Gb]at HV;generalize ds[j]=x at G4 HV;have QJ:=pq vars x hv;have LZ:=A8 vars x;cases IX:(oq vars x).isNone with
   |true=>
    rw[IX]at LZ;rw[List.filter_cons_of_pos (by simpa using IX),List.foldl_cons]at HV;obtain⟨m2,H2,LQ,KT⟩:=z_ l1 x (by omega) ha;have Mc:=gN l1 x;refine TC.skip ?_
    repeat refine TC.seq ?_
    refine TC.block ?_
    repeat refine TC.seq ?_
    refine TC.region ?_;refine aO rfl rfl rfl (Int.natCast_nonneg j) G4 rfl ?_;refine ax rfl rfl rfl ?_;refine aa rfl rfl ?_;refine TL.nil ?_
    repeat refine TC.seq ?_
    refine TC.region ?_;refine az rfl rfl ?_;refine ax rfl rfl rfl ?_;refine ah rfl rfl ?_;refine bL QJ rfl rfl ?_
    (refine ak rfl rfl rfl (r:=.bool true) (by show some (D.bool (decide _))=_;rw[LZ]) ?_)
    refine TL.nil ?_
    repeat refine TC.seq ?_
    refine TC.cond rfl (λhc=>?_) (λhc=>by cases hc)
    repeat refine TC.seq ?_
    refine TC.region ?_;refine ah rfl rfl ?_;refine ah rfl rfl ?_;refine bn KT rfl rfl ?_;refine aa rfl rfl ?_;refine TL.nil ?_
    repeat refine TC.seq ?_
    refine TC.region ?_;refine aV rfl rfl rfl (by omega) ?_;refine ah rfl rfl ?_;refine TL.nil ?_;exact again (k':=ds.length-(j+1)) (by omega) ⟨j+1,_,_,_,dl l1 x,rfl,by omega,rfl,LQ,HV,by omega⟩ rfl (kc (by simp;rfl)<|kc (rfl)<|kc (rfl)<|kc (rfl)<|kc (rfl)<|kc (rfl)<|kc (rfl)<|kc (rfl)<|rfl)
   |false=>
    rw[IX]at LZ;rw[List.filter_cons_of_neg (by rw[IX];simp)]at HV;refine TC.skip ?_
    repeat refine TC.seq ?_
    refine TC.block ?_
    repeat refine TC.seq ?_
    refine TC.region ?_;refine aO rfl rfl rfl (Int.natCast_nonneg j) G4 rfl ?_;refine ax rfl rfl rfl ?_;refine aa rfl rfl ?_;refine TL.nil ?_
    repeat refine TC.seq ?_
    refine TC.region ?_;refine az rfl rfl ?_;refine ax rfl rfl rfl ?_;refine ah rfl rfl ?_;refine bL QJ rfl rfl ?_
    (refine ak rfl rfl rfl (r:=.bool false) (by show some (D.bool (decide _))=_;rw[LZ]) ?_)
    refine TL.nil ?_
    repeat refine TC.seq ?_
    refine TC.cond rfl (λhc=>by cases hc) (λhc=>?_);refine TC.skip ?_
    repeat refine TC.seq ?_
    refine TC.region ?_;refine aV rfl rfl rfl (by omega) ?_;refine ah rfl rfl ?_;refine TL.nil ?_;exact again (k':=ds.length-(j+1)) (by omega) ⟨j+1,_,_,_,l1,rfl,by omega,rfl,ha,HV,by omega⟩ rfl (kc (by simp;rfl)<|kc (rfl)<|kc (rfl)<|kc (rfl)<|kc (rfl)<|kc (rfl)<|kc (rfl)<|kc (rfl)<|rfl)
  ·refine TC.exit ?_;have Gb:j=ds.length:=by have:=of_decide_eq_false hc;omega
   subst Gb;rw[List.drop_length]at HV;simp only[List.filter_nil,List.foldl_nil]at HV;rw[<-HV]at hd
   repeat refine TC.seq ?_
   refine TC.region ?_;refine aV rfl rfl rfl (by omega) ?_;refine ah rfl rfl ?_;refine TL.nil ?_;exact again (k':=eqs.length-(i+1)) (by omega) ⟨i+1,_,_,_,_,rfl,by omega,rfl,ha,hd,by omega⟩ rfl (kc (by simp;rfl)<|kc (rfl)<|kc (rfl)<|kc (rfl)<|kc (rfl)<|rfl)
 ·refine TC.exit ?_;have FH:i=eqs.length:=by have:=of_decide_eq_false hc;omega
  subst FH;rw[List.drop_length,jk]at hd;subst hd
  repeat refine TC.seq ?_
  refine TC.region ?_;refine ah rfl rfl ?_;refine aa rfl rfl ?_;refine TL.nil ?_;refine TC.bC 2 rfl (ha.acc.view (et _)) ?_;exact TC.ret ⟨_,rfl,[_],rfl,rfl⟩
theorem qw{q:aF}{a:aT}(h:a∈q.aj):iE a.be<=lG q:=by
 obtain⟨kd,lhs,f,args,has,ex,aj,ps⟩:=q;simp only[aF.aj]at h;rw[lG]
 suffices iE a.be<=jd aj by omega
 induction aj with
 |nil=>cases h
 |cons b r ih=>
  rw[jd];rcases List.mem_cons.1 h with rfl|h
  ·have:ml a=iE a.be:=by cases a;rw[ml];rfl
   omega
  ·have:=ih h;omega
theorem Co{b:bJ}{q:aF}(h:q∈b.eqs):lG q<=iE b:=by
 obtain⟨vars,eqs⟩:=b;simp only[bJ.eqs]at h;rw[iE]
 induction eqs with
 |nil=>cases h
 |cons b r ih=>
  rw[lA];rcases List.mem_cons.1 h with rfl|h
  ·omega
  ·have:=ih h;omega
theorem xD(b:bJ)(hs:vW b):iE b<=1000000->PT prog 229 [.agg b.cells] (·=[.sl (aU (cX b))]):=by
 induction hs with
 | @mk vars eqs h1 h2 h3 h4 h5 h6 h7 ih=>
  intro hb;refine Cn _ h1 h2 hb λq hq=>?_
  have NL:=Co (b:=.mk vars eqs) hq;refine xB q (h4 q hq) (by omega) λa ha=>ih q hq a ha ?_
  have:=qw ha;omega
theorem Cp(q:aF)(hk:q.aj.length<=1000)(hs:∀a∈q.aj,vW a.be)(hb:lG q<=1000000):PT prog 187 [.agg q.cells] (·=[.sl (aU (bV q))]):=
 xB q hk hb λa ha=>xD a.be (hs a ha) (by have:=qw ha;omega)
end Go.Proofs.Pz
