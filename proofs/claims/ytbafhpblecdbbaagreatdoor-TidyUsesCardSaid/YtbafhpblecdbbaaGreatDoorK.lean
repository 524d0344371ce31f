/- A part of the proof of the last text of this claim, without conditions. -/
import Derived.Test.YtbafhpblecdbbaaGreatDoorJ
import Derived.Test.YtbafhpblecdbbaaGreatDoorRows
import Derived.JoinedOf
import Derived.Test.YtbafhpblecdbbaaGreatDoorCards
set_option maxRecDepth 4000
set_option maxHeartbeats 4000000
set_option linter.all false
namespace Go.Ps
open Go.Mt Go.Sm
abbrev nx:Nm:=⟨#[120]⟩
abbrev ny:Nm:=⟨#[121]⟩
abbrev na:Nm:=⟨#[97]⟩
abbrev nb:Nm:=⟨#[98]⟩
abbrev cV(n:Nm):Va:=⟨n,2,⟨#[]⟩,[],false,bR,(0,0)⟩
abbrev vX(n:Nm):Xp:=.mk 4 0 0 n [] [] (0,0)
abbrev q0:Fq:=⟨1,[na],⟨#[]⟩,bR,.mk 7 3 0 ⟨#[]⟩ [] [vX nx,ss 1] (0,0),[],[],[]⟩
abbrev q1(x:Nm)(y:Nm):Fq:=⟨1,[x],⟨#[]⟩,bR,vX y,[],[],[]⟩
abbrev Js:Fl:=⟨⟨#[102]⟩,[cV nx],[cV ny],[cV na,cV nb],[q0,q1 nb na,q1 ny nb]⟩
abbrev zE:Fl:=⟨⟨#[102]⟩,[cV nx],[cV ny],[cV na],[q0,q1 ny na]⟩
abbrev eR:List (D×M):=[(.str nb,.d (.str na))]
end Go.Ps
namespace Go.Mt
section
variable{X:cQ}{ops:Array Oper}{rest:List Oper}{post:St->Prop}{sl:List (Nat×V)}{bx:List (Nat×List M)}{H:Hp}{d ty:Nat}{pos:String}{af:Array Edge}
def Ks{e n a:Nat}{x y:Operand}{rows:List (List D)}{z:D}[ht:aU X.P 37 e][m:bQ X.P e n][o:jD X.P e a][p:fk X.P e z](b:Nat.blt d X.n=true)(c:aS sl x=some (.m (.d (.sl []))))(f:aS sl y=some (.m (.d (.sl rows))))(g:Nat.blt 0 n=true)(h:(bz z).length=n)(i:rows≠[])(j:∀r∈rows,r.length=n)(l:rows.length*a<=140737488355328)(k:TL X ops rest ⟨(d,(.m (.bZ H.length 0 rows.length)))::sl,bx,H++[Ob.row false n 0 (aM rows)]⟩ post):TL X ops (⟨some d,.call ⟨.builtin .append,#[x,y],#[37,37]⟩,ty,pos,af,none⟩::rest) ⟨sl,bx,H⟩ post:=dB false b c f g h i j l k
end
def CT.Kt{P:Program}{f:Nat}{ms:List M}{H:Hp}{x:D}(h:CT P f ms H λr K=>r=.d x/\H.length<=K.length/\K.take H.length=H):CT P f ms H λr K=>r=.d x/\K=H:=by
 intro d e g c a i;have j:HB H.length H:=by rw[<-a];exact c.hb
 refine CT.drop (post:= λa b=>a=.d x/\b=H) H.length (ah9 _) (h.mono ?_) d e g c a i;rintro r l ⟨rfl,k,b⟩;exact⟨k,.d _,by rw[b];exact j,W,b⟩
end Go.Mt
namespace Go.Proofs.Pz
open Go.Mt Go.Sm Go.Ps Go.Proofs
open Tryz
def zF(H:Hp)(i:Nat)(x:Nm)(a:H[i]?=some (.map eR))(b:ek x eR=none):CT prog 78 [.mp i,.d (.str x)] H λr K=>r=.d (.str x)/\K=H:=by
 refine My func78 W ntmps78 W λc d=>?_
 repeat first|((with_reducible apply TC.seq))|((with_reducible apply TC.block))|((with_reducible apply MZ);rfl)|((with_reducible apply TC.skip))|((with_reducible apply TC.ret))|((with_reducible apply fb))|((with_reducible apply ue))|((with_reducible apply uf))|((with_reducible apply iN.mk))|((with_reducible apply(NT 5)))|((apply TC.region);(repeat first|((with_reducible apply aq);rfl;rfl)|((with_reducible apply aj);rfl;rfl)|((with_reducible apply(ay (r:=.bool true)));rfl;rfl;rfl;rfl)|((with_reducible apply kg);rfl;rfl)|((with_reducible apply gH);rfl;rfl;rfl)|(refine FA W W W a ?_)|(refine nH W W W a W ?_;rw[b]));(apply TL.nil))
 exact⟨_,W,W,W⟩
def KN(H:Hp)(i:Nat)(a:H[i]?=some (.map eR)):CT prog 78 [.mp i,.d (.str nb)] H λr K=>r=.d (.str na)/\K=H:=by
 refine My func78 W ntmps78 W λb c=>?_
 repeat first|((with_reducible apply TC.seq))|((with_reducible apply TC.block))|((with_reducible apply MZ);rfl)|((with_reducible apply MJ);rfl)|((with_reducible apply TC.skip))|((with_reducible apply TC.exit))|((with_reducible apply TC.ret))|((with_reducible apply fb))|((with_reducible apply iy))|((with_reducible apply jY))|((with_reducible apply iz))|((with_reducible apply iN.mk))|((with_reducible apply(NT 5)))|((apply TC.region);(repeat first|((with_reducible apply aq);rfl;rfl)|((with_reducible apply aj);rfl;rfl)|((with_reducible apply(ay (r:=.bool true)));rfl;rfl;rfl;rfl)|((with_reducible apply(ay (r:=.bool false)));rfl;rfl;rfl;rfl)|((with_reducible apply kg);rfl;rfl)|((with_reducible apply gH);rfl;rfl;rfl)|((with_reducible apply bc);rfl;rfl;rfl;(first|decide|(simp only[aia,List.length_nil];decide)|(simp only[aia,List.length_nil];omega)))|(refine FA W W W a ?_)|(refine nH W W W a W ?_));(apply TL.nil))
 exact⟨_,W,W,W⟩
def KO(H:Hp)(i:Nat):CT prog 79 [.mp i,.d (.sl [])] H λr K=>r=.d (.sl [])/\K=H:=by
 refine My func79 W ntmps79 W λa b=>?_
 repeat first|((with_reducible apply TC.seq))|((with_reducible apply TC.block))|((with_reducible apply MJ);rfl)|((with_reducible apply TC.exit))|((with_reducible apply TC.ret))|((with_reducible apply fb))|((with_reducible apply iy))|((with_reducible apply iz))|((with_reducible apply iN.mk))|((with_reducible apply(NT 5)))|((apply TC.region);(repeat first|((with_reducible apply aq);rfl;rfl)|((with_reducible apply aj);rfl;rfl)|((with_reducible apply(ay (r:=.bool false)));rfl;rfl;rfl;rfl)|((with_reducible apply aY);rfl;rfl;rfl));(apply TL.nil))
 exact⟨_,W,W,W⟩
def L5(H:Hp)(i:Nat):CT prog 128 [.mp i,.d (.agg (xC (ss 1)))] H λr K=>r=.d (.agg (xC (ss 1)))/\K=H:=by
 refine My func128 W ntmps128 W λa b=>?_
 repeat first|((with_reducible apply TC.seq))|((with_reducible apply TC.block))|((with_reducible apply MJ);rfl)|((with_reducible apply TC.skip))|((with_reducible apply TC.exit))|((with_reducible apply TC.ret))|((with_reducible apply fb))|((with_reducible apply iy))|((with_reducible apply iz))|((with_reducible apply iN.mk))|((with_reducible apply(NT 5)))|((apply TC.region);(repeat first|((with_reducible apply az);rfl)|((with_reducible apply aq);rfl;rfl)|((with_reducible apply aj);rfl;rfl)|((with_reducible apply aF);rfl;rfl)|((with_reducible apply aJ);rfl;rfl;rfl;rfl)|((with_reducible apply bp);rfl;rfl;rfl;rfl;rfl)|((with_reducible apply(ay (r:=.bool false)));rfl;rfl;rfl;rfl)|((with_reducible apply gR);rfl;rfl;rfl)|((with_reducible apply aY);rfl;rfl;rfl)|((with_reducible apply gy);rfl;rfl;rfl;rfl)|((with_reducible apply kB);rfl;rfl)|((with_reducible apply aK);rfl;rfl;rfl;rfl;rfl;rfl));(apply TL.nil))
 exact⟨_,W,W,W⟩
def KP(H:Hp)(i:Nat)(x y:Nm)(h:CT prog 78 [.mp i,.d (.str x)] H λr K=>r=.d (.str y)/\K=H):CT prog 128 [.mp i,.d (.agg (xC (vX x)))] H λr K=>r=.d (.agg (xC (vX y)))/\K=H:=by
 refine My func128 W ntmps128 W λa b=>?_
 repeat first|((with_reducible apply TC.seq))|((with_reducible apply TC.block))|((with_reducible apply MZ);rfl)|((with_reducible apply MJ);rfl)|((with_reducible apply TC.exit))|((with_reducible apply TC.ret))|((with_reducible apply fb))|((with_reducible apply iy))|((with_reducible apply iz))|((with_reducible apply iN.mk))|((with_reducible apply(NT 5)))|((apply TC.region);(repeat first|((with_reducible apply bN);rfl;rfl)|((with_reducible apply aq);rfl;rfl)|((with_reducible apply aj);rfl;rfl)|((with_reducible apply aF);rfl;rfl)|((with_reducible apply aJ);rfl;rfl;rfl;rfl)|((with_reducible apply bp);rfl;rfl;rfl;rfl;rfl)|((with_reducible apply(ay (r:=.bool true)));rfl;rfl;rfl;rfl)|((with_reducible apply(ay (r:=.bool false)));rfl;rfl;rfl;rfl)|((with_reducible apply gR);rfl;rfl;rfl)|((with_reducible apply aY);rfl;rfl;rfl)|((with_reducible apply gy);rfl;rfl;rfl;rfl)|((with_reducible apply kB);rfl;rfl)|((with_reducible apply aK);rfl;rfl;rfl;rfl;rfl;rfl)|(refine aA h W W ?_));(apply TL.nil))
 exact⟨_,W,W,W⟩
abbrev xA:Xp:=.mk 7 3 0 ⟨#[]⟩ [] [vX nx,ss 1] (0,0)
def L6(H:Hp)(i:Nat)(a:H[i]?=some (.map eR)):CT prog 128 [.mp i,.d (.agg (xC xA))] H λr K=>r=.d (.agg (xC xA))/\K=H:=by
 have b:= λH a=>KP H i nx nx (zF H i nx a W)
 have c:∀K:Hp,(H++K)[i]?=some (.map eR):= λK=>by rw[aim (aiX.1 a).1];exact a
 refine CT.Kt (My func128 W ntmps128 W λc d=>?_)
 repeat first|((with_reducible apply TC.seq))|((with_reducible apply TC.block))|((with_reducible apply MZ);rfl)|((with_reducible apply MJ);rfl)|((with_reducible apply TC.skip))|((with_reducible apply TC.exit))|((with_reducible apply fb))|((with_reducible apply iy))|((with_reducible apply jY))|((with_reducible apply iz))|((with_reducible apply iN.mk))|((with_reducible apply(NT 5)))|((apply TC.region);(repeat first|((with_reducible apply az);rfl)|((with_reducible apply aq);rfl;rfl)|((with_reducible apply aj);rfl;rfl)|((with_reducible apply aF);rfl;rfl)|((with_reducible apply aJ);rfl;rfl;rfl;rfl)|((with_reducible apply ca);rfl;rfl;rfl)|((with_reducible apply bp);rfl;rfl;rfl;rfl;rfl)|((with_reducible apply(ay (r:=.bool true)));rfl;rfl;rfl;rfl)|((with_reducible apply(ay (r:=.bool false)));rfl;rfl;rfl;rfl)|((with_reducible apply gR);rfl;rfl;rfl)|((with_reducible apply aY);rfl;rfl;rfl)|((with_reducible apply gy);rfl;rfl;rfl;rfl)|((with_reducible apply kB);rfl;rfl)|((with_reducible apply aK);rfl;rfl;rfl;rfl;rfl;rfl)|((with_reducible apply dF);rfl;rfl;rfl;rfl;rfl;rfl;rfl;rfl)|((with_reducible apply bc);rfl;rfl;rfl;(first|decide|(simp only[aia,List.length_nil];decide)|(simp only[aia,List.length_nil];omega)))|((with_reducible apply bH);rfl;rfl;rfl;decide;rfl;rfl)|((with_reducible apply dB);(case acc=>exact true);rfl;rfl;rfl;rfl;rfl;simp;exact bS W;exact jN W)|(refine aA (b _ a) W W ?_)|(refine aA (L5 _ i) W W ?_)|((with_reducible apply dr);rfl;rfl;rfl;exact ajF;rfl;exact bS W;decide;decide));(apply TL.nil))
 refine TC.cA (MP:=(xC xA).map M.d) 3 W (by
  show dw ((H++[_]).set H.length _) ([.d _,.d _,.d _,.d _,.d _,.bZ H.length (0+1) (1+1),.d _,.d _])=_;rw[aki _ _ (ah9 _),akY];simp only[dw,ep,aix (ah9 _),akY];rfl) ?_
 repeat refine TC.seq ?_
 refine TC.region ?_;refine bp W W W W W ?_;refine aK W W W W W W ?_;refine TL.nil ?_;refine TC.ret ⟨_,W,W,?_,?_⟩
 .simp
 .rw[aki _ _ (ah9 _)];simp
def KQ(H:Hp)(i:Nat)(q:Fq)(e:Xp)(a:q.args=[])(b:q.ck=[])(d:q.rs=[])(f:CT prog 128 [.mp i,.d (.agg (xC q.e))] H λr K=>r=.d (.agg (xC e))/\K=H):
  CT prog 80 [.mp i,.d (.agg (mU q (.sl [])))] H λr K=>r=.d (.agg (mU ⟨q.kd,q.lhs,q.f,q.first,e,[],[],[]⟩ (.sl [])))/\K=H:=by
 obtain⟨k,l,n,z,x,g,c,s⟩:=q;subst a;subst b;subst d;refine My func80 W ntmps80 W λh j=>?_
 repeat first|((with_reducible apply TC.seq))|((with_reducible apply TC.block))|((with_reducible apply MJ);rfl)|((with_reducible apply TC.exit))|((with_reducible apply TC.ret))|((with_reducible apply fb))|((with_reducible apply iy))|((with_reducible apply iz))|((with_reducible apply iN.mk))|((with_reducible apply(NT 5)))|((apply TC.region);(repeat first|((with_reducible apply aq);rfl;rfl)|((with_reducible apply aj);rfl;rfl)|((with_reducible apply aF);rfl;rfl)|((with_reducible apply aJ);rfl;rfl;rfl;rfl)|((with_reducible apply bp);rfl;rfl;rfl;rfl;rfl)|((with_reducible apply(ay (r:=.bool false)));rfl;rfl;rfl;rfl)|((with_reducible apply aY);rfl;rfl;rfl)|((with_reducible apply gy);rfl;rfl;rfl;rfl)|((with_reducible apply kB);rfl;rfl)|((with_reducible apply aK);rfl;rfl;rfl;rfl;rfl;rfl));(apply TL.nil))|((apply OP mixed);(repeat first|((with_reducible apply bG);rfl;rfl)|((with_reducible apply cF);rfl;rfl)|((with_reducible apply cO);rfl;rfl;rfl;rfl)|((with_reducible apply cY);rfl;rfl;rfl;rfl;rfl)|((with_reducible apply cv);rfl;rfl;rfl;rfl;rfl;rfl)|(refine fD f W W ?_)|(refine fD (KO _ i) W W ?_));(refine TF.nil ⟨by kernel_rfl,?_⟩))
 exact⟨_,W,W,W⟩
def Hz:CT prog 30 [.d (.agg Js.cells)] [bg] λr K=>r=.d (.agg zE.cells)/\K=[bg]:=by
 refine CT.Kt (My func30 W ntmps30 W λa b=>?_)
 repeat first|((with_reducible apply TC.seq))|((with_reducible apply TC.block))|((with_reducible apply MZ);rfl)|((with_reducible apply MJ);rfl)|((with_reducible apply TC.skip))|((with_reducible apply TC.exit))|((with_reducible apply fb))|((with_reducible apply iy))|((with_reducible apply jY))|((with_reducible apply iz))|((with_reducible apply iN.mk))|((with_reducible apply(NT 5)))|((apply TC.region);(repeat first|((with_reducible apply aq);rfl;rfl)|((with_reducible apply aj);rfl;rfl)|((with_reducible apply aF);rfl;rfl)|((with_reducible apply aJ);rfl;rfl;rfl;rfl)|((with_reducible apply ca);rfl;rfl;rfl)|((with_reducible apply bp);rfl;rfl;rfl;rfl;rfl)|((with_reducible apply(ay (r:=.bool true)));rfl;rfl;rfl;rfl)|((with_reducible apply(ay (r:=.bool false)));rfl;rfl;rfl;rfl)|((with_reducible apply aY);rfl;rfl;rfl)|((with_reducible apply gy);rfl;rfl;rfl;rfl)|((with_reducible apply kB);rfl;rfl)|((with_reducible apply aK);rfl;rfl;rfl;rfl;rfl;rfl)|((with_reducible apply pE);rfl)|((with_reducible apply eU);rfl;rfl;rfl;rfl;rfl)|((with_reducible apply dF);rfl;rfl;rfl;rfl;rfl;rfl;rfl;rfl)|((with_reducible apply g_);rfl;rfl;rfl;rfl;rfl)|((with_reducible apply bc);rfl;rfl;rfl;(first|decide|(simp only[aia,List.length_nil];decide)|(simp only[aia,List.length_nil];omega)))|((with_reducible apply bH);rfl;rfl;rfl;decide;rfl;rfl)|((with_reducible apply dB);(case acc=>exact true);rfl;rfl;rfl;rfl;rfl;simp;exact bS W;exact jN W)|(refine aA (KO _ 2) W W ?_));(apply TL.nil))|((apply OP mixed);(repeat first|((with_reducible apply e_);rfl;rfl;rfl;rfl)|((with_reducible apply bO);rfl;rfl)|((with_reducible apply bG);rfl;rfl)|((with_reducible apply cF);rfl;rfl)|((with_reducible apply di);rfl;rfl;rfl)|((with_reducible apply cO);rfl;rfl;rfl;rfl)|((with_reducible apply cY);rfl;rfl;rfl;rfl;rfl)|((with_reducible apply(kV (r:=.bool true)));rfl;rfl;rfl;rfl)|((with_reducible apply(kV (r:=.bool false)));rfl;rfl;rfl;rfl)|((with_reducible apply pA);rfl;rfl;rfl)|((with_reducible apply Cg);rfl;rfl;rfl)|((with_reducible apply Ch);rfl;rfl;rfl)|((with_reducible apply lY);rfl;rfl;rfl)|((with_reducible apply s4);rfl;rfl;rfl;rfl;rfl)|((with_reducible apply mQ);rfl;rfl;rfl;rfl;rfl)|((with_reducible apply cv);rfl;rfl;rfl;rfl;rfl;rfl)|((with_reducible apply cr);rfl;rfl;rfl;rfl;rfl;rfl;rfl;rfl)|((with_reducible apply bE);rfl;rfl;rfl;decide;rfl;rfl)|((with_reducible apply nI);(case acc=>exact true);rfl;rfl;rfl;rfl;rfl;simp;exact bS W;exact jN W)|((with_reducible apply lD);rfl;rfl;rfl;rfl;rfl;exact bS W;decide;decide)|(refine fD (KN _ 2 W) W W ?_)|(refine fD (zF _ 2 na W W) W W ?_)|(refine fD (zF _ 2 ny W W) W W ?_)|(refine fD (KQ _ 2 q0 xA W W W (L6 _ 2 W)) W W ?_)|(refine fD (KQ _ 2 (q1 ny nb) (vX na) W W W (KP _ 2 nb na (KN _ 2 W))) W W ?_));(refine TF.nil ⟨by kernel_rfl,?_⟩))
 refine TC.cA (MP:=[.d (.str ⟨#[102]⟩),.d (.sl (ax [cV nx])),.d (.sl (ax [cV ny])),.d (.sl (ax [cV na])),.d (.sl (ff [q0,q1 ny na]))]) 9 W W ?_
 repeat refine TC.seq ?_
 refine TC.region ?_;refine bp W W W W W ?_;refine aK W W W W W W ?_;refine TL.nil ?_;exact TC.ret ⟨_,W,W,aiy W,W⟩
abbrev eC:List (D×M):=[(.str nx,.d (.sl [])),(.str ny,.d (.sl [])),(.str na,.d (.sl []))]
abbrev eN:List (D×M):=[(.str ny,.d (.bool true)),(.str na,.d (.bool true)),(.str nx,.d (.bool true))]
def L7:CT prog 131 [.d (.sl []),.d (.int .i64 1)] [] λr K=>r=.bZ 0 1 0/\K=[.row true 1 1 []]:=by
 refine My func131 W ntmps131 W λa b=>?_
 repeat first|((with_reducible apply TC.seq))|((with_reducible apply MZ);rfl)|((with_reducible apply MJ);rfl)|((with_reducible apply TC.skip))|((with_reducible apply TC.ret))|((with_reducible apply fb))|((apply TC.region);(repeat first|((with_reducible apply aq);rfl;rfl)|((with_reducible apply aj);rfl;rfl)|((with_reducible apply(ay (r:=.bool true)));rfl;rfl;rfl;rfl)|((with_reducible apply(ay (r:=.bool false)));rfl;rfl;rfl;rfl)|((with_reducible apply aY);rfl;rfl;rfl)|((with_reducible apply cj);rfl;rfl;rfl;decide)|(refine tZ W W ?_)|(refine rG W W W ?_)|(refine pG (len:=1) W W W W (by rfl) (by decide) (by decide) (by decide) ?_)|(refine oY true W W W W (by decide) (by decide) ?_));(apply TL.nil))
 exact⟨_,W,W,W⟩
def E_(x:Nm):PT prog 85 [.sl [[.sl [[.str x]]],[.sl []]]] (·=[.sl [[.str x]]]):=by
 have h:CT prog 85 [.d (.sl [[.sl [[.str x]]],[.sl []]])] [] λr K=>r=.bZ 0 3 1/\K=[.row true 1 3 (aM [[.str x]])]:=by
  refine My func85 W ntmps85 W λa b=>?_
  repeat first|((with_reducible apply TC.seq))|((with_reducible apply TC.block))|((with_reducible apply MZ);rfl)|((with_reducible apply MJ);rfl)|((with_reducible apply TC.skip))|((with_reducible apply TC.exit))|((with_reducible apply TC.ret))|((with_reducible apply fb))|((with_reducible apply iy))|((with_reducible apply jY))|((with_reducible apply iz))|((with_reducible apply iN.mk))|((with_reducible apply(NT 5)))|((apply TC.region);(repeat first|((with_reducible apply aq);rfl;rfl)|((with_reducible apply aj);rfl;rfl)|((with_reducible apply aI);rfl;rfl;rfl)|((with_reducible apply(ay (r:=.bool true)));rfl;rfl;rfl;rfl)|((with_reducible apply(ay (r:=.bool false)));rfl;rfl;rfl;rfl)|((with_reducible apply aY);rfl;rfl;rfl)|((with_reducible apply bc);rfl;rfl;rfl;(first|decide|(simp only[aia,List.length_nil];decide)|(simp only[aia,List.length_nil];omega)))|((with_reducible apply bH);rfl;rfl;rfl;decide;rfl;rfl)|((with_reducible apply dr);rfl;rfl;rfl;rfl;rfl;exact bS W;(first|decide|(simp only[aia,List.length_nil];decide));(first|decide|(simp only[aia,List.length_nil];decide)))|(refine aA L7 W W ?_)|((with_reducible apply dr);rfl;rfl;rfl;rfl;rfl;exact(λ_ h=>nomatch h);(first|decide|(simp only[aia,List.length_nil];decide));(first|decide|(simp only[aia,List.length_nil];decide))));(apply TL.nil))
  exact⟨_,W,W,W⟩
 exact ML ((CT.Kt ((h.pb W).mono λr K h=>⟨h.1,aja _,rfl⟩)).mono λr K h=>⟨[_],h.1,rfl⟩)
def KR(H:Hp)(i:Nat)(q:Fq)(z:D)(x:Nm)(a:q.lhs=[x])(b:q.rs=[])(d:H[i]?=some (.map eC))(f:ek x eC=some (.d (.sl []))):CT prog 86 [.mp i,.d (.agg (mU q z))] H λr K=>r=.d (.sl [])/\K=H:=by
 obtain⟨k,l,n,y,e,g,c,s⟩:=q;subst a;subst b;refine My func86 W ntmps86 W λh j=>?_
 repeat first|((with_reducible apply TC.seq))|((with_reducible apply TC.block))|((with_reducible apply MZ);rfl)|((with_reducible apply MJ);rfl)|((with_reducible apply TC.skip))|((with_reducible apply TC.exit))|((with_reducible apply TC.ret))|((with_reducible apply fb))|((with_reducible apply iy))|((with_reducible apply jY))|((with_reducible apply iz))|((with_reducible apply iN.mk))|((with_reducible apply(NT 5)))|((apply TC.region);(repeat first|((with_reducible apply aq);rfl;rfl)|((with_reducible apply aj);rfl;rfl)|((with_reducible apply aF);rfl;rfl)|((with_reducible apply aI);rfl;rfl;rfl)|((with_reducible apply aJ);rfl;rfl;rfl;rfl)|((with_reducible apply(ay (r:=.bool true)));rfl;rfl;rfl;rfl)|((with_reducible apply(ay (r:=.bool false)));rfl;rfl;rfl;rfl)|((with_reducible apply aY);rfl;rfl;rfl)|((with_reducible apply gy);rfl;rfl;rfl;rfl)|((with_reducible apply dF);rfl;rfl;rfl;rfl;rfl;rfl;rfl;rfl)|((with_reducible apply bc);rfl;rfl;rfl;(first|decide|(simp only[aia,List.length_nil];decide)|(simp only[aia,List.length_nil];omega)))|((with_reducible apply bH);rfl;rfl;rfl;decide;rfl;rfl)|(refine aX (E_ x) W W ?_)|(refine lB W W W d W ?_;rw[f]));(apply TL.nil))
 exact⟨_,W,W,W⟩
def KS(H:Hp)(a b:Nat)(x:Nm)(es:List (D×M))(c:H[a]?=some (.box [.mp b]))(d:H[b]?=some (.map es))(e:strKeys es=true)(f:ek x es=some (.d (.bool true))):CT prog 88 [.d (.str x),.ref a 0] H λr K=>r=.d (.bool true)/\K=H:=by
 refine My func88 W ntmps88 W λa b=>?_
 repeat first|((with_reducible apply TC.seq))|((with_reducible apply TC.ret))|((with_reducible apply fb))|((apply TC.region);(repeat first|((with_reducible apply aq);rfl;rfl)|((with_reducible apply aj);rfl;rfl)|(refine bK W W c W ?_)|(refine lB W W W d e ?_;rw[f]));(apply TL.nil))
 exact⟨_,W,W,W⟩
def L8(H:Hp)(a:Nat)(x:Nm)(h:CT prog 88 [.d (.str x),.ref a 0] H λr K=>r=.d (.bool true)/\K=H):CT prog 132 [.d (.sl [[.str x]]),.fn 88 [.ref a 0]] H λr K=>r=.d (.int .i64 0)/\K=H:=by
 refine My func132 W ntmps132 W λa b=>?_
 repeat first|((with_reducible apply TC.seq))|((with_reducible apply TC.block))|((with_reducible apply MZ);rfl)|((with_reducible apply TC.skip))|((with_reducible apply TC.ret))|((with_reducible apply fb))|((with_reducible apply ue))|((with_reducible apply uf))|((with_reducible apply iN.mk))|((with_reducible apply(NT 5)))|((apply TC.region);(repeat first|((with_reducible apply aq);rfl;rfl)|((with_reducible apply aj);rfl;rfl)|((with_reducible apply aI);rfl;rfl;rfl)|((with_reducible apply(ay (r:=.bool true)));rfl;rfl;rfl;rfl)|((with_reducible apply aY);rfl;rfl;rfl)|((with_reducible apply bH);rfl;rfl;rfl;decide;rfl;rfl)|(refine rH h W W W ?_));(apply TL.nil))
 exact⟨_,W,W,W⟩
def KT(H:Hp)(a:Nat)(x:Nm)(h:CT prog 88 [.d (.str x),.ref a 0] H λr K=>r=.d (.bool true)/\K=H):CT prog 87 [.d (.sl [[.str x]]),.fn 88 [.ref a 0]] H λr K=>r=.d (.bool true)/\K=H:=by
 refine My func87 W ntmps87 W λb c=>?_
 repeat first|((with_reducible apply TC.seq))|((with_reducible apply TC.ret))|((with_reducible apply fb))|((apply TC.region);(repeat first|((with_reducible apply aq);rfl;rfl)|((with_reducible apply aj);rfl;rfl)|((with_reducible apply(ay (r:=.bool true)));rfl;rfl;rfl;rfl)|(refine aA (L8 _ a x h) W W ?_));(apply TL.nil))
 exact⟨_,W,W,W⟩
def L9(k op n:Int)(x:Nm)(a:k≠12):fG (.mk k op n x [] [] (0,0)):=.mk (λh=>absurd h a) (by simp[Xp.kids]) (by simp[Xp.names]) (by simp[Xp.kids])
def E':PT prog 77 [] (·=[.agg Js.cells]):=by
 refine ML (My func77 W ntmps77 W λa b=>?_)
 repeat first|((with_reducible apply TC.seq))|((with_reducible apply TC.ret))|((with_reducible apply fb))|((apply TC.region);(repeat first|((with_reducible apply aF);rfl;rfl)|((with_reducible apply bp);rfl;rfl;rfl;rfl;rfl)|((with_reducible apply kB);rfl;rfl)|((with_reducible apply aK);rfl;rfl;rfl;rfl;rfl;rfl)|((with_reducible apply dF);rfl;rfl;rfl;rfl;rfl;rfl;rfl;rfl)|((with_reducible apply g_);rfl;rfl;rfl;rfl;rfl));(apply TL.nil))
 exact⟨_,W,[_],W,W⟩
def L_:PT prog 32 [.agg (mU q0 (.sl []))] (·=[.sl [[.str nx]]]):=by
 have h:=zD q0 ⟨.mk (by simp[Xp.kd]) (by simp[Xp.kids]) (by simp[Xp.names]) (by
  intro k a;simp only[Xp.kids,aib,aip,aiJ]at a;rcases a with rfl|rfl<;>exact L9 _ _ _ _ (by decide)),by simp,by simp,aiy (by kernel_rfl)⟩
 rw[ez,show rA q0=[nx] by kernel_rfl]at h;exact h
def Ma:PT prog 32 [.agg (mU (q1 ny na) (.sl []))] (·=[.sl [[.str na]]]):=by
 have h:=zD (q1 ny na) ⟨L9 _ _ _ _ (by decide),by simp,by simp,aiy (by kernel_rfl)⟩;rw[ez,show rA (q1 ny na)=[na] by kernel_rfl]at h;exact h
def Ku:CT prog 36 [.d (.agg zE.cells)] [bg] λr K=>r=.d (.agg zE.cells)/\K=[bg]:=by
 have a:=q_ [cV nx] [cV ny] [cV na] (by simp);refine CT.Kt (My func36 W ntmps36 W λb c=>?_)
 repeat refine TC.seq ?_
 refine TC.region ?_;refine gZ W W ?_;refine cG W W ?_;refine TL.nil ?_
 repeat refine TC.seq ?_
 refine TC.region ?_;refine pE W ?_;refine o0 W ?_;refine cd W W W W W W ?_;refine TL.nil ?_
 repeat first|((with_reducible apply TC.seq))|((with_reducible apply TC.block))|((with_reducible apply MZ);rfl)|((with_reducible apply MJ);rfl)|((with_reducible apply TC.skip))|((with_reducible apply TC.exit))|((with_reducible apply fb))|((with_reducible apply iy))|((with_reducible apply jY))|((with_reducible apply iz))|((with_reducible apply iN.mk))|((with_reducible apply(NT 5)))|((apply TC.region);(repeat first|((with_reducible apply aq);rfl;rfl)|((with_reducible apply aj);rfl;rfl)|((with_reducible apply aG);rfl;rfl)|((with_reducible apply aF);rfl;rfl)|((with_reducible apply aI);rfl;rfl;rfl)|((with_reducible apply aJ);rfl;rfl;rfl;rfl)|((with_reducible apply bK);rfl;rfl;rfl;rfl)|((with_reducible apply ca);rfl;rfl;rfl)|((with_reducible apply(ay (r:=.bool true)));rfl;rfl;rfl;rfl)|((with_reducible apply(ay (r:=.bool false)));rfl;rfl;rfl;rfl)|((with_reducible apply aY);rfl;rfl;rfl)|((with_reducible apply kB);rfl;rfl)|((with_reducible apply aK);rfl;rfl;rfl;rfl;rfl;rfl)|((with_reducible apply pE);rfl)|((with_reducible apply eU);rfl;rfl;rfl;rfl;rfl)|((with_reducible apply dF);rfl;rfl;rfl;rfl;rfl;rfl;rfl;rfl)|((with_reducible apply bc);rfl;rfl;rfl;(first|decide|(simp only[aia,List.length_nil];decide)|(simp only[aia,List.length_nil];omega)))|((with_reducible apply bH);rfl;rfl;rfl;decide;rfl;rfl)|((with_reducible apply Ks);rfl;rfl;rfl;rfl;rfl;simp;exact bS W;exact jN W)|(refine aX a W W ?_));(apply TL.nil))
 refine Pa [(14,.m (.bZ 5 0 1)),(9,.m (.mp 4)),(6,.m (.mp 3)),(3,.m (.ref 2 0)),(2,.loc 2 0),(1,.m (.d (.bM zE.cells 0)))] [bg,.map [(.str ny,.d (.bool true))],.box [.mp 1],.map eC,.map [(.str na,.d (.int .i64 0)),(.str ny,.d (.int .i64 1))],.row false 1 0 [.d (.str ny)]] W W ?_
 repeat first|((with_reducible apply TC.seq))|((with_reducible apply TC.block))|((with_reducible apply MZ);rfl)|((with_reducible apply MJ);rfl)|((with_reducible apply TC.skip))|((with_reducible apply TC.exit))|((with_reducible apply fb))|((with_reducible apply iy))|((with_reducible apply jY))|((with_reducible apply iz))|((with_reducible apply iN.mk))|((with_reducible apply(NT 5)))|((apply TC.region);(repeat first|((with_reducible apply aq);rfl;rfl)|((with_reducible apply aj);rfl;rfl)|((with_reducible apply aG);rfl;rfl)|((with_reducible apply aI);rfl;rfl;rfl)|((with_reducible apply bK);rfl;rfl;rfl;rfl)|((with_reducible apply Gi);rfl;rfl;rfl;rfl)|((with_reducible apply(ay (r:=.bool true)));rfl;rfl;rfl;rfl)|((with_reducible apply(ay (r:=.bool false)));rfl;rfl;rfl;rfl)|((with_reducible apply kg);rfl;rfl)|((with_reducible apply Fm);rfl;rfl)|((with_reducible apply gH);rfl;rfl;rfl)|((with_reducible apply eU);rfl;rfl;rfl;rfl;rfl)|((with_reducible apply nH);rfl;rfl;rfl;rfl;rfl)|((with_reducible apply lB);rfl;rfl;rfl;rfl;rfl)|((with_reducible apply dF);rfl;rfl;rfl;rfl;rfl;rfl;rfl;rfl)|((with_reducible apply bc);rfl;rfl;rfl;(first|decide|(simp only[aia,List.length_nil];decide)|(simp only[aia,List.length_nil];omega)))|((with_reducible apply cj);rfl;rfl;rfl;decide)|((with_reducible apply bH);rfl;rfl;rfl;decide;rfl;rfl)|((with_reducible apply vj);rfl;rfl;rfl;rfl;decide;decide)|((with_reducible apply oY);(case acc=>exact false);rfl;rfl;rfl;rfl;decide;decide)|((with_reducible apply dr);rfl;rfl;rfl;rfl;rfl;exact bS W;(first|decide|(simp only[aia,List.length_nil];decide));(first|decide|(simp only[aia,List.length_nil];decide))));(apply TL.nil))|((apply OP mixed);(repeat first|((with_reducible apply bG);rfl;rfl)|((with_reducible apply cm);rfl;rfl)|((with_reducible apply di);rfl;rfl;rfl)|((with_reducible apply jL);rfl;rfl;rfl)|((with_reducible apply lY);rfl;rfl;rfl)|((with_reducible apply cr);rfl;rfl;rfl;rfl;rfl;rfl;rfl;rfl)|((with_reducible apply bE);rfl;rfl;rfl;decide;rfl;rfl)|(refine bm L_ W W ?_)|(refine bm Ma W W ?_)|(refine fD (KR _ 3 q0 _ na W W W W) W W ?_)|(refine fD (KR _ 3 (q1 ny na) _ ny W W W W) W W ?_)|(refine bm (E_ nx) W W ?_)|(refine bm (E_ na) W W ?_));(refine TF.nil ⟨by kernel_rfl,?_⟩))
 refine Pa [(3,.m (.ref 2 0)),(2,.loc 2 0),(1,.m (.d (.bM zE.cells 0)))] [bg,.map eN,.box [.mp 1],.map eC,.map [(.str na,.d (.int .i64 0)),(.str ny,.d (.int .i64 1))],.row false 1 5 []] W W ?_
 repeat first|((with_reducible apply TC.seq))|((with_reducible apply TC.block))|((with_reducible apply MZ);rfl)|((with_reducible apply MJ);rfl)|((with_reducible apply TC.skip))|((with_reducible apply TC.exit))|((with_reducible apply fb))|((with_reducible apply iy))|((with_reducible apply jY))|((with_reducible apply iz))|((with_reducible apply iN.mk))|((with_reducible apply(NT 5)))|((apply TC.region);(repeat first|((with_reducible apply aq);rfl;rfl)|((with_reducible apply aj);rfl;rfl)|((with_reducible apply aG);rfl;rfl)|((with_reducible apply aF);rfl;rfl)|((with_reducible apply aI);rfl;rfl;rfl)|((with_reducible apply aJ);rfl;rfl;rfl;rfl)|((with_reducible apply bK);rfl;rfl;rfl;rfl)|((with_reducible apply ca);rfl;rfl;rfl)|((with_reducible apply bp);rfl;rfl;rfl;rfl;rfl)|((with_reducible apply(ay (r:=.bool true)));rfl;rfl;rfl;rfl)|((with_reducible apply(ay (r:=.bool false)));rfl;rfl;rfl;rfl)|((with_reducible apply aY);rfl;rfl;rfl)|((with_reducible apply kB);rfl;rfl)|((with_reducible apply aK);rfl;rfl;rfl;rfl;rfl;rfl)|((with_reducible apply eU);rfl;rfl;rfl;rfl;rfl)|((with_reducible apply lB);rfl;rfl;rfl;rfl;rfl)|((with_reducible apply dF);rfl;rfl;rfl;rfl;rfl;rfl;rfl;rfl)|((with_reducible apply g_);rfl;rfl;rfl;rfl;rfl)|((with_reducible apply pH);rfl;rfl;rotate_right;decide)|((with_reducible apply bc);rfl;rfl;rfl;(first|decide|(simp only[aia,List.length_nil];decide)|(simp only[aia,List.length_nil];omega)))|((with_reducible apply bH);rfl;rfl;rfl;decide;rfl;rfl)|((with_reducible apply dB);(case acc=>exact true);rfl;rfl;rfl;rfl;rfl;simp;exact bS W;exact jN W)|((with_reducible apply dr);rfl;rfl;rfl;rfl;rfl;exact bS W;(first|decide|(simp only[aia,List.length_nil];decide));(first|decide|(simp only[aia,List.length_nil];decide)))|((with_reducible apply aA);rotate_left;rfl;rfl;rotate_right;refine KT _ 2 na ?_;exact KS _ 2 1 na eN W W W W)|((with_reducible apply aA);rotate_left;rfl;rfl;rotate_right;refine KT _ 2 ny ?_;exact KS _ 2 1 ny eN W W W W));(apply TL.nil))
 refine TC.cA (MP:=[.d (.str ⟨#[102]⟩),.d (.sl (ax [cV nx])),.d (.sl (ax [cV ny])),.d (.sl (ax [cV na])),.d (.sl (ff [q0,q1 ny na]))]) 21 W W ?_
 repeat refine TC.seq ?_
 refine TC.region ?_;refine bp W W W W W ?_;refine aK W W W W W W ?_;refine TL.nil ?_;exact TC.ret ⟨_,W,W,aiy W,W⟩
def Jt:CT prog 28 [] [bg] λr K=>r=.d (.bool true)/\K=[bg]:=by
 refine My func28 W ntmps28 W λa b=>?_
 repeat refine TC.seq ?_
 refine TC.region ?_;refine aj W W ?_;refine TL.nil ?_
 repeat refine TC.seq ?_
 refine TC.region ?_;refine aX E' W W ?_;refine aA Hz W W ?_;refine cG W W ?_;refine aK W W W W W W ?_;refine TL.nil ?_
 repeat refine TC.seq ?_
 refine TC.region ?_;refine aF W W ?_;refine aJ W W W W ?_;refine aY W W W ?_;refine ay W W W (r:=.bool true) W ?_;refine aq W W ?_;refine az W ?_;refine aF W W ?_;refine az W ?_;refine aJ W W W W ?_;refine az W ?_;refine aY W W W ?_;refine az W ?_;refine ay W W W (r:=.bool true) W ?_;refine gR W W W ?_;refine aq W W ?_;refine az W ?_;refine aF W W ?_;refine az W ?_;refine aJ W W W W ?_;refine az W ?_;refine bH W W W (by decide) W W ?_;refine az W ?_;refine aG W W ?_;refine az W ?_;refine aG W W ?_;refine az W ?_;refine aI W W W ?_;refine az W ?_;refine xV W W W ?_;refine gR W W W ?_;refine aq W W ?_;refine az W ?_;refine bp W W W W W ?_;refine az W ?_;refine aA Ku W W ?_;refine az W ?_;refine BE W W W W ?_;refine az W ?_;refine aY W W W ?_;refine az W ?_;refine ay W W W (r:=.bool true) W ?_;refine gR W W W ?_;refine aj W W ?_;refine TL.nil ?_;exact TC.ret ⟨_,W,W,W⟩
end Go.Proofs.Pz
namespace Go.Ps
open Go.Mt Go.Sm Go.Pm
variable{n a:Nat}{u:NS}{q:Fq}{e:Xp}{l:List Xp}
def rB(n:Nat):Nat:=n*n+n
def Ju(a b:Nat):rB a+rB b<=rB (a+b):=by
 simp only[rB,aiY,ak9];omega
def DJ(a:Nat):2+rB a<=rB (1+a):=by
 simp only[rB,aiY,ak9];omega
def oC{b:Nat}(h:a<=b):rB a<=rB b:=by
 have:=ajA h h;unfold rB;omega
def HA(a:Nat):rB a+a<=rB (1+a):=by
 simp only[rB,aiY,ak9];omega
mutual
def xj:Xp->Nat
 |.mk k _ _ _ _ a _=>if k=4\/k=12 then 1 else po a
def po:List Xp->Nat
 |[]=>0
 |e::l=>xj e+po l
end
mutual
def zG(o:Nm×Nm):∀e:Xp,fG e->bJ (spread o e)=bJ e+xj e/\xj (spread o e)=xj e/\fG (spread o e)
 |.mk k q n x r m p,h=>by
  rw[spread,xj];by_cases a:k=4\/k=12
  .rw[air a,air a];refine⟨?_,?_,.mk (λ_=>⟨_,rfl⟩) (by simp[gS,Xp.kids]) (by simp[gS,Xp.names]) λj f=>?_⟩
   .simp only[gS,bJ,aP];omega
   .simp[gS,xj]
   .simp only[gS,Xp.kids,aib,aip,aiJ]at f;rw[f];exact h
  .rw[aid a,aid a];obtain⟨l,f,g,i⟩:=h;simp only[Xp.kd,Xp.kids,Xp.names]at l f g i;obtain⟨j,b,c,d⟩:=xd o m i;refine⟨by rw[bJ,bJ,j];omega,by rw[xj,aid a,b],.mk (λh=>absurd (.inr h) a) (by simpa [Xp.kids,d] using f) g c⟩
def xd(o:Nm×Nm):∀l:List Xp,(∀e∈l,fG e)->aP (jH o l)=aP l+po l/\po (jH o l)=po l/\(∀e∈jH o l,fG e)/\(jH o l).length=l.length
 |[],_=>by simp[jH,aP,po]
 |e::l,h=>by
  obtain⟨d,b,c⟩:=zG o e (h e (by simp));obtain⟨f,g,i,j⟩:=xd o l λk a=>h k (by simp[a])
  rw[jH,aP,aP,po,po,d,f,b,g];refine⟨by omega,rfl,λk a=>?_,by simp[j]⟩;rcases aib.1 a with a|a
  .grind
  .exact i k a
end
def Bk:∀l:List Xp,l.length<=aP l
 |[]=>by simp
 |e::l=>by rw[aP,aia];have:=uU e;have:=Bk l;omega
def qn(u:NS):Prop:=∀q∈u.eqs,u5 q
def qn.put(h:qn u)(b:u5 q):qn (u.put q):= λp a=>by
 rcases ain.1 a with a|a
 .exact h p a
 .grind
structure n8(n:Nat)(e:Xp):Prop where
 sh:fG e
 sz:bJ e<=rB n
 tp:xj e<=n
structure u7(n k:Nat)(l:List Xp):Prop where
 sh:∀e∈l,fG e
 sz:aP l<=rB n
 tp:po l<=n
 ln:l.length=k
def fG.name(x:Nm):fG (aZ x):=.mk (λh=>by simp[Xp.kd]at h) (by simp[Xp.kids]) (by simp[Xp.names]) (by simp[Xp.kids])
def n8.name(x:Nm)(h:1<=n):n8 n (aZ x):=⟨.name x,aiz (by simp[bJ,aP]) (aiz h (Nat.le_add_left _ _)),by simpa [xj] using h⟩
def fG.nil:fG bR:=uM.1
def n8.nil(h:1<=n):n8 n bR:=⟨.nil,aiz (by simp[bJ,aP]) (aiz h (Nat.le_add_left _ _)),by simp[xj,po]⟩
def u7.nil(n:Nat):u7 n 0 []:=⟨by simp,by simp[aP],by simp[po],rfl⟩
def u7.cons{k:Nat}(h:n8 a e)(g:u7 n k l):u7 (a+n) (k+1) (e::l):=
 ⟨λx b=>(aib.1 b).elim (λb=>b▸h.sh) (g.sh x),by rw[aP];have:=h.sz;have:=g.sz;have:=Ju a n;omega,by rw[po];have:=h.tp;have:=g.tp;omega,by rw[aia,g.ln]⟩
def u7.node{c:Nat}(g:u7 n c l)(k op m:Int)(x:Nm)(a:List Nm)(p:Int×Int)(b:k≠12)(d:c<=1000000)(e:a.length<=1000000):n8 (1+n) (.mk k op m x a l p):=
 ⟨.mk (λh=>absurd h b) (by show l.length<=_;rw[g.ln];exact d) e g.sh,by rw[bJ];have:=g.sz;have:=DJ n;omega,by rw[xj];have:=g.tp;split<;>omega⟩
def u5.one(h:n8 n e)(b:n<=500)(c:Int)(lhs:List Nm)(f:Nm)(d:Xp){a:List (Nm×Nm)}{rs:List Nm}(g:a.length<=1000)(i:rs.length<=100):u5 ⟨c,lhs,f,d,e,[],a,rs⟩:=
 ⟨h.sh,by simp,by simp,by have:=h.sz;have:=oC b;have:rB 500=250500:=rfl;simp only[aP];omega⟩
section
variable(en:List En)
mutual
theorem pq:∀(e:Xp) (a:List (Nm×Nm)) (rs:List Nm) (u:NS),fG e->bJ e<=500->bJ e+a.length<=1000->rs.length<=100->qn u->n8 (bJ e) (c8 en e a rs u).1/\qn (c8 en e a rs u).2
 |.mk k o n x i c p,d,rs,u,v,w,y,f,h=>by
  obtain⟨z,j,l,g⟩:=v;simp only[Xp.kd,Xp.kids,Xp.names]at z j l g;have C:=Bk c;rw[bJ]at w y⊢;rw[c8];by_cases q:k=9\/k=10
  .rw[air q];obtain⟨a,b⟩:=rC c d rs (u.new (h_ en u.ty (.mk k o n x i c p)) d) g (by omega) (by omega) f h;exact⟨.name _ (by omega),b.put (.one a (by omega) _ _ _ _ (by omega) f)⟩
  rw[aid q];by_cases r:k=11
  .rw[air r];obtain⟨a,b⟩:=rZ c d rs ((u.new (1,⟨#[]⟩) d).put (oz (nX (u.n+1)) (dD true) (dD false) d rs)) g (by omega) (by omega) f (qn.put h ⟨.mk (λh=>by simp[Xp.kd]at h) (by simp[Xp.kids]) (by simp[Xp.names]) (by simp[Xp.kids]),by simp,by simp,by simp only[bJ,aP];omega⟩);refine⟨⟨.mk (λh=>by simp[Xp.kd]at h) ?_ (by simp[Xp.names]) ?_,?_,?_⟩,b⟩
   .simp only[Xp.kids,aia,a.ln];omega
   .simp only[Xp.kids,aib];rintro e (rfl|t)
    .exact .name _
    .exact a.sh e t
   .have:=a.sz;have:=DJ (aP c);simp only[bJ,aP];omega
   .have:=a.tp;simp[xj,po];omega
  rw[aid r];by_cases s:k=13
  .rw[air s];obtain⟨a,b⟩:=wj x i c d rs (u.new (h_ en u.ty (.mk k o n x i c p)) d) g (by omega) (by omega) f h;exact⟨.name _ (by omega),b.put (.one (a.node _ _ _ _ _ _ (by omega) j l) (by omega) _ _ _ _ (by omega) (by simp))⟩
  rw[aid s];by_cases m:k=12
  .rw[air m];obtain⟨a,b⟩:=Fa c d.dropLast rs u (by grind) g (by omega) (by grind) f h;obtain⟨t,A,B⟩:=zG (i.head?.getD ⟨#[]⟩,x) _ a.sh;refine⟨⟨B,?_,?_⟩,b⟩
   .have:=a.sz;have:=a.tp;have:=HA (aP c);rw[t];omega
   .have:=a.tp;rw[A];omega
  rw[aid m];obtain⟨a,b⟩:=rZ c d rs u g (by omega) (by omega) f h;exact⟨a.node _ _ _ _ _ _ m j l,b⟩
theorem Fa:∀(l:List Xp) (a:List (Nm×Nm)) (rs:List Nm) (u:NS),l≠[]->(∀e∈l,fG e)->aP l<=500->aP l+a.length<=1000->rs.length<=100->qn u->n8 (aP l) (mT en l a rs u).1/\qn (mT en l a rs u).2
 |[],a,rs,u,h,c,d,f,g,i=>absurd W h
 |e::l,c,rs,u,j,d,f,g,h,i=>by
  rw[aP]at f g⊢;rw[mT];obtain⟨a,b⟩:=pq e c rs u (d e (by simp)) (by omega) (by omega) h i;exact⟨⟨a.sh,aiz a.sz (oC (by omega)),by have:=a.tp;omega⟩,b⟩
theorem rC:∀(l:List Xp) (a:List (Nm×Nm)) (rs:List Nm) (u:NS),(∀e∈l,fG e)->aP l<500->aP l+a.length<=1000->rs.length<=100->qn u->n8 (1+aP l) (gr en l a rs u).1/\qn (gr en l a rs u).2
 |[],c,rs,u,d,f,g,h,a=>by rw[gr];exact⟨.nil (by omega),a⟩
 |[e],c,rs,u,d,f,g,h,i=>by
  rw[aP,aP]at f g⊢;rw[gr];obtain⟨a,b⟩:=pq e c rs u (d e (by simp)) (by omega) (by omega) h i;exact⟨⟨a.sh,aiz a.sz (oC (by omega)),by have:=a.tp;omega⟩,b⟩
 |j::e::l,c,rs,u,d,f,g,h,i=>by
  rw[aP]at f g⊢;rw[gr];obtain⟨a,b⟩:=rC (e::l) c rs u (λx a=>d x (by simp_all)) (by omega) (by omega) h i;exact⟨⟨a.sh,aiz a.sz (oC (by omega)),by have:=a.tp;omega⟩,b⟩
theorem rZ:∀(l:List Xp) (a:List (Nm×Nm)) (rs:List Nm) (u:NS),(∀e∈l,fG e)->aP l<=500->aP l+a.length<=1000->rs.length<=100->qn u->u7 (aP l) l.length (dm en l a rs u).1/\qn (dm en l a rs u).2
 |[],c,rs,u,d,f,g,h,a=>by rw[dm,aP];exact⟨.nil _,a⟩
 |e::l,a,rs,u,c,g,h,d,i=>by
  rw[aP]at g h⊢;rw[dm];obtain⟨f,b⟩:=pq e a rs u (c e (by simp)) (by omega) (by omega) d i;obtain⟨j,k⟩:=rZ l a rs _ (λx a=>c x (by simp[a])) (by omega) (by omega) d b;exact⟨.cons f j,k⟩
theorem wj(x:Nm):∀(c:List Nm) (l:List Xp) (a:List (Nm×Nm)) (rs:List Nm) (u:NS),(∀e∈l,fG e)->aP l<=500->aP l+a.length<1000->rs.length<=100->qn u->u7 (aP l) l.length (ey en x c l a rs u).1/\qn (ey en x c l a rs u).2
 |i,[],c,rs,u,d,f,g,h,a=>by rw[ey,aP];exact⟨.nil _,a⟩
 |f,e::l,a,rs,u,c,h,i,d,j=>by
  rw[aP]at h i⊢;rw[ey];obtain⟨g,b⟩:=pq e (a++[(f.head?.getD ⟨#[]⟩,x)]) rs u (c e (by simp)) (by omega) (by grind) d j;obtain⟨k,m⟩:=wj x f.tail l a rs _ (λx a=>c x (by simp[a])) (by omega) (by omega) d b;exact⟨.cons g k,m⟩
end
def Kv(h:qn u)(n:DD q):qn (pe en u q):=by
 obtain⟨c,f,e,o,p,d⟩:=n;have r:rB 500=250500:=rfl;unfold pe;by_cases m:q.kd=3
 .rw[air m];obtain⟨a,b⟩:=rZ en q.args q.ck q.rs u e (by omega) (by omega) d h;refine b.put ⟨c,a.sh,?_,?_⟩
  .show(dm en q.args q.ck q.rs u).1.length<=_;rw[a.ln];omega
  .have:=a.sz;have:=oC (a:=aP q.args) (b:=500) (by omega);show bJ q.e+aP (dm en q.args q.ck q.rs u).1+q.ck.length+q.rs.length<=_;omega
 rw[aid m];by_cases g:q.kd=2
 .rw[air g];obtain⟨a,b⟩:=pq en q.e q.ck q.rs u c (by omega) (by omega) d h;refine b.put ⟨a.sh,e,aiz f (by decide),?_⟩;have:=a.sz;have:=oC (a:=bJ q.e) (b:=500) (by omega);show bJ (c8 en q.e q.ck q.rs u).1+aP q.args+q.ck.length+q.rs.length<=_;omega
 rw[aid g];have i:∀j∈q.e.kids,fG j:=by cases c with|mk _ _ _ h=>exact h
 have s:=uo q.e;by_cases j:q.e.kd=9\/q.e.kd=10
 .rw[air j];obtain⟨a,b⟩:=rC en q.e.kids q.ck q.rs u i (by omega) (by omega) d h;exact b.put (.one a (by omega) _ _ _ _ (by omega) d)
 rw[aid j];by_cases k:q.e.kd=13
 .rw[air k];obtain⟨a,b⟩:=wj en q.e.nm q.e.names q.e.kids q.ck q.rs u i (by omega) (by omega) d h;have l:=a.node q.e.kd q.e.op q.e.num q.e.nm q.e.names q.e.ps (by omega) (by cases c with|mk _ h _ _=>exact h) (by cases c with|mk _ _ h _=>exact h);refine b.put ⟨l.sh,e,aiz f (by decide),?_⟩;have:=l.sz;have:=oC (a:=1+aP q.e.kids) (b:=500) (by omega);simp only[List.length_nil];omega
 .rw[aid k];obtain⟨a,b⟩:=pq en q.e q.ck q.rs u c (by omega) (by omega) d h;refine b.put ⟨a.sh,e,aiz f (by decide),?_⟩;have:=a.sz;have:=oC (a:=bJ q.e) (b:=500) (by omega);simp only[List.length_nil];omega
def Kw{f:Fl}(h:∀q∈f.eqs,DD q):∀q∈(yZ en f).eqs,u5 q:=by
 have d:∀(l:List Fq) (u:NS),qn u->(∀q∈l,DD q)->qn (l.foldl (pe en) u):=by
  intro l
  induction l with
  |nil=>intro u a _;exact a
  |cons q l c=>intro u b a;exact c _ (Kv en b (a q (by simp))) λx b=>a x (by simp[b])
 exact d f.eqs ⟨0,f.vars,[],jT (f.ins++f.outs++f.vars)⟩ (λq h=>by simp at h) h
end
end Go.Ps
namespace Go.Ps
open Go.Mt Go.Sm
def Fb(q:Fq)(b:u5 q):(rA q).length<=2000000:=by
 have a:=dl q.rs ((q.ck.map (·.2)).foldl bt (cu (q.e::q.args) []));have c:=dl (q.ck.map (·.2)) (cu (q.e::q.args) []);have a:=gJ (q.e::q.args) [];have d:=b.n;rw[aP]at a;simp only[ah8,List.length_nil]at c a;show(q.rs.foldl bt _).length<=_;omega
end Go.Ps
namespace Go.Proofs.Pz
open Go.Mt Go.Sm Go.Ps Go.Proofs
open Tryz
def DK{p:Pg}(a:Go.Pm.Made p):CT prog 29 [.d (.agg p.cells)] [bg] λr K=>r=.d (.agg (Hf (BP (s_ (lI p)))).cells)/\K=[bg]:=by
 have b:=a.nl;refine My func29 W ntmps29 W λc d=>?_
 repeat refine TC.seq ?_
 refine TC.region<|gZ W W<|cG W W<|TL.nil ?_
 repeat refine TC.seq ?_
 refine TC.region<|ca W W W ?_
 (refine jj (xG (zT 0 p a.da)) W W ?_;rintro _ _ ⟨rfl,rfl⟩)
 (refine jj (xG (JY 0 (lI p) a.ds)) W W ?_;rintro _ _ ⟨rfl,rfl⟩)
 (refine jj (xG (J3 0 (s_ (lI p)) a.ur)) W W ?_;rintro _ _ ⟨rfl,rfl⟩)
 (refine jj (xG (J6 0 (BP (s_ (lI p))) a.en (by omega) λf b=>(a.nk f b).1)) W W ?_;rintro _ _ ⟨rfl,rfl⟩)
 refine aK W W W W W W<|TL.nil<|TC.ret ⟨_,W,W,W⟩
def Cb{p:Pg}(a:Go.Pm.Made p):(Hf (BP (s_ (lI p)))).nodes.length<=3/\∀f∈(Hf (BP (s_ (lI p)))).nodes,f.eqs.length<=1000000000/\∀q∈f.eqs,u5 q:=by
 refine⟨by rw[Hf,ah8];exact a.nl,λg c=>?_⟩;obtain⟨f,d,rfl⟩:=aij.1 c;obtain⟨b,e⟩:=a.nk f d;refine⟨?_,Kw _ e⟩;have h:=b.2.1;have i:=b.2.2.1;have:=(za (BP (s_ (lI p))).aB f.eqs ⟨0,f.vars,[],jT (f.ins++f.outs++f.vars)⟩).q;simp only[List.length_nil]at this;show(f.eqs.foldl (pe _) _).eqs.length<=_;omega
theorem Jv(e:List Int)(v:D)(h:La .u8 e v):CT prog 7 [.d v] [bg] λr K=>r=.d (.bool true)/\K=[bg]:=by
 have t:=Jt;refine My func7 W ntmps7 W λH I=>?_
 repeat refine TC.seq ?_
 refine TC.region<|aj W W<|TL.nil ?_
 repeat refine TC.seq ?_
 refine TC.region ?_
 (refine jj t W W ?_;rintro _ _ ⟨rfl,rfl⟩)
 refine kg W W<|aq W W<|az W ?_;refine aq W W ?_;refine az W ?_;refine aY W W h.1 ?_;refine az W ?_;refine ay W W W W ?_;refine gR W W W<|TL.nil ?_
 repeat refine TC.seq ?_
 refine TC.cond W (λb=>?_) (λb=>?_)
 .repeat refine TC.seq ?_
  refine TC.region ?_
  (refine jj t W W ?_;rintro _ _ ⟨rfl,rfl⟩)
  refine aj W W<|TL.nil<|TC.ret ⟨_,W,W,W⟩
 have N:e.length<=400:=by grind
 refine TC.skip ?_
 repeat refine TC.seq ?_
 refine TC.region<|aq W W ?_
 (refine jj (CT.D1 (I_ e v ⟨h,by omega⟩)) W W ?_;rintro _ _ ⟨⟨_,rfl,x,rfl,E⟩,rfl⟩;have k:=Go.Pm.Jo E;have l:=DK k;rw[Go.Ex.E1]at l)
 (refine jj l W W ?_;rintro _ _ ⟨rfl,rfl⟩)
 refine cG W W<|aK W W W W W W<|TL.nil ?_;obtain⟨A,m⟩:=Cb k;generalize Hf (BP (s_ (lI (Go.Ex.ph x))))=w at A m⊢;have F:(w.nodes.map Fl.cells).length=w.nodes.length:=by simp
 repeat refine TC.seq ?_
 refine TC.region<|aj W W<|TL.nil ?_
 repeat refine TC.seq ?_
 refine TC.block<|M9 (λk s=>∃(i:Nat) (a:List (Nat×List M)),s=⟨[(4,.m (.d (.int .i64 ((i:Nat):Int)))),(3,.loc 3 0)],a,[bg]⟩/\Go.Mt.get a 3=some [.d (.sl (w.aB.map En.cells)),.d (.sl (w.nodes.map Fl.cells))]/\i<=w.nodes.length/\k=w.nodes.length-i) w.nodes.length _
  ⟨0,_,rfl,rfl,by omega,rfl⟩ W ?_
 rintro y z ⟨i,B,rfl,a,J,rfl⟩
 repeat refine TC.seq ?_
 refine TC.region<|aq W W<|aF W W<|aJ W W a W ?_
 (refine aY W W W ?_;rw[F])
 refine ay W W W W<|TL.nil ?_
 repeat refine TC.seq ?_
 refine TC.cond W (λb=>?_) (λb=>?_)
 .have n:i<w.nodes.length:=by grind
  have c:=Jp n;obtain⟨C,u⟩:=m _ (aif n);generalize w.nodes[i]=f at c C u;have G:(f.eqs.map Fq.cells).length=f.eqs.length:=by simp
  refine TC.skip ?_
  repeat refine TC.seq ?_
  refine TC.block ?_
  repeat refine TC.seq ?_
  refine TC.region<|aj W W<|TL.nil ?_
  repeat refine TC.seq ?_
  refine TC.block<|M9 (λk s=>∃(j:Nat) (a:List (Nat×List M)),s=⟨[(5,.m (.d (.int .i64 ((j:Nat):Int)))),(4,.m (.d (.int .i64 ((i:Nat):Int)))),(3,.loc 3 0)],a,[bg]⟩/\Go.Mt.get a 3=some [.d (.sl (w.aB.map En.cells)),.d (.sl (w.nodes.map Fl.cells))]/\j<=f.eqs.length/\k=f.eqs.length-j) f.eqs.length _
   ⟨0,_,rfl,by exact a,by omega,rfl⟩ W ?_
  rintro y z ⟨j,B,rfl,a,L,rfl⟩
  repeat refine TC.seq ?_
  refine TC.region<|aq W W<|aF W W<|aJ W W a W<|aq W W<|bH W W W (ah7 i) c W<|aG W W<|aI W W W ?_
  (refine aY W W W ?_;rw[G])
  refine ay W W W W<|TL.nil ?_
  repeat refine TC.seq ?_
  refine TC.cond W (λb=>?_) (λb=>?_)
  .have o:j<f.eqs.length:=by grind
   have g:=Jq o;have d:=u _ (aif o);generalize f.eqs[j]=q at g d;have p:=zD q d;have s:=Hw q d;rw[ez]at p s;refine TC.skip ?_
   repeat refine TC.seq ?_
   refine TC.block ?_
   repeat refine TC.seq ?_
   refine OP mixed<|cF W W<|cO W W a W<|bG W W<|bE W W W (ah7 i) c W<|cm W W<|di W W W<|bG W W<|bE W W W (ah7 j) g W<|dY W W W<|bm p W W<|cF W W<|cO W W a W<|bG W W<|bE W W W (ah7 i) c W<|cm W W<|di W W W<|bG W W<|bE W W W (ah7 j) g W<|dY W W W<|bm s W W<|bm (Hv (rA q) (by have:=Fb q d;omega)) W W<|HK W W<|TF.nil ⟨by kernel_rfl,?_⟩
   repeat refine TC.seq ?_
   refine MJ W<|TC.skip ?_
   repeat refine TC.seq ?_
   refine TC.region<|aq W W<|bc W W W (by omega)<|aj W W<|TL.nil<|again (k':=f.eqs.length-(j+1)) (by omega) ⟨j+1,_,rfl,by exact a,by omega,rfl⟩ W W
  .refine TC.exit ?_
   repeat refine TC.seq ?_
   refine TC.region<|aq W W<|bc W W W (by omega)<|aj W W<|TL.nil<|again (k':=w.nodes.length-(i+1)) (by omega) ⟨i+1,_,rfl,by exact a,by omega,rfl⟩ W W
 .refine TC.exit ?_
  repeat refine TC.seq ?_
  refine TC.region<|aj W W<|TL.nil<|TC.ret ⟨_,W,W,W⟩
end Go.Proofs.Pz
namespace Go.Proofs.Pz
open Tryz
def j1:prog.inPlace 7=[]:=by kernel_rfl
def j2:prog.unfollowed 7=true:=by kernel_rfl
def j3:prog.recurses 7=true:=by kernel_rfl
def j4:prog.varsNamed 7=["internal/strconv.uint64pow10", "math/bits.deBruijn32tab", "math/bits.deBruijn64tab"]:=by kernel_rfl
def closed:joinedFacts prog 7 f7 YtbafhpblecdbbaaGreatDoor.Rows.tidyUsesSpec YtbafhpblecdbbaaGreatDoor.Rows.tidyUsesRow=true:=by
 unfold joinedFacts;rw[j1,j2,j3,j4]
 kernel_rfl
def c1:YtbafhpblecdbbaaGreatDoor.Rows.tidyUsesRow.wfByText (OpenSpec.ofChange YtbafhpblecdbbaaGreatDoor.Rows.tidyUsesSpec)=true:=by kernel_rfl
def c2:prog.mainIs=some (true, "f50347e73aaa9d340bc349c5a52e56f4bb5d0113295c3e190f190ebf72de17ac".toList):=by kernel_rfl
def c3:prog.funcNamed "metronome/metronomelaw18.TidyUses" =some 7:=by kernel_rfl
def c4:prog.looks []=true:=by kernel_rfl
def c5:([22].all λu=> !prog.wantsStandIn u)=true:=by kernel_rfl
def c6:YtbafhpblecdbbaaGreatDoor.Rows.tidyUsesRow.goesBy prog=false:=by kernel_rfl
end Go.Proofs.Pz
