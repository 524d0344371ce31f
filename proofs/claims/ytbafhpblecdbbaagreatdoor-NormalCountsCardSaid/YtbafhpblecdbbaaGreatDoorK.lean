/- A part of the proof. -/
import Derived.Test.YtbafhpblecdbbaaGreatDoorJ
import Derived.Test.YtbafhpblecdbbaaGreatDoorRows
import Derived.JoinedOf
import Derived.Test.YtbafhpblecdbbaaGreatDoorCards
set_option maxRecDepth 4000
set_option linter.all false
namespace Go.Ps
open Go.Mt Go.Sm
def jt:∀a b:List Xp,bh (a++b)=bh a+bh b
 |[],b=>by simp[bh]
 |q::a,b=>by simp only[agQ,bh,jt a b,ahR]
def mT(l:List Xp)(i:Nat):bh (l.take i)<=bh l:=by
 have:=jt (l.take i) (l.drop i);rw[ahf]at this;omega
def yP:∀{l:List Xp},∀a∈l,cC a<=bh l
 |a::l,x,h=>by
  rw[bh];rcases agu.1 h with rfl|h
  .omega
  .have:=yP x h;omega
end Go.Ps
namespace Go.Proofs.Pz
open Go.Mt Go.Sm Go.Ps Go.Proofs
open Tryz
def vy(e:Xp)(j:iW e)(B:cC e<=1000000000):PT prog 18 [.agg e.cells] (·=[.int .i64 ((cC e:Nat):Int)]):=by
 have l:=pD e;have m:∀k∈e.kids,PT prog 18 [.agg k.cells] (·=[.int .i64 ((cC k:Nat):Int)]):=
  λk a=>
   have:=MT a
   vy k (by cases j with|mk _ _ _ c=>exact c k a) (by have:=yP k a;omega)
 have C:e.kids.length<=1000000:=by cases j with|mk _ t _ _=>exact t
 have s:(e.kids.map Xp.cells).length=e.kids.length:=by simp
 rw[e.aj];refine Lk (Lf func18 W ntmps18 W λE F=>?_);by_cases d:e.kd=9\/e.kd=10\/e.kd=11\/e.kd=13
 .have u:cC e=1+bh e.kids:=by rw[l,agK d]
  have v:(e.kd==9)=true\/((e.kd==9)=false/\((e.kd==10)=true\/((e.kd==10)=false/\((e.kd==11)=true\/((e.kd==11)=false/\(e.kd==13)=true))))):=by
   rcases d with h|h|h|h<;>simp[h]
  refine A2 ?_
  refine TC.region ?_;refine bp W W ?_;refine ah W W ?_;refine TL.nil ?_
  refine A2 ?_
  refine TC.region ?_;refine ah W W ?_;refine TL.nil ?_;rcases v with k|⟨k,o|⟨o,p|⟨p,w⟩⟩⟩
  all_goals
   refine A2 ?_
   refine TC.region ?_;refine ay W W ?_;refine ax W W W ?_
   (refine av W W W (r:=.bool _) (ahA (λb=>some (D.bool b)) k) ?_)
   refine ai W W ?_
   (first|(refine aQ W W ?_)|(refine aE W ?_;refine ay W W ?_))
   (first|(refine aQ W W ?_)|(refine aE W ?_;refine ax W W W ?_))
   (first|(refine aQ W W ?_)|(refine aE W ?_;refine av W W W (r:=.bool _) (ahA (λb=>some (D.bool b)) o) ?_))
   refine cH W W W ?_;refine ai W W ?_
   (first|(refine aQ W W ?_)|(refine aE W ?_;refine ay W W ?_))
   (first|(refine aQ W W ?_)|(refine aE W ?_;refine ax W W W ?_))
   (first|(refine aQ W W ?_)|(refine aE W ?_;refine av W W W (r:=.bool _) (ahA (λb=>some (D.bool b)) p) ?_))
   refine cH W W W ?_;refine ai W W ?_
   (first|(refine aQ W W ?_)|(refine aE W ?_;refine ay W W ?_))
   (first|(refine aQ W W ?_)|(refine aE W ?_;refine ax W W W ?_))
   (first|(refine aQ W W ?_)|(refine aE W ?_;refine av W W W (r:=.bool _) (ahA (λb=>some (D.bool b)) w) ?_))
   refine cH W W W ?_;refine TL.nil ?_
   refine A2 ?_
   refine LK W ?_
   refine A2 ?_
   refine TC.region ?_;refine ah W W ?_;refine TL.nil ?_
   refine A2 ?_
   refine TC.region ?_;refine ah W W ?_;refine TL.nil ?_
   refine A2 ?_
   refine TC.block ?_;refine LI (λk s=>∃i n:Nat,s=⟨[(4,.m (.d (.int .i64 ((i:Nat):Int)))),(3,.m (.d (.int .i64 ((n:Nat):Int)))),(1,.m (.d (.ca (bD e.kd e.op e.num e.nm e.names (e.kids.map Xp.cells) e.ps) 0)))],[],[]⟩/\n=1+bh (e.kids.take i)/\i<=e.kids.length/\k=e.kids.length-i) e.kids.length _
    ⟨0,1,rfl,by rw[agS,bh],by omega,rfl⟩ W ?_
   rintro z A ⟨i,n,rfl,q,G,rfl⟩
   refine A2 ?_
   refine TC.region ?_;refine ai W W ?_;refine ay W W ?_;refine ax W W W ?_
   (refine aT W W W ?_;rw[s])
   refine av W W W W ?_;refine TL.nil ?_
   refine A2 ?_
   refine TC.cond W (λc=>?_) (λc=>?_)
   .have f:i<e.kids.length:=by have:=agr c;omega
    clear c;have g:(e.kids.map Xp.cells)[((i:Nat):Int).toNat]?=some e.kids[i].cells:=by simp[f]
    have h:=m _ (agx f);have x:bh (e.kids.take (i+1))=bh (e.kids.take i)+cC e.kids[i]:=by rw[agp f,jt];simp[bh]
    have H:=mT e.kids (i+1);generalize e.kids[i]=a at g h x;have y:IntKind.i64.wrap (((n:Nat):Int)+((cC a:Nat):Int))=((n+cC a:Nat):Int):=by rw[mD (by omega)];omega
    rw[a.aj]at g h;refine TC.skip ?_
    refine A2 ?_
    refine TC.block ?_
    refine A2 ?_
    refine TC.region ?_;refine ai W W ?_;refine ay W W ?_;refine ax W W W ?_;refine ai W W ?_;refine aN W W W (ago i) g W ?_;refine aK W W W ?_;refine aL h W W ?_
    (refine av W W W (r:=.int .i64 ((n+cC a:Nat):Int)) (by show some (D.int .i64 (IntKind.i64.wrap _))=_;rw[y]) ?_)
    refine ah W W ?_;refine TL.nil ?_
    refine A2 ?_
    refine TC.region ?_;refine ai W W ?_;refine aI W W W (by omega) ?_;refine ah W W ?_;refine TL.nil ?_;exact again (k':=e.kids.length-(i+1)) (by omega) ⟨i+1,n+cC a,rfl,by omega,by omega,rfl⟩ W W
   .refine TC.exit ?_;obtain rfl:i=e.kids.length:=by have:=agv c;omega
    refine A2 ?_
    refine TC.region ?_;refine ai W W ?_;refine ah W W ?_;refine TL.nil ?_;exact TC.ret ⟨_,W,[_],W,by rw[agz]at q;rw[u,q]⟩
 .have o:cC e=0+bh e.kids:=by rw[l,agw d]
  have u:(e.kd==9)=false:=by simp;omega
  have v:(e.kd==10)=false:=by simp;omega
  have w:(e.kd==11)=false:=by simp;omega
  have x:(e.kd==13)=false:=by simp;omega
  refine A2 ?_
  refine TC.region ?_;refine bp W W ?_;refine ah W W ?_;refine TL.nil ?_
  refine A2 ?_
  refine TC.region ?_;refine ah W W ?_;refine TL.nil ?_
  refine A2 ?_
  refine TC.region ?_;refine ay W W ?_;refine ax W W W ?_
  (refine av W W W (r:=.bool false) (by show some (D.bool (e.kd==9))=_;rw[u]) ?_)
  refine ai W W ?_;refine aE W ?_;refine ay W W ?_;refine aE W ?_;refine ax W W W ?_;refine aE W ?_;refine av W W W (r:=.bool false) (by show some (D.bool (e.kd==10))=_;rw[v]) ?_;refine cH W W W ?_;refine ai W W ?_;refine aE W ?_;refine ay W W ?_;refine aE W ?_;refine ax W W W ?_;refine aE W ?_;refine av W W W (r:=.bool false) (by show some (D.bool (e.kd==11))=_;rw[w]) ?_;refine cH W W W ?_;refine ai W W ?_;refine aE W ?_;refine ay W W ?_;refine aE W ?_;refine ax W W W ?_;refine aE W ?_;refine av W W W (r:=.bool false) (by show some (D.bool (e.kd==13))=_;rw[x]) ?_;refine cH W W W ?_;refine TL.nil ?_
  refine A2 ?_
  refine Ll W ?_;refine TC.skip ?_
  refine A2 ?_
  refine TC.region ?_;refine ah W W ?_;refine TL.nil ?_
  refine A2 ?_
  refine TC.block ?_;refine LI (λk s=>∃i n:Nat,s=⟨[(4,.m (.d (.int .i64 ((i:Nat):Int)))),(3,.m (.d (.int .i64 ((n:Nat):Int)))),(1,.m (.d (.ca (bD e.kd e.op e.num e.nm e.names (e.kids.map Xp.cells) e.ps) 0)))],[],[]⟩/\n=0+bh (e.kids.take i)/\i<=e.kids.length/\k=e.kids.length-i) e.kids.length _
   ⟨0,0,rfl,by rw[agS,bh],by omega,rfl⟩ W ?_
  rintro y z ⟨i,n,rfl,k,A,rfl⟩
  refine A2 ?_
  refine TC.region ?_;refine ai W W ?_;refine ay W W ?_;refine ax W W W ?_
  (refine aT W W W ?_;rw[s])
  refine av W W W W ?_;refine TL.nil ?_
  refine A2 ?_
  refine TC.cond W (λc=>?_) (λc=>?_)
  .have f:i<e.kids.length:=by have:=agr c;omega
   clear c;have g:(e.kids.map Xp.cells)[((i:Nat):Int).toNat]?=some e.kids[i].cells:=by simp[f]
   have h:=m _ (agx f);have p:bh (e.kids.take (i+1))=bh (e.kids.take i)+cC e.kids[i]:=by rw[agp f,jt];simp[bh]
   have G:=mT e.kids (i+1);generalize e.kids[i]=a at g h p;have q:IntKind.i64.wrap (((n:Nat):Int)+((cC a:Nat):Int))=((n+cC a:Nat):Int):=by rw[mD (by omega)];omega
   rw[a.aj]at g h;refine TC.skip ?_
   refine A2 ?_
   refine TC.block ?_
   refine A2 ?_
   refine TC.region ?_;refine ai W W ?_;refine ay W W ?_;refine ax W W W ?_;refine ai W W ?_;refine aN W W W (ago i) g W ?_;refine aK W W W ?_;refine aL h W W ?_
   (refine av W W W (r:=.int .i64 ((n+cC a:Nat):Int)) (by show some (D.int .i64 (IntKind.i64.wrap _))=_;rw[q]) ?_)
   refine ah W W ?_;refine TL.nil ?_
   refine A2 ?_
   refine TC.region ?_;refine ai W W ?_;refine aI W W W (by omega) ?_;refine ah W W ?_;refine TL.nil ?_;exact again (k':=e.kids.length-(i+1)) (by omega) ⟨i+1,n+cC a,rfl,by omega,by omega,rfl⟩ W W
  .refine TC.exit ?_;obtain rfl:i=e.kids.length:=by have:=agv c;omega
   refine A2 ?_
   refine TC.region ?_;refine ai W W ?_;refine ah W W ?_;refine TL.nil ?_;exact TC.ret ⟨_,W,[_],W,by rw[agz]at k;rw[o,k]⟩
termination_by SizeOf.sizeOf e
instance:bu prog 123:=dz (by kernel_rfl)
def KB:PT prog 63 [.agg [.int .u8 9,.int .u8 0,.int .i32 0,.str ⟨#[]⟩,.sl [],.sl [[.int .u8 1,.int .u8 0,.int .i32 0,.str ⟨#[]⟩,.sl [],.sl [],.int .i64 0,.int .i64 0],[.int .u8 4,.int .u8 0,.int .i32 0,.str ⟨#[120]⟩,.sl [],.sl [],.int .i64 0,.int .i64 0]],.int .i64 0,.int .i64 0]] (·=[.bool false]):=by
 refine Lk (Lf func63 W ntmps63 W λa b=>?_)
 repeat first|((with_reducible apply TC.seq))|((with_reducible apply TC.block))|((with_reducible apply LK);rfl)|((with_reducible apply Ll);rfl)|((with_reducible apply TC.skip))|((with_reducible apply TC.ret))|((with_reducible apply gF))|((with_reducible apply tw))|((with_reducible apply tx))|((apply TC.region);(repeat first|((with_reducible apply ah);rfl;rfl)|((with_reducible apply ay);rfl;rfl)|((with_reducible apply ax);rfl;rfl;rfl)|((with_reducible apply(av (r:=.bool true)));rfl;rfl;rfl;rfl)|((with_reducible apply(av (r:=.bool false)));rfl;rfl;rfl;rfl)|((with_reducible apply bp);rfl;rfl));(apply TL.nil))
 exact⟨_,W,[_],W,W⟩
def J8:PT prog 123 [.agg [.int .u8 9,.int .u8 0,.int .i32 0,.str ⟨#[]⟩,.sl [],.sl [[.int .u8 1,.int .u8 0,.int .i32 0,.str ⟨#[]⟩,.sl [],.sl [],.int .i64 0,.int .i64 0],[.int .u8 4,.int .u8 0,.int .i32 0,.str ⟨#[120]⟩,.sl [],.sl [],.int .i64 0,.int .i64 0]],.int .i64 0,.int .i64 0]] (·=[.bool true]):=by
 refine Lk (Lf func123 W ntmps123 W λa b=>?_)
 repeat first|((with_reducible apply TC.seq))|((with_reducible apply TC.ret))|((with_reducible apply gF))|((apply TC.region);(repeat first|((with_reducible apply ah);rfl;rfl)|((with_reducible apply aK);rfl;rfl;rfl)|((with_reducible apply fb);rfl;rfl)|((with_reducible apply bp);rfl;rfl)|(refine aL KB W W ?_));(apply TL.nil))
 exact⟨_,W,[_],W,W⟩
def J9:PT prog 64 [.sl [],.fn 123 []] (·=[.bool false]):=
 lI [] 123 (λe=>false) (by decide) (by simp)
def KC:PT prog 63 [.agg [.int .u8 1,.int .u8 0,.int .i32 1,.str ⟨#[]⟩,.sl [],.sl [],.int .i64 0,.int .i64 0]] (·=[.bool true]):=by
 refine Lk (Lf func63 W ntmps63 W λa b=>?_)
 repeat first|((with_reducible apply TC.seq))|((with_reducible apply TC.block))|((with_reducible apply Ll);rfl)|((with_reducible apply TC.skip))|((with_reducible apply TC.ret))|((with_reducible apply gF))|((with_reducible apply kG))|((apply TC.region);(repeat first|((with_reducible apply ah);rfl;rfl)|((with_reducible apply ay);rfl;rfl)|((with_reducible apply ax);rfl;rfl;rfl)|((with_reducible apply(av (r:=.bool false)));rfl;rfl;rfl;rfl)|((with_reducible apply fb);rfl;rfl)|((with_reducible apply bp);rfl;rfl)|(refine aL J9 W W ?_));(apply TL.nil))
 exact⟨_,W,[_],W,W⟩
def KD:PT prog 63 [.agg [.int .u8 4,.int .u8 0,.int .i32 0,.str ⟨#[120]⟩,.sl [],.sl [],.int .i64 0,.int .i64 0]] (·=[.bool true]):=by
 refine Lk (Lf func63 W ntmps63 W λa b=>?_)
 repeat first|((with_reducible apply TC.seq))|((with_reducible apply TC.block))|((with_reducible apply Ll);rfl)|((with_reducible apply TC.skip))|((with_reducible apply TC.ret))|((with_reducible apply gF))|((with_reducible apply kG))|((apply TC.region);(repeat first|((with_reducible apply ah);rfl;rfl)|((with_reducible apply ay);rfl;rfl)|((with_reducible apply ax);rfl;rfl;rfl)|((with_reducible apply(av (r:=.bool false)));rfl;rfl;rfl;rfl)|((with_reducible apply fb);rfl;rfl)|((with_reducible apply bp);rfl;rfl)|(refine aL J9 W W ?_));(apply TL.nil))
 exact⟨_,W,[_],W,W⟩
def KF:PT prog 63 [.agg [.int .u8 4,.int .u8 0,.int .i32 0,.str ⟨#[95,120,49]⟩,.sl [],.sl [],.int .i64 0,.int .i64 0]] (·=[.bool true]):=by
 refine Lk (Lf func63 W ntmps63 W λa b=>?_)
 repeat first|((with_reducible apply TC.seq))|((with_reducible apply TC.block))|((with_reducible apply Ll);rfl)|((with_reducible apply TC.skip))|((with_reducible apply TC.ret))|((with_reducible apply gF))|((with_reducible apply kG))|((apply TC.region);(repeat first|((with_reducible apply ah);rfl;rfl)|((with_reducible apply ay);rfl;rfl)|((with_reducible apply ax);rfl;rfl;rfl)|((with_reducible apply(av (r:=.bool false)));rfl;rfl;rfl;rfl)|((with_reducible apply fb);rfl;rfl)|((with_reducible apply bp);rfl;rfl)|(refine aL J9 W W ?_));(apply TL.nil))
 exact⟨_,W,[_],W,W⟩
def Iq:PT prog 123 [.agg [.int .u8 1,.int .u8 0,.int .i32 1,.str ⟨#[]⟩,.sl [],.sl [],.int .i64 0,.int .i64 0]] (·=[.bool false]):=by
 refine Lk (Lf func123 W ntmps123 W λa b=>?_)
 repeat first|((with_reducible apply TC.seq))|((with_reducible apply TC.ret))|((with_reducible apply gF))|((apply TC.region);(repeat first|((with_reducible apply ah);rfl;rfl)|((with_reducible apply aK);rfl;rfl;rfl)|((with_reducible apply fb);rfl;rfl)|((with_reducible apply bp);rfl;rfl)|(refine aL KC W W ?_));(apply TL.nil))
 exact⟨_,W,[_],W,W⟩
def J_:PT prog 123 [.agg [.int .u8 4,.int .u8 0,.int .i32 0,.str ⟨#[95,120,49]⟩,.sl [],.sl [],.int .i64 0,.int .i64 0]] (·=[.bool false]):=by
 refine Lk (Lf func123 W ntmps123 W λa b=>?_)
 repeat first|((with_reducible apply TC.seq))|((with_reducible apply TC.ret))|((with_reducible apply gF))|((apply TC.region);(repeat first|((with_reducible apply ah);rfl;rfl)|((with_reducible apply aK);rfl;rfl;rfl)|((with_reducible apply fb);rfl;rfl)|((with_reducible apply bp);rfl;rfl)|(refine aL KF W W ?_));(apply TL.nil))
 exact⟨_,W,[_],W,W⟩
def KW:PT prog 64 [.sl [[.int .u8 9,.int .u8 0,.int .i32 0,.str ⟨#[]⟩,.sl [],.sl [[.int .u8 1,.int .u8 0,.int .i32 0,.str ⟨#[]⟩,.sl [],.sl [],.int .i64 0,.int .i64 0],[.int .u8 4,.int .u8 0,.int .i32 0,.str ⟨#[120]⟩,.sl [],.sl [],.int .i64 0,.int .i64 0]],.int .i64 0,.int .i64 0],[.int .u8 1,.int .u8 0,.int .i32 1,.str ⟨#[]⟩,.sl [],.sl [],.int .i64 0,.int .i64 0]],.fn 123 []] (·=[.bool true]):=
 lI [(.mk 9 0 0 ⟨#[]⟩ [] [(.mk 1 0 0 ⟨#[]⟩ [] [] (0,0)),(.mk 4 0 0 ⟨#[120]⟩ [] [] (0,0))] (0,0)),(.mk 1 0 1 ⟨#[]⟩ [] [] (0,0))] 123 (λe=>e.kd==9) (by decide) (by intro a h;simp only[agu,agE,ag0]at h;rcases h with rfl|rfl;exact J8;exact Iq)
def KX:PT prog 64 [.sl [[.int .u8 4,.int .u8 0,.int .i32 0,.str ⟨#[95,120,49]⟩,.sl [],.sl [],.int .i64 0,.int .i64 0],[.int .u8 1,.int .u8 0,.int .i32 1,.str ⟨#[]⟩,.sl [],.sl [],.int .i64 0,.int .i64 0]],.fn 123 []] (·=[.bool false]):=
 lI [(.mk 4 0 0 ⟨#[95,120,49]⟩ [] [] (0,0)),(.mk 1 0 1 ⟨#[]⟩ [] [] (0,0))] 123 (λe=>false) (by decide) (by intro a h;simp only[agu,agE,ag0]at h;rcases h with rfl|rfl;exact J_;exact Iq)
def KG:PT prog 63 [.agg [.int .u8 7,.int .u8 3,.int .i32 0,.str ⟨#[]⟩,.sl [],.sl [[.int .u8 9,.int .u8 0,.int .i32 0,.str ⟨#[]⟩,.sl [],.sl [[.int .u8 1,.int .u8 0,.int .i32 0,.str ⟨#[]⟩,.sl [],.sl [],.int .i64 0,.int .i64 0],[.int .u8 4,.int .u8 0,.int .i32 0,.str ⟨#[120]⟩,.sl [],.sl [],.int .i64 0,.int .i64 0]],.int .i64 0,.int .i64 0],[.int .u8 1,.int .u8 0,.int .i32 1,.str ⟨#[]⟩,.sl [],.sl [],.int .i64 0,.int .i64 0]],.int .i64 0,.int .i64 0]] (·=[.bool false]):=by
 refine Lk (Lf func63 W ntmps63 W λa b=>?_)
 repeat first|((with_reducible apply TC.seq))|((with_reducible apply TC.block))|((with_reducible apply Ll);rfl)|((with_reducible apply TC.skip))|((with_reducible apply TC.ret))|((with_reducible apply gF))|((with_reducible apply kG))|((apply TC.region);(repeat first|((with_reducible apply ah);rfl;rfl)|((with_reducible apply ay);rfl;rfl)|((with_reducible apply ax);rfl;rfl;rfl)|((with_reducible apply(av (r:=.bool false)));rfl;rfl;rfl;rfl)|((with_reducible apply fb);rfl;rfl)|((with_reducible apply bp);rfl;rfl)|(refine aL KW W W ?_));(apply TL.nil))
 exact⟨_,W,[_],W,W⟩
def KH:PT prog 63 [.agg [.int .u8 7,.int .u8 3,.int .i32 0,.str ⟨#[]⟩,.sl [],.sl [[.int .u8 4,.int .u8 0,.int .i32 0,.str ⟨#[95,120,49]⟩,.sl [],.sl [],.int .i64 0,.int .i64 0],[.int .u8 1,.int .u8 0,.int .i32 1,.str ⟨#[]⟩,.sl [],.sl [],.int .i64 0,.int .i64 0]],.int .i64 0,.int .i64 0]] (·=[.bool true]):=by
 refine Lk (Lf func63 W ntmps63 W λa b=>?_)
 repeat first|((with_reducible apply TC.seq))|((with_reducible apply TC.block))|((with_reducible apply Ll);rfl)|((with_reducible apply TC.skip))|((with_reducible apply TC.ret))|((with_reducible apply gF))|((with_reducible apply kG))|((apply TC.region);(repeat first|((with_reducible apply ah);rfl;rfl)|((with_reducible apply ay);rfl;rfl)|((with_reducible apply ax);rfl;rfl;rfl)|((with_reducible apply(av (r:=.bool false)));rfl;rfl;rfl;rfl)|((with_reducible apply fb);rfl;rfl)|((with_reducible apply bp);rfl;rfl)|(refine aL KX W W ?_));(apply TL.nil))
 exact⟨_,W,[_],W,W⟩
def KI:PT prog 66 [.agg [.int .u8 1,.int .u8 0,.int .i32 0,.str ⟨#[]⟩,.sl [],.sl [],.int .i64 0,.int .i64 0]] (·=[.bool true]):=by
 refine Lk (Lf func66 W ntmps66 W λa b=>?_)
 repeat first|((with_reducible apply TC.seq))|((with_reducible apply TC.ret))|((with_reducible apply gF))|((apply TC.region);(repeat first|((with_reducible apply aQ);rfl;rfl)|((with_reducible apply ai);rfl;rfl)|((with_reducible apply ah);rfl;rfl)|((with_reducible apply ay);rfl;rfl)|((with_reducible apply ax);rfl;rfl;rfl)|((with_reducible apply(av (r:=.bool true)));rfl;rfl;rfl;rfl)|((with_reducible apply cH);rfl;rfl;rfl)|((with_reducible apply bp);rfl;rfl));(apply TL.nil))
 exact⟨_,W,[_],W,W⟩
def KY:PT prog 68 [.sl [],.sl []] (·=[.bool true]):=by
 refine Lk (Lf func68 W ntmps68 W λa b=>?_)
 repeat first|((with_reducible apply TC.seq))|((with_reducible apply TC.block))|((with_reducible apply Ll);rfl)|((with_reducible apply TC.skip))|((with_reducible apply TC.exit))|((with_reducible apply TC.ret))|((with_reducible apply gF))|((with_reducible apply qg))|((with_reducible apply qh))|((with_reducible apply ph.mk))|((with_reducible apply(TC.Dq 4)))|((apply TC.region);(repeat first|((with_reducible apply ai);rfl;rfl)|((with_reducible apply ah);rfl;rfl)|((with_reducible apply(av (r:=.bool false)));rfl;rfl;rfl;rfl)|((with_reducible apply aT);rfl;rfl;rfl));(apply TL.nil))
 exact⟨_,W,[_],W,W⟩
def KJ:PT prog 61 [.sl [[.sl [[.str ⟨#[120]⟩,.int .u8 2,.str ⟨#[]⟩,.sl [],.bool false,.int .u8 0,.int .u8 0,.int .i32 0,.str ⟨#[]⟩,.sl [],.sl [],.int .i64 0,.int .i64 0,.int .i64 0,.int .i64 0]]],[.sl []]]] (·=[.sl [[.str ⟨#[120]⟩,.int .u8 2,.str ⟨#[]⟩,.sl [],.bool false,.int .u8 0,.int .u8 0,.int .i32 0,.str ⟨#[]⟩,.sl [],.sl [],.int .i64 0,.int .i64 0,.int .i64 0,.int .i64 0]]]):=n5 [[[.str ⟨#[120]⟩,.int .u8 2,.str ⟨#[]⟩,.sl [],.bool false,.int .u8 0,.int .u8 0,.int .i32 0,.str ⟨#[]⟩,.sl [],.sl [],.int .i64 0,.int .i64 0,.int .i64 0,.int .i64 0]],[]] (by simp) (by simp) (by simp)
def KK:PT prog 61 [.sl [[.sl [[.str ⟨#[120]⟩,.int .u8 2,.str ⟨#[]⟩,.sl [],.bool false,.int .u8 0,.int .u8 0,.int .i32 0,.str ⟨#[]⟩,.sl [],.sl [],.int .i64 0,.int .i64 0,.int .i64 0,.int .i64 0]]],[.sl [[.str ⟨#[95,120,49]⟩,.int .u8 2,.str ⟨#[]⟩,.sl [],.bool false,.int .u8 0,.int .u8 0,.int .i32 0,.str ⟨#[]⟩,.sl [],.sl [],.int .i64 0,.int .i64 0,.int .i64 0,.int .i64 0]]]]] (·=[.sl [[.str ⟨#[120]⟩,.int .u8 2,.str ⟨#[]⟩,.sl [],.bool false,.int .u8 0,.int .u8 0,.int .i32 0,.str ⟨#[]⟩,.sl [],.sl [],.int .i64 0,.int .i64 0,.int .i64 0,.int .i64 0],[.str ⟨#[95,120,49]⟩,.int .u8 2,.str ⟨#[]⟩,.sl [],.bool false,.int .u8 0,.int .u8 0,.int .i32 0,.str ⟨#[]⟩,.sl [],.sl [],.int .i64 0,.int .i64 0,.int .i64 0,.int .i64 0]]]):=n5 [[[.str ⟨#[120]⟩,.int .u8 2,.str ⟨#[]⟩,.sl [],.bool false,.int .u8 0,.int .u8 0,.int .i32 0,.str ⟨#[]⟩,.sl [],.sl [],.int .i64 0,.int .i64 0,.int .i64 0,.int .i64 0]],[[.str ⟨#[95,120,49]⟩,.int .u8 2,.str ⟨#[]⟩,.sl [],.bool false,.int .u8 0,.int .u8 0,.int .i32 0,.str ⟨#[]⟩,.sl [],.sl [],.int .i64 0,.int .i64 0,.int .i64 0,.int .i64 0]]] (by simp) (by simp) (by simp)
def J':PT prog 21 [.agg [.str ⟨#[102]⟩,.sl [],.sl [[.str ⟨#[120]⟩,.int .u8 2,.str ⟨#[]⟩,.sl [],.bool false,.int .u8 0,.int .u8 0,.int .i32 0,.str ⟨#[]⟩,.sl [],.sl [],.int .i64 0,.int .i64 0,.int .i64 0,.int .i64 0]],.sl [],.sl [[.int .u8 1,.sl [[.str ⟨#[120]⟩]],.str ⟨#[]⟩,.int .u8 0,.int .u8 0,.int .i32 0,.str ⟨#[]⟩,.sl [],.sl [],.int .i64 0,.int .i64 0,.int .u8 7,.int .u8 3,.int .i32 0,.str ⟨#[]⟩,.sl [],.sl [[.int .u8 9,.int .u8 0,.int .i32 0,.str ⟨#[]⟩,.sl [],.sl [[.int .u8 1,.int .u8 0,.int .i32 0,.str ⟨#[]⟩,.sl [],.sl [],.int .i64 0,.int .i64 0],[.int .u8 4,.int .u8 0,.int .i32 0,.str ⟨#[120]⟩,.sl [],.sl [],.int .i64 0,.int .i64 0]],.int .i64 0,.int .i64 0],[.int .u8 1,.int .u8 0,.int .i32 1,.str ⟨#[]⟩,.sl [],.sl [],.int .i64 0,.int .i64 0]],.int .i64 0,.int .i64 0,.sl [],.sl [],.sl []]]]] (·=[.bool false]):=by
 refine Lk (Lf func21 W ntmps21 W λa b=>?_)
 repeat first|((with_reducible apply TC.seq))|((with_reducible apply TC.block))|((with_reducible apply LK);rfl)|((with_reducible apply Ll);rfl)|((with_reducible apply TC.skip))|((with_reducible apply TC.exit))|((with_reducible apply TC.ret))|((with_reducible apply gF))|((with_reducible apply qg))|((with_reducible apply tw))|((with_reducible apply kG))|((with_reducible apply tx))|((with_reducible apply qh))|((with_reducible apply ph.mk))|((with_reducible apply(TC.Dq 4)))|((apply TC.region);(repeat first|((with_reducible apply aQ);rfl;rfl)|((with_reducible apply aE);rfl)|((with_reducible apply ai);rfl;rfl)|((with_reducible apply ah);rfl;rfl)|((with_reducible apply ay);rfl;rfl)|((with_reducible apply aA);rfl;rfl)|((with_reducible apply ax);rfl;rfl;rfl)|((with_reducible apply aF);rfl;rfl;rfl;rfl)|((with_reducible apply aK);rfl;rfl;rfl)|((with_reducible apply aW);rfl;rfl;rfl;rfl;rfl)|((with_reducible apply(av (r:=.bool true)));rfl;rfl;rfl;rfl)|((with_reducible apply(av (r:=.bool false)));rfl;rfl;rfl;rfl)|((with_reducible apply cH);rfl;rfl;rfl)|((with_reducible apply fb);rfl;rfl)|((with_reducible apply aT);rfl;rfl;rfl)|((with_reducible apply bp);rfl;rfl)|((with_reducible apply uS);rfl;rfl)|((with_reducible apply aC);rfl;rfl;rfl;rfl;rfl;rfl)|((with_reducible apply bZ);rfl;rfl;rfl)|((with_reducible apply jn);rfl)|((with_reducible apply fW);rfl;rfl;rfl;rfl;rfl)|((with_reducible apply o_);rfl;rfl;rfl;rfl;rfl)|((with_reducible apply aU);rfl;rfl;rfl;rfl;rfl;rfl;rfl;rfl)|((with_reducible apply aI);rfl;rfl;rfl;decide)|((with_reducible apply aN);rfl;rfl;rfl;decide;rfl;rfl)|(refine aL KJ W W ?_)|(refine aL KG W W ?_));(apply TL.nil))
 exact⟨_,W,[_],W,W⟩
def Ka:PT prog 21 [.agg [.str ⟨#[102]⟩,.sl [],.sl [[.str ⟨#[120]⟩,.int .u8 2,.str ⟨#[]⟩,.sl [],.bool false,.int .u8 0,.int .u8 0,.int .i32 0,.str ⟨#[]⟩,.sl [],.sl [],.int .i64 0,.int .i64 0,.int .i64 0,.int .i64 0]],.sl [[.str ⟨#[95,120,49]⟩,.int .u8 2,.str ⟨#[]⟩,.sl [],.bool false,.int .u8 0,.int .u8 0,.int .i32 0,.str ⟨#[]⟩,.sl [],.sl [],.int .i64 0,.int .i64 0,.int .i64 0,.int .i64 0]],.sl [[.int .u8 2,.sl [[.str ⟨#[95,120,49]⟩]],.str ⟨#[]⟩,.int .u8 1,.int .u8 0,.int .i32 0,.str ⟨#[]⟩,.sl [],.sl [],.int .i64 0,.int .i64 0,.int .u8 4,.int .u8 0,.int .i32 0,.str ⟨#[120]⟩,.sl [],.sl [],.int .i64 0,.int .i64 0,.sl [],.sl [],.sl []],[.int .u8 1,.sl [[.str ⟨#[120]⟩]],.str ⟨#[]⟩,.int .u8 0,.int .u8 0,.int .i32 0,.str ⟨#[]⟩,.sl [],.sl [],.int .i64 0,.int .i64 0,.int .u8 7,.int .u8 3,.int .i32 0,.str ⟨#[]⟩,.sl [],.sl [[.int .u8 4,.int .u8 0,.int .i32 0,.str ⟨#[95,120,49]⟩,.sl [],.sl [],.int .i64 0,.int .i64 0],[.int .u8 1,.int .u8 0,.int .i32 1,.str ⟨#[]⟩,.sl [],.sl [],.int .i64 0,.int .i64 0]],.int .i64 0,.int .i64 0,.sl [],.sl [],.sl []]]]] (·=[.bool true]):=by
 refine Lk (Lf func21 W ntmps21 W λa b=>?_)
 repeat first|((with_reducible apply TC.seq))|((with_reducible apply TC.block))|((with_reducible apply LK);rfl)|((with_reducible apply Ll);rfl)|((with_reducible apply TC.skip))|((with_reducible apply TC.exit))|((with_reducible apply TC.ret))|((with_reducible apply gF))|((with_reducible apply qg))|((with_reducible apply kG))|((with_reducible apply qh))|((with_reducible apply ph.mk))|((with_reducible apply(TC.Dq 4)))|((apply TC.region);(repeat first|((with_reducible apply aQ);rfl;rfl)|((with_reducible apply aE);rfl)|((with_reducible apply ai);rfl;rfl)|((with_reducible apply ah);rfl;rfl)|((with_reducible apply ay);rfl;rfl)|((with_reducible apply aA);rfl;rfl)|((with_reducible apply ax);rfl;rfl;rfl)|((with_reducible apply aF);rfl;rfl;rfl;rfl)|((with_reducible apply aK);rfl;rfl;rfl)|((with_reducible apply aW);rfl;rfl;rfl;rfl;rfl)|((with_reducible apply(av (r:=.bool true)));rfl;rfl;rfl;rfl)|((with_reducible apply(av (r:=.bool false)));rfl;rfl;rfl;rfl)|((with_reducible apply cH);rfl;rfl;rfl)|((with_reducible apply fb);rfl;rfl)|((with_reducible apply aT);rfl;rfl;rfl)|((with_reducible apply bp);rfl;rfl)|((with_reducible apply uS);rfl;rfl)|((with_reducible apply aC);rfl;rfl;rfl;rfl;rfl;rfl)|((with_reducible apply bZ);rfl;rfl;rfl)|((with_reducible apply jn);rfl)|((with_reducible apply fW);rfl;rfl;rfl;rfl;rfl)|((with_reducible apply o_);rfl;rfl;rfl;rfl;rfl)|((with_reducible apply sv);rfl;rfl;rfl;rfl;rfl)|((with_reducible apply aU);rfl;rfl;rfl;rfl;rfl;rfl;rfl;rfl)|((with_reducible apply aI);rfl;rfl;rfl;decide)|((with_reducible apply aN);rfl;rfl;rfl;decide;rfl;rfl)|(refine IJ W W W W ?_)|(refine aL KK W W ?_)|(refine aL KH W W ?_)|(refine aL KD W W ?_)|(refine aL KI W W ?_)|(refine aL KY W W ?_));(apply TL.nil))
 exact⟨_,W,[_],W,W⟩
def KL:HB 1 [bK]:= λb a=>by rw[ag9]at a;subst a;exact Et (by kernel_rfl)
def uv{f:Nat}{ms:List M}{v:D}(h:Dt prog f ms [.ob 0 bK] λx l=>x=.d v/\l=[.ob 0 bK]):CT prog f ms [bK] λr K=>r=.d v/\K=[bK]:=by
 obtain⟨x,K,⟨l,⟨rfl,rfl⟩,w⟩,c⟩:=h [bK] (·=0) (qd ⟨rfl,λj=>ail⟩);have a:=w.ob;refine CT.drop 1 (ags _) (c.mono ?_);rintro r k ⟨rfl,rfl⟩;have b:1<=k.length:=(ahk.1 a).1;have d:k.take 1=[bK]:=by
  cases k with
  |nil=>simp at b
  |cons e r=>simp at a;subst a;rfl
 rw[d];exact⟨b,.d _,KL,W,W⟩
def Gj:Fl:=⟨⟨#[102]⟩,[],[⟨⟨#[120]⟩,2,⟨#[]⟩,[],false,cg,(0,0)⟩],[],[⟨1,[⟨#[120]⟩],⟨#[]⟩,cg,(.mk 7 3 0 ⟨#[]⟩ [] [(.mk 9 0 0 ⟨#[]⟩ [] [(.mk 1 0 0 ⟨#[]⟩ [] [] (0,0)),(.mk 4 0 0 ⟨#[120]⟩ [] [] (0,0))] (0,0)),(.mk 1 0 1 ⟨#[]⟩ [] [] (0,0))] (0,0)),[],[],[]⟩]⟩
def Ji:D5 [] Gj:=by
 refine⟨by decide,by decide,by simp[Gj,kU,cC,bh],λq a=>?_⟩;simp only[Gj,agu,agE,ag0]at a;subst a;refine⟨λh=>absurd h (by decide),λ_=>?_,λ_ _=>by simp,by simp[kU,cC,bh]⟩;simp[dK,eR]
def Kb:Gj.cells=[.str ⟨#[102]⟩,.sl [],.sl [[.str ⟨#[120]⟩,.int .u8 2,.str ⟨#[]⟩,.sl [],.bool false,.int .u8 0,.int .u8 0,.int .i32 0,.str ⟨#[]⟩,.sl [],.sl [],.int .i64 0,.int .i64 0,.int .i64 0,.int .i64 0]],.sl [],.sl [[.int .u8 1,.sl [[.str ⟨#[120]⟩]],.str ⟨#[]⟩,.int .u8 0,.int .u8 0,.int .i32 0,.str ⟨#[]⟩,.sl [],.sl [],.int .i64 0,.int .i64 0,.int .u8 7,.int .u8 3,.int .i32 0,.str ⟨#[]⟩,.sl [],.sl [[.int .u8 9,.int .u8 0,.int .i32 0,.str ⟨#[]⟩,.sl [],.sl [[.int .u8 1,.int .u8 0,.int .i32 0,.str ⟨#[]⟩,.sl [],.sl [],.int .i64 0,.int .i64 0],[.int .u8 4,.int .u8 0,.int .i32 0,.str ⟨#[120]⟩,.sl [],.sl [],.int .i64 0,.int .i64 0]],.int .i64 0,.int .i64 0],[.int .u8 1,.int .u8 0,.int .i32 1,.str ⟨#[]⟩,.sl [],.sl [],.int .i64 0,.int .i64 0]],.int .i64 0,.int .i64 0,.sl [],.sl [],.sl []]]]:=rfl
def Kc:(yl [] Gj).cells=[.str ⟨#[102]⟩,.sl [],.sl [[.str ⟨#[120]⟩,.int .u8 2,.str ⟨#[]⟩,.sl [],.bool false,.int .u8 0,.int .u8 0,.int .i32 0,.str ⟨#[]⟩,.sl [],.sl [],.int .i64 0,.int .i64 0,.int .i64 0,.int .i64 0]],.sl [[.str ⟨#[95,120,49]⟩,.int .u8 2,.str ⟨#[]⟩,.sl [],.bool false,.int .u8 0,.int .u8 0,.int .i32 0,.str ⟨#[]⟩,.sl [],.sl [],.int .i64 0,.int .i64 0,.int .i64 0,.int .i64 0]],.sl [[.int .u8 2,.sl [[.str ⟨#[95,120,49]⟩]],.str ⟨#[]⟩,.int .u8 1,.int .u8 0,.int .i32 0,.str ⟨#[]⟩,.sl [],.sl [],.int .i64 0,.int .i64 0,.int .u8 4,.int .u8 0,.int .i32 0,.str ⟨#[120]⟩,.sl [],.sl [],.int .i64 0,.int .i64 0,.sl [],.sl [],.sl []],[.int .u8 1,.sl [[.str ⟨#[120]⟩]],.str ⟨#[]⟩,.int .u8 0,.int .u8 0,.int .i32 0,.str ⟨#[]⟩,.sl [],.sl [],.int .i64 0,.int .i64 0,.int .u8 7,.int .u8 3,.int .i32 0,.str ⟨#[]⟩,.sl [],.sl [[.int .u8 4,.int .u8 0,.int .i32 0,.str ⟨#[95,120,49]⟩,.sl [],.sl [],.int .i64 0,.int .i64 0],[.int .u8 1,.int .u8 0,.int .i32 1,.str ⟨#[]⟩,.sl [],.sl [],.int .i64 0,.int .i64 0]],.int .i64 0,.int .i64 0,.sl [],.sl [],.sl []]]]:=by kernel_rfl
def CZ:CT prog 15 [] [bK] λr K=>r=.d (.bool true)/\K=[bK]:=by
 have a:=uv (yu 0 [] ⟨by simp,by simp⟩ Gj Ji);rw[Kb,Kc]at a;refine Lf func15 W ntmps15 W λb c=>?_
 repeat first|((with_reducible apply TC.seq))|((with_reducible apply TC.ret))|((with_reducible apply gF))|((apply TC.region);(repeat first|((with_reducible apply aE);rfl)|((with_reducible apply ai);rfl;rfl)|((with_reducible apply ah);rfl;rfl)|((with_reducible apply aA);rfl;rfl)|((with_reducible apply aF);rfl;rfl;rfl;rfl)|((with_reducible apply aW);rfl;rfl;rfl;rfl;rfl)|((with_reducible apply(av (r:=.bool true)));rfl;rfl;rfl;rfl)|((with_reducible apply cH);rfl;rfl;rfl)|((with_reducible apply fb);rfl;rfl)|((with_reducible apply aT);rfl;rfl;rfl)|((with_reducible apply uS);rfl;rfl)|((with_reducible apply aC);rfl;rfl;rfl;rfl;rfl;rfl)|((with_reducible apply aU);rfl;rfl;rfl;rfl;rfl;rfl;rfl;rfl)|((with_reducible apply bX);rfl;rfl;rfl;rfl;rfl)|(refine iQ a W W ?_;rintro _ _ ⟨rfl,rfl⟩)|(refine aL J' rfl rfl ?_)|(refine aL Ka rfl rfl ?_));(apply TL.nil))
 exact⟨_,W,W,W⟩
variable{i:Nat}{l:List Fq}
def Gl{p:Pg}(a:Go.Pm.Made p):CT prog 16 [.d (.agg p.cells)] [bK] λr K=>r=.d (.agg (BX (tB (lO p))).cells)/\K=[bK]:=by
 have b:=uv (y_ 0 p a.da);have c:=uv (IS 0 (lO p) a.ds);have d:=uv (IX 0 (tB (lO p)) a.ur);refine Lf func16 W ntmps16 W λe f=>?_
 refine A2 ?_
 refine TC.region ?_;refine bp W W ?_;refine aM W W ?_;refine TL.nil ?_
 refine A2 ?_
 refine TC.region ?_;refine aK W W W ?_
 (refine iQ b W W ?_;rintro _ _ ⟨rfl,rfl⟩)
 (refine iQ c W W ?_;rintro _ _ ⟨rfl,rfl⟩)
 (refine iQ d W W ?_;rintro _ _ ⟨rfl,rfl⟩)
 refine aC W W W W W W ?_;refine TL.nil ?_;exact TC.ret ⟨_,W,W,W⟩
def Ir{l:List Fl}(h:i<l.length):(l.map Fl.cells)[((i:Nat):Int).toNat]?=some [.str l[i].name,.sl (aB l[i].ins),.sl (aB l[i].outs),.sl (aB l[i].vars),.sl (l[i].eqs.map Fq.cells)]:=by simp[h,Fl.cells]
def Is(h:i<l.length):(l.map Fq.cells)[((i:Nat):Int).toNat]?=some (yp l[i] (.sl (bW l[i].ck))):=by simp[h,gC]
def Ei(h:i<l.length):((l.take (i+1)).map kU).sum=((l.take i).map kU).sum+kU l[i]:=by
 rw[agp h,agI,List.sum_append];simp only[agH,ag1,ai4,List.sum_nil,ahW]
def It(s:List Int)(v:D)(z:JG .u8 s v):CT prog 3 [.d v] [bK] λr K=>r=.d (.bool true)/\K=[bK]:=by
 have ce:=z.1;refine Lf func3 W ntmps3 W λs0 Oo=>?_
 refine A2 ?_
 refine TC.region ?_;refine ah W W ?_;refine TL.nil ?_
 refine A2 ?_
 refine TC.region ?_
 (refine iQ CZ W W ?_;rintro _ _ ⟨rfl,rfl⟩)
 refine fb W W ?_;refine ai W W ?_;refine aE W ?_;refine ai W W ?_;refine aE W ?_;refine aT W W ce ?_;refine aE W ?_;refine av W W W W ?_;refine cH W W W ?_;refine TL.nil ?_
 refine A2 ?_
 refine TC.cond W (λa=>?_) (λa=>?_)
 .refine A2 ?_
  refine TC.region ?_
  (refine iQ CZ W W ?_;rintro _ _ ⟨rfl,rfl⟩)
  refine ah W W ?_;refine TL.nil ?_;exact TC.ret ⟨_,W,W,W⟩
 have co:s.length<=400:=by have:=agv a;omega
 clear a;refine TC.skip ?_
 refine A2 ?_
 refine TC.region ?_;refine ai W W ?_
 (refine iQ (CT.Da (H7 s v ⟨z,by omega⟩)) W W ?_;rintro _ _ ⟨⟨_,rfl,l,rfl,ac⟩,rfl⟩;have g:=Go.Pm.Ip ac;have A:=Gl g;rw[Go.Ex.Eb]at A)
 (refine iQ A W W ?_;rintro _ _ ⟨rfl,rfl⟩)
 refine aM W W ?_;refine aC W W W W W W ?_;refine TL.nil ?_;have B:kL (BX (tB (lO (Go.Ex.nu l)))).aG:=g.en;have C:∀f∈(BX (tB (lO (Go.Ex.nu l)))).nodes,D5 (BX (tB (lO (Go.Ex.nu l)))).aG f/\∀q∈f.eqs,Go.Pm.Gh q:=g.nk;have R:=g.nl;generalize BX (tB (lO (Go.Ex.nu l)))=w at B C R⊢;have am:(w.nodes.map Fl.cells).length=w.nodes.length:=by simp
 refine A2 ?_
 refine TC.region ?_;refine ah W W ?_;refine TL.nil ?_
 refine A2 ?_
 refine TC.block ?_;refine LI (λk s=>∃(i:Nat) (a:List (Nat×List M)),s=⟨[(4,.m (.d (.int .i64 ((i:Nat):Int)))),(3,.loc 3 0)],a,[bK]⟩/\Go.Mt.get a 3=some [.d (.sl (w.aG.map En.cells)),.d (.sl (w.nodes.map Fl.cells))]/\i<=w.nodes.length/\k=w.nodes.length-i) w.nodes.length _
  ⟨0,_,rfl,rfl,by omega,rfl⟩ W ?_
 rintro x y ⟨i,E,rfl,b,hi,rfl⟩
 refine A2 ?_
 refine TC.region ?_;refine ai W W ?_;refine aA W W ?_;refine aF W W b W ?_
 (refine aT W W W ?_;rw[am])
 refine av W W W W ?_;refine TL.nil ?_
 refine A2 ?_
 refine TC.cond W (λa=>?_) (λa=>?_)
 .have F:i<w.nodes.length:=by have:=agr a;omega
  clear a;have d:=Ir F;obtain⟨e,P⟩:=C _ (agx F);have G:=uv (yu 0 w.aG B w.nodes[i] e);generalize w.nodes[i]=f at d e P G;have Q:(f.eqs.map Fq.cells).length=f.eqs.length:=by simp
  have S:=e.2.2.1;have QE:=e.2.1;refine TC.skip ?_
  refine A2 ?_
  refine TC.block ?_
  refine A2 ?_
  refine TC.region ?_;refine ah W W ?_;refine TL.nil ?_
  refine A2 ?_
  refine TC.region ?_;refine ah W W ?_;refine TL.nil ?_
  refine A2 ?_
  refine TC.block ?_;refine LI (λk s=>∃(j n:Nat) (a:List (Nat×List M)),s=⟨[(6,.m (.d (.int .i64 ((j:Nat):Int)))),(5,.m (.d (.int .i64 ((n:Nat):Int)))),(4,.m (.d (.int .i64 ((i:Nat):Int)))),(3,.loc 3 0)],a,[bK]⟩/\Go.Mt.get a 3=some [.d (.sl (w.aG.map En.cells)),.d (.sl (w.nodes.map Fl.cells))]/\n=((f.eqs.take j).map kU).sum/\j<=f.eqs.length/\k=f.eqs.length-j) f.eqs.length _
   ⟨0,0,_,rfl,b,by simp,by omega,rfl⟩ W ?_
  clear b;rintro x y ⟨j,n,E,rfl,b,H,hj,rfl⟩
  refine A2 ?_
  refine TC.region ?_;refine ai W W ?_;refine aA W W ?_;refine aF W W b W ?_;refine ai W W ?_;refine aN W W W (ago i) d W ?_;refine ay W W ?_;refine ax W W W ?_
  (refine aT W W W ?_;rw[Q])
  refine av W W W W ?_;refine TL.nil ?_
  refine A2 ?_
  refine TC.cond W (λa=>?_) (λa=>?_)
  .have h:j<f.eqs.length:=by have:=agr a;omega
   clear a;have I:=Is h;have k:=P _ (agx h);have J:=Ei h;have L:=Ak h;generalize f.eqs[j]=q at I k J L;have T:kU q=cC q.e+bh q.args:=rfl;rw[T]at J L;have ML:=k.2.1;have U:(q.args.map Xp.cells).length=q.args.length:=by simp
   have N:=vy q.e k.1 (by omega);rw[q.e.aj]at N;have V:IntKind.i64.wrap (((n:Nat):Int)+((cC q.e:Nat):Int))=((n+cC q.e:Nat):Int):=by rw[mD (by omega)];omega
   refine TC.skip ?_
   refine A2 ?_
   refine TC.block ?_
   refine A2 ?_
   refine TC.region ?_;refine aA W W ?_;refine aF W W b W ?_;refine ai W W ?_;refine aN W W W (ago i) d W ?_;refine ay W W ?_;refine ax W W W ?_;refine ai W W ?_;refine aN W W W (ago j) I W ?_;refine aK W W W ?_;refine aM W W ?_;refine aC W W W W W W ?_;refine TL.nil ?_
   refine A2 ?_
   refine TC.region ?_;refine ai W W ?_;refine aA W W ?_;refine aW W W W W W ?_;refine aL N W W ?_
   (refine av W W W (r:=.int .i64 ((n+cC q.e:Nat):Int)) (by show some (D.int .i64 (IntKind.i64.wrap _))=_;rw[V]) ?_)
   refine ah W W ?_;refine TL.nil ?_
   refine A2 ?_
   refine TC.region ?_;refine ah W W ?_;refine TL.nil ?_
   refine A2 ?_
   refine TC.block ?_;refine LI (λk s=>∃(a m:Nat) (b:List (Nat×List M)),s=⟨[(8,.m (.d (.int .i64 ((a:Nat):Int)))),(7,.loc 7 0),(6,.m (.d (.int .i64 ((j:Nat):Int)))),(5,.m (.d (.int .i64 ((m:Nat):Int)))),(4,.m (.d (.int .i64 ((i:Nat):Int)))),(3,.loc 3 0)],b,[bK]⟩/\Go.Mt.get b 3=some [.d (.sl (w.aG.map En.cells)),.d (.sl (w.nodes.map Fl.cells))]/\Go.Mt.get b 7=some ((yp q (.sl (bW q.ck))).map M.d)/\m=n+cC q.e+bh (q.args.take a)/\a<=q.args.length/\k=q.args.length-a) q.args.length _
    ⟨0,n+cC q.e,_,rfl,by exact b,W,by rw[agS,bh];rfl,by omega,rfl⟩ W ?_
   clear b;rintro x y ⟨c,m,E,rfl,b,t,X,ha,rfl⟩
   refine A2 ?_
   refine TC.region ?_;refine ai W W ?_;refine aA W W ?_;refine aF W W t W ?_
   (refine aT W W W ?_;rw[U])
   refine av W W W W ?_;refine TL.nil ?_
   refine A2 ?_
   refine TC.cond W (λa=>?_) (λa=>?_)
   .have o:c<q.args.length:=by have:=agr a;omega
    clear a;have O:(q.args.map Xp.cells)[((c:Nat):Int).toNat]?=some (xC q.args[c]):=by simp[o,Xp.aj]
    have u:=vy q.args[c] (k.2.2.1 _ (agx o)) (by have:=yP _ (agx o);omega);rw[q.args[c].aj]at u;have Y:bh (q.args.take (c+1))=bh (q.args.take c)+cC q.args[c]:=by rw[agp o,jt];simp[bh]
    have PQ:=mT q.args (c+1);generalize q.args[c]=p at O u Y;have Z:IntKind.i64.wrap (((m:Nat):Int)+((cC p:Nat):Int))=((m+cC p:Nat):Int):=by rw[mD (by omega)];omega
    refine TC.skip ?_
    refine A2 ?_
    refine TC.block ?_
    refine A2 ?_
    refine TC.region ?_;refine ai W W ?_;refine aA W W ?_;refine aF W W t W ?_;refine ai W W ?_;refine aN W W W (ago c) O W ?_;refine aK W W W ?_;refine aL u W W ?_
    (refine av W W W (r:=.int .i64 ((m+cC p:Nat):Int)) (by show some (D.int .i64 (IntKind.i64.wrap _))=_;rw[Z]) ?_)
    refine ah W W ?_;refine TL.nil ?_
    refine A2 ?_
    refine TC.region ?_;refine ai W W ?_;refine aI W W W (by omega) ?_;refine ah W W ?_;refine TL.nil ?_;exact again (k':=q.args.length-(c+1)) (by omega) ⟨c+1,m+cC p,_,rfl,by exact b,by exact t,by omega,by omega,rfl⟩ W W
   .refine TC.exit ?_;obtain rfl:c=q.args.length:=by have:=agv a;omega
    rw[agz]at X
    refine A2 ?_
    refine TC.region ?_;refine ai W W ?_;refine aI W W W (by omega) ?_;refine ah W W ?_;refine TL.nil ?_;exact again (k':=f.eqs.length-(j+1)) (by omega) ⟨j+1,m,_,rfl,by exact b,by omega,by omega,rfl⟩ W W
  .refine TC.exit ?_;obtain rfl:j=f.eqs.length:=by have:=agv a;omega
   rw[agz]at H;have c:=yr w.aG f.eqs ⟨0,f.vars,[],jK (f.ins++f.outs++f.vars)⟩;have h:(yl w.aG f).vars.length<=f.vars.length+(f.eqs.map kU).sum:=c.vs;have k:(yl w.aG f).eqs.length<=f.eqs.length+(f.eqs.map kU).sum:=by have:=c.q;simp only[List.length_nil]at this;show(f.eqs.foldl (qJ w.aG) _).eqs.length<=_;omega
   have L:=e.1;have N:=e.2.1;have o:(aB (yl w.aG f).vars).length=(yl w.aG f).vars.length:=by simp[aB]
   have p:(aB f.vars).length=f.vars.length:=by simp[aB]
   have q:((yl w.aG f).eqs.map Fq.cells).length=(yl w.aG f).eqs.length:=by simp
   rw[<-H]at h k S;have J:IntKind.i64.wrap (((f.vars.length:Nat):Int)+((n:Nat):Int))=((f.vars.length+n:Nat):Int):=by rw[mD (by omega)];omega
   have t:IntKind.i64.wrap (((f.eqs.length:Nat):Int)+((n:Nat):Int))=((f.eqs.length+n:Nat):Int):=by rw[mD (by omega)];omega
   have u:decide ((((yl w.aG f).vars.length:Nat):Int)>((f.vars.length+n:Nat):Int))=false:=ahc (by omega);have I:decide ((((yl w.aG f).eqs.length:Nat):Int)>((f.eqs.length+n:Nat):Int))=false:=ahc (by omega)
   refine A2 ?_
   refine Na mixed ?_;refine aX W W ?_;refine bC W W b W ?_;refine aX W W ?_;refine bC W W b W ?_;refine aO W W ?_;refine bE W W W (ago i) d W ?_;refine cx W W W ?_;refine fO G W W ?_;refine fk W ?_;refine bS W W W W W W ?_;refine TF.nil ⟨by kernel_rfl,?_⟩
   refine A2 ?_
   refine Na mixed ?_;refine aX W W ?_;refine bC W W W W ?_
   (refine lG W W W ?_;rw[o])
   refine aX W W ?_;refine bC W W b W ?_;refine aO W W ?_;refine bE W W W (ago i) d W ?_;refine bI W W ?_;refine cd W W W ?_
   (refine lG W W W ?_;rw[p])
   refine aO W W ?_
   (refine lY W W W (r:=.int .i64 ((f.vars.length+n:Nat):Int)) (by show some (D.int .i64 (IntKind.i64.wrap _))=_;rw[J]) ?_)
   (refine lY W W W (r:=.bool false) (by show some (D.bool (decide _))=_;rw[u]) ?_)
   refine aO W W ?_;refine bA W W ?_;refine aX W W ?_;refine bA W W ?_;refine bC W W W W ?_;refine bA W W ?_;refine lG W W W ?_;rw[q];refine bA W W ?_;refine aX W W ?_;refine bA W W ?_;refine bC W W b W ?_;refine bA W W ?_;refine aO W W ?_;refine bA W W ?_;refine bE W W W (ago i) d W ?_;refine bA W W ?_;refine bI W W ?_;refine bA W W ?_;refine cd W W W ?_;refine bA W W ?_;refine lG W W W ?_;rw[Q];refine bA W W ?_;refine aO W W ?_;refine bA W W ?_;refine lY W W W (r:=.int .i64 ((f.eqs.length+n:Nat):Int)) (by show some (D.int .i64 (IntKind.i64.wrap _))=_;rw[t]) ?_;refine bA W W ?_;refine lY W W W (r:=.bool false) (by show some (D.bool (decide _))=_;rw[I]) ?_;refine qZ W W W ?_;refine TF.nil ⟨by kernel_rfl,?_⟩
   refine A2 ?_
   refine Ll W ?_;refine TC.skip ?_
   refine A2 ?_
   refine TC.region ?_;refine ai W W ?_;refine aI W W W (by omega) ?_;refine ah W W ?_;refine TL.nil ?_;exact again (k':=w.nodes.length-(i+1)) (by omega) ⟨i+1,_,rfl,by exact b,by omega,rfl⟩ W W
 .refine TC.exit ?_
  refine A2 ?_
  refine TC.region ?_;refine ah W W ?_;refine TL.nil ?_;exact TC.ret ⟨_,W,W,W⟩
end Go.Proofs.Pz
namespace Go.Proofs.Pz
open Tryz
def j1:prog.inPlace 3=[]:=by kernel_rfl
def j2:prog.unfollowed 3=true:=by kernel_rfl
def j3:prog.recurses 3=true:=by kernel_rfl
def j4:prog.varsNamed 3=["internal/strconv.uint64pow10", "math/bits.deBruijn32tab", "math/bits.deBruijn64tab"]:=by kernel_rfl
def closed:joinedFacts prog 3 f3 YtbafhpblecdbbaaGreatDoor.Rows.normalCountsSpec YtbafhpblecdbbaaGreatDoor.Rows.normalCountsRow=true:=by
 unfold joinedFacts;rw[j1,j2,j3,j4]
 kernel_rfl
def c1:YtbafhpblecdbbaaGreatDoor.Rows.normalCountsRow.wfByText (OpenSpec.ofChange YtbafhpblecdbbaaGreatDoor.Rows.normalCountsSpec)=true:=by kernel_rfl
def c2:prog.mainIs=some (true, "f50347e73aaa9d340bc349c5a52e56f4bb5d0113295c3e190f190ebf72de17ac".toList):=by kernel_rfl
def c3:prog.funcNamed "metronome/metronomelaw17.NormalCounts" =some 3:=by kernel_rfl
def c4:prog.looks []=true:=by kernel_rfl
def c5:([22].all λu=> !prog.wantsStandIn u)=true:=by kernel_rfl
def c6:YtbafhpblecdbbaaGreatDoor.Rows.normalCountsRow.goesBy prog=false:=by kernel_rfl
end Go.Proofs.Pz
