/- A part of the proof of the last text of this claim, without conditions. -/
import Derived.Test.YtjbigbaipmiihaaGreatD
set_option maxRecDepth 4000
set_option linter.all false
namespace Go.Sm
open Go.Mt
theorem AU{a:Type}(l:List a)(p:a->Bool):(l.findIdx? p=none/\l.find? p=none)\/∃(i:Nat) (h:i<l.length),l.findIdx? p=some i/\l.find? p=some l[i]:=by
 cases h:l.findIdx? p with
 |none=>
  refine .inl ⟨W,?_⟩;rw[atE]at h;rw[List.find?_eq_none];intro x b;rw[h x b];simp
 |some i=>
  rw[as4]at h;obtain⟨b,c,d⟩:=h;refine .inr ⟨i,b,W,?_⟩;rw[List.find?_eq_some_iff_getElem];exact⟨c,i,b,W,λj a=>by grind⟩
def nV(tk c n:Int):Bool:=if tk=2 then true else if tk=1 then(n==0||n==1)else if tk=3 then(decide (n>=0)&&decide (n<c))else false
structure qH(en:List En):Prop where
 n:en.length<=1000000
 c:∀e∈en,e.c9.length<=1000000
def Gp{n:Int}(h: -2147483648<=n/\n<=2147483647):IntKind.i64.wrap n=n:=IntWalk.i64_in _ ⟨by omega,by omega⟩
def vI{en:List En}(h:qH en)(tk:Int)(a:Nm):(eU en tk a).length<=1000000:=by
 unfold eU;split
 .simp
 .split
  .split
   .rename_i e b;exact h.c _ (auL b)
   .simp
  .simp
end Go.Sm
namespace Go.Proofs.Sz
open Go.Mt Go.Sm Go.Proofs
open Tryz
def Dq{l:List En}{i:Nat}(h:i<l.length):(l.map En.cells)[((i:Nat):Int).toNat]?=some l[i].cells:=by simp[h]
def iJ(b:Bool):PT prog 139 [.bool b] (·=[.int .i32 (kY b)]):=by
 refine OL (CT.ob func139 W ntmps139 W λa c=>?_);refine tC [2,2] W ?_;cases b with
 |true=>
  refine tC [1,2] W<|TC.ret ⟨_,W,[_],W,W⟩
 |false=>
  refine tC [0,2] W<|TC.ret ⟨_,W,[_],W,W⟩
def MI(op a:Int):PT prog 121 [.int .u8 op,.int .i32 a] (·=[.int .i32 (Cb op a)]):=by
 refine OL (CT.ob func121 W ntmps121 W λb c=>?_);refine tC [2,2,3] W ?_;by_cases b:op=1
 .have c:(op==1)=true:=by simp[b]
  refine tO [2,11] W<|aQ c W W W W<|tR [1,2,14] W<|aL (iJ _) W W<|tL [] W<|TC.ret ⟨_,W,[_],W,by simp[Cb,b]⟩
 have c:(op==1)=false:=by simp[b]
 refine tO [2,11] W<|aQ c W W W W<|tL [0] W ?_;by_cases c:op=2
 .have d:(op==2)=true:=by simp[c]
  refine tO [2,16] W<|aQ d W W W W<|tR [1,2,18] W<|My W W<|tL [] W<|TC.ret ⟨_,W,[_],W,by simp[Cb,c,i32]⟩
 have d:(op==2)=false:=by simp[c]
 refine tO [2,16] W<|aQ d W W W W<|tL [0,2] W<|TC.ret ⟨_,W,[_],W,by simp[Cb,b,c]⟩
def AV(op a b:Int)(g:op=6\/op=7):PT prog 140 [.int .u8 op,.int .i32 a,.int .i32 b] (·=[.int .i32 (jl op a b)]):=by
 refine OL (CT.ob func140 W ntmps140 W λj k=>?_);refine tC [2,3] W ?_;by_cases c:b=0
 .have d:(b==0)=true:=by simp[c]
  refine tO [2,13] W<|aQ d W W W W<|tL [1,2] W<|TC.ret ⟨_,W,[_],W,by rcases g with rfl|rfl<;>simp[jl,c]⟩
 have d:(b==0)=false:=by simp[c]
 refine tO [2,13] W<|aQ d W W W W<|tL [0] W ?_;by_cases e:a= -2147483648
 .have h:(a== -2147483648)=true:=by simp[e]
  by_cases f:b= -1
  .have i:(b== -1)=true:=by simp[f]
   refine tO [2,16] W<|aQ h W W W W<|tR [19] W ?_
   first|refine aH W W ?_|(refine aC W ?_;(refine aQ i W W W W ?_))
   refine tL [1] W ?_;rcases g with rfl|rfl
   .have l:((6:Int)==6)=true:=rfl;refine tC [2,1,2] W<|TC.ret ⟨_,W,[_],W,by simp[jl,e,f]⟩
   .have l:((7:Int)==6)=false:=rfl;refine tC [2,0,2] W<|TC.ret ⟨_,W,[_],W,by simp[jl,e,f]⟩
  .have i:(b== -1)=false:=by simp[f]
   refine tO [2,16] W<|aQ h W W W W<|tR [19] W ?_
   first|refine aH W W ?_|(refine aC W ?_;(refine aQ i W W W W ?_))
   refine tL [0] W ?_;rcases g with rfl|rfl
   .have l:((6:Int)==6)=true:=rfl;refine tO [2,1,2,29] W<|IN W W W d<|tL [] W<|TC.ret ⟨_,W,[_],W,by simp[jl,c,f,i32]⟩
   .have l:((7:Int)==6)=false:=rfl;refine tO [2,0,2,32] W<|oY W W W d<|tL [] W<|TC.ret ⟨_,W,[_],W,by simp[jl,c,f,i32]⟩
 .have f:(a== -2147483648)=false:=by simp[e]
  refine tO [2,16] W<|aQ f W W W W<|tL [0] W ?_;rcases g with rfl|rfl
  .have h:((6:Int)==6)=true:=rfl;refine tO [2,1,2,29] W<|IN W W W d<|tL [] W<|TC.ret ⟨_,W,[_],W,by simp[jl,c,e,i32]⟩
  .have h:((7:Int)==6)=false:=rfl;refine tO [2,0,2,32] W<|oY W W W d<|tL [] W<|TC.ret ⟨_,W,[_],W,by simp[jl,c,e,i32]⟩
theorem HJ(op a b:Int)(n:op≠3/\op≠4/\op≠5/\op≠6/\op≠7/\op≠8/\op≠9/\op≠10/\op≠12):PT prog 141 [.int .u8 op,.int .i32 a,.int .i32 b] (·=[.int .i32 (jl op a b)]):=by
 obtain⟨o,p,q,r,s,t,u,w,x⟩:=n;refine OL (CT.ob func141 W ntmps141 W λy z=>?_);refine tC [2,2,3,3,3,3,3,3] W ?_;by_cases c:op=16
 .have h:(op==16)=true:=by simp[c]
  refine tO [2,13] W<|aQ h W W W W<|tL [1] W<|TC.exit ?_;by_cases m:a>b
  .have v:=asP m;refine tO [2,24] W<|aQ v W W W W<|tL [1,2] W<|TC.ret ⟨_,W,[_],W,by rw[c,show jl 16 a b=kY (decide (b<=a))from rfl,asP (by omega)];rfl⟩
  .have v:=asX m;refine tO [2,24] W<|aQ v W W W W<|tR [0,2,28] W<|aL (iJ _) W W<|tL [] W<|TC.ret ⟨_,W,[_],W,by rw[c,show jl 16 a b=kY (decide (b<=a))from rfl,show decide (b<=a)=(a==b)from by grind]⟩
 have h:(op==16)=false:=by simp[c]
 refine tO [2,13] W<|aQ h W W W W<|tL [0] W ?_;by_cases e:op=11
 .have i:(op==11)=true:=by simp[e]
  refine tO [2,15] W<|aQ i W W W W<|tL [1] W<|TC.exit<|tO [2,28] W<|aL (iJ _) W W<|tL [] W<|TC.ret ⟨_,W,[_],W,by rw[e];rfl⟩
 have i:(op==11)=false:=by simp[e]
 refine tO [2,15] W<|aQ i W W W W<|tL [0] W ?_;by_cases d:op=14
 .have j:(op==14)=true:=by simp[d]
  refine tO [2,17] W<|aQ j W W W W<|tL [1] W<|TC.exit ?_;by_cases m:a=b
  .have v:(a==b)=true:=by simp[m]
   refine tO [2,31] W<|aQ v W W W W<|tL [1,2] W<|TC.ret ⟨_,W,[_],W,by rw[d,show jl 14 a b=kY (decide (a<=b))from rfl,asP (by omega)];rfl⟩
  .have v:(a==b)=false:=by simp[m]
   refine tO [2,31] W<|aQ v W W W W<|tR [0,2,35] W<|aL (iJ _) W W<|tL [] W<|TC.ret ⟨_,W,[_],W,by rw[d,show jl 14 a b=kY (decide (a<=b))from rfl,show decide (a<=b)=decide (a<b)from by grind]⟩
 have j:(op==14)=false:=by simp[d]
 refine tO [2,17] W<|aQ j W W W W<|tL [0] W ?_;by_cases f:op=13
 .have k:(op==13)=true:=by simp[f]
  refine tO [2,19] W<|aQ k W W W W<|tL [1] W<|TC.exit<|tO [2,35] W<|aL (iJ _) W W<|tL [] W<|TC.ret ⟨_,W,[_],W,by rw[f];rfl⟩
 have k:(op==13)=false:=by simp[f]
 refine tO [2,19] W<|aQ k W W W W<|tL [0] W ?_;by_cases g:op=15
 .have l:(op==15)=true:=by simp[g]
  refine tO [2,21] W<|aQ l W W W W<|tL [1] W<|TC.exit<|tO [2,39] W<|aL (iJ _) W W<|tL [] W<|TC.ret ⟨_,W,[_],W,by rw[g];rfl⟩
 have l:(op==15)=false:=by simp[g]
 refine tO [2,21] W<|aQ l W W W W<|tL [0] W<|TC.exit<|tC [2] W<|TC.ret ⟨_,W,[_],W,by simp[jl,o,p,q,r,s,t,u,w,x,c,e,d,f,g]⟩
def KX(op a b:Int):PT prog 122 [.int .u8 op,.int .i32 a,.int .i32 b] (·=[.int .i32 (jl op a b)]):=by
 refine OL (CT.ob func122 W ntmps122 W λc d=>?_);refine tC [2,2,3] W ?_;by_cases e:op=3
 .have c:(op==3)=true:=by simp[e]
  refine tO [2,13] W<|aQ c W W W W<|tR [1,2,16] W<|gG W W W W<|tL [] W<|TC.ret ⟨_,W,[_],W,by rw[e];rfl⟩
 have c:(op==3)=false:=by simp[e]
 refine tO [2,13] W<|aQ c W W W W<|tL [0] W ?_;by_cases f:op=4
 .have c:(op==4)=true:=by simp[f]
  refine tO [2,18] W<|aQ c W W W W<|tR [1,2,21] W<|gG W W W W<|tL [] W<|TC.ret ⟨_,W,[_],W,by rw[f];rfl⟩
 have c:(op==4)=false:=by simp[f]
 refine tO [2,18] W<|aQ c W W W W<|tL [0] W ?_;by_cases g:op=5
 .have c:(op==5)=true:=by simp[g]
  refine tO [2,23] W<|aQ c W W W W<|tR [1,2,26] W<|gG W W W W<|tL [] W<|TC.ret ⟨_,W,[_],W,by rw[g];rfl⟩
 have c:(op==5)=false:=by simp[g]
 refine tO [2,23] W<|aQ c W W W W<|tL [0] W ?_;by_cases h:op=6
 .have c:(op==6)=true:=by simp[h]
  refine tO [2,28] W<|aQ c W W W W<|tR [1,1,2,33] W<|aL (AV op a b (.inl h)) W W<|tL [] W<|TC.ret ⟨_,W,[_],W,W⟩
 have c:(op==6)=false:=by simp[h]
 refine tO [2,28] W<|aQ c W W W W<|tL [0] W ?_;by_cases i:op=7
 .have c:(op==7)=true:=by simp[i]
  refine tO [2,29] W<|aQ c W W W W<|tR [1,2,33] W<|aL (AV op a b (.inr i)) W W<|tL [] W<|TC.ret ⟨_,W,[_],W,W⟩
 have c:(op==7)=false:=by simp[i]
 refine tO [2,29] W<|aQ c W W W W<|tL [0] W ?_;by_cases c:op=8
 .have d:(op==8)=true:=by simp[c]
  refine tO [2,35] W<|aQ d W W W W<|tL [1] W ?_;by_cases d:a=0
  .have e:(a !=0)=false:=by simp[d]
   refine tO [2,37] W<|aQ e W W W W<|tR [42] W<|aL (iJ _) W W<|tL [] W<|TC.ret ⟨_,W,[_],W,by rw[c];simp[jl,e,d]⟩
  .have e:(a !=0)=true:=by simp[d]
   refine tO [2,37] W<|aQ e W W W W<|tR [42] W<|aL (iJ _) W W<|tL [] W<|TC.ret ⟨_,W,[_],W,by rw[c];simp[jl,e,d]⟩
 have d:(op==8)=false:=by simp[c]
 refine tO [2,35] W<|aQ d W W W W<|tL [0] W ?_;by_cases d:op=9
 .have j:(op==9)=true:=by simp[d]
  refine tO [2,44] W<|aQ j W W W W<|tL [1] W ?_;by_cases c:a=0
  .have e:(a !=0)=false:=by simp[c]
   refine tO [2,46] W<|aQ e W W W W<|tR [51] W<|aL (iJ _) W W<|tL [] W<|TC.ret ⟨_,W,[_],W,by rw[d];simp[jl,e,c]⟩
  .have e:(a !=0)=true:=by simp[c]
   refine tO [2,46] W<|aQ e W W W W<|tR [51] W<|aL (iJ _) W W<|tL [] W<|TC.ret ⟨_,W,[_],W,by rw[d];simp[jl,e,c]⟩
 have j:(op==9)=false:=by simp[d]
 refine tO [2,44] W<|aQ j W W W W<|tL [0] W ?_;by_cases j:op=12
 .have k:(op==12)=true:=by simp[j]
  refine tO [2,53] W<|aQ k W W W W<|tR [1,1,2,58] W<|aL (iJ _) W W<|tL [] W<|TC.ret ⟨_,W,[_],W,by rw[j];rfl⟩
 have k:(op==12)=false:=by simp[j]
 refine tO [2,53] W<|aQ k W W W W<|tL [0] W ?_;by_cases k:op=10
 .have l:(op==10)=true:=by simp[k]
  refine tO [2,54] W<|aQ l W W W W<|tR [1,2,58] W<|aL (iJ _) W W<|tL [] W<|TC.ret ⟨_,W,[_],W,by rw[k];rfl⟩
 have l:(op==10)=false:=by simp[k]
 refine tO [2,54] W<|aQ l W W W W<|tR [0,2,62] W<|aL (HJ op a b ⟨e,f,g,h,i,c,d,k,j⟩) W W<|tL [] W<|TC.ret ⟨_,W,[_],W,W⟩
variable{en:List En}
def Jg(tk c n:Int)(a:Nm)(f: -2147483648<=n/\n<=2147483647):PT prog 31 [.agg [.int .u8 tk,.str a],.int .i64 c,.int .i32 n] (·=[.bool (nV tk c n)]):=by
 refine OL (CT.ob func31 W ntmps31 W λa b=>?_);refine tC [2,2,3] W ?_;by_cases d:tk=2
 .have a:(tk==2)=true:=by simp[d]
  refine tO [2,14] W<|aQ a W W W W<|tL [1,2] W<|TC.ret ⟨_,W,[_],W,by simp[nV,d]⟩
 have a:(tk==2)=false:=by simp[d]
 refine tO [2,14] W<|aQ a W W W W<|tL [0] W ?_;by_cases a:tk=1
 .have b:(tk==1)=true:=by simp[a]
  refine tO [2,16] W<|aQ b W W W W<|tL [1] W ?_;by_cases b:n=0
  .have d:(n==0)=true:=by simp[b]
   refine tO [2,18] W<|aQ d W W W W<|tL [] W<|TC.ret ⟨_,W,[_],W,by simp[nV,a,b]⟩
  .have d:(n==0)=false:=by simp[b]
   refine tO [2,18] W<|aQ d W W W W<|tL [] W<|TC.ret ⟨_,W,[_],W,by simp[nV,a,b]⟩
 have b:(tk==1)=false:=by simp[a]
 refine tO [2,16] W<|aQ b W W W W<|tL [0] W ?_;by_cases b:tk=3
 .have e:(tk==3)=true:=by simp[b]
  refine tO [2,24] W<|aQ e W W W W<|tL [1] W ?_;by_cases a:n>=0
  .have d:decide (n>=0)=true:=by simp[a]
   refine tO [2,26] W<|aQ d W W W W<|tR [29] W ?_
   first|refine aH W W ?_|(refine aC W ?_;(refine yr W W ?_;rw[Gp f]))
   refine tL [] W<|TC.ret ⟨_,W,[_],W,by simp[nV,b,a]⟩
  .have d:=asX a;refine tO [2,26] W<|aQ d W W W W<|tL [] W<|TC.ret ⟨_,W,[_],W,by simp[nV,b,a]⟩
 have e:(tk==3)=false:=by simp[b]
 refine tO [2,24] W<|aQ e W W W W<|tL [0,2] W<|TC.ret ⟨_,W,[_],W,by simp[nV,a,d,b]⟩
def wD(j:qH en)(tk:Int)(a:Nm):PT prog 32 [.sl (en.map En.cells),.agg [.int .u8 tk,.str a]] (·=[.sl (dM (eU en tk a))]):=by
 refine OL (CT.ob func32 W ntmps32 W λo p=>?_);refine tC [2,2,3] W ?_;by_cases b:tk=1
 .have d:(tk==1)=true:=by simp[b]
  refine tO [2,13] W<|aQ d W W W W<|tL [1,2] W<|TC.ret ⟨_,W,[_],W,by rw[eU,asB b];rfl⟩
 have d:(tk==1)=false:=by simp[b]
 refine tO [2,13] W<|aQ d W W W W<|tL [0] W ?_;by_cases c:tk=3
 .have f:(tk==3)=true:=by simp[c]
  refine tO [2,16] W<|aQ f W W W W<|tL [1] W ?_;rcases AU en (λe=>decide (e.name=a))with⟨g,h⟩|⟨i,m,g,h⟩
  .have k:=vH en a j.n;rw[g]at k;refine tO [2,20] W<|aL k W W<|tL [2,0,2] W<|TC.ret ⟨_,W,[_],W,by rw[eU,asu b,asB c,h];rfl⟩
  .have k:=vH en a j.n;rw[g]at k;have l:=Dq m;have n:eU en tk a=en[i].c9:=by rw[eU,asu b,asB c,h]
   rw[n];unfold En.cells at l;refine tO [2,20] W<|aL k W W<|tR [2,22] W<|aQ (asP (asm i)) W W W W<|tR [1,2,25] W<|aP W W W (asm i) l W<|tL [] W<|TC.ret ⟨_,W,[_],W,W⟩
 have f:(tk==3)=false:=by simp[c]
 refine tO [2,16] W<|aQ f W W W W<|tL [0,2] W<|TC.ret ⟨_,W,[_],W,by rw[eU,asu b,asu c];rfl⟩
def As(d:En)(x:Nm)(a:d.c9.length<=1000000):PT prog 135 [.agg d.cells,.aZ [.str x] 0] (·=[.bool (mr d.c9 x)]):=by
 unfold En.cells;refine OL (CT.ob func135 W ntmps135 W λb c=>?_);refine tO [2,2,11] W<|aL (oA _ _ a) W W<|tL [] W<|TC.ret ⟨_,W,[_],W,W⟩
def Cj(a:qH en)(x:Nm):PT prog 116 [.sl (en.map En.cells),.str x] (·=[.int .i64 (rA (en.findIdx? λe=>mr e.c9 x))]):=by
 refine OL (CT.ob func116 W ntmps116 W λb c=>?_);refine tO [2,2,11] W<|aL (mD en 135 [.aZ [.str x] 0] (λd=>mr d.c9 x) a.n (λd b=>As d x (a.c d b))) W W<|tL [] W<|TC.ret ⟨_,rfl,[_],rfl,rfl⟩
def isConst(en:List En)(e:Xp):Bool:=if e.kd=1\/e.kd=2 then true else if e.kd=3 then(en.find? λt=>mr t.c9 e.nm).isSome else false
theorem wE(m:qH en)(e:Xp):PT prog 86 [.sl (en.map En.cells),.agg e.cells] (·=[.int .i32 (pc en e),.bool (isConst en e)]):=by
 rw[e.aA];unfold pc isConst;generalize e.kd=a;generalize e.num=y;generalize e.nm=b;refine OL (CT.ob func86 W ntmps86 W λw x=>?_);refine tC [2,2,3] W ?_;by_cases n:a=1
 .have g:(a==1)=true:=by simp[n]
  refine tO [2,14] W<|aQ g W W W W<|tL [1,1,2] W<|TC.ret ⟨_,W,[_,_],W,by grind⟩
 have g:(a==1)=false:=by simp[n]
 refine tO [2,14] W<|aQ g W W W W<|tL [0] W ?_;by_cases o:a=2
 .have h:(a==2)=true:=by simp[o]
  refine tO [2,15] W<|aQ h W W W W<|tL [1,2] W<|TC.ret ⟨_,W,[_,_],W,by grind⟩
 have h:(a==2)=false:=by simp[o]
 have p:¬(a=1\/a=2):=by omega
 rw[asu p,asu p];refine tO [2,15] W<|aQ h W W W W<|tL [0] W ?_;by_cases c:a=3
 .have j:(a==3)=true:=by simp[c]
  refine tO [2,19] W<|aQ j W W W W<|tL [1] W ?_;rw[asB c,asB c];have d:=Cj m b;rcases AU en (λe=>mr e.c9 b)with⟨k,f⟩|⟨i,q,k,f⟩
  .rw[k]at d;refine tO [2,23] W<|aL d W W<|tL [2,0,2] W<|TC.ret ⟨_,W,[_,_],W,by rw[qC,f];rfl⟩
  .rw[k]at d;have l:=Dq q;have u:qC en b=k_ en[i].c9 b:=by rw[qC,f]
   have t:=m.c _ (asE q);have r:=AT en[i].c9 b t;have z:=Jc en[i].c9 b;have s:IntKind.i32.wrap (k_ en[i].c9 b)=k_ en[i].c9 b:=Ci (by omega);rw[u,f];unfold En.cells at l;generalize en[i]=v at l r s;refine tO [2,23] W<|aL d W W<|tR [2,25] W<|aQ (asP (asm i)) W W W W<|tL [1] W<|TC.draw bX<|fR 2 W<|bJ W W W (asm i) l W<|fR 4 W<|aW r W W<|qx W W ?_;rw[s];refine fR 2 W<|TF.nil ⟨by kernel_rfl,?_⟩;exact TC.ret ⟨_,W,[_,_],W,W⟩
 have j:(a==3)=false:=by simp[c]
 refine tO [2,19] W<|aQ j W W W W<|tL [0] W ?_;rw[asu c,asu c];refine tC [2] W<|TC.ret ⟨_,W,[_,_],W,W⟩
def Dr(z:Int):PT prog 136 [.int .i32 z] (·=[.agg (I8 z).cells]):=by
 rw[Xp.aA];refine OL (CT.ob func136 W ntmps136 W λa b=>?_);refine tC [2,2] W<|TC.ret ⟨_,W,[_],W,W⟩
abbrev yU(s:Nm):Xp:=.mk 3 0 0 s [] [] (0,0)
def HK(s:Nm):PT prog 144 [.str s] (·=[.agg (yU s).cells]):=by
 rw[Xp.aA];refine OL (CT.ob func144 W ntmps144 W λa b=>?_);refine tC [2,2] W<|TC.ret ⟨_,W,[_],W,W⟩
end Go.Proofs.Sz
namespace Go.Sm
open Go.Mt
variable{rs:List (List D)}{m:M}{H:Hp}
def rX(rs:List (List D))(m:M)(H:Hp):Prop:=(rs=[]/\m=.d (.sl [])/\H=[])\/(rs≠[]/\∃a,m=.bC 0 a rs.length/\H=[.row true 1 a (aY rs)])
def rX.acc(h:rX rs m H):Acc 1 0 rs m H:=by
 rcases h with⟨a,b,_⟩|⟨a,c,b,d⟩
 .exact .inl ⟨a,b⟩
 .exact .inr ⟨a,c,b,by rw[d];rfl⟩
def rX.app(h:rX rs m H)(r:List D):rX (rs++[r]) (h_ m H [r]) (eQ 1 m H [r]):=by
 rcases h with⟨rfl,rfl,rfl⟩|⟨b,a,rfl,rfl⟩
 .exact .inr ⟨by simp,0,by simp[h_,uF],by simp[eQ,jS]⟩
 .exact .inr ⟨by simp,a+1,by simp[h_],by simp[eQ,aY]⟩
theorem uP(l:List Nm):∀r∈dM l,r.length=1:=by grind
def wF(l:List Nm)(x:Nm):(la l x).length<=l.length+1:=by unfold la;split<;>simp
def rY(r l:List Nm):(r.foldl la l).length<=l.length+r.length:=by
 induction r generalizing l with
 |nil=>simp
 |cons a r b=>simp;have:=b (la l a);have:=wF l a;omega
mutual
def pk:aB->Nat
 |.mk _ b _ _ _ _ a _=>b.length+mu a
def mu:List a_->Nat
 |[]=>0
 |a::r=>uQ a+mu r
def uQ:a_->Nat
 |.mk _ b _ _ _=>fZ b
def fZ:bF->Nat
 |.mk _ a=>jU a
def jU:List aB->Nat
 |[]=>0
 |q::r=>pk q+jU r
end
mutual
def mR:∀q:aB,(cm q).length<=pk q
 |.mk _ b _ _ _ _ a _=>by rw[cm,pk];exact xg b a
def xg:∀(l:List Nm) (r:List a_),(jZ l r).length<=l.length+mu r
 |l,[]=>by rw[jZ,mu];omega
 |l,a::r=>by rw[jZ,mu];have b:=xg ((rz a).foldl la l) r;have b:=rY (rz a) l;have b:=E0 a;omega
def E0:∀a:a_,(rz a).length<=uQ a
 |.mk _ b _ _ _=>by rw[rz,uQ];exact yW b
def yW:∀b:bF,(kp b).length<=fZ b
 |.mk c a=>by rw[kp,fZ];have:=xh c [] a;simpa using this
def xh:∀(a:List Va) (l:List Nm) (r:List aB),(lu a l r).length<=l.length+jU r
 |a,l,[]=>by rw[lu,jU];omega
 |a,l,q::r=>by
  rw[lu,jU];have b:=xh a (((cm q).filter λx=>(fN a x).isNone).foldl la l) r;have b:=rY ((cm q).filter λx=>(fN a x).isNone) l;have b:=atN (λx=>(fN a x).isNone) (cm q);have a:=mR q;omega
end
end Go.Sm
namespace Go.Mt
end Go.Mt
namespace Go.Proofs.Sz
open Go.Mt Go.Sm Go.Proofs
open Tryz
theorem Gq(l:List Nm)(x:Nm)(d:l.length<=1000000){m:M}{H:Hp}(h:rX (dM l) m H):∃r K,rX (dM (la l x)) r K/\CT prog 90 [m,.d (.str x)] H λr' a=>r'=r/\a=K:=by
 have c:=h.acc.view (uP l);have a:=oA l x d;cases b:mr l x with
 |true=>
  rw[b]at a;refine⟨m,H,by rw[la,asB b];exact h,?_⟩;refine CT.ob func90 W ntmps90 W λb b=>tO [2,2,11] W<|TL.cq 5 W c<|aL a W W<|tL [1,2] W<|TC.ret ⟨_,rfl,rfl,rfl⟩
 |false=>
  rw[b]at a;have e:dM (la l x)=dM l++[[.str x]]:=by rw[la,asu (by rw[b];simp)];simp
  refine⟨_,_,by rw[e];exact h.app [.str x],?_⟩;refine CT.ob func90 W ntmps90 W λb b=>tO [2,2,11] W<|TL.cq 5 W c<|aL a W W<|tR [0,2,16] W<|mj (rows:=[[.str x]]) h.acc W W W W W (by grind) (by grind) (by grind)<|tL [] W<|TC.ret ⟨_,rfl,rfl,rfl⟩
theorem HL(l:List Nm)(c:l.length<=1000000):∃r K,rX (dM l) r K/\CT prog 88 [.d (.sl (dM l))] [] λr' a=>r'=r/\a=K:=by
 cases l with
 |nil=>
  refine⟨.d (.sl []),[],.inl ⟨W,W,W⟩,?_⟩;refine CT.ob func88 W ntmps88 W λa d=>tO [2,2,8] W<|KO W W (λb=>?_)
  refine tL [] W ?_;cases b with
  |true=>
   refine tC [1,2] W<|TC.ret ⟨_,W,W,W⟩
  |false=>
   refine tO [0,2,11] W<|pL W W W<|tL [] W<|TC.ret ⟨_,W,W,W⟩
 |cons a l=>
  refine⟨_,_,.inr ⟨by simp,0,rfl,rfl⟩,?_⟩;refine CT.ob func88 W ntmps88 W λa a=>tO [2,2,8] W<|I6 W (by kernel_rfl) W<|tR [0,2,11] W<|iZ true W W W W (by rfl) (by simp) (by grind) (by grind)<|tL [] W<|TC.ret ⟨_,rfl,by simp[vi],rfl⟩
def HM(a:List Va)(x:Nm):decide (rA (fN a x)<0)=(fN a x).isNone:=by
 cases h:fN a x with
 |none=>simp[rA]
 |some i=>simp only[rA,Option.isNone_some];exact asX (by omega)
theorem Ds(q:aB)(E:q.aj.length<=1000)(w:pk q<=1000000)(y:∀n∈q.aj,PT prog 89 [.agg n.cy.cells] (·=[.sl (dM (kp n.cy))])):PT prog 59 [.agg q.cells] (·=[.sl (dM (cm q))]):=by
 obtain⟨F,r,D,S,P,d,a,G⟩:=q;simp only[aB.aj]at E y;rw[pk]at w;rw[cm,aB.aA];simp only[aB.kd,aB.lhs,aB.f,aB.args,aB.has,aB.ex,aB.aj,aB.ps];rw[d.aA];obtain⟨I,J,K,L⟩:=HL r (by omega);obtain⟨z,ac⟩:∃z,z=rv F r D (S.map Xp.cells) P (bQ d.kd d.op d.num d.nm d.names (d.kids.map Xp.cells) d.ps) (a.map a_.cells) G:=⟨_,rfl⟩;refine OL (CT.ob func59 W ntmps59 W λT U=>?_);refine tO [2,2,14] W<|au L W W<|tR [2,17] W<|bK W W W ?_;rw[asD];refine tL [] W<|Qm [nN 14 0,nN 13 a.length,nD 12 (.sl (a.map a_.cells)),(3,.m I)] J W W<|tC [3] W<|TC.lp (λk s=>∃(i:Nat) (g:List (Nat×List M)) (m:M) (H:Hp) (l:List Nm),s=⟨[nN 14 i,nN 13 a.length,nD 12 (.sl (a.map a_.cells)),(3,.m m)],g,H⟩/\i<=a.length/\k=a.length-i/\rX (dM l) m H/\jZ l (a.drop i)=jZ r a/\l.length+mu (a.drop i)<=1000000) a.length _
  ⟨0,_,_,_,r,rfl,by omega,rfl,K,rfl,w⟩ W ?_
 rintro k s ⟨i,g,m,H,l,rfl,V,rfl,h,c,o⟩;refine tC [2] W<|TC.cond W (λt=>?_) (λt=>?_)
 .have u:i<a.length:=by grind
  have v:(a.map a_.cells)[((i:Nat):Int).toNat]?=some a[i].cells:=by simp[u]
  have p:=y _ (asE u);rw[atk u]at c o;rw[jZ]at c;rw[mu]at o;have N:rz a[i]=kp a[i].cy:=by cases a[i];rw[rz];rfl
  rw[N]at c;have Q:uQ a[i]=fZ a[i].cy:=by cases a[i];rw[uQ];rfl
  rw[Q]at o;have A:=yW a[i].cy;generalize a[i]=n at v p c o A;rw[bF.aA]at p;rw[a_.aA]at v;generalize kp n.cy=b at c p A;refine tO [3,2,20] W<|aP W W W (asm i) v W<|tR [2,24] W<|aL p W W<|tR [25] W<|bK W W W ?_;rw[asD];refine tL [] W<|Qm [nN 22 0,nN 21 b.length,nD 20 (.sl (dM b)),(3,.m m),nN 14 i,nN 13 a.length,nD 12 (.sl (a.map a_.cells))] H W W<|tC [3] W<|TC.lp (λk s=>∃(j:Nat) (g:List (Nat×List M)) (m:M) (H:Hp) (e:List Nm),s=⟨[nN 22 j,nN 21 b.length,nD 20 (.sl (dM b)),(3,.m m),nN 14 i,nN 13 a.length,nD 12 (.sl (a.map a_.cells))],g,H⟩/\j<=b.length/\k=b.length-j/\rX (dM e) m H/\(b.drop j).foldl la e=b.foldl la l/\e.length<=l.length+j) b.length _
   ⟨0,_,_,_,l,rfl,by omega,rfl,h,rfl,by omega⟩ W ?_
  rintro k s ⟨j,g,m,H,e,rfl,X,rfl,h,f,Y⟩;refine tC [2] W<|TC.cond W (λt=>?_) (λt=>?_)
  .have B:j<b.length:=by grind
   have C:=kK B;rw[atk B,aty]at f;generalize b[j]=x at C f;obtain⟨Z,H2,R,O⟩:=Gq e x (by omega) h;have ah:=wF e x;refine tO [3,2,28] W<|aP W W W (asm j) C W<|tR [2,32] W<|au O W W<|tR [2,33] W<|ay W W W (by omega)<|tL [] W<|again (k':=b.length-(j+1)) (by omega) ⟨j+1,_,_,_,la e x,rfl,by omega,rfl,R,f,by omega⟩ W W
  .refine TC.exit ?_;have x:j=b.length:=by grind
   subst x;rw[atQ]at f;simp at f;rw[<-f]at c;refine tO [2,34] W<|ay W W W (by omega)<|tL [] W<|again (k':=a.length-(i+1)) (by omega) ⟨i+1,_,_,_,_,rfl,by omega,rfl,h,c,by omega⟩ W W
 .refine TC.exit ?_;have b:i=a.length:=by grind
  subst b;rw[atQ,jZ]at c;subst c;refine tC [2] W<|TC.cq 2 W (h.acc.view (uP _))<|TC.ret ⟨_,W,[_],W,W⟩
theorem Jh(b:bF)(y:b.vars.length<=1000000)(F:b.aq.length<=1000000)(G:fZ b<=1000000)(z:∀q∈b.aq,PT prog 59 [.agg q.cells] (·=[.sl (dM (cm q))])):PT prog 89 [.agg b.cells] (·=[.sl (dM (kp b))]):=by
 obtain⟨d,a⟩:=b;simp only[bF.vars,bF.aq]at F z y;rw[fZ]at G;rw[kp,bF.aA];simp only[bF.vars,bF.aq];refine OL (CT.ob func89 W ntmps89 W λL N=>?_);refine tO [2,2,2,14] W<|bK W W W ?_;rw[asD];refine tL [] W<|Qm [nN 11 0,nN 10 a.length,nD 9 (.sl (a.map aB.cells)),nD 3 (.sl []),nD 1 (.aZ [.sl (aE d),.sl (a.map aB.cells)] 0)] [] W W<|tC [3] W<|TC.lp (λk s=>∃(i:Nat) (n:List (Nat×List M)) (m:M) (H:Hp) (l:List Nm),s=⟨[nN 11 i,nN 10 a.length,nD 9 (.sl (a.map aB.cells)),(3,.m m),nD 1 (.aZ [.sl (aE d),.sl (a.map aB.cells)] 0)],n,H⟩/\i<=a.length/\k=a.length-i/\rX (dM l) m H/\lu d l (a.drop i)=lu d [] a/\l.length+jU (a.drop i)<=1000000) a.length _
  ⟨0,_,_,_,[],rfl,by omega,rfl,.inl ⟨rfl,rfl,rfl⟩,rfl,by grind⟩ W ?_
 rintro k s ⟨i,n,m,H,l,rfl,O,rfl,h,f,r⟩;refine tC [2] W<|TC.cond W (λt=>?_) (λt=>?_)
 .have u:i<a.length:=by grind
  have v:(a.map aB.cells)[((i:Nat):Int).toNat]?=some a[i].cells:=by simp[u]
  have o:=z _ (asE u);rw[atk u]at f r;rw[lu]at f;rw[jU]at r;have A:=mR a[i];have B:=a[i].len;generalize a[i]=q at v o f r A B;generalize cm q=c at f o A;obtain⟨P,Q,R,S,T,U,V,X,Y,Z,b0,b1,b2,b3,b4,b5,I⟩:=pT B;rw[I]at v o;refine tO [3,2,17] W<|aP W W W (asm i) v W<|tR [2,20] W<|aL o W W<|tR [21] W<|bK W W W ?_;rw[asD];refine tL [] W<|Qm [nN 18 0,nN 17 c.length,nD 16 (.sl (dM c)),(3,.m m),nN 11 i,nN 10 a.length,nD 9 (.sl (a.map aB.cells)),nD 1 (.aZ [.sl (aE d),.sl (a.map aB.cells)] 0)] H W W<|tC [3] W<|TC.lp (λk s=>∃(j:Nat) (n:List (Nat×List M)) (m:M) (H:Hp) (g:List Nm),s=⟨[nN 18 j,nN 17 c.length,nD 16 (.sl (dM c)),(3,.m m),nN 11 i,nN 10 a.length,nD 9 (.sl (a.map aB.cells)),nD 1 (.aZ [.sl (aE d),.sl (a.map aB.cells)] 0)],n,H⟩/\j<=c.length/\k=c.length-j/\rX (dM g) m H/\((c.drop j).filter λx=>(fN d x).isNone).foldl la g=(c.filter λx=>(fN d x).isNone).foldl la l/\g.length<=l.length+j) c.length _
   ⟨0,_,_,_,l,rfl,by omega,rfl,h,rfl,by omega⟩ W ?_
  rintro k s ⟨j,n,m,H,g,rfl,hj,rfl,h,e,Sy⟩;refine tC [2] W<|TC.cond W (λt=>?_) (λt=>?_)
  .have C:j<c.length:=by grind
   have w:=kK C;rw[atk C]at e;generalize c[j]=x at w e;have D:=Jf d x y;have p:=HM d x;cases E:(fN d x).isNone with
   |true=>
    rw[E]at p;rw[at1 (by grind),aty]at e;obtain⟨m2,H2,K,J⟩:=Gq g x (by omega) h;have ac:=wF g x;refine tO [3,2,24] W<|aP W W W (asm j) w W<|tR [2,29] W<|aL D W W<|tR [30] W<|aQ p W W W W<|tR [1,2,33] W<|au J W W<|tR [2,34] W<|ay W W W (by omega)<|tL [] W<|again (k':=c.length-(j+1)) (by omega) ⟨j+1,_,_,_,la g x,rfl,by omega,rfl,K,e,by omega⟩ W W
   |false=>
    rw[E]at p;rw[at2 (by grind)]at e;refine tO [3,2,24] W<|aP W W W (asm j) w W<|tR [2,29] W<|aL D W W<|tR [30] W<|aQ p W W W W<|tR [0,2,34] W<|ay W W W (by omega)<|tL [] W<|again (k':=c.length-(j+1)) (by omega) ⟨j+1,_,_,_,g,rfl,by omega,rfl,h,e,by omega⟩ W W
  .refine TC.exit ?_;have p:j=c.length:=by grind
   subst p;rw[atQ]at e;simp at e;rw[<-e]at f;refine tO [2,35] W<|ay W W W (by omega)<|tL [] W<|again (k':=a.length-(i+1)) (by omega) ⟨i+1,_,_,_,_,rfl,by omega,rfl,h,f,by omega⟩ W W
 .refine TC.exit ?_;have c:i=a.length:=by grind
  subst c;rw[atQ,lu]at f;subst f;refine tC [2] W<|TC.cq 2 W (h.acc.view (uP _))<|TC.ret ⟨_,W,[_],W,W⟩
def tY{q:aB}{a:a_}(h:a∈q.aj):fZ a.cy<=pk q:=by
 obtain⟨d,j,f,l,k,e,c,g⟩:=q;simp only[aB.aj]at h;rw[pk]
 suffices fZ a.cy<=mu c by omega
 induction c with
 |nil=>cases h
 |cons b r i=>
  rw[mu];rcases asQ.1 h with rfl|h
  .have:uQ a=fZ a.cy:=by cases a;rw[uQ];rfl
   omega
  .grind
def vJ{b:bF}{q:aB}(h:q∈b.aq):pk q<=fZ b:=by
 obtain⟨d,a⟩:=b;simp only[bF.aq]at h;rw[fZ]
 induction a with
 |nil=>cases h
 |cons b r c=>
  rw[jU];rcases asQ.1 h with rfl|h
  .omega
  .grind
def Ji(b:bF)(e:uc b):fZ b<=1000000->PT prog 89 [.agg b.cells] (·=[.sl (dM (kp b))]):=by
 induction e with
 | @mk l f g h m i n o p j=>
  intro k;refine Jh _ g h k λq a=>?_
  have r:=vJ (b:=.mk l f) a;refine Ds q (i q a) (by omega) λd c=>j q a d c ?_
  have:=tY c;omega
def vK(q:aB)(a:q.aj.length<=1000)(c:∀a∈q.aj,uc a.cy)(b:pk q<=1000000):PT prog 59 [.agg q.cells] (·=[.sl (dM (cm q))]):=
 Ds q a b λa b=>Ji a.cy (c a b) (by have:=tY b;omega)
end Go.Proofs.Sz
namespace Go.Sm
open Go.Mt
variable{x:Kp}{H K:Hp}{n k a fr to i:Nat}{ob:Ob}
structure Mc where
 it:Nat
 iu:Nat
 im:Nat
 ip:Nat
 jy:Nat
 P:Pg
 d:Nd
 ad:Nat->Nat
 r1:M
 r2:M
 r3:M
 r4:M
variable{c:Mc}
abbrev E4(c:Mc):List M:=[.ref c.iu 0,c.r1,c.r2,c.r3,c.r4]
structure MM(c:Mc)(x:Kp)(H:Hp):Prop where
 inst:H[c.it]?=some (.box (E4 c))
 unit:H[c.iu]?=some (.box (pg c.P c.d c.im c.ip c.jy))
 mem:H[c.im]?=some (.row false 1 0 (bD (bT c.d) (iP x.m)))
 cw:H[c.ip]?=some (.row false 1 0 (bD (bT c.d) (jT x.p)))
 an:H[c.jy]?=some (.row false 1 0 (bD (bT c.d) (fb x.s c.ad)))
 d1:c.im≠c.ip
 d2:c.im≠c.jy
 d3:c.ip≠c.jy
 d4:c.it≠c.im/\c.it≠c.ip/\c.it≠c.jy
 d5:c.iu≠c.im/\c.iu≠c.ip/\c.iu≠c.jy
 small:bT c.d<=1000000000
structure MS(c:Mc)(H:Hp)(x:Kp)(K:Hp):Prop where
 mm:MM c x K
 len:H.length<=K.length
 iD:∀j,j<H.length->j≠c.im->j≠c.ip->j≠c.jy->K[j]?=H[j]?
def MS.refl(h:MM c x H):MS c H x H:=⟨h,asj _,λ_ _ _ _ _=>rfl⟩
def MS.trans{y:Kp}{L:Hp}(h:MS c H x K)(k:MS c K y L):MS c H y L:=⟨k.mm,ata h.len k.len,λj i a b d=>(k.iD j (atm i h.len) a b d).trans (h.iD j i a b d)⟩
theorem lU(h:H[i]?=some ob):i<H.length:=by grind
def MM.mono(h:MM c x H)(a:∀(j:Nat) (a:Ob),H[j]?=some a->K[j]?=some a):MM c x K:=
 ⟨a _ _ h.inst,a _ _ h.unit,a _ _ h.mem,a _ _ h.cw,a _ _ h.an,h.d1,h.d2,h.d3,h.d4,h.d5,h.small⟩
def MS.grow(h:MM c x H)(d:H.length<=K.length)(a:∀j:Nat,j<H.length->K[j]?=H[j]?):MS c H x K:=
 ⟨h.mono λj b b=>(a j (lU b)).trans b,d,λj i _ _ _=>a j i⟩
theorem gJ(h:H[i]?=some ob)(x:Ob):(H.set i x)[i]?=some x:=by grind
def MM.Ck(h:MM c x H)(f:Nat->Int):MS c H ⟨f,x.p,x.s⟩ (H.set c.im (.row false 1 0 (bD (bT c.d) (iP f)))):=by
 have a:∀j,j≠c.im->(H.set c.im (.row false 1 0 (bD (bT c.d) (iP f))))[j]?=H[j]?:= λj a=>asv (atf a)
 exact⟨⟨by rw[a _ h.d4.1];exact h.inst,by rw[a _ h.d5.1];exact h.unit,gJ h.mem _,by rw[a _ (atf h.d1)];exact h.cw,by rw[a _ (atf h.d2)];exact h.an,h.d1,h.d2,h.d3,h.d4,h.d5,h.small⟩,by simp,λj _ b _ _=>a j b⟩
def MM.Dt(h:MM c x H)(f:Nat->Bool):MS c H ⟨x.m,f,x.s⟩ (H.set c.ip (.row false 1 0 (bD (bT c.d) (jT f)))):=by
 have a:∀j,j≠c.ip->(H.set c.ip (.row false 1 0 (bD (bT c.d) (jT f))))[j]?=H[j]?:= λj a=>asv (atf a)
 exact⟨⟨by rw[a _ h.d4.2.1];exact h.inst,by rw[a _ h.d5.2.1];exact h.unit,by rw[a _ h.d1];exact h.mem,gJ h.cw _,by rw[a _ (atf h.d3)];exact h.an,h.d1,h.d2,h.d3,h.d4,h.d5,h.small⟩,by simp,λj _ _ b _=>a j b⟩
def MM.Du(h:MM c x H)(f:Nat->Option US):MS c H ⟨x.m,x.p,f⟩ (H.set c.jy (.row false 1 0 (bD (bT c.d) (fb f c.ad)))):=by
 have a:∀j,j≠c.jy->(H.set c.jy (.row false 1 0 (bD (bT c.d) (fb f c.ad))))[j]?=H[j]?:= λj a=>asv (atf a)
 exact⟨⟨by rw[a _ h.d4.2.2];exact h.inst,by rw[a _ h.d5.2.2];exact h.unit,by rw[a _ h.d2];exact h.mem,by rw[a _ h.d3];exact h.cw,gJ h.an _,h.d1,h.d2,h.d3,h.d4,h.d5,h.small⟩,by simp,λj _ _ _ b=>a j b⟩
def cd{a:Type}(f:Nat->a)(k:Nat)(v:a)(j:Nat):a:=if j=k then v else f j
def lG{f:Nat->Int}(z:Int)(h:k<n):dV (bD n (iP f)) (((k:Nat):Int).toNat*1) [.d (.int .i32 z)]=some (bD n (iP (cd f k z))):=by
 rw[nj _ h];refine atB some (atB (bD n) (funext λj=>?_));unfold sX iP cd;split<;>rfl
def s8{f:Nat->Bool}(z:Bool)(h:k<n):dV (bD n (jT f)) (((k:Nat):Int).toNat*1) [.d (.bool z)]=some (bD n (jT (cd f k z))):=by
 rw[nj _ h];refine atB some (atB (bD n) (funext λj=>?_));unfold sX jT cd;split<;>rfl
def s9{f:Nat->Option US}{ad:Nat->Nat}(h:k<n):dV (bD n (fb f ad)) (((k:Nat):Int).toNat*1) [.d .bU]=some (bD n (fb (cd f k none) ad)):=by
 rw[nj _ h];refine atB some (atB (bD n) (funext λj=>?_));unfold sX cd;by_cases e:j=k
 .grind
 .grind
def Jj{z:Int}(c:fr<=a)(d:a<to):x.fF [some z] a fr to=⟨cd x.m a z,x.p,x.s⟩:=by
 unfold Kp.fF
 congr 1
 .funext k;unfold lP cd
  by_cases e:k=a
  .subst e;rw[asB ⟨asj _,by simp,c,d⟩,asB W];simp[bZ]
  .grind
 .funext k;unfold pR;rw[asu];rintro⟨⟨g,f,_⟩,b⟩;simp at f;have:k-a=0:=by omega
  rw[this]at b;simp at b
 .funext k;unfold pS;rw[asu];rintro⟨⟨g,f,_⟩,b⟩;simp at f;have:k-a=0:=by omega
  rw[this]at b;simp at b
def oO{o:Option Int}(h:¬(fr<=a/\a<to)):x.fF [o] a fr to=x:=by
 unfold Kp.fF;obtain⟨m,p,s⟩:=x
 congr 1
 .funext k;unfold lP;rw[asu];rintro⟨c,b,d,e⟩;simp at b;apply h;omega
 .funext k;unfold pR;rw[asu];rintro⟨⟨c,b,d,e⟩,_⟩;simp at b;apply h;omega
 .funext k;unfold pS;rw[asu];rintro⟨⟨c,b,d,e⟩,_⟩;simp at b;apply h;omega
def AW(b:fr<=a)(c:a<to):x.fF [none] a fr to=⟨cd x.m a 0,cd x.p a false,cd x.s a none⟩:=by
 unfold Kp.fF
 congr 1
 .funext k;unfold lP cd
  by_cases e:k=a
  .subst e;rw[asB ⟨asj _,by simp,b,c⟩,asB W];simp[bZ]
  .grind
 .funext k;unfold pR cd
  by_cases e:k=a
  .grind
  .grind
 .funext k;unfold pS cd
  by_cases e:k=a
  .grind
  .grind
end Go.Sm
namespace Go.Proofs.Sz
open Go.Mt Go.Sm Go.Proofs
open Tryz
def qI(c:Mc)(j:qH c.P.aG)(x:Kp)(H:Hp)(h:MM c x H)(a fr b:Nat)(m:a<=2000000000)(o:b<=bT c.d)(e:Xp):DT prog 57 [.ref c.it 0,dN a,.d (.agg e.cells),dN fr,dN b] H λr K=>MS c H (x.fF [some (pc c.P.aG e)] a fr b) K:=by
 have d:=wE j e;rw[e.aA]at d⊢;refine DT.ob func57 W ntmps57 W<|dC [2] W ?_;rcases asp a fr with g|g
 .have l:decide (((a:Nat):Int)>=((fr:Nat):Int))=false:=asX (by omega);rw[oO (by omega)];refine dO [2,16] W<|Oq (aQ l W W W W)<|dL [0] W<|⟨_,W,MS.refl h⟩
 rcases asp a b with i|i
 rotate_left
 .have l:decide (((a:Nat):Int)<((b:Nat):Int))=false:=asX (by omega);rw[oO (by omega)];refine dO [2,16] W<|Oq (aQ (asP (by omega)) W W W W)<|dR [20] W ?_
  first|refine Oq (aH W W) ?_|(refine Oq (aC W) ?_;refine Oq (aQ l W W W W) ?_)
  refine dL [0] W<|⟨_,W,MS.refl h⟩
 rw[Jj g i];refine dO [2,16] W<|Oq (aQ (asP (by omega)) W W W W)<|dR [20] W ?_
 first|refine Oq (aH W W) ?_|(refine Oq (aC W) ?_;refine Oq (aQ (asP (by omega)) W W W W) ?_)
 refine dL [1] W ?_;apply Ow bX
 .intro l p;refine fR 3 W<|aw W W h.inst W<|fR 2 W<|aw W W h.unit W<|fR 4 W<|aw W W h.inst W<|fR 3 W<|aw W W h.unit W<|fR 1 W<|kG ((CT.yw d).mono (by rintro _ _ ⟨⟨_,rfl,rfl⟩,rfl⟩;exact⟨W,W⟩)) W W<|fR 3 W<|cZ W W W h.mem (by omega) (by omega)<|fL W W h.mem W W (lG (n:=bT c.d) (f:=x.m) (k:=a) (pc c.P.aG e) (by omega))<|TF.nil ⟨by kernel_rfl,rfl⟩
 exact⟨_,W,h.Ck _⟩
end Go.Proofs.Sz
namespace Go.Mt
end Go.Mt
namespace Go.Sm
open Go.Mt
def yX{en:List En}{a:List Xp}{i:Nat}(h:i<a.length):jY en (a.take (i+1))=jY en (a.take i)++iG en a[i]:=by
 rw[AR,AR,asA h,asN,atL];simp
def uR(en:List En)(a:List Xp):(jY en a).length=aR (a.map xP):=by rw[tU,ry]
end Go.Sm
namespace Go.Proofs.Sz
open Go.Mt Go.Sm Go.Proofs
open Tryz
theorem ul(c:Mc)(o:qH c.P.aG)(fr d:Nat)(p:d<=bT c.d)(e:Xp)(q:jD e)(a:Nat)(l:a+xP e<=1000000000)(x:Kp)(H:Hp)(h:MM c x H):DT prog 118 [.ref c.it 0,.d (.agg e.cells),dN a,dN fr,dN d] H λr K=>MS c H (x.fF (iG c.P.aG e) a fr d) K:=by
 have I:=EZ e;have B:∀k∈e.kids,∀(a:Nat),a+xP k<=1000000000->∀x H,MM c x H->DT prog 118 [.ref c.it 0,.d (.agg k.cells),dN a,dN fr,dN d] H λr K=>MS c H (x.fF (iG c.P.aG k) a fr d) K:= λk b a l x H h=>
  have:=Xp.Ca b
  ul c o fr d p k (q.sZ b) a l x H h
 have F:∀k∈e.kids,PT prog 85 [.agg k.cells] (·=[iN (xP k)]):= λk b=>jN k (q.sZ b) (by have:=jM (as1 (f:=xP) b);omega)
 have u:=Dm e.kd;have z:= λb=>q.fO b
 have J:=q.kids;rw[I]at l;rw[e.aA,KV];have s:=AQ c.P.aG e.kd e.kids;generalize e.kids=b at B F l J z s⊢;generalize dh e.kd=j at u l s⊢;generalize e.kd=m at u z s⊢;generalize e.op=L;generalize e.num=G;generalize e.nm=t;generalize e.names=T;generalize e.ps=N;refine DT.ob func118 W ntmps118 W<|dC [2,2] W<|Ps (λC=>∃K,MS c H (x.fF (xf c.P.aG m b) a fr d) K/\C=⟨[nN 2 (a+j),nD 6 (.aZ (bQ m L G t T (b.map Xp.cells) N) 0),nN 4 d,nN 3 fr,nR 0 c.it],[],K⟩) ?_ ?_
 .refine dC [3] W ?_;rcases u with⟨rfl,rfl⟩|⟨rfl,rfl⟩|⟨rfl,rfl⟩|⟨y,A,E,rfl⟩
  .obtain⟨n,O,rfl⟩:=z W;obtain⟨r,K,g,v⟩:=qI c o x H h a fr d (by omega) p n;have w:((n::O).map Xp.cells)[0]?=some n.cells:=rfl;rw[n.aA]at w v;refine dO [2,1,2,24] W<|Oq (aP W W W (by decide) w W)<|dR [28] W<|Oq (au v W W)<|dR [2,30] W<|Oq (ay W W W (by omega))<|dL [] W<|⟨_,⟨K,g,rfl⟩,cN W W⟩
  .obtain⟨r,K,g,n⟩:=qI c o x H h a fr d (by omega) p (I8 0);rw[Xp.aA]at n;refine dO [2,0,2,1,2,35] W<|Oq (aL (by have:=Dr 0;rw[Xp.aA]at this;exact this) W W)<|dR [38] W<|Oq (au n W W)<|dR [2,40] W<|Oq (ay W W W (by omega))<|dL [] W<|⟨_,⟨K,g,rfl⟩,cN W W⟩
  .obtain⟨r,K,g,n⟩:=qI c o x H h a fr d (by omega) p (I8 1);rw[Xp.aA]at n;refine dO [2,0,2,0,2,1,2,45] W<|Oq (aL (by have:=Dr 1;rw[Xp.aA]at this;exact this) W W)<|dR [48] W<|Oq (au n W W)<|dR [2,50] W<|Oq (ay W W W (by omega))<|dL [] W<|⟨_,⟨K,g,rfl⟩,cN W W⟩
  .have n:=asY.2 y;refine dO [2,19] W<|Oq (aQ n W W W W)<|dR [0,2,32] W<|Oq (aQ (asY.2 A) W W W W)<|dR [0,2,42] W<|Oq (aQ (asY.2 E) W W W W)<|dL [0] W ?_;have v:xf c.P.aG m b=[]:=by grind
   rw[v,Kp.vE];exact⟨_,⟨H,MS.refl h,W⟩,cN W W⟩
 rintro C ⟨K,g,rfl⟩;refine dO [2,53] W<|Oq (bK W W W) ?_;rw[asD];refine dL [] W<|OB [nN 50 0,nN 49 b.length,nD 48 (.sl (b.map Xp.cells)),nN 2 (a+j+aR ((b.take 0).map xP)),nN 4 d,nN 3 fr,nR 0 c.it] K W W<|dC [3] W<|DC.lp (λk t=>∃(i:Nat) (D:List (Nat×List M)) (K:Hp),t=⟨[nN 50 i,nN 49 b.length,nD 48 (.sl (b.map Xp.cells)),nN 2 (a+j+aR ((b.take i).map xP)),nN 4 d,nN 3 fr,nR 0 c.it],D,K⟩/\MS c H (x.fF (xf c.P.aG m b++jY c.P.aG (b.take i)) a fr d) K/\i<=b.length/\k=b.length-i) b.length _
  ⟨0,_,K,rfl,by rw[show jY c.P.aG (b.take 0)=[]from rfl,asL];exact g,by omega,rfl⟩ W ?_
 rintro k U ⟨i,D,K,rfl,g,V,rfl⟩;refine dC [2] W<|DC.cond W (λP=>?_) (λP=>?_)
 .have n:i<b.length:=by grind
  have v:(b.map Xp.cells)[((i:Nat):Int).toNat]?=some b[i].cells:=by simp[n]
  obtain⟨O,Y⟩:=fY xP n;obtain⟨X,Q,R,w⟩:=B _ (asE n) (a+j+aR ((b.take i).map xP)) (by omega) _ K g.mm;have y:=F _ (asE n);have E:=g.trans R;rw[show a+j+aR ((b.take i).map xP)=a+(xf c.P.aG m b++jY c.P.aG (b.take i)).length by rw[asq,s,uR];omega,<-Kp.qE,asM,<-(yX (en:=c.P.aG) n)]at E;generalize b[i]=A at v w y O;rw[A.aA]at v w y;have S:((a+j+aR ((b.take i).map xP):Nat):Int)+((xP A:Nat):Int)=((a+j+aR ((b.take (i+1)).map xP):Nat):Int):=by omega
  refine dO [3,2,56] W<|Oq (aP W W W (asm i) v W)<|dR [2,63] W<|Oq (au w W W)<|dR [2,66] W<|Oq (aL y W W)<|dR [67] W<|Oq (ay W W W (by omega)) ?_;rw[S];refine dR [2,68] W<|Oq (ay W W W (by omega))<|dL [] W<|bG (k':=b.length-(i+1)) (by omega) ⟨i+1,_,Q,rfl,E,by omega,rfl⟩ W W
 .refine DC.exit ?_;have n:i=b.length:=by grind
  subst n;rw[asU]at g;exact⟨_,W,g⟩
termination_by SizeOf.sizeOf e
end Go.Proofs.Sz
namespace Go.Mt
section
variable{P:Program}{n B:Nat}{post:Exit->St->Prop}{sl:List (Nat×V)}{bx:List (Nat×List M)}{H:Hp}
def DC.Dv{c:Code}(j:Nat){ec aK:Nat}{cs:List M}(a:H[j]?=some (.row false ec aK cs))(k:DC P n B c ⟨sl,bx,H.set j (.row true ec aK cs)⟩ post):DC P n B c ⟨sl,bx,H⟩ post:=
 Qg _ (λ_ _ _ b w b=>b.lD a) k
end
def HN{H:Hp}{i aK k n:Nat}{rs:List (List D)}(a:H[i]?=some (.row true n aK (aY rs)))(b:k=rs.length)(c:rs≠[])(d:∀r∈rs,r.length=n):jg H (.bC i aK k)=some (.sl rs):=
 Acc.view (n:=n) (i:=i) (.inr ⟨c,aK,by rw[b],a⟩) d
end Go.Mt
namespace Go.Sm
open Go.Mt
def E5{en:List En}{a:List a_}{i:Nat}(h:i<a.length):mC en (a.take (i+1))=mC en (a.take i)++kZ en a[i].cy:=by
 rw[AS,AS,asA h,asN,atL];simp
def E6(en:List En)(a:List a_):(mC en a).length=aR (a.map fP):=by rw[wC,AP]
end Go.Sm
namespace Go.Proofs.Sz
open Go.Mt Go.Sm Go.Proofs
open Tryz
def Dw(c:Mc)(Qb:qH c.P.aG)(fr j:Nat)(TZ:j<=bT c.d)(q:aB)(QN:q.aj.length<=1000)(Yf:q.args.length<=1000000)(N:jD q.ex)(ac:∀e∈q.args,jD e)(P:∀a∈q.aj,PT prog 40 [.agg a.cy.cells] (·=[iN (bP a.cy)]))
  (Q:∀g∈q.aj,∀(a:Nat),a+bP g.cy<=1000000000->∀x H,MM c x H->DT prog 58 [.ref c.it 0,.d (.agg g.cy.cells),dN a,dN fr,dN j] H λr K=>MS c H (x.fF (kZ c.P.aG g.cy) a fr j) K)
  (a:Nat) (u:a+qP q<=1000000000) (x:Kp) (H:Hp) (h:MM c x H):DT prog 87 [.ref c.it 0,.d (.agg q.cells),dN a,dN fr,dN j] H λr K=>MS c H (x.fF (uM c.P.aG q) a fr j) K:=by
 have OX:=jk q;have F:=Dp q.kd;have E:∀e∈q.ex::q.args,jD e/\PT prog 85 [.agg e.cells] (·=[iN (xP e)]):=by
  intro e B;rcases asQ.1 B with rfl|B
  .exact⟨N,jN _ N (by omega)⟩
  .exact⟨ac e B,jN e (ac e B) (by have:=jM (as1 (f:=xP) B);omega)⟩
 rw[q.aA,KW];rw[OX]at u;generalize gR q.kd=o at F u⊢;generalize q.kd=D at F⊢;generalize q.args=m at Yf E u⊢;generalize q.aj=g at QN Q P u⊢;generalize q.ex=b at E u⊢;generalize q.lhs=y;generalize q.f=v;generalize q.has=z;generalize q.ps=w;have G:(b::m).map Xp.cells=bQ b.kd b.op b.num b.nm b.names (b.kids.map Xp.cells) b.ps::m.map Xp.cells:=by rw[asT,b.aA]
 have co:iG c.P.aG b++jY c.P.aG m=jY c.P.aG (b::m):=by rw[jY]
 rw[co];have ah:aR ((b::m).map xP)=xP b+aR (m.map xP):=by simp[aR]
 have d6:(b::m).length<=1000001:=by simp;omega
 rw[b.aA];generalize R:b::m=d at E G ah d6⊢;refine DT.ob func87 W ntmps87 W<|dC [2] W<|DC.Gm (λp=>∃K,MS c H (x.fF (List.replicate o none) a fr j) K/\p=⟨[nN 2 (a+o),nD 6 (.aZ (rv D y v (m.map Xp.cells) z (bQ b.kd b.op b.num b.nm b.names (b.kids.map Xp.cells) b.ps) (g.map a_.cells) w) 0),nN 4 j,nN 3 fr,nR 0 c.it],[],K⟩) ?_ ?_
 .rcases F with⟨rfl,rfl⟩|⟨rfl,rfl⟩|⟨Y,h2,rfl⟩
  .refine dC [2,1] W<|DC.Gm (λp=>∃K,MS c H (x.fF (List.replicate 1 none) a fr j) K/\p=⟨[nN 2 a,nD 6 (.aZ (rv 2 y v (m.map Xp.cells) z (bQ b.kd b.op b.num b.nm b.names (b.kids.map Xp.cells) b.ps) (g.map a_.cells) w) 0),nN 4 j,nN 3 fr,nR 0 c.it],[],K⟩) ?_ ?_
   .rcases asp a fr with J|J
    .have e1:decide (((a:Nat):Int)>=((fr:Nat):Int))=false:=asX (by omega);refine dO [2,28] W<|Oq (aQ e1 W W W W)<|dL [0] W ?_;rw[show List.replicate 1 (none:Option Int)=[none]from rfl,oO (by omega)];exact⟨_,⟨H,MS.refl h,W⟩,cN W W⟩
    rcases asp a j with L|L
    rotate_left
    .have e2:decide (((a:Nat):Int)<((j:Nat):Int))=false:=asX (by omega);refine dO [2,28] W<|Oq (aQ (asP (by omega)) W W W W)<|dR [32] W ?_
     first|refine Oq (aH W W) ?_|(refine Oq (aC W) ?_;refine Oq (aQ e2 W W W W) ?_)
     refine dL [0] W ?_;rw[show List.replicate 1 (none:Option Int)=[none]from rfl,oO (by omega)];exact⟨_,⟨H,MS.refl h,W⟩,cN W W⟩
    refine dO [2,28] W<|Oq (aQ (asP (by omega)) W W W W)<|dR [32] W ?_
    first|refine Oq (aH W W) ?_|(refine Oq (aC W) ?_;refine Oq (aQ (asP (by omega)) W W W W) ?_)
    refine dL [1] W ?_;have S:=h.mem;have d7:=lG (n:=bT c.d) (f:=x.m) (k:=a) 0 (by omega);have B:=h.Ck (cd x.m a 0);have T:=B.mm.cw;have d8:=s8 (n:=bT c.d) (f:=x.p) (k:=a) false (by omega);have I:=B.mm.Dt (cd x.p a false);have U:=I.mm.an;have d9:=s9 (n:=bT c.d) (f:=x.s) (ad:=c.ad) (k:=a) (by omega);have f4:=I.mm.Du (cd x.s a none);rw[show List.replicate 1 (none:Option Int)=[none]from rfl,AW J L];apply Ow bX
    .intro s0 Oo;refine fR 3 W<|aw W W h.inst W<|fR 2 W<|aw W W h.unit W<|fR 4 W<|aw W W h.inst W<|fR 2 W<|aw W W h.unit W<|fR 4 W<|aw W W h.inst W<|fR 2 W<|aw W W h.unit W<|fR 1 W<|cZ W W W S (by omega) (by omega)<|fL W W S W W d7<|cZ W W W T (by omega) (by omega)<|fL W W T W W d8<|cZ W W W U (by omega) (by omega)<|fL W W U W W d9<|TF.nil ⟨by kernel_rfl,rfl⟩
    exact⟨_,⟨_,(B.trans I).trans f4,W⟩,cN W W⟩
   rintro p ⟨K,l,rfl⟩;refine dO [2,62] W<|Oq (ay W W W (by omega))<|dL [] W<|⟨_,⟨K,l,rfl⟩,cN W W⟩
  .refine dC [2,1] W<|DC.Gm (λp=>∃K,MS c H (x.fF (List.replicate 1 none) a fr j) K/\p=⟨[nN 2 a,nD 6 (.aZ (rv 4 y v (m.map Xp.cells) z (bQ b.kd b.op b.num b.nm b.names (b.kids.map Xp.cells) b.ps) (g.map a_.cells) w) 0),nN 4 j,nN 3 fr,nR 0 c.it],[],K⟩) ?_ ?_
   .rcases asp a fr with J|J
    .have e1:decide (((a:Nat):Int)>=((fr:Nat):Int))=false:=asX (by omega);refine dO [2,28] W<|Oq (aQ e1 W W W W)<|dL [0] W ?_;rw[show List.replicate 1 (none:Option Int)=[none]from rfl,oO (by omega)];exact⟨_,⟨H,MS.refl h,W⟩,cN W W⟩
    rcases asp a j with L|L
    rotate_left
    .have e2:decide (((a:Nat):Int)<((j:Nat):Int))=false:=asX (by omega);refine dO [2,28] W<|Oq (aQ (asP (by omega)) W W W W)<|dR [32] W ?_
     first|refine Oq (aH W W) ?_|(refine Oq (aC W) ?_;refine Oq (aQ e2 W W W W) ?_)
     refine dL [0] W ?_;rw[show List.replicate 1 (none:Option Int)=[none]from rfl,oO (by omega)];exact⟨_,⟨H,MS.refl h,W⟩,cN W W⟩
    refine dO [2,28] W<|Oq (aQ (asP (by omega)) W W W W)<|dR [32] W ?_
    first|refine Oq (aH W W) ?_|(refine Oq (aC W) ?_;refine Oq (aQ (asP (by omega)) W W W W) ?_)
    refine dL [1] W ?_;have S:=h.mem;have d7:=lG (n:=bT c.d) (f:=x.m) (k:=a) 0 (by omega);have B:=h.Ck (cd x.m a 0);have T:=B.mm.cw;have d8:=s8 (n:=bT c.d) (f:=x.p) (k:=a) false (by omega);have I:=B.mm.Dt (cd x.p a false);have U:=I.mm.an;have d9:=s9 (n:=bT c.d) (f:=x.s) (ad:=c.ad) (k:=a) (by omega);have f4:=I.mm.Du (cd x.s a none);rw[show List.replicate 1 (none:Option Int)=[none]from rfl,AW J L];apply Ow bX
    .intro s0 Oo;refine fR 3 W<|aw W W h.inst W<|fR 2 W<|aw W W h.unit W<|fR 4 W<|aw W W h.inst W<|fR 2 W<|aw W W h.unit W<|fR 4 W<|aw W W h.inst W<|fR 2 W<|aw W W h.unit W<|fR 1 W<|cZ W W W S (by omega) (by omega)<|fL W W S W W d7<|cZ W W W T (by omega) (by omega)<|fL W W T W W d8<|cZ W W W U (by omega) (by omega)<|fL W W U W W d9<|TF.nil ⟨by kernel_rfl,rfl⟩
    exact⟨_,⟨_,(B.trans I).trans f4,W⟩,cN W W⟩
   rintro p ⟨K,l,rfl⟩;refine dO [2,62] W<|Oq (ay W W W (by omega))<|dL [] W<|⟨_,⟨K,l,rfl⟩,cN W W⟩
  .have B:=asY.2 Y;refine dO [2,20] W<|Oq (aQ B W W W W)<|dR [24] W ?_
   first|refine Oq (aH W W) ?_|(refine Oq (aC W) ?_;refine Oq (aQ (asY.2 h2) W W W W) ?_)
   refine dL [0] W ?_;rw[show List.replicate 0 (none:Option Int)=[]from rfl,Kp.vE];exact⟨_,⟨H,MS.refl h,W⟩,cN W W⟩
 rintro p ⟨K,l,rfl⟩;have V:∀r∈m.map Xp.cells,r.length=8:=by
  intro r C;obtain⟨e,_,rfl⟩:=asK.1 C;exact e.len
 refine dO [2,65] W<|Oq (iM (n:=8) (cs:=aY [bQ b.kd b.op b.num b.nm b.names (b.kids.map Xp.cells) b.ps]) W W W W W W)<|dR [68] W<|Oq (fW (acc:=false) (cs:=aY [bQ b.kd b.op b.num b.nm b.names (b.kids.map Xp.cells) b.ps]) W W W (by rw[ass (asj _),aur];rfl) (by rfl) (by exact V) (by rw[asD];omega) (by rw[asD];omega)) ?_;refine dR [69] W<|Oq (Ga W W)<|dL [] W ?_;have QA:(K++[Ob.row false 8 0 (aY [bQ b.kd b.op b.num b.nm b.names (b.kids.map Xp.cells) b.ps])]).set K.length (Ob.row false 8 1 (aY [bQ b.kd b.op b.num b.nm b.names (b.kids.map Xp.cells) b.ps]++aY (m.map Xp.cells)))=K++[Ob.row false 8 1 (aY (d.map Xp.cells))]:=by
  rw[G,att _ _ (asj _)];simp[aY]
 have X:1+(m.map Xp.cells).length=d.length:=by rw[<-R];simp;omega
 refine OB [nN 66 0,nN 65 d.length,nM 64 (.bC K.length 1 d.length),nN 2 (a+o+aR ((d.take 0).map xP)),nD 6 (.aZ (rv D y v (m.map Xp.cells) z (bQ b.kd b.op b.num b.nm b.names (b.kids.map Xp.cells) b.ps) (g.map a_.cells) w) 0),nN 4 j,nN 3 fr,nR 0 c.it] (K++[Ob.row false 8 1 (aY (d.map Xp.cells))]) (kc W (kc (by rw[<-X];rfl) (kc (by rw[<-X];rfl) W))) QA<|DC.Dv K.length (ec:=8) (aK:=1) (cs:=aY (d.map Xp.cells)) (by simp) ?_;have f8:(K++[Ob.row false 8 1 (aY (d.map Xp.cells))]).set K.length (Ob.row true 8 1 (aY (d.map Xp.cells)))=K++[Ob.row true 8 1 (aY (d.map Xp.cells))]:=by
  rw[att _ _ (asj _)];simp
 rw[f8];refine DC.cq 64 (x:=.sl (d.map Xp.cells)) W (HN (n:=8) (rs:=d.map Xp.cells) (by simp) (by simp) (by rw[<-R];simp) (by rw[G];intro r C;rcases asQ.1 C with rfl|C;rfl;exact V r C)) ?_;have l:=l.trans (MS.grow l.mm (K:=K++[Ob.row true 8 1 (aY (d.map Xp.cells))]) (by simp) (λj b=>by rw[asl b]));generalize K++[Ob.row true 8 1 (aY (d.map Xp.cells))]=K at l;refine dC [] W<|Ps (λp=>∃K s,MS c H (x.fF (List.replicate o none++jY c.P.aG d) a fr j) K/\p=⟨[nN 2 (a+o+aR (d.map xP)),nD 6 (.aZ (rv D y v (m.map Xp.cells) z (bQ b.kd b.op b.num b.nm b.names (b.kids.map Xp.cells) b.ps) (g.map a_.cells) w) 0),nN 4 j,nN 3 fr,nR 0 c.it],s,K⟩) ?_ ?_
 .refine dC [3] W ?_;obtain⟨I,d7⟩:∃I,I=rv D y v (m.map Xp.cells) z (bQ b.kd b.op b.num b.nm b.names (b.kids.map Xp.cells) b.ps) (g.map a_.cells) w:=⟨_,rfl⟩;rw[<-d7];refine DC.lp (λk b=>∃(i:Nat) (s:List (Nat×List M)) (K:Hp),b=⟨[nN 66 i,nN 65 d.length,nD 64 (.sl (d.map Xp.cells)),nN 2 (a+o+aR ((d.take i).map xP)),nD 6 (.aZ I 0),nN 4 j,nN 3 fr,nR 0 c.it],s,K⟩/\MS c H (x.fF (List.replicate o none++jY c.P.aG (d.take i)) a fr j) K/\i<=d.length/\k=d.length-i) d.length _
   ⟨0,_,K,rfl,by rw[show jY c.P.aG (d.take 0)=[]from rfl,asL];exact l,by omega,rfl⟩ W ?_
  rintro k s1 ⟨i,s,K,rfl,l,hi,rfl⟩;refine dC [2] W<|DC.cond W (λt=>?_) (λt=>?_)
  .have B:i<d.length:=by have:=asC t;omega
   have J:(d.map Xp.cells)[((i:Nat):Int).toNat]?=some d[i].cells:=by simp[B]
   obtain⟨Rr,d8⟩:=fY xP B;obtain⟨S,L⟩:=E _ (asE B);have T:=yX (en:=c.P.aG) B;generalize d[i]=q at J S L Rr T;obtain⟨r2,K2,R6,U⟩:=ul c Qb fr j TZ q S (a+o+aR ((d.take i).map xP)) (by omega) _ K l.mm;have Y:=l.trans R6;rw[show a+o+aR ((d.take i).map xP)=a+(List.replicate o (none:Option Int)++jY c.P.aG (d.take i)).length by rw[asq,atM,uR];omega,<-Kp.qE,asM,<-T]at Y;rw[q.aA]at J U L;have P5:((a+o+aR ((d.take i).map xP):Nat):Int)+((xP q:Nat):Int)=((a+o+aR ((d.take (i+1)).map xP):Nat):Int):=by omega
   refine dO [3,2,72] W<|Oq (aP W W W (asm i) J W)<|dR [2,79] W<|Oq (au U W W)<|dR [2,82] W<|Oq (aL L W W)<|dR [83] W<|Oq (ay W W W (by omega)) ?_;rw[P5];refine dR [2,84] W<|Oq (ay W W W (by omega))<|dL [] W<|bG (k':=d.length-(i+1)) (by omega) ⟨i+1,_,K2,rfl,Y,by omega,rfl⟩ W W
  .refine DC.exit ?_;have B:i=d.length:=by have:=asG t;omega
   subst B;rw[asU]at l⊢;exact⟨_,⟨K,s,l,W⟩,cN W W⟩
 rintro p ⟨K,s,l,rfl⟩;obtain⟨A,Z⟩:∃A,A=a+o+aR (d.map xP):=⟨_,rfl⟩;rw[<-Z];rw[<-ah]at u;have f9:a+(List.replicate o (none:Option Int)++jY c.P.aG d).length=A:=by rw[asq,atM,uR,Z];omega
 generalize List.replicate o (none:Option Int)++jY c.P.aG d=O at l f9⊢;have gc:(g.map a_.cells).length=g.length:=by simp
 refine dO [2,87] W<|Oq (bK W W W) ?_;rw[gc];refine dL [] W<|OB [nN 84 0,nN 83 g.length,nD 82 (.sl (g.map a_.cells)),nN 2 (A+aR ((g.take 0).map fP)),nN 4 j,nN 3 fr,nR 0 c.it] K W W<|dC [3] W<|DC.lp (λk b=>∃(i:Nat) (s:List (Nat×List M)) (K:Hp),b=⟨[nN 84 i,nN 83 g.length,nD 82 (.sl (g.map a_.cells)),nN 2 (A+aR ((g.take i).map fP)),nN 4 j,nN 3 fr,nR 0 c.it],s,K⟩/\MS c H (x.fF (O++mC c.P.aG (g.take i)) a fr j) K/\i<=g.length/\k=g.length-i) g.length _
  ⟨0,_,K,rfl,by rw[show mC c.P.aG (g.take 0)=[]from rfl,asL];exact l,by omega,rfl⟩ W ?_
 rintro k s1 ⟨i,s,K,rfl,l,hi,rfl⟩;refine dC [2] W<|DC.cond W (λt=>?_) (λt=>?_)
 .have B:i<g.length:=by have:=asC t;omega
  have I:(g.map a_.cells)[((i:Nat):Int).toNat]?=some g[i].cells:=by simp[B]
  obtain⟨L,d7⟩:=fY fP B;have J:=P _ (asE B);have Y:=Q _ (asE B);have S:=E5 (en:=c.P.aG) B;generalize g[i]=q at I J L Y S;rw[nC]at L;obtain⟨r2,K2,R6,T⟩:=Y (A+aR ((g.take i).map fP)) (by omega) _ K l.mm;have U:=l.trans R6;rw[show A+aR ((g.take i).map fP)=a+(O++mC c.P.aG (g.take i)).length by rw[asq,E6];omega,<-Kp.qE,asM,<-S]at U;rw[bF.aA]at J T;rw[a_.aA]at I;have P5:((A+aR ((g.take i).map fP):Nat):Int)+((bP q.cy:Nat):Int)=((A+aR ((g.take (i+1)).map fP):Nat):Int):=by omega
  refine dO [3,2,90] W<|Oq (aP W W W (asm i) I W)<|dR [2,98] W<|Oq (au T W W)<|dR [2,102] W<|Oq (aL J W W)<|dR [103] W<|Oq (ay W W W (by omega)) ?_;rw[P5];refine dR [2,104] W<|Oq (ay W W W (by omega))<|dL [] W<|bG (k':=g.length-(i+1)) (by omega) ⟨i+1,_,K2,rfl,U,by omega,rfl⟩ W W
 .refine DC.exit ?_;have B:i=g.length:=by have:=asG t;omega
  subst B;rw[asU]at l;exact⟨_,W,l⟩
end Go.Proofs.Sz
namespace Go.Sm
open Go.Mt
variable{en:List En}{i:Nat}
def AX{l:List Va}(h:i<l.length):gx en (l.take (i+1))=gx en (l.take i)++(if l[i].last then [some (pc en l[i].first)]else []):=by
 rw[asA h,Dl]
 congr 1
 cases a:l[i].last<;>simp[gx,a]
def E7{a:List aB}(h:i<a.length):jd en (a.take (i+1))=jd en (a.take i)++uM en a[i]:=by
 rw[lT,lT,asA h,asN,atL];simp
def E8(en:List En)(a:List aB):(jd en a).length=aR (a.map qP):=by rw[qD,xI]
end Go.Sm
namespace Go.Proofs.Sz
open Go.Mt Go.Sm Go.Proofs
open Tryz
def s_{l:List Va}{i:Nat}(h:i<l.length):aS (l.take (i+1))=aS (l.take i)+(if l[i].last then 1 else 0)/\aS (l.take (i+1))<=aS l:=by
 refine⟨?_,lS l (i+1)⟩;rw[asA h,pQ]
theorem yY(c:Mc)(y:qH c.P.aG)(fr g:Nat)(z:g<=bT c.d)(b:bF)(J:uc b):∀(a:Nat),a+bP b<=1000000000->∀x H,MM c x H->DT prog 58 [.ref c.it 0,.d (.agg b.cells),dN a,dN fr,dN g] H λr K=>MS c H (x.fF (kZ c.P.aG b) a fr g) K:=by
 induction J with
 | @mk e d h1 h2 L B l h6 h7 N=>
  intro a t x H s;have C:=qb (.mk e d);simp only[bF.vars,bF.aq]at C;rw[C]at t;have P:∀q∈d,∀a∈q.aj,bP a.cy<=qP q:= λq d a d=>by
   have k:=jM (as1 (f:=fP) d);have m:=jk q;rw[nC]at k;omega
  have D:∀q∈d,∀a∈q.aj,PT prog 40 [.agg a.cy.cells] (·=[iN (bP a.cy)]):= λq d a e=>by
   have k:=jM (as1 (f:=qP) d);have:=P q d a e;exact lF _ (L q d a e) (by omega)
  have Q:∀q∈d,PT prog 55 [.agg q.cells] (·=[iN (qP q)]):= λq d=>by
   have k:=jM (as1 (f:=qP) d);exact Ch q (l q d).1 (l q d).2.1 (l q d).2.2 (by omega) (B q d) (D q d)
  have R:∀q∈d,∀(a:Nat),a+qP q<=1000000000->∀x H,MM c x H->DT prog 87 [.ref c.it 0,.d (.agg q.cells),dN a,dN fr,dN g] H λr K=>MS c H (x.fF (uM c.P.aG q) a fr g) K:= λq d a t x H s=>
   Dw c y fr g z q (B q d) (l q d).2.1 (l q d).1 (l q d).2.2 (D q d) (N q d) a t x H s
  rw[bF.aA,Cg];simp only[bF.vars,bF.aq];refine DT.ob func58 W ntmps58 W<|dO [2,2,20] W<|Oq (bK W W W) ?_;rw[bA];refine dL [] W<|OB [nN 17 0,nN 16 e.length,nD 15 (.sl (aE e)),nN 2 (a+aS (e.take 0)),nD 6 (.aZ [.sl (aE e),.sl (d.map aB.cells)] 0),nN 4 g,nN 3 fr,nR 0 c.it] H W W<|dC [] W<|Ps (λE=>∃K j,MS c H (x.fF (gx c.P.aG e) a fr g) K/\E=⟨[nN 2 (a+aS e),nD 6 (.aZ [.sl (aE e),.sl (d.map aB.cells)] 0),nN 4 g,nN 3 fr,nR 0 c.it],j,K⟩) ?_ ?_
  .refine dC [3] W<|DC.lp (λo s=>∃(i:Nat) (j:List (Nat×List M)) (K:Hp),s=⟨[nN 17 i,nN 16 e.length,nD 15 (.sl (aE e)),nN 2 (a+aS (e.take i)),nD 6 (.aZ [.sl (aE e),.sl (d.map aB.cells)] 0),nN 4 g,nN 3 fr,nR 0 c.it],j,K⟩/\MS c H (x.fF (gx c.P.aG (e.take i)) a fr g) K/\i<=e.length/\o=e.length-i) e.length _
    ⟨0,_,H,rfl,by rw[show gx c.P.aG (e.take 0)=[]from rfl,Kp.vE];exact MS.refl s,by omega,rfl⟩ W ?_
   rintro o S ⟨i,j,K,rfl,h,T,rfl⟩;refine dC [2] W<|DC.cond W (λu=>?_) (λu=>?_)
   .have v:i<e.length:=by grind
    have m:=eb v;obtain⟨n,ac⟩:=s_ v;have k:=AX (en:=c.P.aG) v;generalize e[i]=w at m n k;rw[w.aA]at m;refine dC [3] W ?_;cases p:w.last with
    |true=>
     rw[p]at m n;simp at n;rw[p]at k;simp at k;obtain⟨r2,U,V,F⟩:=qI c y _ K h.mm (a+aS (e.take i)) fr g (by omega) z w.first;have G:=h.trans V;rw[show a+aS (e.take i)=a+(gx c.P.aG (e.take i)).length by rw[nE],<-Kp.qE,<-k]at G;rw[w.first.aA]at F;have X:((a+aS (e.take i):Nat):Int)+1=((a+aS (e.take (i+1)):Nat):Int):=by omega
     refine dO [2,23] W<|Oq (aP W W W (asm i) m W)<|dR [2,1,2,33] W<|Oq (au F W W)<|dR [2,35] W<|Oq (ay W W W (by omega)) ?_;rw[X];refine dR [2,36] W<|Oq (ay W W W (by omega))<|dL [] W<|bG (k':=e.length-(i+1)) (by omega) ⟨i+1,_,U,rfl,G,by omega,rfl⟩ W W
    |false=>
     rw[p]at m n;simp at n;rw[p]at k;simp at k;rw[<-k]at h;refine dO [2,23] W<|Oq (aP W W W (asm i) m W)<|dR [2,0,2,36] W<|Oq (ay W W W (by omega))<|dL [] W<|bG (k':=e.length-(i+1)) (by omega) ⟨i+1,_,K,rfl,h,by omega,rfl⟩ W (kc W (kc W (kc W (kc (by rw[n];rfl) W))))
   .refine DC.exit ?_;have k:i=e.length:=by grind
    subst k;rw[asU]at h⊢;exact⟨_,⟨K,j,h,W⟩,cN W W⟩
  rintro E ⟨K,j,h,rfl⟩;obtain⟨A,I⟩:∃A,A=a+aS e:=⟨_,rfl⟩;rw[<-I];have Y:a+(gx c.P.aG e).length=A:=by rw[nE,I]
  generalize gx c.P.aG e=O at h Y⊢;have Z:(d.map aB.cells).length=d.length:=by simp
  refine dO [2,39] W<|Oq (bK W W W) ?_;rw[Z];refine dL [] W<|OB [nN 36 0,nN 35 d.length,nD 34 (.sl (d.map aB.cells)),nN 2 (A+aR ((d.take 0).map qP)),nN 4 g,nN 3 fr,nR 0 c.it] K W W<|dC [3] W<|DC.lp (λo s=>∃(i:Nat) (j:List (Nat×List M)) (K:Hp),s=⟨[nN 36 i,nN 35 d.length,nD 34 (.sl (d.map aB.cells)),nN 2 (A+aR ((d.take i).map qP)),nN 4 g,nN 3 fr,nR 0 c.it],j,K⟩/\MS c H (x.fF (O++jd c.P.aG (d.take i)) a fr g) K/\i<=d.length/\o=d.length-i) d.length _
   ⟨0,_,K,rfl,by rw[show jd c.P.aG (d.take 0)=[]from rfl,asL];exact h,by omega,rfl⟩ W ?_
  rintro o S ⟨i,j,K,rfl,h,T,rfl⟩;refine dC [2] W<|DC.cond W (λu=>?_) (λu=>?_)
  .have k:i<d.length:=by grind
   have m:(d.map aB.cells)[((i:Nat):Int).toNat]?=some d[i].cells:=by simp[k]
   obtain⟨X,ac⟩:=fY qP k;have n:=Q _ (asE k);have F:=R _ (asE k);have p:=E7 (en:=c.P.aG) k;generalize d[i]=q at m n X F p;obtain⟨r2,G,U,v⟩:=F (A+aR ((d.take i).map qP)) (by omega) _ K h.mm;have w:=h.trans U;rw[show A+aR ((d.take i).map qP)=a+(O++jd c.P.aG (d.take i)).length by rw[asq,E8];omega,<-Kp.qE,asM,<-p]at w;rw[q.aA,q.ex.aA]at m v n;have V:((A+aR ((d.take i).map qP):Nat):Int)+((qP q:Nat):Int)=((A+aR ((d.take (i+1)).map qP):Nat):Int):=by omega
   refine dO [3,2,42] W<|Oq (aP W W W (asm i) m W)<|dR [2,49] W<|Oq (au v W W)<|dR [2,52] W<|Oq (aL n W W)<|dR [53] W<|Oq (ay W W W (by omega)) ?_;rw[V];refine dR [2,54] W<|Oq (ay W W W (by omega))<|dL [] W<|bG (k':=d.length-(i+1)) (by omega) ⟨i+1,_,G,rfl,w,by omega,rfl⟩ W W
  .refine DC.exit ?_;have k:i=d.length:=by grind
   subst k;rw[asU]at h;exact⟨_,W,h⟩
theorem AY(c:Mc)(o:qH c.P.aG)(fr a:Nat)(p:a<=bT c.d)(q:uc c.d.b)(C:c.d.outs.length<=1000000)(D:bP c.d.b<=900000000)(x:Kp)(H:Hp)(h:MM c x H):DT prog 42 [.ref c.it 0,dN fr,dN a] H λr K=>MS c H ((x.fF (gx c.P.aG c.d.outs) (bP c.d.b) fr a).fF (kZ c.P.aG c.d.b) 0 fr a) K:=by
 have s:=lF c.d.b q (by omega);rw[bF.aA]at s;have B:∀i,aS (c.d.outs.take i)<=1000000:= λi=>by
  have d:=lS c.d.outs i;have f:aS c.d.outs<=c.d.outs.length:=atN _ _;omega
 refine DT.ob func42 W ntmps42 W<|dO [2,16] W<|Oq (ax W W h.inst W)<|dR [20] W<|Oq (kF W W h.unit W W)<|dR [21] W<|Oq (aL s W W)<|dR [2,25] W<|Oq (ax W W h.inst W)<|dR [29] W<|Oq (ax W W h.unit W)<|dR [30] W<|Oq (bK W W W) ?_;rw[bA];refine dL [] W<|OB [nN 27 0,nN 26 c.d.outs.length,nD 25 (.sl (aE c.d.outs)),nN 6 (bP c.d.b+aS (c.d.outs.take 0)),nN 2 a,nN 1 fr,nR 0 c.it] H W W<|dC [] W<|Ps (λt=>∃K e,MS c H (x.fF (gx c.P.aG c.d.outs) (bP c.d.b) fr a) K/\t=⟨[nN 2 a,nN 1 fr,nR 0 c.it],e,K⟩) ?_ ?_
 .refine dC [3] W<|DC.lp (λn s=>∃(i:Nat) (e:List (Nat×List M)) (K:Hp),s=⟨[nN 27 i,nN 26 c.d.outs.length,nD 25 (.sl (aE c.d.outs)),nN 6 (bP c.d.b+aS (c.d.outs.take i)),nN 2 a,nN 1 fr,nR 0 c.it],e,K⟩/\MS c H (x.fF (gx c.P.aG (c.d.outs.take i)) (bP c.d.b) fr a) K/\i<=c.d.outs.length/\n=c.d.outs.length-i) c.d.outs.length _
   ⟨0,_,H,rfl,by rw[show gx c.P.aG (c.d.outs.take 0)=[]from rfl,Kp.vE];exact MS.refl h,by omega,rfl⟩ W ?_
  rintro n E ⟨i,e,K,rfl,b,F,rfl⟩;refine dC [2] W<|DC.cond W (λy=>?_) (λy=>?_)
  .have l:i<c.d.outs.length:=by grind
   have f:=eb l;obtain⟨g,I⟩:=s_ l;have G:=B i;have d:=AX (en:=c.P.aG) l;generalize c.d.outs[i]=w at f g d;rw[w.aA]at f;refine dC [3] W ?_;cases k:w.last with
   |true=>
    rw[k]at f g;simp at g;rw[k]at d;simp at d;obtain⟨z,u,m,j⟩:=qI c o _ K b.mm (bP c.d.b+aS (c.d.outs.take i)) fr a (by omega) p w.first;have v:=b.trans m;rw[show bP c.d.b+aS (c.d.outs.take i)=bP c.d.b+(gx c.P.aG (c.d.outs.take i)).length by rw[nE],<-Kp.qE,<-d]at v;rw[w.first.aA]at j;have A:((bP c.d.b+aS (c.d.outs.take i):Nat):Int)+1=((bP c.d.b+aS (c.d.outs.take (i+1)):Nat):Int):=by omega
    refine dO [2,33] W<|Oq (aP W W W (asm i) f W)<|dR [2,1,2,43] W<|Oq (au j W W)<|dR [2,45] W<|Oq (ay W W W (by omega)) ?_;rw[A];refine dR [2,46] W<|Oq (ay W W W (by omega))<|dL [] W<|bG (k':=c.d.outs.length-(i+1)) (by omega) ⟨i+1,_,u,rfl,v,by omega,rfl⟩ W W
   |false=>
    rw[k]at f g;simp at g;rw[k]at d;simp at d;rw[<-d]at b;refine dO [2,33] W<|Oq (aP W W W (asm i) f W)<|dR [2,0,2,46] W<|Oq (ay W W W (by omega))<|dL [] W<|bG (k':=c.d.outs.length-(i+1)) (by omega) ⟨i+1,_,K,rfl,b,by omega,rfl⟩ W (kc W (kc W (kc W (kc (by rw[g];rfl) W))))
  .refine DC.exit ?_;have d:i=c.d.outs.length:=by grind
   subst d;rw[asU]at b;exact⟨_,⟨K,e,b,W⟩,cN W W⟩
 rintro t ⟨K,e,b,rfl⟩;obtain⟨z,u,m,j⟩:=yY c o fr a p c.d.b q 0 (by omega) _ K b.mm;rw[bF.aA]at j;refine dO [2,51] W<|Oq (ax W W b.mm.inst W)<|dR [55] W<|Oq (kF W W b.mm.unit W W)<|dR [58] W<|Oq (au j W W)<|dL [] W<|⟨_,W,b.trans m⟩
end Go.Proofs.Sz
namespace Go.Sm
open Go.Mt
variable{k:Nat}{α:Type}
structure mw(P:Pg):Prop where
 e:qH P.aG
 n:P.nodes.length<=1000000
 d:∀d∈P.nodes,uc d.b/\d.outs.length<=1000/\bP d.b<=100000000
 i:∀d∈P.nodes,d.ins.length<=1000/\fZ d.b<=1000000
abbrev Cl(P:Pg)(d:Nd)(m p s:M)(sz:Nat):List M:=[.d (.sl (P.aG.map En.cells)),.d (.sl (P.nodes.map Nd.cells))]++I' d++[m,p,s,dN sz]
def Cm{a b:List (Option Int)} :bZ (a++b) k=if k<a.length then bZ a k else bZ b (k-a.length):=by
 unfold bZ;rw[pj];split<;>rfl
def Dx{l:List (Option Int)}(h:l.length<=k):bZ l k=0:=by unfold bZ;rw[asr h];rfl
def Jk(P:Pg)(i:Nat)(d:Nd)(a:P.nodes[i]?=some d):(Kp.fF ⟨λ_=>0,λ_=>false,λ_=>none⟩ (gx P.aG d.outs) (bP d.b) 0 (bT d)).fF (kZ P.aG d.b) 0 0 (bT d)=⟨(US.init P i).mem,(US.init P i).cw,(US.init P i).an⟩:=by
 unfold Kp.fF
 congr 1
 .funext k
  show lP _ _ _ _ _ k=(match P.nodes[i]? with|some d=>bZ (gH P.aG d) k|none=>0);rw[a];simp only;rw[gH,Cm,vD];unfold lP;rw[vD,nE];have c:bT d=bP d.b+aS d.outs:=rfl;by_cases b:k<bP d.b
  .grind
  .rw[asu (by omega),asu b];by_cases e:k<bT d
   .grind
   .rw[asu (by omega),Dx (by rw[nE];omega)]
 .funext k
  show pR _ _ _ _ (pR _ _ _ _ _) k=false;unfold pR;split
  .rfl
  .grind
 .funext k
  show pS _ _ _ _ (pS _ _ _ _ _) k=none;unfold pS;split
  .rfl
  .grind
def yZ(H:Hp)(n:Nat):M:=if n=0 then .d (.sl [])else .bC H.length 1 0
def y7(H:Hp)(ec n:Nat):Hp:=if n=0 then H else H++[.row true ec 1 []]
def rZ(L:List (List α))(i:Nat)(h:i<L.length):(L.take (i+1)).flatten=(L.take i).flatten++L[i]:=by
 rw[asA h,atL];simp
def qe(L:List (List α))(i:Nat):(L.take i).flatten.length<=L.flatten.length:=by
 have:L.flatten=(L.take i).flatten++(L.drop i).flatten:=by rw[<-atL,as9]
 rw[this,asq];omega
end Go.Sm
namespace Go.Proofs.Sz
open Go.Mt Go.Sm Go.Proofs
open Tryz
theorem HO(n:Nat)(H:Hp)(a:n<=1000000):CT prog 56 [.d (.sl []),.d (.int .i64 n)] H λr h=>r=yZ H n/\h=y7 H 15 n:=by
 refine CT.ob func56 W ntmps56 W λa b=>tC [2,2] W<|TC.cond W (λa=>by grind) (λa=>?_)
 refine tO [2,14] W<|Gc W W<|tR [17] W<|cI W W W (by simp)<|tR [18] W<|cI W W W (by simp;omega) ?_;rw[show((n:Int)-(0-((List.length ([]:List (List D)):Nat):Int)))=(n:Int) by simp];refine tL [2] W<|TC.cond W (λa=>?_) (λa=>?_)
 .have a:0<n:=by grind
  refine tO [2,23] W<|Gc W W<|tR [24] W<|Hi W W W<|tR [26] W<|EM (len:=n) W W W W (by rfl) a (by omega) (by omega)<|tR [29] W<|Hj true W W W (by exact atA) (by simp) (by simp) ?_;refine tL [2] W<|TC.ret ⟨_,W,?_,?_⟩
  .simp only[yZ,asu (show ¬n=0 by omega)];rfl
  .simp only[y7,asu (show ¬n=0 by omega)];simp
 .refine tC [] W ?_;have a:n=0:=by grind
  refine tC [2] W<|TC.ret ⟨_,W,?_,?_⟩
  .simp only[yZ,asB a];rfl
  .simp only[y7,asB a]
def Dy(L:List (List (List D)))(d:∀l∈L,∀r∈l,r.length=15)(q:L.length<=1000)(g:L.flatten.length<=1000000):
  PT prog 41 [.sl (L.map λl=>[D.sl l])] (·=[.sl L.flatten]):=by
 refine OL (CT.ob func41 W ntmps41 W λt u=>?_);refine tO [2,2,2,14] W<|bK W W W ?_;rw[asD];refine tL [3] W<|TC.lp (λk s=>∃(i:Nat),s=⟨[nI 11 i,nI 10 (L.length:Nat),nD 9 (.sl (L.map λl=>[D.sl l])),nI 3 ((L.take i).flatten.length:Nat),nD 0 (.sl (L.map λl=>[D.sl l]))],[],[]⟩/\i<=L.length/\k=L.length-i) L.length _
  ⟨0,rfl,by omega,rfl⟩ W ?_
 rintro k s ⟨i,rfl,e,rfl⟩;have v:=qe L i;refine tC [2] W<|TC.cond W (λa=>?_) (λa=>?_)
 .have f:i<L.length:=by have:=asC a;omega
  have c:=rZ L i f;have h:=qe L (i+1);rw[c,asq]at h;refine tO [3,2,17] W<|aP W W W (asm i) (r:=[.sl L[i]]) (by simp) W<|tR [2,22] W<|ay W W W (by omega)<|tL [2] W<|TC.cond W (λa=>by have:=asC a;omega) (λa=>?_);refine tO [2,26] W<|ay W W W (by omega)<|tL [] W<|again (k':=L.length-(i+1)) (by omega) ⟨i+1,rfl,by omega,rfl⟩ W (kc W (kc W (kc W (kc (by rw[c,asq,Int.natCast_add];rfl) W))))
 refine TC.exit ?_;obtain rfl:i=L.length:=by have:=asG a;omega
 rw[asU];refine tO [2,28] W<|yi (HO L.flatten.length [] g) W W ?_;rintro _ _ ⟨rfl,rfl⟩;refine tR [2,30] W<|bK W W W ?_;rw[asD];refine tL [3] W ?_;by_cases b:L.flatten.length=0
 .rw[yZ,y7,asB b,asB b];refine TC.lp (λk s=>∃(i:Nat),s=⟨[nI 27 i,nI 26 (L.length:Nat),nD 25 (.sl (L.map λl=>[D.sl l])),nD 6 (.sl [])],[],[]⟩/\i<=L.length/\k=L.length-i) L.length _
   ⟨0,rfl,by omega,rfl⟩ W ?_
  rintro k s ⟨i,rfl,e,rfl⟩;refine tC [2] W<|TC.cond W (λa=>?_) (λa=>?_)
  .have f:i<L.length:=by have:=asC a;omega
   have h:L[i]=[]:=by
    have c:=atb b;rw[List.flatten_eq_nil_iff]at c;exact c _ (asE f)
   refine tO [3,2,33] W<|aP W W W (asm i) (r:=[.sl []]) (by simp_all) W<|tR [2,37] W<|pL W W W<|tR [2,38] W<|ay W W W (by omega)<|tL [] W<|again (k':=L.length-(i+1)) (by omega) ⟨i+1,rfl,by omega,rfl⟩ W W
  refine TC.exit<|tC [2] W<|TC.ret ⟨_,W,[_],W,by rw[atb b]⟩
 .rw[yZ,y7,asu b,asu b];refine TC.lp (λk s=>∃(i:Nat),s=⟨[nI 27 i,nI 26 (L.length:Nat),nD 25 (.sl (L.map λl=>[D.sl l])),nM 6 (.bC 0 (i+1) (L.take i).flatten.length)],[],[.row true 15 (i+1) (aY (L.take i).flatten)]⟩/\i<=L.length/\k=L.length-i) L.length _
   ⟨0,rfl,by omega,rfl⟩ W ?_
  rintro k s ⟨i,rfl,e,rfl⟩;refine tC [2] W<|TC.cond W (λa=>?_) (λa=>?_)
  .have f:i<L.length:=by have:=asC a;omega
   have c:=rZ L i f;have j:=qe L (i+1);rw[c,asq]at j;refine tO [3,2,33] W<|aP W W W (asm i) (r:=[.sl L[i]]) (by simp) W<|tR [2,37] W<|fW W W W W (by rfl) (by exact d _ (asE f)) (by omega) (by omega)<|tR [2,38] W<|ay W W W (by omega)<|tL [] W<|again (k':=L.length-(i+1)) (by omega) ⟨i+1,rfl,by omega,rfl⟩ (by rw[c];simp[aY]) (kc W (kc W (kc W (kc (by rw[c,asq];rfl) W))))
  refine TC.exit ?_;obtain rfl:i=L.length:=by have:=asG a;omega
  rw[asU];refine tC [2] W<|TC.cq 2 W (Acc.view (n:=15) (i:=0) (rs:=L.flatten) (.inr ⟨by intro h;rw[h]at b;exact b W,_,W,W⟩) (by intro r o;obtain⟨l,m,p⟩:=List.mem_flatten.1 o;exact d l m r p))<|TC.ret ⟨_,W,[_],W,W⟩
def rB(a:Nat)(z:D):ey 1 a [z]=bD a λ_=>.d z:=by
 unfold ey bD;rw[Nat.mul_one];simp[Nat.mod_one]
def AZ(P:Pg)(l:mw P)(x:Nm)(i:Nat)(E:fG P.nodes x=some i)(d:Nd)(k:P.nodes[i]?=some d)(H:Hp):
  DT prog 26 [.d (.agg P.cells),.d (.str x)] H λr K=>∃iu F,r=.ref iu 0/\iQ P 1 (US.init P i) iu F K/\(∀a,F a->H.length<=a)/\H.length<=K.length/\∀j:Nat,j<H.length->K[j]?=H[j]?:=by
 have q:=vG P x l.n;rw[E]at q;have e:(P.nodes.map Nd.cells)[((i:Nat):Int).toNat]?=some d.cells:=by simp[k]
 obtain⟨s,R,S⟩:=l.d d (asn k);have t:=lF d.b s (by omega);unfold Nd.cells at e;rw[bF.aA]at t;have D:∀i,aS (d.outs.take i)<=1000:= λi=>by
  have f:=lS d.outs i;have p:aS d.outs<=d.outs.length:=atN _ _;omega
 refine DT.ob func26 W ntmps26 W<|dC [2] W ?_;apply Ow bX
 .intro f p;refine fR 5 W<|aW q W W<|bJ W W W (asm i) e W<|fR 2 W<|BS W W W<|fR 1 W<|TF.nil ⟨by kernel_rfl,rfl⟩
 refine dO [2,28] W<|Oq (kF W W atA W W) ?_;refine dR [29] W<|Oq (aL t W W)<|dR [999] W<|Oq (cc W W atA W W W) ?_;refine dL [] W<|OB [nR 5 H.length] (H++[Ob.box (Cl P d (.d (.sl [])) (.d (.sl [])) (.d (.sl [])) (bP d.b))]) W (by rw[att _ _ (asj _),aur];rfl) ?_;have u:=Dy [aE d.outs] (by intro Q o;simp at o;subst o;exact cu _) (by simp) (by simp[bA];omega);have G:([aE d.outs].flatten)=aE d.outs:=by simp
 rw[G]at u;refine dO [2,36] W<|Oq (ax W W atA W) ?_;refine dR [38] W<|Oq (aL u W W)<|dR [39] W<|Oq (bK W W W) ?_;rw[bA];refine dL [] W<|OB [nN 36 0,nN 35 d.outs.length,nD 34 (.sl (aE d.outs)),nR 5 H.length] (H++[Ob.box (Cl P d (.d (.sl [])) (.d (.sl [])) (.d (.sl [])) (bP d.b+aS (d.outs.take 0)))]) W W<|dC [] W<|Ps (λv=>∃g,v=⟨[nR 5 H.length],g,H++[Ob.box (Cl P d (.d (.sl [])) (.d (.sl [])) (.d (.sl [])) (bP d.b+aS d.outs))]⟩) ?_ ?_
 .refine dC [3] W<|DC.lp (λp s=>∃(i:Nat) (g:List (Nat×List M)),s=⟨[nN 36 i,nN 35 d.outs.length,nD 34 (.sl (aE d.outs)),nR 5 H.length],g,H++[Ob.box (Cl P d (.d (.sl [])) (.d (.sl [])) (.d (.sl [])) (bP d.b+aS (d.outs.take i)))]⟩/\i<=d.outs.length/\p=d.outs.length-i) d.outs.length _
   ⟨0,_,rfl,by omega,rfl⟩ W ?_
  rintro p U ⟨i,g,rfl,V,rfl⟩;refine dC [2] W<|DC.cond W (λb=>?_) (λb=>?_)
  .have y:i<d.outs.length:=by have:=asC b;omega
   have e:=eb y;obtain⟨f,ac⟩:=s_ y;have X:=D i;generalize d.outs[i]=w at e f;rw[w.aA]at e;refine dC [3] W ?_;cases z:w.last with
   |true=>
    rw[z]at e f;simp at f;have I:((bP d.b+aS (d.outs.take i):Nat):Int)+1=((bP d.b+aS (d.outs.take (i+1)):Nat):Int):=by omega
    refine dO [2,42] W<|Oq (aP W W W (asm i) e W)<|dR [2,1,2,49] W<|Oq (ax W W atA W) ?_;refine dR [50] W<|Oq (ay W W W (by omega)) ?_;rw[I];refine dR [999] W<|Oq (cc W W atA W W W) ?_;refine dR [2,53] W<|Oq (ay W W W (by omega))<|dL [] W<|bG (k':=d.outs.length-(i+1)) (by omega) ⟨i+1,_,rfl,by omega,rfl⟩ (by rw[att _ _ (asj _),aur];rfl) W
   |false=>
    rw[z]at e f;simp at f;refine dO [2,42] W<|Oq (aP W W W (asm i) e W)<|dR [2,0,2,53] W<|Oq (ay W W W (by omega))<|dL [] W<|bG (k':=d.outs.length-(i+1)) (by omega) ⟨i+1,_,rfl,by omega,rfl⟩ (by rw[f]) W
  .refine DC.exit ?_;have f:i=d.outs.length:=by have:=asG b;omega
   subst f;rw[asU];exact⟨_,⟨g,W⟩,cN W W⟩
 rintro v ⟨g,rfl⟩;have n:bP d.b+aS d.outs<=1000000000:=by have:=D d.outs.length;rw[asU]at this;omega
 have O:bP d.b+aS d.outs=bT d:=rfl;rw[O]at n⊢;generalize J:bT d=Y at n;refine dC [] W ?_;apply DC.ME H.length 4 3 W (by simp)
 .intro f p;rw[asM];refine qA W W W<|qA W W W<|qA W W W<|qA W W W<|kH W W W W<|mL W W W<|uI (i:=0) W W W W W<|p_ 1 W (by decide) W W W W W (by omega) (by omega) W<|qA W W W<|kH W W W W<|mL W W W<|uI (i:=0) W W W W W<|p_ 2 W (by decide) W W W W W (by omega) (by omega) W<|qA W W W<|kH W W W W<|mL W W W<|uI (i:=0) W W W W W<|p_ 3 W (by decide) W W W W W (by omega) (by omega) W<|kH W W W W<|mL W W W<|uJ 0 W (by decide) W W W W W W<|kH W W W W<|mL W W W<|uJ 0 W (by decide) W W W W W W<|kH W W W W<|mL W W W<|uJ 0 W (by decide) W W W W W W<|TG.nil ⟨by kernel_rfl,rfl⟩
 subst J;obtain⟨c,b⟩:∃c:Mc,c=⟨H.length+4,H.length,H.length+1,H.length+2,H.length+3,P,d,λ_=>0,.d .bU,.d (.bool false),.d (.sl []),.d (.sl [])⟩:=⟨_,rfl⟩
 let h:Kp:=⟨λ_=>0,λ_=>false,λ_=>none⟩
 let T:List Ob:=[Ob.box (pg P d (H.length+1) (H.length+2) (H.length+3)),Ob.row false 1 0 (bD (bT d) (iP h.m)),Ob.row false 1 0 (bD (bT d) (jT h.p)),Ob.row false 1 0 (bD (bT d) (fb h.s λ_=>0))]
 refine OB [nR 5 H.length] (H++T) W (by show _=H++[_,Ob.row false 1 0 (bD (bT d) λ_=>.d (.int .i32 0)),Ob.row false 1 0 (bD (bT d) λ_=>.d (.bool false)),Ob.row false 1 0 (bD (bT d) λ_=>.d .bU)];rw[<-rB,<-rB,<-rB];rfl)<|dO [2,79] W<|Oq (kD W W W W W)<|dR [80] W<|Oq (cF W W W)<|dL [] W ?_;have A:MM c h (H++(T++[Ob.box (E4 c)])):=by
  subst b;exact⟨nB (i:=4) W,nB (i:=0) W,nB (i:=1) W,nB (i:=2) W,nB (i:=3) W,by simp,by simp,by simp,by simp,by simp,n⟩
 obtain⟨Z,B,m,L⟩:=AY c (by subst b;exact l.e) 0 (bT d) (by subst b;exact asj _) (by subst b;exact s) (by subst b;show d.outs.length<=_;omega) (by subst b;show bP d.b<=_;omega) h _ A;refine OB [nR 8 c.it,nR 5 c.iu] (H++(T++[Ob.box (E4 c)])) (kc (by subst b;simp;rfl) (kc (by subst b;rfl) W)) (by subst b;simp)<|dO [2,85] W<|Oq (ax W W A.unit (by subst b;rfl))<|dR [86] W<|Oq (au L W W)<|dL [2] W ?_;have C:H.length+5<=B.length:=by have:=m.len;simp at this;omega
 refine DC.ret ⟨_,W,c.iu,λa=>a=H.length\/a=H.length+1\/a=H.length+2\/a=H.length+3,rfl,?_,by intro a N;omega,ata (at0 _ 5) C,?_⟩
 .have p:=Jk P i d k;have f:=m.mm;rw[show c.P=P by rw[b],show c.d=d by rw[b]]at f;change MM c ((h.fF (gx P.aG d.outs) (bP d.b) 0 (bT d)).fF (kZ P.aG d.b) 0 0 (bT d)) B at f;rw[p]at f;subst b;refine⟨d,λa=>if a=H.length then some .un else if a=H.length+1 then some .me else if a=H.length+2 then some .pe else if a=H.length+3 then some .su else none,H.length+1,H.length+2,H.length+3,λ_=>0,k,?_,?_,⟨by simp,by simp,by simp,by simp⟩,f.unit,f.mem,f.cw,f.an,?_⟩
  .intro a;simp;split
   .simp;omega
   .split
    .simp;omega
    .split
     .simp;omega
     .split
      .simp;omega
      .simp;omega
  .intro a N;exact atm (by omega) C
  .intro y z I w;cases w
 .intro j f;rw[m.iD j (by simp;omega) (by rw[b];show j≠H.length+1;omega) (by rw[b];show j≠H.length+2;omega) (by rw[b];show j≠H.length+3;omega),asl f]
variable{c:aI}{m:M}{E:Path×Nat->Prop}{H K:Hp}{α:Type}
inductive Ro where
 |it|un|me|pe|su|nx|af
 |fr (π:Path)|am (π:Path)|tk (π:Path)|cr (π:Path)|er (π:Path)
 |ce (π:Path) (k:Nat)|pl (π:Path) (j:Nat)
 |sb (k:Nat)
 deriving DecidableEq
inductive NI where
 |cell (b:Bool) (a:Path×Nat)
 |aN (a:Path) (j:Nat)
 |arrow (a:Nat)
 |put (a:Nat) (v:Int)
structure AI where
 π:Path
 e:Xp
 a:Nat
 own:Nat
 v:Int
 w:List (Nat×Int)
structure av where
 A:Ro->Nat
 own:Nat->Option Ro
 cs:Path->Nat->Nat
 fs:Path->Nat
 dn:Path->Nat->Bool
 lv:Path->Nat->Bool
 N:List (NI×M)
 F:List (AI×M)
 fi:Nat
 vN:Nat
 vF:Nat
 vc:Path->Nat
 ve:Path->Nat
 x:Kp
 ad:Nat->Nat
 ph:Nat->Int->Prop
variable{X Y:av}
section
variable(P:Pg)(n:Nat)(c:aI)(d:Nd)(u:US)
def av.live(X:av):Ro->Prop
 |.it=>True|.un=>True|.me=>True|.pe=>True|.su=>True
 |.nx=>X.N≠[]|.af=>X.F≠[]
 |.fr a=>1<=X.fs a|.am a=>1<=X.fs a|.tk a=>1<=X.fs a
 |.cr a=>X.fs a=2/\(c.fr a).vars≠[]|.er a=>X.fs a=2/\(c.fr a).aq≠[]
 |.ce a k=>X.fs a=2/\k<(c.fr a).vars.length|.pl a j=>X.fs a=2/\j<(c.fr a).aq.length
 |.sb _=>False
def bI(i v len:Nat):M:=if len=0 then .d (.sl [])else .bC i v len
abbrev Oa(v:Va):List M:=[.d (.str v.name),.d (.int .u8 v.tk),.d (.str v.tn),.d (.sl (sU v.clock)),.d (.bool v.last),.d (.int .u8 v.first.kd),.d (.int .u8 v.first.op),.d (.int .i32 v.first.num),.d (.str v.first.nm),.d (.sl (dM v.first.names)),.d (.sl (v.first.kids.map Xp.cells)),.d (.int .i64 v.first.ps.1),.d (.int .i64 v.first.ps.2),.d (.int .i64 v.ps.1),.d (.int .i64 v.ps.2)]
def Oc(o:Option Nat):Int:=match o with
 |some p=>(p:Int)
 |none=> -1
abbrev c_(v:Va)(lp:Option Nat)(eq:M)(b:Nat)(st n:Int):List M:=Oa v++[.d (.int .i64 (Oc lp)),eq,.ref b 0,.d (.int .u8 st),.d (.int .i32 n)]
abbrev Od(e:Xp):List M:=[.d (.int .u8 e.kd),.d (.int .u8 e.op),.d (.int .i32 e.num),.d (.str e.nm),.d (.sl (dM e.names)),.d (.sl (e.kids.map Xp.cells)),.d (.int .i64 e.ps.1),.d (.int .i64 e.ps.2)]
abbrev dB(q:aB)(p:Nat):List M:=[.d (.int .u8 q.kd),.d (.sl (dM q.lhs)),.d (.str q.f),.d (.sl (q.args.map Xp.cells)),.d (.bool q.has)]++Od q.ex++[.d (.sl (q.aj.map a_.cells)),.d (.int .i64 q.ps.1),.d (.int .i64 q.ps.2),.d (.int .i64 (p:Int))]
def av.up(X:av):Path->M
 |[]=>.d .bU
 |_::a=>.ref (X.A (.fr a)) 0
def nF(s:Nat):Int:=if s=4 then 2 else if s=5 then 0 else if s=6 then 1 else(s:Int)
def zB(s:Nat):Bool:=s==2||decide (4<=s)
def av.nW(X:av)(π:Path)(j:Nat):Option M:=if X.fs (j::π)≠0 then some (.ref (X.A (.fr (j::π))) 0)else if X.dn π j=true/\X.cs (j::π) 0=3 then some (.ref (X.A (.fr π)) 0)else none
def av.dY(X:av):Ro->Ob->Prop
 |.it,a=>a=.box [.ref (X.A .un) 0,.ref (X.A (.fr [])) 0,.d (.bool false),bI (X.A .af) X.vF X.F.length,bI (X.A .nx) X.vN X.N.length]
 |.un,a=>a=.box (pg P d (X.A .me) (X.A .pe) (X.A .su))
 |.me,a=>a=.row false 1 0 (bD (bT d) (iP X.x.m))
 |.pe,a=>a=.row false 1 0 (bD (bT d) (jT X.x.p))
 |.su,a=>a=.row false 1 0 (bD (bT d) (fb X.x.s X.ad))
 |.nx,a=>a=.row true 1 X.vN (X.N.map (·.2))
 |.af,a=>a=.row true 1 X.vF (X.F.map (·.2))
 |.fr a,b=>b=.box [X.up a,if X.fs a=2 then bI (X.A (.cr a)) (X.vc a) (c.fr a).vars.length else .d (.sl []),if X.fs a=2 then bI (X.A (.er a)) (X.ve a) (c.fr a).aq.length else .d (.sl []),.mp (X.A (.am a)),.mp (X.A (.tk a))]
 |.am a,e=>∃b,e=.map b/\gQ b=true/\(X.fs a=2->∀j,j<(c.fr a).aq.length->gT (X.A (.pl a j)) 0 b=X.nW a j)/\(X.fs a=1->b=[])
 |.tk a,e=>∃b,e=.map b/\gQ b=true/\(X.fs a=2->∀j,X.fs (j::a)=2->gT (X.A (.pl a j)) 0 b=some (dN (c.br a j)))
 |.cr a,b=>b=.row true 1 (X.vc a) ((List.range (c.fr a).vars.length).map λk=>.ref (X.A (.ce a k)) 0)
 |.er a,b=>b=.row true 1 (X.ve a) ((List.range (c.fr a).aq.length).map λk=>.ref (X.A (.pl a k)) 0)
 |.ce a k,e=>∃v b eq z,(c.fr a).vars[k]?=some v/\(c.fr a).cK[k]?=some b/\e=.box (c_ v b eq (X.A (.fr a)) (nF (X.cs a k)) z)/\z=(if zB (X.cs a k)then c.get (a,k)else 0)/\∀j,ic (c.fr a) k v j->eq=.ref (X.A (.pl a j)) 0
 |.pl a j,b=>∃q p,(c.fr a).aq[j]?=some q/\(c.fr a).pos[j]?=some p/\b=.box (dB q p)
 |.sb _,_=>True
def av.box(X:av)(H:Hp)(b:Nat)(m:M):Prop:=X.own b=none/\H[b]?=some (.box [m])
def av.sZ(X:av)(H:Hp)(m:M)(π:Path)(e:Xp)(a:Nat):Prop:=X.live c (.fr π)/\∃b d,m=.fn 120 [.d (.aZ [.int .i64 (a:Int)] 0),.d (.aZ e.cells 0),.ref b 0,.ref d 0]/\X.box H b (.ref (X.A .it) 0)/\X.box H d (.ref (X.A (.fr π)) 0)
def av.r_(X:av)(H:Hp)(m:M):NI->Prop
 |.cell e a=>X.live c (.ce a.1 a.2)/\∃b d,m=.fn (if e then 127 else 67) [.ref b 0,.ref d 0]/\X.box H b (.ref (X.A (.ce a.1 a.2)) 0)/\X.box H d (.ref (X.A .it) 0)
 |.aN a j=>X.live c (.pl a j)/\∃b d,m=.fn 95 [.d (.aZ [iN (c.k7 a j)] 0),.d (.aZ [.bool (c.nan a j)] 0),.ref b 0,.ref d 0]/\X.box H b (.ref (X.A .it) 0)/\X.box H d (.ref (X.A (.pl a j)) 0)
 |.arrow b=>∃a,m=.fn 125 [.ref a 0,.d (.aZ [.int .i64 (b:Int)] 0)]/\X.box H a (.ref (X.A .it) 0)
 |.put b v=>∃a,m=.fn 143 [.d (.aZ [.int .i32 v] 0),.ref a 0,.d (.aZ [.int .i64 (b:Int)] 0)]/\X.box H a (.ref (X.A .it) 0)
def av.y8(X:av)(H:Hp)(m:M)(ai:AI):Prop:=∃a b d f e i g,m=.fn 142 [.ref a 0,.ref b 0,.d (.aZ [.int .i64 (ai.own:Int)] 0)]/\X.box H a (.fn 124 [.ref d 0,.d (.aZ [iN i] 0)])/\X.box H d f/\X.box H b (.ref (X.A .it) 0)
 /\X.sZ c H f ai.π e g/\jD e/\e.kids[i]?=some ai.e/\e.kids.length=i+1/\ai.a=g+aR ((e.kids.take i).map xP)
structure cD(X:av)(H:Hp):Prop where
 own:∀r,X.live c r->X.own (X.A r)=some r
 lt:∀a r,X.own a=some r->a<H.length
 ob:∀r,X.live c r->∃ob,H[X.A r]?=some ob/\X.dY P c d r ob
 sub:∀k,k<bT d->∀u',X.x.s k=some u'->iQ P n u' (X.ad k) (λa=>X.own a=some (.sb k)) H
 nx:∀p∈X.N,X.r_ c H p.2 p.1
 af:∀p∈X.F,X.y8 c H p.2 p.1
end
def xw(c:aI)(π:Path)(k:Nat):Prop:=∀j a q p b,c.ok (j::a)->(c.fr a).aq[j]?=some q->(c.fr a).pos[j]?=some p->(q.kd=3\/q.kd=4\/q.kd=5)->q.aj[c.br a j]?=some b->cG q p (c.br a j)<=k->k<cG q p (c.br a j)+bP b.cy->∃b,π=b++(j::a)
section
variable(P:Pg)(n:Nat)(c:aI)(d:Nd)(u:US)
def NI.wr:NI->Nat->Int->Prop
 |.cell _ a,k,v=>(c.fr a.1).cK[a.2]?=some (some k)/\c.val a.1 a.2=some v
 |.aN a j,k,v=>(c.fr a).pos[j]?=some k/\v=(c.k7 a j:Int)
 |.arrow a,k,v=>k=a/\v=0
 |.put a z,k,v=>k=a/\v=z
def av.S(X:av)(k:Nat)(v:Int):Prop:=(∃p∈X.N,NI.wr c p.1 k v)\/∃i p,X.fi<=i/\X.F[i]?=some p/\((k,v)=(p.1.own,p.1.v)\/(k,v)∈p.1.w)
def av.SS(X:av)(k:Nat)(v:Int):Prop:=X.S c k v\/X.ph k v
def av.ER(X:av)(k:Nat):Prop:=∃a j q p b,X.fs (j::a)=2/\(c.fr a).aq[j]?=some q/\(c.fr a).pos[j]?=some p/\(q.kd=3\/q.kd=4\/q.kd=5)/\c.iE a j=true/\q.aj[c.br a j]?=some b/\cG q p (c.br a j)<=k/\k<cG q p (c.br a j)+bP b.cy
def av.DC(X:av)(k:Nat)(π:Path)(j:Nat):Prop:=X.fs π=2/\X.dn π j=true/\∃q,(c.fr π).aq[j]?=some q/\q.kd=2/\(c.fr π).pos[j]?=some k
def NI.ok(X:av):NI->Prop
 |.cell _ a=>X.fs a.1=2/\a.2<(c.fr a.1).vars.length/\zB (X.cs a.1 a.2)=true/\(∃k,k<bT d/\(c.fr a.1).cK[a.2]?=some (some k))/\(a.1=[]->d.ins.length<=a.2)
 |.aN a j=>X.fs (j::a)=2/\∃q p,(c.fr a).aq[j]?=some q/\q.kd=4/\(c.fr a).pos[j]?=some p/\p<bT d
 |.arrow a=>a<bT d/\mQ c a 0
 |.put a v=>a<bT d/\mQ c a v
structure AI.ok(X:av)(ai:AI):Prop where
 ev:gI P.aG c ai.π c.dX ai.e ai.a ai.v ai.w
 fs:X.fs ai.π=2
 lt:ai.own<bT d
 wr:mQ c ai.own ai.v/\∀p∈ai.w,mQ c p.1 p.2
 sm:jD ai.e
 own:∀k,ai.a<=k->k<ai.a+xP ai.e->xw c ai.π k
 sz:ai.a+xP ai.e<=1000000000
structure Pu(X:av):Prop where
 f0:X.fs []=2
 fp:∀j π,X.fs (j::π)≠0->X.fs π=2/\c.ok (j::π)
 f2:∀π,X.fs π<=2
 c6:∀π k,X.cs π k<=6
 ci:∀k,k<d.ins.length->X.cs [] k=2
 cv:∀π k,zB (X.cs π k)=true->(c.val π k).isSome=true
 ca:∀π k,X.cs π k=3->c.val π k=none
 xm:∀k,k<bT d->(X.ER c k->X.x.m k=bZ (gH P.aG d) k)/\(¬X.ER c k->X.x.m k=u.mem k)
 xp:∀k,k<bT d->(X.ER c k->(gH P.aG d)[k]?=some none->X.x.p k=false)/\(¬(X.ER c k/\(gH P.aG d)[k]?=some none)->X.x.p k=u.cw k)
 xd:∀k,k<bT d->∀π j,X.DC c k π j->X.x.s k=some (c.iF π j)
 xs:∀k,k<bT d->(∀π j,¬X.DC c k π j)->(X.ER c k->(gH P.aG d)[k]?=some none->X.x.s k=none)/\(¬(X.ER c k/\(gH P.aG d)[k]?=some none)->X.x.s k=u.an k)
 s1:∀π k p v,X.fs π=2->X.cs π k=2->(π=[]->d.ins.length<=k)->(c.fr π).cK[k]?=some (some p)->c.val π k=some v->X.SS c p v
 s2:∀(σ:Path×Nat) b v a j' q,X.fs σ.1=2->(X.cs σ.1 σ.2=2\/X.cs σ.1 σ.2=4)->(σ.1=[]->d.ins.length<=σ.2)->(c.fr σ.1).vars[σ.2]?=some v->ic (c.fr σ.1) σ.2 v b->Src c (c.sb σ.1 σ.2) σ.1 b v.name (some (a,j'))->(c.fr a).aq[j']?=some q->X.fs a=2/\(q.kd=1->∀w∈c.ew a j',X.SS c w.1 w.2)/\(q.kd=2->X.dn a j'=true)
 s3:∀π j,X.fs π=2->X.dn π j=true->(∃q,(c.fr π).aq[j]?=some q/\q.kd=2/\c.ja π q)/\∀w∈c.ew π j,X.SS c w.1 w.2
 s4:∀π j,X.fs (j::π)=2->∀w∈c.ew π j,X.SS c w.1 w.2
 s5:∀π j,X.lv π j=true->∃p∈X.N,p.1=NI.aN π j
 dl:∀π j q,X.fs π=2->X.dn π j=true->X.cs (j::π) 0=3->(c.fr π).aq[j]?=some q->∀x∈q.lhs,∀σ,c.find π x=some σ->X.cs σ.1 σ.2=2\/X.cs σ.1 σ.2=4
 nk:∀p∈X.N,NI.ok c d X p.1
 fk:∀p∈X.F,AI.ok P c d X p.1
 fl:X.fi<=X.F.length
 fn:X.fi<=X.N.length+1
 g0:∀π j q,(c.fr π).aq[j]?=some q->q.kd=2->(X.cs (j::π) 0=0/\X.dn π j=false)\/X.cs (j::π) 0=1\/(X.cs (j::π) 0=3/\X.dn π j=true)
 dz:∀π j,X.dn π j=true->X.fs π=2
 cz:∀π k,X.cs π k≠0->X.fs π=2\/(k=0/\∃j σ q,π=j::σ/\(c.fr σ).aq[j]?=some q/\q.kd=2)
def av.cw(X:av):It->Bool
 |.cell a k=>X.cs a k==0
 |.call a j=> !X.dn a j&&X.cs (j::a) 0==0
 |.br a j=>X.fs (j::a)==0
 |.lv a j=> !X.lv a j
def av.T(X:av):Nat:=X.N.length+aR ((X.F.drop X.fi).map λp=>1+p.1.w.length)+aR (c.ap.map λi=>if X.cw i then c.wt i else 0)
structure lH(X:av)(r:Nat):Prop where
 c1:∀π k,X.cs π k=1->r<=c.sb π k
 f1:∀j π,X.fs (j::π)=1->r<=c.ek π j
 c4:∀π k,X.cs π k<=3
 tp:r<=c.dX
structure bf(E:Path×Nat->Prop)(X:av)(H:Hp)(Y:av)(K:Hp):Prop where
 c0:∀π k,Y.cs π k=0->X.cs π k=0
 f0:∀π,Y.fs π=0->X.fs π=0
 len:H.length<=K.length
 iD:∀a,a<H.length->X.own a=none->Y.own a=none/\K[a]?=H[a]?
 A:∀r,X.live c r->Y.live c r/\Y.A r=X.A r
 aK:∀π,X.fs π=2->Y.vc π=X.vc π/\Y.ve π=X.ve π
 f2:∀π,X.fs π=2->Y.fs π=2
 f1:∀π,X.fs π=1↔Y.fs π=1
 c1:∀π k,¬E (π,k)->(X.cs π k=1↔Y.cs π k=1)
 c2:∀π k,X.cs π k=2->Y.cs π k=2
 c3:∀π k,X.cs π k=3->Y.cs π k=3
 c4:∀π k s,¬E (π,k)->4<=s->(X.cs π k=s↔Y.cs π k=s)
 dn:∀π j,X.dn π j=true->Y.dn π j=true
 rC:∀π j,¬E (j::π,0)->X.cs (j::π) 0=1->Y.dn π j=X.dn π j
 lv:Y.lv=X.lv
 S:∀k v,X.S c k v->Y.S c k v
 fi:Y.fi=X.fi
 ph:Y.ph=X.ph
 F:∃l,Y.F=X.F++l
end
section
variable{P:Pg}{n:Nat}{c:aI}{d:Nd}{X Y:av}{H K:Hp}
def av.box.up{b:Nat}(h:X.box H b m)(g:∀a,a<H.length->X.own a=none->Y.own a=none/\K[a]?=H[a]?):Y.box K b m:=by
 obtain⟨c,a⟩:=h;obtain⟨d,e⟩:=g b (lU a) c;exact⟨d,e.trans a⟩
def av.sZ.up{π:Path}{e:Xp}{a:Nat}(h:X.sZ c H m π e a)(g:∀a,a<H.length->X.own a=none->Y.own a=none/\K[a]?=H[a]?)(A:∀r,X.live c r->Y.live c r/\Y.A r=X.A r):Y.sZ c K m π e a:=by
 obtain⟨b,d,f,i,j,k⟩:=h;refine⟨(A _ b).1,d,f,i,?_,?_⟩
 .rw[(A .it trivial).2];exact j.up g
 .rw[(A _ b).2];exact k.up g
def av.r_.up{d:NI}(h:X.r_ c H m d)(g:∀a,a<H.length->X.own a=none->Y.own a=none/\K[a]?=H[a]?)(A:∀r,X.live c r->Y.live c r/\Y.A r=X.A r):Y.r_ c K m d:=by
 have a:=(A .it trivial).2;cases d with
 |cell n l=>
  obtain⟨e,b,f,i,j,k⟩:=h;exact⟨(A _ e).1,b,f,i,by rw[(A _ e).2];exact j.up g,by rw[a];exact k.up g⟩
 |aN l n=>
  obtain⟨e,b,f,i,j,k⟩:=h;exact⟨(A _ e).1,b,f,i,by rw[a];exact j.up g,by rw[(A _ e).2];exact k.up g⟩
 |arrow i=>
  obtain⟨b,e,f⟩:=h;exact⟨b,e,by rw[a];exact f.up g⟩
 |put i v=>
  obtain⟨b,e,f⟩:=h;exact⟨b,e,by rw[a];exact f.up g⟩
def av.y8.up{ai:AI}(h:X.y8 c H m ai)(g:∀a,a<H.length->X.own a=none->Y.own a=none/\K[a]?=H[a]?)(A:∀r,X.live c r->Y.live c r/\Y.A r=X.A r):Y.y8 c K m ai:=by
 obtain⟨a,b,d,f,e,i,j,k,l,n,o,p,q⟩:=h;exact⟨a,b,d,f,e,i,j,k,l.up g,n.up g,by rw[(A .it trivial).2];exact o.up g,p.up g A,q⟩
theorem cD.Ao(h:cD P n c d X H)(W:Ro->Prop)(len:H.length<=K.length)
  (g:∀a,a<H.length->X.own a=none->Y.own a=none/\K[a]?=H[a]?)
  (s:∀a k,X.own a=some (.sb k)->K[a]?=H[a]?) (l:∀a k,Y.own a=some (.sb k)↔X.own a=some (.sb k))
  (es:Y.x.s=X.x.s) (m:Y.ad=X.ad) (lt:∀a r,Y.own a=some r->a<K.length)
  (A:∀r,X.live c r->Y.live c r/\Y.A r=X.A r)
  (o:∀r,Y.live c r->¬W r->X.live c r/\Y.own (X.A r)=some r/\K[X.A r]?=H[X.A r]?/\∀a,X.dY P c d r a->Y.dY P c d r a)
  (y:∀r,Y.live c r->W r->Y.own (Y.A r)=some r/\∃a,K[Y.A r]?=some a/\Y.dY P c d r a)
  (nx:∀p∈Y.N,p∈X.N\/Y.r_ c K p.2 p.1) (af:∀p∈Y.F,p∈X.F\/Y.y8 c K p.2 p.1):cD P n c d Y K:=by
 refine⟨λr f=>?_,lt,λr f=>?_,λk q t i=>?_,λp b=>?_,λp b=>?_⟩
 .grind
 .by_cases e:W r
  .grind
  .obtain⟨j,_,w,u⟩:=o r f e;obtain⟨a,x,v⟩:=h.ob r j;exact⟨a,by grind,u a v⟩
 .rw[es]at i;rw[m];exact((h.sub k q t i).frame (λa b=>s a k b) len).congr λj=>(l j k).symm
 .rcases nx p b with e|e
  .exact(h.nx p e).up g A
  .exact e
 .rcases af p b with e|e
  .exact(h.af p e).up g A
  .exact e
def cD.ne(h:cD P n c d X H){r r':Ro}(b:X.live c r)(f:X.live c r')(g:r≠r'):X.A r≠X.A r':=by
 intro e;have a:=h.own r b;rw[e,h.own r' f]at a;injection a with a
 exact g a.symm
theorem cD.y9(h:cD P n c d X H)(b:Ro)(i:X.live c b)(PA:Ob)(o:Y.A=X.A)(k:Y.own=X.own)(u:Y.N=X.N)(v:Y.F=X.F)(es:Y.x.s=X.x.s)(p:Y.ad=X.ad)(f:∀r,Y.live c r↔X.live c r)
  (q:Y.dY P c d b PA) (s:∀r g,r≠b->X.live c r->X.dY P c d r g->Y.dY P c d r g):cD P n c d Y (H.set (X.A b) PA):=by
 have l:∀a,a≠X.A b->(H.set (X.A b) PA)[a]?=H[a]?:= λa m=>asv (atf m)
 have t:=h.own b i;refine h.Ao (·=b) (by simp) (λa m b=>⟨by grind,l a (by grind)⟩) (λa j e=>l a (by rintro rfl;rw[t]at e;injection e with e;subst e;exact i)) (λa b=>by rw[k]) es p
  (λa r b=>by rw[k]at b;have:=h.lt a r b;simpa using this) (λr e=>⟨(f r).2 e,by rw[o]⟩) (λr e j=>⟨(f r).1 e,by rw[k];exact h.own r ((f r).1 e),l _ (h.ne ((f r).1 e) i j),λg=>s r g j ((f r).1 e)⟩)
  (λr e j=>?_) (λp b=>.inl (by grind)) (λp b=>.inl (by grind))
 subst j;obtain⟨g,w,_⟩:=h.ob r i;exact⟨by grind,PA,by grind,q⟩
def cD.grow(h:cD P n c d X H)(T:Hp):cD P n c d X (H++T):=by
 have a:∀a,a<H.length->(H++T)[a]?=H[a]?:= λa a=>asl a
 refine h.Ao (λ_=>False) (by simp) (λb e f=>⟨f,a b e⟩) (λb k e=>a b (h.lt b _ e)) (λa k=>atn) W W (λa r b=>by have:=h.lt a r b;simp;omega) (λr a=>⟨a,rfl⟩)
  (λr b _=>⟨b,h.own r b,a _ (h.lt _ _ (h.own r b)),λa a=>a⟩) (λr a a=>a.elim) (λp a=>.inl a) (λp a=>.inl a)
end
def bf.grow(c:aI)(E:Path×Nat->Prop)(X:av)(H T:Hp):bf c E X H X (H++T):=
 ⟨λ_ _ h=>h,λ_ h=>h,by simp,λa a h=>⟨h,asl a⟩,λr h=>⟨h,rfl⟩,λ_ _=>⟨rfl,rfl⟩,λ_ h=>h,λ_=>atn,λ_ _ _=>atn,λ_ _ h=>h,λ_ _ h=>h,λ_ _ _ _ _=>atn,λ_ _ h=>h,λ_ _ _ _=>rfl,rfl,λ_ _ h=>h,rfl,rfl,[],by simp⟩
def bf.refl(c:aI)(E:Path×Nat->Prop)(X:av)(H:Hp):bf c E X H X H:=
 ⟨λ_ _ h=>h,λ_ h=>h,asj _,λa _ h=>⟨h,rfl⟩,λr h=>⟨h,rfl⟩,λ_ _=>⟨rfl,rfl⟩,λ_ h=>h,λ_=>atn,λ_ _ _=>atn,λ_ _ h=>h,λ_ _ h=>h,λ_ _ _ _ _=>atn,λ_ _ h=>h,λ_ _ _ _=>rfl,rfl,λ_ _ h=>h,rfl,rfl,[],by simp⟩
theorem bf.trans{Z:av}{L:Hp}(h:bf c E X H Y K)(k:bf c E Y K Z L):bf c E X H Z L:=by
 refine⟨λa i e=>h.c0 a i (k.c0 a i e),λa e=>h.f0 a (k.f0 a e),ata h.len k.len,λl m n=>?_,λr o=>?_,λa f=>⟨(k.aK a (h.f2 a f)).1.trans (h.aK a f).1,(k.aK a (h.f2 a f)).2.trans (h.aK a f).2⟩,λa p=>k.f2 a (h.f2 a p),λa=>(h.f1 a).trans (k.f1 a),λa i b=>(h.c1 a i b).trans (k.c1 a i b),λa i d=>k.c2 a i (h.c2 a i d),λa i d=>k.c3 a i (h.c3 a i d),λa i s b g=>(h.c4 a i s b g).trans (k.c4 a i s b g),λa j q=>k.dn a j (h.dn a j q),λa j b d=>(k.rC a j b ((h.c1 _ _ b).1 d)).trans (h.rC a j b d),k.lv.trans h.lv,λi v g=>k.S i v (h.S i v g),k.fi.trans h.fi,k.ph.trans h.ph,?_⟩
 .obtain⟨t,u⟩:=h.iD l m n;obtain⟨w,x⟩:=k.iD l (atm m h.len) t;exact⟨w,x.trans u⟩
 .obtain⟨t,u⟩:=h.A r o;obtain⟨w,x⟩:=k.A r t;exact⟨w,x.trans u⟩
 .obtain⟨t,w⟩:=h.F;obtain⟨u,x⟩:=k.F;exact⟨t++u,by grind⟩
def bf.mono{d:Path×Nat->Prop}(h:bf c E X H Y K)(b:∀a,E a->d a):bf c d X H Y K:=
 ⟨h.c0,h.f0,h.len,h.iD,h.A,h.aK,h.f2,h.f1,λa i e=>h.c1 a i (λx=>e (b _ x)),h.c2,h.c3,λa i s e d=>h.c4 a i s (λx=>e (b _ x)) d,h.dn,λa j e=>h.rC a j (λx=>e (b _ x)),h.lv,h.S,h.fi,h.ph,h.F⟩
def bf.SS(h:bf c E X H Y K)(k:Nat)(v:Int):X.SS c k v->Y.SS c k v:=by
 rintro(a|a)
 .exact .inl (h.S k v a)
 .exact .inr (by rw[h.ph];exact a)
def Cn(l:List α)(f g:α->Nat)(h:∀a∈l,f a<=g a):aR (l.map f)<=aR (l.map g):=by
 induction l with
 |nil=>exact asj _
 |cons a l c=>
  simp only[asT,i_];have d:=h a (asV ..);have e:=c λb a=>h b (asI _ a)
  omega
def KY(l:List α)(f g:α->Nat)(h:∀a∈l,f a<=g a){a:α}(c:a∈l){w:Nat}(d:f a+w<=g a):aR (l.map f)+w<=aR (l.map g):=by
 induction l with
 |nil=>cases c
 |cons b l e=>
  simp only[asT,i_];rcases asQ.1 c with rfl|c
  .have i:=Cn l f g λb c=>h b (asI _ c)
   omega
  .grind
theorem Co(d:∀i,Y.cw i=true->X.cw i=true)(a b:Nat)(e:Y.N.length<=X.N.length+a)(f:aR ((Y.F.drop Y.fi).map λp=>1+p.1.w.length)<=aR ((X.F.drop X.fi).map λp=>1+p.1.w.length)+b):Y.T c<=X.T c+(a+b):=by
 unfold av.T;have:=Cn c.ap (λi=>if Y.cw i then c.wt i else 0) (λi=>if X.cw i then c.wt i else 0) (λi _=>by
  grind)
 omega
theorem vL(d:∀i,Y.cw i=true->X.cw i=true){i0:It}(hi:i0∈c.ap)(e:X.cw i0=true)(f:Y.cw i0=false)(a b:Nat)(g:Y.N.length<=X.N.length+a)(h:aR ((Y.F.drop Y.fi).map λp=>1+p.1.w.length)<=aR ((X.F.drop X.fi).map λp=>1+p.1.w.length)+b):Y.T c+c.wt i0<=X.T c+(a+b):=by
 unfold av.T;have:=KY c.ap (λi=>if Y.cw i then c.wt i else 0) (λi=>if X.cw i then c.wt i else 0) (λi _=>by
  grind) hi (w:=c.wt i0) (by grind)
 omega
def Jl{P:Pg}{d:Nd}{u:US}(h:Pu P c d u X):X.F.length<=X.T c+1:=by
 have f:=h.fn;unfold av.T;have b:∀l:List (AI×M),l.length<=aR (l.map λp=>1+p.1.w.length):=by
  intro l
  induction l with
  |nil=>exact asj _
  |cons e l g=>simp only[asT,i_,asO];omega
 have a:=b (X.F.drop X.fi);rw[List.length_drop]at a;omega
end Go.Proofs.Sz
namespace Go.Proofs.Sz
open Go.Mt Go.Sm Go.Proofs
open Tryz
variable{π:Path}{j t e aK len:Nat}{x:Operand}{v:Va}{l:List Va}
section
variable{X:bW}{ops:Array Oper}{rest:List Oper}{post:St->Prop}{sl:List (Nat×V)}{bx:List (Nat×List M)}{H:Hp}{d ty:Nat}{pos:String}{af:Array Edge}
def po[ht:aU X.P t e](b:Nat.blt d X.n=true)(a:bh sl x=some (.m (bI j aK len)))(k:TL X ops rest ⟨(d,(.m (dN len)))::sl,bx,H⟩ post):TL X ops (⟨some d,.call ⟨.builtin .len,#[x],#[t]⟩,ty,pos,af,none⟩::rest) ⟨sl,bx,H⟩ post:=by
 unfold bI at a;split at a
 .rename_i h;subst h;exact bK b a W k
 .exact Ga b a k
def lI{ec:Nat}{y:Operand}{acc:Bool}{cs:List M}{b:IntKind}{i:Int}[ht:aU X.P t e][m:bY X.P e ec](c:Nat.blt d X.n=true)(a:bh sl x=some (.m (bI j aK len)))(f:bh sl y=some (.m (.d (.int b i))))(g:H[j]?=some (.row acc ec aK cs))(h:0<=i)(l:i<len)(k:TL X ops rest ⟨(d,(.m (.et j aK (i.toNat*ec))))::sl,bx,H⟩ post):TL X ops (⟨some d,.indexAddr t x y,ty,pos,af,none⟩::rest) ⟨sl,bx,H⟩ post:=by
 unfold bI at a;rw[asu (by omega)]at a;exact AJ c a f g h l k
end
section
variable{P:Pg}{n:Nat}{c:aI}{d:Nd}{u:US}{X:av}{H:Hp}
def av.gC(X:av)(c:aI)(π:Path)(x:Nm):M:=match c.find π x with
 |some a=>.ref (X.A (.ce a.1 a.2)) 0
 |none=>.d .bU
def cD.frame(h:cD P n c d X H)(hf:X.fs π=2):H[X.A (.fr π)]?=some (.box [X.up π,bI (X.A (.cr π)) (X.vc π) (c.fr π).vars.length,bI (X.A (.er π)) (X.ve π) (c.fr π).aq.length,.mp (X.A (.am π)),.mp (X.A (.tk π))]):=by
 obtain⟨f,a,b⟩:=h.ob (.fr π) (by show 1<=X.fs π;omega);have e:=b;subst e;rw[a,asB hf,asB hf]
def cD.ND(h:cD P n c d X H)(hf:X.fs π=2)(a:(c.fr π).vars≠[]):H[X.A (.cr π)]?=some (.row true 1 (X.vc π) ((List.range (c.fr π).vars.length).map λk=>.ref (X.A (.ce π k)) 0)):=by
 obtain⟨f,b,e⟩:=h.ob (.cr π) ⟨hf,a⟩;rw[b,e]
def cD.Jm(h:cD P n c d X H)(hf:X.fs π=2)(a:(c.fr π).aq≠[]):H[X.A (.er π)]?=some (.row true 1 (X.ve π) ((List.range (c.fr π).aq.length).map λk=>.ref (X.A (.pl π k)) 0)):=by
 obtain⟨f,b,e⟩:=h.ob (.er π) ⟨hf,a⟩;rw[b,e]
theorem cD.cell(h:cD P n c d X H){k:Nat}(hf:X.fs π=2)(e:(c.fr π).vars[k]?=some v):∃a eq,(c.fr π).cK[k]?=some a/\H[X.A (.ce π k)]?=some (.box (c_ v a eq (X.A (.fr π)) (nF (X.cs π k)) (if zB (X.cs π k)then c.get (π,k)else 0)))/\∀j,ic (c.fr π) k v j->eq=.ref (X.A (.pl π j)) 0:=by
 have f:k<(c.fr π).vars.length:=by
  grind
 obtain⟨m,g,o,a,eq,z,b,i,rfl,rfl,l⟩:=h.ob (.ce π k) ⟨hf,f⟩;rw[e]at b;injection b with b
 subst b;exact⟨a,eq,i,g,l⟩
theorem cD.fI(h:cD P n c d X H){q:aB}(hf:X.fs π=2)(b:(c.fr π).aq[j]?=some q):∃p,(c.fr π).pos[j]?=some p/\H[X.A (.pl π j)]?=some (.box (dB q p)):=by
 have e:j<(c.fr π).aq.length:=by
  grind
 obtain⟨i,f,k,p,a,g,rfl⟩:=h.ob (.pl π j) ⟨hf,e⟩;rw[b]at a;injection a with a
 subst a;exact⟨p,g,f⟩
def cD.inst(h:cD P n c d X H):H[X.A .it]?=some (.box [.ref (X.A .un) 0,.ref (X.A (.fr [])) 0,.d (.bool false),bI (X.A .af) X.vF X.F.length,bI (X.A .nx) X.vN X.N.length]):=by
 obtain⟨e,a,b⟩:=h.ob .it trivial;rw[a,b]
def cD.unit(h:cD P n c d X H):H[X.A .un]?=some (.box (pg P d (X.A .me) (X.A .pe) (X.A .su))):=by
 obtain⟨e,a,b⟩:=h.ob .un trivial;rw[a,b]
def cD.mem(h:cD P n c d X H):H[X.A .me]?=some (.row false 1 0 (bD (bT d) (iP X.x.m))):=by
 obtain⟨e,a,b⟩:=h.ob .me trivial;rw[a,b]
def cD.cw(h:cD P n c d X H):H[X.A .pe]?=some (.row false 1 0 (bD (bT d) (jT X.x.p))):=by
 obtain⟨e,a,b⟩:=h.ob .pe trivial;rw[a,b]
def cD.an(h:cD P n c d X H):H[X.A .su]?=some (.row false 1 0 (bD (bT d) (fb X.x.s X.ad))):=by
 obtain⟨e,a,b⟩:=h.ob .su trivial;rw[a,b]
def Pu.KZ(h:Pu P c d u X)(hf:X.fs (j::π)=2):X.fs π=2:=(h.fp j π (by rw[hf];simp)).1
def uS(c:aI)(j:Nat)(π:Path)(x:Nm):c.find (j::π) x=match fN (c.fr (j::π)).vars x with|some k=>some (j::π,k)|none=>c.find π x:=rfl
theorem Jn{x:Nm}{i:Nat}(b:l[i]?=some v)(h:v.name=x)(a:∀(j:Nat) (w:Va),j<i->l[j]?=some w->w.name≠x):fN l x=some i:=by
 unfold fN;rw[as4];have b:i<l.length:=by
  grind
 refine⟨b,by grind,λj b=>?_⟩;have:=a j l[j] b (aso (by omega));simp[this]
def HP{x:Nm}(a:∀(j:Nat) (w:Va),l[j]?=some w->w.name≠x):fN l x=none:=by
 unfold fN;rw[atE];intro w b;obtain⟨j,c,rfl⟩:=List.getElem_of_mem b;simp[a j _ (aso c)]
def av.MJ(X:av):Option Path->M
 |some a=>.ref (X.A (.fr a)) 0
 |none=>.d .bU
def E9(c:aI)(o:Option Path)(x:Nm):Option (Path×Nat):=match o with
 |some a=>c.find a x
 |none=>none
structure Jo(X:av)(c:aI)(H:Hp)(ρ:Path):Prop where
 fr:∃a b d,H[X.A (.fr ρ)]?=some (.box [X.up ρ,bI (X.A (.cr ρ)) (X.vc ρ) (c.fr ρ).vars.length,a,b,d])
 cr:(c.fr ρ).vars≠[]->H[X.A (.cr ρ)]?=some (.row true 1 (X.vc ρ) ((List.range (c.fr ρ).vars.length).map λk=>.ref (X.A (.ce ρ k)) 0))
 ce:∀(k:Nat) (v:Va),(c.fr ρ).vars[k]?=some v->∃a eq st z,H[X.A (.ce ρ k)]?=some (.box (c_ v a eq (X.A (.fr ρ)) st z))
def cD.K_(h:cD P n c d X H)(hf:X.fs π=2):Jo X c H π:=⟨⟨_,_,_,h.frame hf⟩,h.ND hf,λk v a=>by obtain⟨e,eq,_,b,_⟩:=h.cell hf a;exact⟨_,_,_,_,b⟩⟩
def A1(z:∀π,(c.fr π).vars.length<=1000000)(π:Path)(A:∀b a,π=b++a->Jo X c H a)(x:Nm):CT prog 60 [.ref (X.A (.fr π)) 0,.d (.str x)] H λr K=>r=X.gC c π x/\K=H:=by
 refine CT.ob func60 W ntmps60 W λI J=>tC [2,3] W<|TC.lp (λk s=>∃o:Option Path,s=⟨[nM 0 (X.MJ o),nD 1 (.str x)],[],H⟩/\(∀a,o=some a->∃b,π=b++a)/\E9 c o x=c.find π x/\k=(match o with|some a=>a.length+1|none=>0)) (π.length+1) _
  ⟨some π,rfl,by rintro a h;injection h with h;subst h;exact⟨[],W⟩,W,W⟩ W ?_
 rintro k s ⟨o,rfl,B,g,rfl⟩;cases o with
 |none=>
  refine tO [2,12] W<|kI (by kernel_rfl) W W W W W<|tL [0] W<|TC.exit<|tC [2] W<|TC.ret ⟨_,rfl,by unfold av.gC;rw[<-g];rfl,rfl⟩
 |some a=>
  obtain⟨q,y⟩:=B a W;have l:=A q a y;obtain⟨L,N,O,m⟩:=l.fr;refine tO [2,12] W<|kI (by kernel_rfl) W W W W W<|tR [1,3,2,20] W<|ax W W m W<|tR [21] W<|po W W<|tL [] W<|Qm [nN 18 0,nN 17 ((c.fr a).vars.length),nM 16 (bI (X.A (.cr a)) (X.vc a) (c.fr a).vars.length),nM 0 (X.MJ (some a)),nD 1 (.str x)] H W W<|tC [3] W<|TC.lp (λk s=>∃i:Nat,s=⟨[nN 18 i,nN 17 ((c.fr a).vars.length),nM 16 (bI (X.A (.cr a)) (X.vc a) (c.fr a).vars.length),nM 0 (X.MJ (some a)),nD 1 (.str x)],[],H⟩/\i<=(c.fr a).vars.length/\k=(c.fr a).vars.length-i/\∀(j:Nat) (w:Va),j<i->(c.fr a).vars[j]?=some w->w.name≠x) (c.fr a).vars.length _
   ⟨0,rfl,by omega,rfl,by intro j w b;omega⟩ W ?_
  rintro k s ⟨i,rfl,P,rfl,n⟩;have R:=z a;refine tC [2] W<|TC.cond W (λp=>?_) (λp=>?_)
  .have d:i<(c.fr a).vars.length:=by have:=asC p;omega
   have f:=aso d;have t:=l.cr (by intro e;rw[e]at d;simp at d);obtain⟨Q,eq,st,G,u⟩:=l.ce i _ f;generalize (c.fr a).vars[i]=v at f u;have D:((List.range (c.fr a).vars.length).map λk=>M.ref (X.A (.ce a k)) 0)[((i:Nat):Int).toNat*1]?=some (.ref (X.A (.ce a i)) 0):=by simp[d]
   refine tO [3,2,24] W<|lI W W W t (asm i) (by omega)<|tR [25] W<|mH W W t D<|tR [2,30] W<|ax W W u W<|tL [] W<|TC.cond W (λh=>?_) (λh=>?_)
   .have C:=asC h;refine tC [2] W ?_;have b:=Jn f C n;have E:c.find a x=some (a,i):=by
     cases a with
     |nil=>show Option.map _ _=_;rw[b];rfl
     |cons j π=>rw[uS,b]
    exact TC.ret ⟨_,W,by unfold av.gC;rw[<-g];simp only[E9,E];rfl,rfl⟩
   .refine tC [] W ?_;have E:=asG h;refine tO [2,34] W<|ay W W W (by omega)<|tL [] W<|again (k':=(c.fr a).vars.length-(i+1)) (by omega) ⟨i+1,rfl,by omega,rfl,?_⟩ W W;intro j w C b;rcases as8.1 C with F|rfl
    .exact n j w F b
    .rw[f]at b;injection b with b;subst b;exact E
  .refine TC.exit ?_;have f:i=(c.fr a).vars.length:=by have:=asG p;omega
   have d:=HP λj w b=>n j w (by
    rcases asp j i with h|h
    .exact h
    .rw[asr (by omega)]at b;cases b) b
   cases a with
   |nil=>
    refine tO [2,16] W<|ax W W m W<|tL [] W<|again (k':=0) (by simp) ⟨none,rfl,by(intro a h;cases h),by rw[<-g];show none=Option.map _ _;rw[d];rfl,rfl⟩ W W
   |cons j b=>
    refine tO [2,16] W<|ax W W m W<|tL [] W<|again (k':=b.length+1) (by simp) ⟨some b,rfl,by(intro a h;injection h with h;subst h;exact⟨q++[j],by rw[y];simp⟩),by rw[<-g];simp only[E9];rw[uS,d],rfl⟩ W W
def vM(a:Pu P c d u X):∀{τ ρ:Path},X.fs (τ++ρ)=2->X.fs ρ=2
 |[],_,h=>h
 |j::τ,ρ,h=>vM a (τ:=τ) (a.KZ h)
def pv(h:cD P n c d X H)(a:Pu P c d u X)(b:∀π,(c.fr π).vars.length<=1000000)(π:Path)(hf:X.fs π=2)(x:Nm):CT prog 60 [.ref (X.A (.fr π)) 0,.d (.str x)] H λr K=>r=X.gC c π x/\K=H:=
 A1 b π (λτ b e=>h.K_ (vM a (τ:=τ) (e▸hf))) x
end
end Go.Proofs.Sz
namespace Go.Proofs.Sz
open Go.Mt Go.Sm Go.Proofs
open Tryz
section
variable{P:Pg}{n:Nat}{c:aI}{d:Nd}{u:US}{X Y:av}{H:Hp}
theorem dY.congr(a:∀r,r≠.nx->r≠.af->Y.A r=X.A r)(j:Y.fs=X.fs)(ec:Y.cs=X.cs)(m:Y.dn=X.dn)(k:Y.vc=X.vc)(l:Y.ve=X.ve)(i:Y.x=X.x)(n:Y.ad=X.ad){r:Ro}(b:r≠.it)(e:r≠.nx)(f:r≠.af){ob:Ob}(h:X.dY P c d r ob):Y.dY P c d r ob:=by
 cases r with
 |it=>exact absurd W b
 |nx=>exact absurd W e
 |af=>exact absurd W f
 |un=>simp only[av.dY]at h⊢;rw[a .me (by simp) (by simp),a .pe (by simp) (by simp),a .su (by simp) (by simp)];exact h
 |me=>simp only[av.dY]at h⊢;rw[i];exact h
 |pe=>simp only[av.dY]at h⊢;rw[i];exact h
 |su=>simp only[av.dY]at h⊢;rw[i,n];exact h
 |fr g=>
  have o:Y.up g=X.up g:=by cases g with
   |nil=>rfl
   |cons p g=>simp only[av.up];rw[a _ (by simp) (by simp)]
  simp only[av.dY]at h⊢;rw[o,j,k,l,a _ (by simp) (by simp),a _ (by simp) (by simp),a _ (by simp) (by simp),a _ (by simp) (by simp)];exact h
 |am t=>
  simp only[av.dY]at h⊢;obtain⟨o,b,e,f,p⟩:=h;refine⟨o,b,e,λq g s=>?_,λq=>p (by grind)⟩;rw[a _ (by simp) (by simp),f (by grind) g s];unfold av.nW;rw[j,m,ec,a _ (by simp) (by simp),a _ (by simp) (by simp)]
 |tk p=>
  simp only[av.dY]at h⊢;obtain⟨o,b,e,f⟩:=h;refine⟨o,b,e,λq g s=>?_⟩;rw[a _ (by simp) (by simp)];exact f (by grind) g (by grind)
 |cr g=>
  simp only[av.dY]at h⊢;rw[k,h]
  congr 1
  exact as6 λk _=>by grind
 |er g=>
  simp only[av.dY]at h⊢;rw[l,h]
  congr 1
  exact as6 λk _=>by grind
 |ce o p=>
  simp only[av.dY]at h⊢;obtain⟨v,g,eq,z,b,e,f,q,s⟩:=h;refine⟨v,g,eq,z,b,e,by grind,by grind,λj a=>by grind⟩
 |pl g o=>exact h
 |sb g=>trivial
def av.dq(X:av)(H:Hp)(p:NI×M):av:={X with
 N:=X.N++[p]
 vN:=if X.N=[]then 0 else X.vN+1
 A:=if X.N=[]thenλr=>if r=.nx then H.length+1 else X.A r else X.A
 own:=if X.N=[]thenλa=>if a=H.length+1 then some .nx else X.own a else X.own}
def av.de(X:av)(H:Hp)(m:M):Hp:=
 (if X.N=[]then(H++[Ob.row false 1 0 [m]])++[Ob.row true 1 0 [m]]else(H++[Ob.row false 1 0 [m]]).set (X.A .nx) (Ob.row true 1 (X.vN+1) (X.N.map (·.2)++[m]))).set (X.A .it)
  (Ob.box [.ref (X.A .un) 0,.ref (X.A (.fr [])) 0,.d (.bool false),bI (X.A .af) X.vF X.F.length,if X.N=[]then .bC (H.length+1) 0 1 else .bC (X.A .nx) (X.vN+1) (X.N.length+1)])
def js(a:Y.fs=X.fs){r:Ro}(b:r≠.nx)(d:r≠.af):Y.live c r↔X.live c r:=by
 cases r<;>simp only[av.live,a]<;>first|exact absurd W b|exact absurd W d
def pw(h:cD P n c d X H){b:NI}{m:M}(C:X.r_ c H m b):cD P n c d (X.dq H (b,m)) (X.de H m)/\bf c (λ_=>False) X H (X.dq H (b,m)) (X.de H m):=by
 have o:=h.own .it trivial;have Q:=h.lt _ _ o;by_cases g:X.N=[]
 .have p:∀r,r≠.nx->(X.dq H (b,m)).A r=X.A r:= λr i=>by simp[av.dq,g,i]
  have x:(X.dq H (b,m)).A .nx=H.length+1:=by simp[av.dq,g]
  have q:∀a,a≠H.length+1->(X.dq H (b,m)).own a=X.own a:= λa j=>by simp[av.dq,g,j]
  have F:(X.dq H (b,m)).own (H.length+1)=some .nx:=by simp[av.dq,g]
  have J:X.own (H.length+1)=none:=by
   cases e:X.own (H.length+1)with
   |none=>rfl
   |some r=>have:=h.lt _ _ e;omega
  have s:X.de H m=((H++[Ob.row false 1 0 [m]])++[Ob.row true 1 0 [m]]).set (X.A .it) (Ob.box [.ref (X.A .un) 0,.ref (X.A (.fr [])) 0,.d (.bool false),bI (X.A .af) X.vF X.F.length,.bC (H.length+1) 0 1]):=by simp[av.de,g]
  have D:H.length<=(X.de H m).length:=by rw[s];simp
  have y:∀a,a<H.length->a≠X.A .it->(X.de H m)[a]?=H[a]?:= λa k l=>by
   rw[s,asv (atf l),asl (by simp;omega),asl k]
  have K:(X.de H m)[X.A .it]?=some (Ob.box [.ref (X.A .un) 0,.ref (X.A (.fr [])) 0,.d (.bool false),bI (X.A .af) X.vF X.F.length,.bC (H.length+1) 0 1]):=by
   rw[s,as7 (by simp;omega)]
  have L:(X.de H m)[H.length+1]?=some (Ob.row true 1 0 [m]):=by
   rw[s,asv (by omega),ass (by simp)];simp
  have w:∀a,a<H.length->X.own a=none->(X.dq H (b,m)).own a=none/\(X.de H m)[a]?=H[a]?:= λa j f=>⟨by rw[q a (by omega)];exact f,y a j (by rintro rfl;rw[o]at f;cases f)⟩
  have A:∀r,X.live c r->(X.dq H (b,m)).live c r/\(X.dq H (b,m)).A r=X.A r:= λr i=>by
   have l:r≠.nx:=by rintro rfl;exact i g
   refine⟨?_,p r l⟩;by_cases t:r=.af
   .subst t;exact i
   .exact(js (X:=X) (Y:=X.dq H (b,m)) W l t).2 i
  refine⟨?_,⟨λ_ _ h=>h,λ_ h=>h,D,w,A,λ_ _=>⟨rfl,rfl⟩,λ_ h=>h,λ_=>atn,λ_ _ _=>atn,λ_ _ h=>h,λ_ _ h=>h,λ_ _ _ _ _=>atn,λ_ _ h=>h,λ_ _ _ _=>rfl,rfl,?_,rfl,rfl,[],by simp[av.dq]⟩⟩
  .refine h.Ao (λr=>r=.nx\/r=.it) D w (λa G f=>y a (h.lt a _ f) (by rintro rfl;rw[o]at f;cases f)) (λa G=>?_) W W (λa r f=>?_) A (λr i u=>?_) (λr i u=>?_) (λI z=>?_) (λI z=>.inl z)
   .by_cases j:a=H.length+1
    .subst j;rw[F,J];simp
    .rw[q a j]
   .by_cases j:a=H.length+1
    .subst j;rw[s];simp
    .rw[q a j]at f;have:=h.lt a r f;omega
   .have l:r≠.nx:= λe=>u (.inl e)
    have k:r≠.it:= λe=>u (.inr e)
    have B:X.live c r:=by
     by_cases t:r=.af
     .subst t;exact i
     .exact(js (X:=X) (Y:=X.dq H (b,m)) W l t).1 i
    have f:=h.own r B;have N:=h.lt _ _ f;refine⟨B,by rw[q _ (by omega)];exact f,y _ N (h.ne B trivial k),λO E=>?_⟩;by_cases t:r=.af
    .subst t;exact E
    .exact dY.congr (X:=X) (Y:=X.dq H (b,m)) (λr l _=>p r l) W W W W W W W k l t E
   .rcases u with rfl|rfl
    .exact⟨by rw[x];exact F,_,by rw[x];exact L,by simp only[av.dY];simp[av.dq,g]⟩
    .refine⟨by rw[p _ (by simp),q _ (by omega)];exact o,_,by rw[p _ (by simp)];exact K,?_⟩;simp only[av.dY];rw[p _ (by simp),p _ (by simp),p _ (by simp),x];simp[av.dq,g,bI]
   .rcases ast.1 z with k|k
    .exact .inl k
    .rw[asx]at k;subst k;exact .inr (C.up w A)
  .intro E v t;rcases t with⟨u,z,B⟩|t
   .exact .inl ⟨u,asw _ z,B⟩
   .exact .inr t
 .have l:(X.dq H (b,m)).A=X.A:=by simp[av.dq,g]
  have q:(X.dq H (b,m)).own=X.own:=by simp[av.dq,g]
  have B:X.live c .nx:=g;have w:=h.own .nx B;have N:=h.lt _ _ w;have K:=h.ne B (r':=.it) trivial (by simp);have s:X.de H m=((H++[Ob.row false 1 0 [m]]).set (X.A .nx) (Ob.row true 1 (X.vN+1) (X.N.map (·.2)++[m]))).set (X.A .it) (Ob.box [.ref (X.A .un) 0,.ref (X.A (.fr [])) 0,.d (.bool false),bI (X.A .af) X.vF X.F.length,.bC (X.A .nx) (X.vN+1) (X.N.length+1)]):=by simp[av.de,g]
  have D:H.length<=(X.de H m).length:=by rw[s];simp
  have y:∀a,a<H.length->a≠X.A .it->a≠X.A .nx->(X.de H m)[a]?=H[a]?:= λa j k i=>by
   rw[s,asv (atf k),asv (atf i),asl j]
  have G:(X.de H m)[X.A .it]?=some (Ob.box [.ref (X.A .un) 0,.ref (X.A (.fr [])) 0,.d (.bool false),bI (X.A .af) X.vF X.F.length,.bC (X.A .nx) (X.vN+1) (X.N.length+1)]):=by
   rw[s,as7 (by simp;omega)]
  have I:(X.de H m)[X.A .nx]?=some (Ob.row true 1 (X.vN+1) (X.N.map (·.2)++[m])):=by
   rw[s,asv (atf K),as7 (by simp;omega)]
  have x:∀a,a<H.length->X.own a=none->(X.dq H (b,m)).own a=none/\(X.de H m)[a]?=H[a]?:= λa p f=>⟨by rw[q];exact f,y a p (by rintro rfl;rw[o]at f;cases f) (by rintro rfl;rw[w]at f;cases f)⟩
  have A:∀r,X.live c r->(X.dq H (b,m)).live c r/\(X.dq H (b,m)).A r=X.A r:= λr p=>by
   refine⟨?_,by rw[l]⟩;by_cases k:r=.nx
   .subst k;show X.N++_≠[];simp
   by_cases i:r=.af
   .subst i;exact p
   .exact(js (X:=X) (Y:=X.dq H (b,m)) W k i).2 p
  refine⟨?_,⟨λ_ _ h=>h,λ_ h=>h,D,x,A,λ_ _=>⟨rfl,rfl⟩,λ_ h=>h,λ_=>atn,λ_ _ _=>atn,λ_ _ h=>h,λ_ _ h=>h,λ_ _ _ _ _=>atn,λ_ _ h=>h,λ_ _ _ _=>rfl,rfl,?_,rfl,rfl,[],by simp[av.dq]⟩⟩
  .refine h.Ao (λr=>r=.nx\/r=.it) D x (λa t f=>y a (h.lt a _ f) (by rintro rfl;rw[o]at f;cases f) (by rintro rfl;rw[w]at f;cases f)) (λa k=>by rw[q]) W W (λa r f=>?_) A (λr p t=>?_) (λr p t=>?_) (λF z=>?_) (λF z=>.inl z)
   .rw[q]at f;have:=h.lt a r f;omega
   .have k:r≠.nx:= λe=>t (.inl e)
    have j:r≠.it:= λe=>t (.inr e)
    have u:X.live c r:=by
     by_cases i:r=.af
     .subst i;exact p
     .exact(js (X:=X) (Y:=X.dq H (b,m)) W k i).1 p
    have f:=h.own r u;have J:=h.lt _ _ f;refine⟨u,by rw[q];exact f,y _ J (h.ne u trivial j) (h.ne u B k),λL E=>?_⟩;by_cases i:r=.af
    .subst i;exact E
    .exact dY.congr (X:=X) (Y:=X.dq H (b,m)) (λr k _=>by rw[l]) W W W W W W W j k i E
   .rcases t with rfl|rfl
    .exact⟨by rw[l,q];exact w,_,by rw[l];exact I,by simp only[av.dY];simp[av.dq,g]⟩
    .refine⟨by rw[l,q];exact o,_,by rw[l];exact G,?_⟩;simp only[av.dY];rw[l];simp[av.dq,g,bI]
   .rcases ast.1 z with j|j
    .exact .inl j
    .rw[asx]at j;subst j;exact .inr (C.up x A)
  .intro F v t;rcases t with⟨u,z,E⟩|t
   .exact .inl ⟨u,asw _ z,E⟩
   .exact .inr t
theorem Pu.Cp(h:Pu P c d u X)(b:Y.fs=X.fs)(ec:Y.cs=X.cs)(e:Y.dn=X.dn)(s:Y.lv=X.lv)(f:Y.x=X.x)(i:∀k v,X.SS c k v->Y.SS c k v)(t:∀p∈X.N,p∈Y.N)(y:∀p∈Y.N,p∈X.N\/NI.ok c d X p.1)(z:∀p∈Y.F,p∈X.F\/AI.ok P c d X p.1)(A:Y.fi<=Y.F.length)(fn:Y.fi<=Y.N.length+1):Pu P c d u Y:=by
 have l:∀k,Y.ER c k↔X.ER c k:= λk=>by unfold av.ER;rw[b]
 have m:∀k a j,Y.DC c k a j↔X.DC c k a j:= λk a j=>by unfold av.DC;rw[b,e]
 have H:∀g,NI.ok c d X g->NI.ok c d Y g:= λg h=>by cases g<;>simp only[NI.ok,b,ec]at h⊢ <;>exact h
 have I:∀a,AI.ok P c d X a->AI.ok P c d Y a:= λa h=>⟨h.ev,by rw[b];exact h.fs,h.lt,h.wr,h.sm,h.own,h.sz⟩
 refine⟨by rw[b];exact h.f0,by rw[b];exact h.fp,by rw[b];exact h.f2,by rw[ec];exact h.c6,by rw[ec];exact h.ci,by rw[ec];exact h.cv,by rw[ec];exact h.ca,?_,?_,?_,?_,?_,?_,?_,?_,?_,?_,?_,?_,A,fn,by rw[ec,e];exact h.g0,by rw[b,e];exact h.dz,by rw[b,ec];exact h.cz⟩
 .intro k g;rw[l,f];exact h.xm k g
 .intro k g;rw[l,f];exact h.xp k g
 .intro k g a j n;rw[f];exact h.xd k g a j ((m _ _ _).1 n)
 .intro k g n;rw[l,f];exact h.xs k g λa j b=>n a j ((m _ _ _).2 b)
 .intro a k p v g n o q r;rw[b]at g;rw[ec]at n;exact i _ _ (h.s1 a k p v g n o q r)
 .intro o x v B C q g n r w D E F;rw[b]at g;rw[ec]at n;obtain⟨J,G,K⟩:=h.s2 o x v B C q g n r w D E F;exact⟨by grind,λa w b=>i _ _ (G a w b),λa=>by grind⟩
 .intro a j n g;rw[b]at n;rw[e]at g;obtain⟨o,q⟩:=h.s3 a j n g;exact⟨o,λw a=>i _ _ (q w a)⟩
 .intro a j g w n;rw[b]at g;exact i _ _ (h.s4 a j g w n)
 .intro a j g;rw[s]at g;obtain⟨p,o,n⟩:=h.s5 a j g;exact⟨p,t p o,n⟩
 .intro a j r n g o B x C q w;rw[b]at n;rw[e]at g;rw[ec]at o⊢;exact h.dl a j r n g o B x C q w
 .intro p n;rcases y p n with g|g
  .exact H _ (h.nk p g)
  .grind
 .intro p n;rcases z p n with g|g
  .exact I _ (h.fk p g)
  .grind
theorem Pu.more(h:Pu P c d u X)(a:Y.fs=X.fs)(ec:Y.cs=X.cs)(b:Y.dn=X.dn)(e:Y.lv=X.lv)(f:Y.x=X.x)(n:Y.ph=X.ph)(g:∀k v,X.S c k v->Y.S c k v)(i:∀p∈X.N,p∈Y.N)(j:∀p∈Y.N,p∈X.N\/NI.ok c d X p.1)(l:∀p∈Y.F,p∈X.F\/AI.ok P c d X p.1)(m:Y.fi<=Y.F.length)(fn:Y.fi<=Y.N.length+1):Pu P c d u Y:=
 h.Cp a ec b e f (λk v h=>by
  rcases h with h|h
  .exact .inl (g k v h)
  .exact .inr (by grind)) i j l m fn
def qJ(h:Pu P c d u X){p:NI×M}(j:NI.ok c d X p.1):Pu P c d u (X.dq H p)/\(∀k v,NI.wr c p.1 k v->(X.dq H p).S c k v)/\(X.dq H p).T c=X.T c+1:=by
 refine⟨h.more W W W W W W (λk v b=>?_) (λq a=>asw _ a) (λq a=>?_) (λq a=>.inl a) h.fl (by show X.fi<=(X.N++[p]).length+1;have:=h.fn;simp;omega),λk v f=>.inl ⟨p,asz _ (atw _),f⟩,?_⟩
 .rcases b with⟨q,a,f⟩|b
  .exact .inl ⟨q,asw _ a,f⟩
  .exact .inr b
 .rcases ast.1 a with g|g
  .exact .inl g
  .grind
 .have e:(X.dq H p).cw=X.cw:=by funext i;cases i<;>rfl
  unfold av.T;rw[e];simp only[av.dq,asq,asS];omega
end
section
variable{P:Pg}{n:Nat}{c:aI}{d:Nd}{u:US}{X:av}{H:Hp}
structure cS(P:Pg)(n:Nat)(c:aI)(d:Nd)(u:US)(X:av)(H:Hp):Prop where
 lay:cD P n c d X H
 pu:Pu P c d u X
def lV(K:Hp)(m:M):o5 (K++[Ob.row false 1 0 [m]]) 1 (.bC K.length 0 1)=some ([m],1):=by simp[o5]
def uT(K:Hp)(ob:Ob):(K++[ob])[K.length]?=some ob:=by simp
theorem bu{K T:Hp}{i:Nat}{ob:Ob}(h:K[i]?=some ob):(K++T)[i]?=some ob:=by grind
theorem fV{K:Hp}{i j:Nat}{ob PA:Ob}(h:K[i]?=some ob)(a:j≠i):(K.set j PA)[i]?=some ob:=by grind
def vO(h:cD P n c d X H)(a:X.N≠[]):H[X.A .nx]?=some (.row true 1 X.vN (X.N.map (·.2))):=by
 obtain⟨f,b,e⟩:=h.ob .nx a;rw[b,e]
def y_(a:X.T c<=1000000000000):X.N.length<=1000000000000:=by unfold av.T at a;omega
def Jp(o:cS P n c d u X H)(D:X.T c<=1000000000000){π:Path}{k:Nat}{v:Va}(hf:X.fs π=2)(q:(c.fr π).vars[k]?=some v){j:Option Nat}(s:(c.fr π).cK[k]?=some j)(E:zB (X.cs π k)=true)(F:∀p,j=some p->p<bT d)(G:π=[]->d.ins.length<=k):
  DT prog 92 [.ref (X.A .it) 0,.ref (X.A (.ce π k)) 0] H λr K=>∃Y,cS P n c d u Y K/\bf c (λ_=>False) X H Y K/\Y.cs=X.cs/\Y.fs=X.fs/\Y.dn=X.dn/\Y.lv=X.lv/\Y.T c<=X.T c+1/\∀p,j=some p->∀z,c.val π k=some z->Y.S c p z:=by
 have h:=o.lay;obtain⟨U,eq,l,I,_⟩:=h.cell hf q;rw[s]at l;injection l with l
 subst l;have A:k<(c.fr π).vars.length:=by
  rcases asp k (c.fr π).vars.length with h|h
  .exact h
  .rw[asr h]at q;cases q
 have t:=bu (T:=[Ob.box [.ref (X.A (.ce π k)) 0]]) (bu (T:=[Ob.box [.ref (X.A .it) 0]]) I);have f:(H++[Ob.box [.ref (X.A .it) 0]]++[Ob.box [.ref (X.A (.ce π k)) 0]])[H.length]?=some (Ob.box [.ref (X.A .it) 0]):=by simp
 have m:(H++[Ob.box [.ref (X.A .it) 0]]++[Ob.box [.ref (X.A (.ce π k)) 0]])[(H++[Ob.box [M.ref (X.A .it) 0]]).length]?=some (Ob.box [.ref (X.A (.ce π k)) 0]):=by simp
 have i:cD P n c d X (H++[Ob.box [.ref (X.A .it) 0]]++[Ob.box [.ref (X.A (.ce π k)) 0]]):=(h.grow _).grow _;have w:bf c (λ_=>False) X H X (H++[Ob.box [.ref (X.A .it) 0]]++[Ob.box [.ref (X.A (.ce π k)) 0]]):=(bf.grow c _ X H _).trans (bf.grow c _ X _ _);refine DT.ob func92 W ntmps92 W<|dO [2,6] W<|Oq (cF W W W)<|dR [7] W<|Oq (cF W W W)<|dL [] W ?_;have x:∀b,H.length<=b->X.own b=none:= λb V=>by
  cases e:X.own b with
  |none=>rfl
  |some r=>have:=h.lt b r e;omega
 generalize Z:H++[Ob.box [.ref (X.A .it) 0]]++[Ob.box [.ref (X.A (.ce π k)) 0]]=K at t f m i w;cases j with
 |none=>
  refine dO [2,8] W<|Oq (ax W W m W)<|dR [11] W<|Oq (ax W W t W)<|dL [0] W<|⟨_,W,X,⟨i,o.pu⟩,w,W,W,W,W,by omega,λp a=>by cases a⟩
 |some p=>
  refine dO [2,8] W<|Oq (ax W W m W)<|dR [11] W<|Oq (ax W W t W)<|dR [12] W<|Oq (aQ (asP (asm p)) W W W W)<|dL [1] W ?_;have a:=i.inst;have J:X.r_ c K (.fn 127 [.ref (H++[Ob.box [M.ref (X.A .it) 0]]).length 0,.ref H.length 0]) (.cell true (π,k)):=
   ⟨(⟨hf,A⟩),_,_,rfl,⟨x _ (by simp),m⟩,⟨x _ (asj _),f⟩⟩
  obtain⟨N,O⟩:=pw i J;obtain⟨Q,R,S⟩:=qJ o.pu (p:=(.cell true (π,k),.fn 127 [.ref (H++[Ob.box [M.ref (X.A .it) 0]]).length 0,.ref H.length 0])) (⟨hf,A,E,⟨p,F p W,s⟩,G⟩) (H:=K);have B:∀L,X.de K (.fn 127 [.ref (H++[Ob.box [M.ref (X.A .it) 0]]).length 0,.ref H.length 0])=L->∃Y,cS P n c d u Y L/\bf c (λ_=>False) X H Y L/\Y.cs=X.cs/\Y.fs=X.fs/\Y.dn=X.dn/\Y.lv=X.lv/\Y.T c<=X.T c+1/\∀y,some p=some y->∀z,c.val π k=some z->Y.S c y z:=by
   rintro L rfl;exact⟨_,⟨N,Q⟩,w.trans O,W,W,W,W,Nat.le_of_eq S,λy g z C=>by injection g with g;subst g;exact R _ _ ⟨s,C⟩⟩
  let y:M->Hp->Prop:= λs L=>L[H.length]?=some (Ob.box [.ref (X.A .it) 0])/\L[X.A .it]?=some (Ob.box [.ref (X.A .un) 0,.ref (X.A (.fr [])) 0,.d (.bool false),bI (X.A .af) X.vF X.F.length,s])
  by_cases g:X.N=[]
  .have C:bI (X.A .nx) X.vN X.N.length=.d (.sl []):=by simp[g,bI]
   rw[C]at a;refine dC [] W ?_;apply PL (y (.d (.sl []))) (⟨f,a⟩) bX
   .intro L Oo;refine OH W W (λL h=>⟨_,h.1,rfl⟩)<|OH W W (λL h=>⟨_,h.1,rfl⟩)<|iR 2 W<|OH W W (λL h=>⟨_,h.2,rfl⟩) ?_;apply OA
    .skip
     refine eW W W<|TF.nil ⟨W,W⟩
    apply OA
    .skip
     refine dW (cs:=[_]) W W W W W W<|TF.nil ⟨W,W⟩
    apply OA
    .skip
     refine o9 true W W W (lV _ _) W W (by decide) (by decide)<|TF.nil ⟨rfl,rfl⟩
    refine iR 2 W ?_;apply OA
    .skip
     refine fK W W (bu (bu a)) W W W<|TF.nil ⟨W,W⟩
    exact jr.nil ⟨by kernel_rfl,by repeat' first|exact trivial|exact .inl ((by first|exact⟨bu f,bu a⟩|exact⟨bu (bu f),bu (bu a)⟩))|exact .inr (by kernel_rfl)|refine⟨?_,?_⟩,rfl⟩
   refine⟨_,W,B _ ?_⟩;simp only[av.de,asB g,asq,asS];rfl
  .have L:bI (X.A .nx) X.vN X.N.length=.bC (X.A .nx) X.vN X.N.length:=by unfold bI;rw[asu];intro e;exact g (atb e)
   rw[L]at a;have ac:=y_ D;have C:=i.ne (r:=.nx) (r':=.it) g trivial (by simp);refine dC [] W ?_;apply PL (y (.bC (X.A .nx) X.vN X.N.length)) (⟨f,a⟩) bX
   .intro s0 Oo;refine OH W W (λL h=>⟨_,h.1,rfl⟩)<|OH W W (λL h=>⟨_,h.1,rfl⟩)<|iR 2 W<|OH W W (λL h=>⟨_,h.2,rfl⟩) ?_;apply OA
    .skip
     refine eW W W<|TF.nil ⟨W,W⟩
    apply OA
    .skip
     refine dW (cs:=[_]) W W W W W W<|TF.nil ⟨W,W⟩
    apply OA
    .skip
     refine o_ W W W (lV _ _) (bu (vO i g)) W (by omega) (by omega)<|TF.nil ⟨rfl,rfl⟩
    refine iR 2 W ?_;apply OA
    .skip
     refine fK W W (fV (bu a) C) W W W<|TF.nil ⟨W,W⟩
    exact jr.nil ⟨by kernel_rfl,by repeat' first|exact trivial|exact .inl ((by first|exact⟨bu f,bu a⟩|exact⟨fV (bu f) (by intro e;have:=h.own .nx g;rw[e,x _ (asj _)]at this;cases this),fV (bu a) C⟩))|exact .inr (by kernel_rfl)|refine⟨?_,?_⟩,rfl⟩
   refine⟨_,W,B _ ?_⟩;simp only[av.de,asu g];rfl
end
section
variable{P:Pg}{n:Nat}{c:aI}{d:Nd}{u:US}{X Y:av}{H:Hp}
theorem Jq{b:Type}{l r:List b}{i:Nat}{a:b}(h:l[i]?=some a):(l++r)[i]?=some a:=by grind
def av.eC(X:av)(H:Hp)(p:AI×M):av:={X with
 F:=X.F++[p]
 vF:=if X.F=[]then 0 else X.vF+1
 A:=if X.F=[]thenλr=>if r=.af then H.length+1 else X.A r else X.A
 own:=if X.F=[]thenλa=>if a=H.length+1 then some .af else X.own a else X.own}
def av.gX(X:av)(H:Hp)(m:M):Hp:=
 (if X.F=[]then(H++[Ob.row false 1 0 [m]])++[Ob.row true 1 0 [m]]else(H++[Ob.row false 1 0 [m]]).set (X.A .af) (Ob.row true 1 (X.vF+1) (X.F.map (·.2)++[m]))).set (X.A .it)
  (Ob.box [.ref (X.A .un) 0,.ref (X.A (.fr [])) 0,.d (.bool false),if X.F=[]then .bC (H.length+1) 0 1 else .bC (X.A .af) (X.vF+1) (X.F.length+1),bI (X.A .nx) X.vN X.N.length])
def E_(h:cD P n c d X H){b:AI}{m:M}(C:X.y8 c H m b):cD P n c d (X.eC H (b,m)) (X.gX H m)/\bf c (λ_=>False) X H (X.eC H (b,m)) (X.gX H m):=by
 have o:=h.own .it trivial;have Q:=h.lt _ _ o;by_cases g:X.F=[]
 .have p:∀r,r≠.af->(X.eC H (b,m)).A r=X.A r:= λr i=>by simp[av.eC,g,i]
  have x:(X.eC H (b,m)).A .af=H.length+1:=by simp[av.eC,g]
  have q:∀a,a≠H.length+1->(X.eC H (b,m)).own a=X.own a:= λa j=>by simp[av.eC,g,j]
  have F:(X.eC H (b,m)).own (H.length+1)=some .af:=by simp[av.eC,g]
  have J:X.own (H.length+1)=none:=by
   cases e:X.own (H.length+1)with
   |none=>rfl
   |some r=>have:=h.lt _ _ e;omega
  have s:X.gX H m=((H++[Ob.row false 1 0 [m]])++[Ob.row true 1 0 [m]]).set (X.A .it) (Ob.box [.ref (X.A .un) 0,.ref (X.A (.fr [])) 0,.d (.bool false),.bC (H.length+1) 0 1,bI (X.A .nx) X.vN X.N.length]):=by simp[av.gX,g]
  have D:H.length<=(X.gX H m).length:=by rw[s];simp
  have y:∀a,a<H.length->a≠X.A .it->(X.gX H m)[a]?=H[a]?:= λa k l=>by
   rw[s,asv (atf l),asl (by simp;omega),asl k]
  have K:(X.gX H m)[X.A .it]?=some (Ob.box [.ref (X.A .un) 0,.ref (X.A (.fr [])) 0,.d (.bool false),.bC (H.length+1) 0 1,bI (X.A .nx) X.vN X.N.length]):=by
   rw[s,as7 (by simp;omega)]
  have L:(X.gX H m)[H.length+1]?=some (Ob.row true 1 0 [m]):=by
   rw[s,asv (by omega),ass (by simp)];simp
  have w:∀a,a<H.length->X.own a=none->(X.eC H (b,m)).own a=none/\(X.gX H m)[a]?=H[a]?:= λa j f=>⟨by rw[q a (by omega)];exact f,y a j (by rintro rfl;rw[o]at f;cases f)⟩
  have A:∀r,X.live c r->(X.eC H (b,m)).live c r/\(X.eC H (b,m)).A r=X.A r:= λr i=>by
   have l:r≠.af:=by rintro rfl;exact i g
   refine⟨?_,p r l⟩;by_cases t:r=.nx
   .subst t;exact i
   .exact(js (X:=X) (Y:=X.eC H (b,m)) W t l).2 i
  refine⟨?_,⟨λ_ _ h=>h,λ_ h=>h,D,w,A,λ_ _=>⟨rfl,rfl⟩,λ_ h=>h,λ_=>atn,λ_ _ _=>atn,λ_ _ h=>h,λ_ _ h=>h,λ_ _ _ _ _=>atn,λ_ _ h=>h,λ_ _ _ _=>rfl,rfl,?_,rfl,rfl,[(b,m)],rfl⟩⟩
  .refine h.Ao (λr=>r=.af\/r=.it) D w (λa G f=>y a (h.lt a _ f) (by rintro rfl;rw[o]at f;cases f)) (λa G=>?_) W W (λa r f=>?_) A (λr i u=>?_) (λr i u=>?_) (λI z=>.inl z) (λI z=>?_)
   .by_cases j:a=H.length+1
    .subst j;rw[F,J];simp
    .rw[q a j]
   .by_cases j:a=H.length+1
    .subst j;rw[s];simp
    .rw[q a j]at f;have:=h.lt a r f;omega
   .have l:r≠.af:= λe=>u (.inl e)
    have k:r≠.it:= λe=>u (.inr e)
    have B:X.live c r:=by
     by_cases t:r=.nx
     .subst t;exact i
     .exact(js (X:=X) (Y:=X.eC H (b,m)) W t l).1 i
    have f:=h.own r B;have N:=h.lt _ _ f;refine⟨B,by rw[q _ (by omega)];exact f,y _ N (h.ne B trivial k),λO E=>?_⟩;by_cases t:r=.nx
    .subst t;exact E
    .exact dY.congr (X:=X) (Y:=X.eC H (b,m)) (λr _ l=>p r l) W W W W W W W k t l E
   .rcases u with rfl|rfl
    .exact⟨by rw[x];exact F,_,by rw[x];exact L,by simp only[av.dY];simp[av.eC,g]⟩
    .refine⟨by rw[p _ (by simp),q _ (by omega)];exact o,_,by rw[p _ (by simp)];exact K,?_⟩;simp only[av.dY];rw[p _ (by simp),p _ (by simp),x,p _ (by simp)];simp[av.eC,g,bI]
   .rcases ast.1 z with k|k
    .exact .inl k
    .rw[asx]at k;subst k;exact .inr (C.up w A)
  .intro I v t;rcases t with t|⟨u,z,E,B,G⟩
   .exact .inl t
   .exact .inr ⟨u,z,E,by show(X.F++_)[u]?=_;exact Jq B,G⟩
 .have l:(X.eC H (b,m)).A=X.A:=by simp[av.eC,g]
  have q:(X.eC H (b,m)).own=X.own:=by simp[av.eC,g]
  have B:X.live c .af:=g;have w:=h.own .af B;have N:=h.lt _ _ w;have K:=h.ne B (r':=.it) trivial (by simp);have s:X.gX H m=((H++[Ob.row false 1 0 [m]]).set (X.A .af) (Ob.row true 1 (X.vF+1) (X.F.map (·.2)++[m]))).set (X.A .it) (Ob.box [.ref (X.A .un) 0,.ref (X.A (.fr [])) 0,.d (.bool false),.bC (X.A .af) (X.vF+1) (X.F.length+1),bI (X.A .nx) X.vN X.N.length]):=by simp[av.gX,g]
  have D:H.length<=(X.gX H m).length:=by rw[s];simp
  have y:∀a,a<H.length->a≠X.A .it->a≠X.A .af->(X.gX H m)[a]?=H[a]?:= λa j k i=>by
   rw[s,asv (atf k),asv (atf i),asl j]
  have G:(X.gX H m)[X.A .it]?=some (Ob.box [.ref (X.A .un) 0,.ref (X.A (.fr [])) 0,.d (.bool false),.bC (X.A .af) (X.vF+1) (X.F.length+1),bI (X.A .nx) X.vN X.N.length]):=by
   rw[s,as7 (by simp;omega)]
  have I:(X.gX H m)[X.A .af]?=some (Ob.row true 1 (X.vF+1) (X.F.map (·.2)++[m])):=by
   rw[s,asv (atf K),as7 (by simp;omega)]
  have x:∀a,a<H.length->X.own a=none->(X.eC H (b,m)).own a=none/\(X.gX H m)[a]?=H[a]?:= λa p f=>⟨by rw[q];exact f,y a p (by rintro rfl;rw[o]at f;cases f) (by rintro rfl;rw[w]at f;cases f)⟩
  have A:∀r,X.live c r->(X.eC H (b,m)).live c r/\(X.eC H (b,m)).A r=X.A r:= λr p=>by
   refine⟨?_,by rw[l]⟩;by_cases k:r=.af
   .subst k;show X.F++_≠[];simp
   by_cases i:r=.nx
   .subst i;exact p
   .exact(js (X:=X) (Y:=X.eC H (b,m)) W i k).2 p
  refine⟨?_,⟨λ_ _ h=>h,λ_ h=>h,D,x,A,λ_ _=>⟨rfl,rfl⟩,λ_ h=>h,λ_=>atn,λ_ _ _=>atn,λ_ _ h=>h,λ_ _ h=>h,λ_ _ _ _ _=>atn,λ_ _ h=>h,λ_ _ _ _=>rfl,rfl,?_,rfl,rfl,[(b,m)],rfl⟩⟩
  .refine h.Ao (λr=>r=.af\/r=.it) D x (λa t f=>y a (h.lt a _ f) (by rintro rfl;rw[o]at f;cases f) (by rintro rfl;rw[w]at f;cases f)) (λa k=>by rw[q]) W W (λa r f=>?_) A (λr p t=>?_) (λr p t=>?_) (λF z=>.inl z) (λF z=>?_)
   .rw[q]at f;have:=h.lt a r f;omega
   .have k:r≠.af:= λe=>t (.inl e)
    have j:r≠.it:= λe=>t (.inr e)
    have u:X.live c r:=by
     by_cases i:r=.nx
     .subst i;exact p
     .exact(js (X:=X) (Y:=X.eC H (b,m)) W i k).1 p
    have f:=h.own r u;have J:=h.lt _ _ f;refine⟨u,by rw[q];exact f,y _ J (h.ne u trivial j) (h.ne u B k),λL E=>?_⟩;by_cases i:r=.nx
    .subst i;exact E
    .exact dY.congr (X:=X) (Y:=X.eC H (b,m)) (λr _ _=>by rw[l]) W W W W W W W j i k E
   .rcases t with rfl|rfl
    .exact⟨by rw[l,q];exact w,_,by rw[l];exact I,by simp only[av.dY];simp[av.eC,g]⟩
    .refine⟨by rw[l,q];exact o,_,by rw[l];exact G,?_⟩;simp only[av.dY];rw[l];simp[av.eC,g,bI]
   .rcases ast.1 z with j|j
    .exact .inl j
    .rw[asx]at j;subst j;exact .inr (C.up x A)
  .intro L v t;rcases t with t|⟨u,z,F,E,J⟩
   .exact .inl t
   .exact .inr ⟨u,z,F,by show(X.F++_)[u]?=_;exact Jq E,J⟩
theorem HQ(h:Pu P c d u X){p:AI×M}(j:AI.ok P c d X p.1):Pu P c d u (X.eC H p)/\(∀k v,(k,v)∈((p.1.own,p.1.v)::p.1.w)->(X.eC H p).S c k v)/\(X.eC H p).T c=X.T c+(1+p.1.w.length):=by
 refine⟨h.more W W W W W W (λk v b=>?_) (λq a=>a) (λq a=>.inl a) (λq a=>?_) (by show X.fi<=(X.F++[p]).length;have:=h.fl;simp;omega) h.fn,λk v f=>.inr ⟨X.F.length,p,h.fl,by show(X.F++[p])[X.F.length]?=_;simp,by grind⟩,?_⟩
 .rcases b with b|⟨i,q,g,a,f⟩
  .exact .inl b
  .exact .inr ⟨i,q,g,Jq a,f⟩
 .rcases ast.1 a with g|g
  .exact .inl g
  .grind
 .have e:(X.eC H p).cw=X.cw:=by funext i;cases i<;>rfl
  unfold av.T;rw[e];show X.N.length+aR (((X.F++[p]).drop X.fi).map _)+_=_;rw[auB h.fl,asN,kJ];simp;show _+(_+(1+p.1.w.length+0))+_=_;omega
end
end Go.Proofs.Sz
namespace Go.Mt
section
variable{X:bW}{ops:Array Oper}{rest:List Oper}{sl:List (Nat×V)}{bx:List (Nat×List M)}{H:Hp}{post:St->Prop}{d ty:Nat}{pos:String}{af:Array Edge}
def Fc{t e n h:Nat}{y x:Operand}{rows:List (List D)}{b:IntKind}[ht:aU X.P t e][s:bY X.P e n](c:Nat.blt d X.n=true)(f:bh sl x=some (.m (.d (.sl rows))))(i:bh sl y=some (.m (.d (.int b ((h:Nat):Int)))))(j:rows≠[])(p:h<=rows.length)(m:∀r∈rows,r.length=n)
  (k:TL X ops rest ⟨(d,.m (.d (B1 (rows.take h))))::sl,bx,H⟩ post):TL X ops (⟨some d,.slice t x none (some y) none,ty,pos,af,none⟩::rest) ⟨sl,bx,H⟩ post:=by
 refine Pf (v:=.m (.d (B1 (rows.take h)))) (O5:=sl) (Po:=bx) (H':=H) W W c ?_ k;have this:=uH (X:=X) (st:=⟨sl,bx,H⟩) (dst:=some d) (ty:=ty) (pos:=pos) (af:=af) (g:=none) (t:=t) (lo:=none) (hi:=some y) (l:=none) (h:=some h) f W (by simp only[uG,St.ev,i]) j (as2 _) p m;have o:(rows.drop ((none:Option Nat).getD 0)).take (((some h:Option Nat).getD rows.length)-(none:Option Nat).getD 0)=rows.take h:=by simp
 rw[o]at this;cases a:rows.take h with
 |nil=>rw[a]at this;exact this
 |cons q r=>rw[a]at this;exact this
end
end Go.Mt
namespace Go.Proofs.Sz
open Go.Mt Go.Sm Go.Proofs
open Tryz
section
variable{P:Pg}{n:Nat}{c:aI}{d:Nd}{u:US}{X:av}{H:Hp}
def La(h:cD P n c d X H)(a:X.F≠[]):H[X.A .af]?=some (.row true 1 X.vF (X.F.map (·.2))):=by
 obtain⟨f,b,e⟩:=h.ob .af a;rw[b,e]
def qK(h:cD P n c d X H):∀b,H.length<=b->X.own b=none:= λb a=>by
 cases e:X.own b with
 |none=>rfl
 |some r=>have:=h.lt b r e;omega
structure MK(c:aI)(X:av)(H:Hp)(m:M)(ai:AI)(bk:Nat)(km:M)(e:Xp)(i:Nat)(a:Nat):Prop where
 m:m=.fn 124 [.ref bk 0,.d (.aZ [iN i] 0)]
 bk:X.box H bk km
 sZ:X.sZ c H km ai.π e a
 sm:jD e
 hk:e.kids[i]?=some ai.e
 hl:e.kids.length=i+1
 ha:ai.a=a+aR ((e.kids.take i).map xP)
def A2(q:cS P n c d u X H)(ac:X.F.length<=1000000000000){m:M}{ai:AI}{b:Nat}{km:M}{e:Xp}{i s:Nat}(A:MK c X H m ai b km e i s)(B:AI.ok P c d X ai):
  DT prog 123 [.ref (X.A .it) 0,m,.d (.int .i64 (ai.own:Int))] H λr K=>∃Y,cS P n c d u Y K/\bf c (λ_=>False) X H Y K/\Y.cs=X.cs/\Y.fs=X.fs/\Y.dn=X.dn/\Y.lv=X.lv/\Y.x=X.x/\Y.N=X.N/\Y.T c<=X.T c+(1+ai.w.length)/\∀k v,(k,v)∈((ai.own,ai.v)::ai.w)->Y.S c k v:=by
 have h:=q.lay;have o:=qK h;obtain⟨rfl,C,D,E,F,G,S⟩:=A;have f:(H++[Ob.box [.ref (X.A .it) 0]]++[Ob.box [.fn 124 [.ref b 0,.d (.aZ [iN i] 0)]]])[H.length]?=some (Ob.box [.ref (X.A .it) 0]):=by simp
 have t:(H++[Ob.box [.ref (X.A .it) 0]]++[Ob.box [.fn 124 [.ref b 0,.d (.aZ [iN i] 0)]]])[(H++[Ob.box [M.ref (X.A .it) 0]]).length]?=some (Ob.box [.fn 124 [.ref b 0,.d (.aZ [iN i] 0)]]):=by simp
 have j:=(h.grow [Ob.box [.ref (X.A .it) 0]]).grow [Ob.box [.fn 124 [.ref b 0,.d (.aZ [iN i] 0)]]];have l:=(bf.grow c (λ_=>False) X H [Ob.box [.ref (X.A .it) 0]]).trans (bf.grow c (λ_=>False) X _ [Ob.box [.fn 124 [.ref b 0,.d (.aZ [iN i] 0)]]]);refine DT.ob func123 W ntmps123 W<|dO [2,7] W<|Oq (cF W W W)<|dR [8] W<|Oq (cF W W W)<|dL [] W ?_;generalize U:H++[Ob.box [.ref (X.A .it) 0]]++[Ob.box [.fn 124 [.ref b 0,.d (.aZ [iN i] 0)]]]=K at f t j l;have a:=j.inst;have I:X.y8 c K (.fn 142 [.ref (H++[Ob.box [M.ref (X.A .it) 0]]).length 0,.ref H.length 0,.d (.aZ [.int .i64 (ai.own:Int)] 0)]) ai:=
  ⟨_,_,b,km,e,i,s,rfl,⟨o _ (by simp),t⟩,C.up l.iD,⟨o _ (asj _),f⟩,D.up l.iD l.A,E,F,G,S⟩
 obtain⟨J,N⟩:=E_ j I;obtain⟨O,Q,T⟩:=HQ q.pu (p:=(ai,.fn 142 [.ref (H++[Ob.box [M.ref (X.A .it) 0]]).length 0,.ref H.length 0,.d (.aZ [.int .i64 (ai.own:Int)] 0)])) B (H:=K);have w:∀L,X.gX K (.fn 142 [.ref (H++[Ob.box [M.ref (X.A .it) 0]]).length 0,.ref H.length 0,.d (.aZ [.int .i64 (ai.own:Int)] 0)])=L->∃Y,cS P n c d u Y L/\bf c (λ_=>False) X H Y L/\Y.cs=X.cs/\Y.fs=X.fs/\Y.dn=X.dn/\Y.lv=X.lv/\Y.x=X.x/\Y.N=X.N/\Y.T c<=X.T c+(1+ai.w.length)/\∀k v,(k,v)∈((ai.own,ai.v)::ai.w)->Y.S c k v:=by
  rintro L rfl;exact⟨_,⟨J,O⟩,l.trans N,W,W,W,W,W,W,Nat.le_of_eq T,Q⟩
 let x:M->Hp->Prop:= λz L=>L[H.length]?=some (Ob.box [.ref (X.A .it) 0])/\L[X.A .it]?=some (Ob.box [.ref (X.A .un) 0,.ref (X.A (.fr [])) 0,.d (.bool false),z,bI (X.A .nx) X.vN X.N.length])
 by_cases g:X.F=[]
 .have y:bI (X.A .af) X.vF X.F.length=.d (.sl []):=by simp[g,bI]
  rw[y]at a;refine dC [] W ?_;apply PL (x (.d (.sl []))) (⟨f,a⟩) bX
  .intro R V;refine OH W W (λL h=>⟨_,h.1,rfl⟩)<|OH W W (λL h=>⟨_,h.1,rfl⟩)<|iR 2 W<|OH W W (λL h=>⟨_,h.2,rfl⟩) ?_;apply OA
   .skip
    refine eW W W<|TF.nil ⟨W,W⟩
   apply OA
   .skip
    refine dW (cs:=[_]) W W W W W W<|TF.nil ⟨W,W⟩
   apply OA
   .skip
    refine o9 true W W W (lV _ _) W W (by decide) (by decide)<|TF.nil ⟨rfl,rfl⟩
   refine iR 2 W ?_;apply OA
   .skip
    refine fK W W (bu (bu a)) W W W<|TF.nil ⟨W,W⟩
   exact jr.nil ⟨by kernel_rfl,by repeat' first|exact trivial|exact .inl ((by first|exact⟨bu f,bu a⟩|exact⟨bu (bu f),bu (bu a)⟩))|exact .inr (by kernel_rfl)|refine⟨?_,?_⟩,rfl⟩
  refine⟨_,W,w _ ?_⟩;simp only[av.gX,asB g,asq,asS];rfl
 .have R:bI (X.A .af) X.vF X.F.length=.bC (X.A .af) X.vF X.F.length:=by unfold bI;rw[asu];intro e;exact g (atb e)
  rw[R]at a;have y:=j.ne (r:=.af) (r':=.it) g trivial (by simp);refine dC [] W ?_;apply PL (x (.bC (X.A .af) X.vF X.F.length)) (⟨f,a⟩) bX
  .intro V Z;refine OH W W (λL h=>⟨_,h.1,rfl⟩)<|OH W W (λL h=>⟨_,h.1,rfl⟩)<|iR 2 W<|OH W W (λL h=>⟨_,h.2,rfl⟩) ?_;apply OA
   .skip
    refine eW W W<|TF.nil ⟨W,W⟩
   apply OA
   .skip
    refine dW (cs:=[_]) W W W W W W<|TF.nil ⟨W,W⟩
   apply OA
   .skip
    refine o_ W W W (lV _ _) (bu (La j g)) W (by omega) (by omega)<|TF.nil ⟨rfl,rfl⟩
   refine iR 2 W ?_;apply OA
   .skip
    refine fK W W (fV (bu a) y) W W W<|TF.nil ⟨W,W⟩
   exact jr.nil ⟨by kernel_rfl,by repeat' first|exact trivial|exact .inl ((by first|exact⟨bu f,bu a⟩|exact⟨fV (bu f) (by intro e;have:=h.own .af g;rw[e,o _ (asj _)]at this;cases this),fV (bu a) y⟩))|exact .inr (by kernel_rfl)|refine⟨?_,?_⟩,rfl⟩
  refine⟨_,W,w _ ?_⟩;simp only[av.gX,asu g];rfl
theorem Gr{f g:Nat}{n o:M}{e:Xp}{a i:Nat}{k:Xp}(p:jD e)(z:a+aR (e.kids.map xP)<=1000000000)(r:e.kids[i]?=some k)(A:H[f]?=some (.box [n]))(B:H[g]?=some (.box [o])){post:M->Hp->Prop}
  (s:DT prog 91 [n,o,.d (.agg k.cells),.d (.int .i64 (((a+aR ((e.kids.take i).map xP):Nat)):Int))] H post):
  DT prog 120 [dN i,.d (.aZ [.int .i64 (a:Int)] 0),.d (.aZ e.cells 0),.ref f 0,.ref g 0] H post:=by
 have h:i<e.kids.length:=by
  rcases asp i e.kids.length with j|j
  .exact j
  .grind
 have C:aR (e.kids.map xP)<=1000000000:=by omega
 have N:=z;have w:∀q∈e.kids,jD q:= λq D=>p.sZ D
 have E:=p.kids;rw[e.aA];generalize e.kids=b at r h C N w E s⊢;obtain⟨y,O,F,t⟩:=s;have G:b.map Xp.cells≠[]:=by
                    intro j;have:(b.map Xp.cells).length=0:=by rw[j];rfl
                    simp at this;rw[this]at h;simp at h
 refine DT.ob func120 W ntmps120 W<|dO [2,2,2,18] W<|Oq (Fc W W W G (by simp;omega) (by intro y I;obtain⟨_,_,rfl⟩:=asK.1 I;exact Xp.len _))<|dR [19] W<|Oq (bK W W (Hs _)) ?_;rw[show((b.map Xp.cells).take i).length=i by simp;omega];refine dL [] W<|OB [nN 16 0,nN 15 i,nD 14 (B1 ((b.map Xp.cells).take i)),nN 7 (a+aR ((b.take 0).map xP)),nN 0 i,nD 2 (.aZ (bQ e.kd e.op e.num e.nm e.names (b.map Xp.cells) e.ps) 0),nR 3 f,nR 4 g] H W W<|dC [] W<|Ps (λu=>∃d,u=⟨[nN 7 (a+aR ((b.take i).map xP)),nN 0 i,nD 2 (.aZ (bQ e.kd e.op e.num e.nm e.names (b.map Xp.cells) e.ps) 0),nR 3 f,nR 4 g],d,H⟩) ?_ ?_
 .refine dC [3] W ?_;obtain⟨l,J⟩:∃l,l=bQ e.kd e.op e.num e.nm e.names (b.map Xp.cells) e.ps:=⟨_,rfl⟩;rw[<-J];refine DC.lp (λk s=>∃(j:Nat) (d:List (Nat×List M)),s=⟨[nN 16 j,nN 15 i,nD 14 (B1 ((b.map Xp.cells).take i)),nN 7 (a+aR ((b.take j).map xP)),nN 0 i,nD 2 (.aZ l 0),nR 3 f,nR 4 g],d,H⟩/\j<=i/\k=i-j) i _
   ⟨0,_,rfl,by omega,rfl⟩ W ?_
  rintro k P ⟨j,d,rfl,Q,rfl⟩;refine dC [2] W<|DC.cond W (λv=>?_) (λv=>?_)
  .have S:j<i:=by have:=asC v;omega
   have x:j<b.length:=by omega
   have c:((b.map Xp.cells).take i)[((j:Nat):Int).toNat]?=some b[j].cells:=by grind
   obtain⟨K,U⟩:=fY xP x;have m:=jN b[j] (w _ (asE x)) (by grind);generalize b[j]=q at c m K;rw[q.aA]at c m;have L:((a+aR ((b.take j).map xP):Nat):Int)+((xP q:Nat):Int)=((a+aR ((b.take (j+1)).map xP):Nat):Int):=by omega
   generalize (b.map Xp.cells).take i=R at c⊢;cases R with
   |nil=>simp at c
   |cons T R=>
    refine dO [3,2,22] W<|Oq (aP W W W (asm j) c W)<|dR [2,26] W<|Oq (aL m W W)<|dR [27] W<|Oq (ay W W W (by omega)) ?_;rw[L];refine dR [2,28] W<|Oq (ay W W W (by omega))<|dL [] W<|bG (k':=i-(j+1)) (by omega) ⟨j+1,_,rfl,by omega,rfl⟩ W W
  .refine DC.exit ?_;have m:j=i:=by grind
   subst m;exact⟨_,⟨d,W⟩,cN W W⟩
 rintro u ⟨d,rfl⟩;have c:(b.map Xp.cells)[((i:Nat):Int).toNat]?=some k.cells:=by simp[r]
 rw[k.aA]at c t;refine dC [] W ?_;apply Ow bX
 .intro j l;refine aw W W A W<|aw W W B W<|fR 3 W<|bJ W W W (asm i) c W<|fR 2 W<|bp t W W<|fR 1 W<|TF.nil ⟨by kernel_rfl,rfl⟩
 exact DC.ret ⟨_,W,F⟩
end
end Go.Proofs.Sz
