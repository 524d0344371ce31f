/- A part of the proof of the last text of this claim, without conditions. -/
import Derived.Test.YtbafhpblecdbbaaGreatDoorF
set_option maxRecDepth 4000
set_option linter.all false
namespace Go.Ps
open Go.Mt Go.Sm
variable{n i:Nat}{B:List M}
abbrev Mr:=(List Nm×List Nm)×(M×M)
variable{x:Mr}{l a b:List Mr}
def ji(c:Nm)(p:Int×Int)(x:Mr):List M:=[.d (.int .u8 13),.d (.int .u8 0),.d (.int .i32 0),.d (.str c),x.2.1,x.2.2,.d (.int .i64 p.1),.d (.int .i64 p.2)]
def eN(l:List Nm):List (List D):=l.map λv=>(bz v).cells
def kT(x:Mr):List As:=[.acc 1 (aR x.1.1) x.2.1,.own 8 (eN x.1.2) x.2.2]
def ep(c:Nm)(p:Int×Int)(l:List Mr):List M:=l.flatMap (ji c p)
def nH(i:Nat)(c:Nm)(p:Int×Int)(l:List Mr):As:=Sep (.ob i (.row false 8 0 (ep c p l))::l.flatMap kT)
def qx(c:Nm)(p:Int×Int)(l:List Mr):(ep c p l).length=l.length*8:=by
 induction l with
 |nil=>rfl
 |cons x l a=>simp only[ep,ah9,agq,agA]at a⊢;rw[a];simp[ji];omega
def oO(c:Nm)(p:Int×Int)(a b:List Mr):ep c p (a++b)=ep c p a++ep c p b:=by simp[ep]
def Cd(c:Nm)(p:Int×Int)(a b:List Mr)(x:Mr){k:Nat}(d:k<8):(ep c p (a++x::b))[a.length*8+k]?=(ji c p x)[k]?:=by
 have e:ep c p (x::b)=ji c p x++ep c p b:=by simp[ep]
 rw[oO,e,agP (by rw[qx];omega),qx,agF (by simp[ji];omega)]
 congr 1;omega
def wM{a b new iG:List M}{off:Nat}(c:off=a.length)(d:new.length=iG.length):dE (a++iG++b) off new=some (a++new++b):=by
 subst c;unfold dE;rw[agV (by simp;omega),ag6,d];simp
def oP(c:Nm)(p:Int×Int)(x:Mr)(b:List Mr):ep c p (x::b)=ji c p x++ep c p b:=by simp[ep]
def Hw(c:Nm)(p:Int×Int)(a b:List Mr)(x:Mr)(y:List Nm×List Nm)(m:M):dE (ep c p (a++x::b)) (a.length*8+4) [m]=some (ep c p (a++(y,(m,x.2.2))::b)):=by
 rw[oO,oO,oP,oP];have d:ep c p a++(ji c p x++ep c p b)=(ep c p a++[.d (.int .u8 13),.d (.int .u8 0),.d (.int .i32 0),.d (.str c)])++[x.2.1]++([x.2.2,.d (.int .i64 p.1),.d (.int .i64 p.2)]++ep c p b):=by simp[ji]
 have e:ep c p a++(ji c p (y,(m,x.2.2))++ep c p b)=(ep c p a++[.d (.int .u8 13),.d (.int .u8 0),.d (.int .i32 0),.d (.str c)])++[m]++([x.2.2,.d (.int .i64 p.1),.d (.int .i64 p.2)]++ep c p b):=by simp[ji]
 rw[d,e];exact wM (by simp[qx]) W
def Ce(c:Nm)(p:Int×Int)(a b:List Mr)(x:Mr)(y:List Nm×List Nm)(m:M):dE (ep c p (a++x::b)) (a.length*8+5) [m]=some (ep c p (a++(y,(x.2.1,m))::b)):=by
 rw[oO,oO,oP,oP];have d:ep c p a++(ji c p x++ep c p b)=(ep c p a++[.d (.int .u8 13),.d (.int .u8 0),.d (.int .i32 0),.d (.str c),x.2.1])++[x.2.2]++([.d (.int .i64 p.1),.d (.int .i64 p.2)]++ep c p b):=by simp[ji]
 have e:ep c p a++(ji c p (y,(x.2.1,m))++ep c p b)=(ep c p a++[.d (.int .u8 13),.d (.int .u8 0),.d (.int .i32 0),.d (.str c),x.2.1])++[m]++([.d (.int .i64 p.1),.d (.int .i64 p.2)]++ep c p b):=by simp[ji]
 rw[d,e];exact wM (by simp[qx]) W
section
variable{F0:Nat->Prop}{H0 H:Hp}{r:List As}{i:Nat}{c:Nm}{p:Int×Int}
def nH.open(w:Wk F0 H0 (nH i c p (a++x::b)::r) H):
  Wk F0 H0 (.ob i (.row false 8 0 (ep c p (a++x::b))):: .acc 1 (aR x.1.1) x.2.1:: .own 8 (eN x.1.2) x.2.2::Sep (a.flatMap kT++b.flatMap kT)::r) H:=by
 have d:((As.ob i (.row false 8 0 (ep c p (a++x::b)))::(a++x::b).flatMap kT)++r).Perm ((a.flatMap kT++b.flatMap kT)++(.ob i (.row false 8 0 (ep c p (a++x::b))):: .acc 1 (aR x.1.1) x.2.1:: .own 8 (eN x.1.2) x.2.2::r)):=by
  rw[aia,ah9];have e:kT x=[.acc 1 (aR x.1.1) x.2.1,.own 8 (eN x.1.2) x.2.2]:=rfl;rw[e];simp only[agQ,ahi,ag2];refine(ahe).symm.trans<|ajo _ ?_;have d:∀(u v w:As) (l:List As),(u::v::w::(l++r)).Perm (l++u::v::w::r):=by
   intro u v w l;refine(List.Perm.cons u (List.Perm.cons v (ahe).symm)).trans<|(List.Perm.cons u (ahe).symm).trans<|(ahe).symm
  exact d _ _ _ _
 have f:=(Wk.split (a:=.ob i (.row false 8 0 (ep c p (a++x::b)))::(a++x::b).flatMap kT) w).perm d;exact(MP (a:=a.flatMap kT++b.flatMap kT) f).perm (by
  refine(List.Perm.swap _ _ _).trans<|List.Perm.cons _<|(List.Perm.swap _ _ _).trans<|List.Perm.cons _<|List.Perm.swap _ _ _)
def nH.close(w:Wk F0 H0 (.ob i (.row false 8 0 (ep c p (a++x::b))):: .acc 1 (aR x.1.1) x.2.1:: .own 8 (eN x.1.2) x.2.2::Sep (a.flatMap kT++b.flatMap kT)::r) H):
  Wk F0 H0 (nH i c p (a++x::b)::r) H:=by
 have d:=w.perm (by
  refine(List.Perm.cons _ (List.Perm.cons _ (List.Perm.swap _ _ _))).trans<|(List.Perm.cons _ (List.Perm.swap _ _ _)).trans<|List.Perm.swap _ _ _)
 refine MP (a:=.ob i (.row false 8 0 (ep c p (a++x::b)))::(a++x::b).flatMap kT) ((Wk.split d).perm ?_);rw[aia,ah9];have e:kT x=[.acc 1 (aR x.1.1) x.2.1,.own 8 (eN x.1.2) x.2.2]:=rfl;rw[e];simp only[agQ,ahi,ag2];refine List.Perm.symm<|(ahe).symm.trans<|ajo _ ?_;have d:∀(u v w:As) (l:List As),(u::v::w::(l++r)).Perm (l++u::v::w::r):=by
  intro u v w l;refine(List.Perm.cons u (List.Perm.cons v (ahe).symm)).trans<|(List.Perm.cons u (ahe).symm).trans<|(ahe).symm
 exact d _ _ _ _
abbrev qy:Mr:=(([],[]),(.d (.sl []),.d (.sl [])))
def nH.init(n:Nat)(w:Wk F0 H0 (.ob i (.row false 8 0 (ep c p (List.replicate n qy)))::r) H):Wk F0 H0 (nH i c p (List.replicate n qy)::r) H:=by
 have d:∀(n:Nat) {l:List As},Wk F0 H0 l H->Wk F0 H0 ((List.replicate n qy).flatMap kT++l) H:=by
  intro n
  induction n with
  |zero=>intro l w;exact w
  |succ n b=>
   intro l w;rw[List.replicate_succ,ah9];exact((b w).Kh 8).nil 1
 refine MP (a:=.ob i (.row false 8 0 (ep c p (List.replicate n qy)))::(List.replicate n qy).flatMap kT) ((d n w).perm ?_);exact ahe
end
def Cg{z:List D}(c:z.length=n)(g:0<n):∀len,fM n len z=bf (List.replicate len z):=by
 intro len
 induction len with
 |zero=>simp[fM,bf]
 |succ k d=>
  have f:bf (List.replicate (k+1) z)=bf (List.replicate k z)++z.map M.d:=by
   rw[List.replicate_succ'];simp[bf]
  rw[f,<-d];unfold fM;rw[ahK,List.range_add,agI]
  congr 1
  rw[aiS];apply aiD
  .simp[c]
  .intro i a b;simp only[agt,aij]at a;simp only[aip,List.getElem_range,Function.comp]
   congr 1
   have e:(k*n+i)%z.length=i:=by rw[c,aio,Nat.add_mul_mod_self_right,Nat.mod_eq_of_lt a]
   rw[e];simp[List.getD_eq_getElem?_getD,c,a]
def Hx{α β:Type}{G a:List α}{l:List (α×β)}(b:l.map Prod.fst=a.take i++G.drop i)(c:a.length=G.length)(hi:i<G.length):
  ∃b y c,l=b++(G[i],y)::c/\b.length=i/\∀d,(b++(a[i]'(by omega),d)::c).map Prod.fst=a.take (i+1)++G.drop (i+1):=by
 have c:l.length=G.length:=by
  have:=ahA List.length b;simp only[agt,agq,agM,aiH]at this;omega
 have c:i<l.length:=by omega
 have d:l=l.take i++l[i]::l.drop (i+1):=by rw[ajf c,ahf]
 have e:l[i].1=G[i]:=by
  have:(l.map Prod.fst)[i]?=(a.take i++G.drop i)[i]?:=by rw[b]
  rw[agP (by rw[agM];omega),agM,ahN (by omega),ahP]at this;simp[c,hi]at this;exact this
 have c:l.map Prod.fst=(l.take i).map Prod.fst++l[i].1::(l.drop (i+1)).map Prod.fst:=by
  have:=ahA (List.map Prod.fst) d;rw[agI,agH]at this;exact this
 have c:(l.take i).map Prod.fst=a.take i:=by
  have:=ahA (List.take i) b;rw[<-ajq,aiK (by rw[agM];omega),List.take_take,Nat.min_self]at this;exact this
 have a:(l.drop (i+1)).map Prod.fst=G.drop (i+1):=by
  have:=ahA (List.drop (i+1)) b;rw[<-List.map_drop,ai6,agM,ahN (by omega)]at this;rw[this,ajc (by rw[agM];omega),ag2,List.drop_drop]
  congr 1;omega
 refine⟨l.take i,l[i].2,l.drop (i+1),?_,by rw[agM];omega,λb=>?_⟩
 .rw[<-e];exact d
 .rw[agI,agH,c,a,agp (by omega),ahi];rfl
def tT(s:Sc)(y:Nm):∀(l:List Nm) (r:R),y∉l->(l.foldl (ek s) r).s.vars y=r.s.vars y
 |[],r,_=>rfl
 |x::l,r,h=>by
  rw[agy,tT s y l _ (λe=>h (by simp[e]))];show(Env.set r.s.vars x _) y=_;unfold Env.set;rw[agw (λe=>h (by simp[e]))]
def Ch(s:Sc):∀(l:List Nm) (r:R),(l.foldl (ek s) r).m.n=r.m.n+l.length
 |[],r=>rfl
 |x::l,r=>by rw[agy,Ch s l];simp[ek,MS.fresh];omega
def Aa(s:Sc):∀(l:List Nm) (r:R) (i:Nat) (h:i<l.length),l.Nodup->(l.foldl (ek s) r).s.vars.nm l[i]=nV (r.m.n+i+1)
 |[],r,i,h,_=>by simp at h
 |x::l,r,0,h,a=>by
  rw[ahB]at a;rw[agy];unfold Env.nm;rw[ahM,tT s x l _ a.1];show(match(Env.set r.s.vars x _) x with|some b=>b.name|none=>_)=_;unfold Env.set;rw[agK W]
 |x::l,r,i+1,h,a=>by
  rw[ahB]at a;rw[agy,ahE,Aa s l _ i (by simpa using h) a.2];have:(ek s r x).m.n=r.m.n+1:=rfl;rw[this];have e:r.m.n+1+i+1=r.m.n+(i+1)+1:=by omega
  rw[e]
def DJ(s:Sc)(l:List Nm)(r:R)(c:l.Nodup):l.map (l.foldl (ek s) r).s.vars.nm=(List.range l.length).map λi=>nV (r.m.n+i+1):=by
 apply aiD
 .simp
 .intro i a b;simp only[agt]at a;rw[aip,Aa s l r i a c,aip,List.getElem_range]
def Ci{l:List Nm}(h:l.Nodup)(x:Nm):(dh l x).Nodup:=by
 unfold dh;split
 .exact h
 .rename_i d;rw[ah6];refine⟨h,by simp,λc e b a=>?_⟩;rw[ag9]at a;rintro rfl;apply d;rw[di,ahX];exact⟨c,e,by simp[a]⟩
def n7:∀(r:List Nm) {l:List Nm},l.Nodup->(r.foldl dh l).Nodup
 |[],l,h=>h
 |x::r,l,h=>by rw[agy];exact n7 r (Ci h x)
def rK:∀(aq:List aP) {l:List Nm},l.Nodup->(aZ l aq).Nodup
 |[],l,h=>by rw[aZ];exact h
 |a::aq,l,h=>by rw[aZ];exact rK aq (n7 _ h)
abbrev zX:List D:=[.int .u8 0,.int .u8 0,.int .i32 0,.str ⟨#[]⟩,.sl [],.sl [],.int .i64 0,.int .i64 0]
def Hy(c:Nm)(p:Int×Int)(hi:i<n):dE (ep c p (List.replicate i qy)++bf (List.replicate (n-i) zX)) (i*8) (ji c p qy)=some (ep c p (List.replicate (i+1) qy)++bf (List.replicate (n-(i+1)) zX)):=by
 have a:n-i=(n-(i+1))+1:=by omega
 have b:bf (List.replicate (n-i) zX)=zX.map M.d++bf (List.replicate (n-(i+1)) zX):=by rw[a,List.replicate_succ];simp[bf]
 have a:ep c p (List.replicate (i+1) qy)=ep c p (List.replicate i qy)++ji c p qy:=by rw[List.replicate_succ',oO];simp[ep]
 rw[b,a,<-ahi];exact wM (by simp[qx]) W
def zi(i:Nat)(c:Nm)(p:Int×Int)(k:Nat)(l:List Mr):As:=.ex λA:List M=>Sep (.fact (A.length=k*8):: .ob i (.row false 8 0 (A++ep c p l))::l.flatMap kT)
section
variable{F0:Nat->Prop}{H0 H:Hp}{r:List As}{i k:Nat}{c:Nm}{p:Int×Int}
def zi.start(w:Wk F0 H0 (nH i c p l::r) H):Wk F0 H0 (zi i c p 0 l::r) H:=by
 refine Ng (φ:= λA:List M=>Sep (.fact (A.length=0*8):: .ob i (.row false 8 0 (A++ep c p l))::l.flatMap kT)) ([]:List M)<|MP (a:=.fact (([]:List M).length=0*8):: .ob i (.row false 8 0 ([]++ep c p l))::l.flatMap kT) ((Wk.split (a:=.ob i (.row false 8 0 (ep c p l))::l.flatMap kT) w).zI W)
def zi.open(w:Wk F0 H0 (zi i c p k (x::l)::r) H):∃A:List M,A.length=k*8/\
  Wk F0 H0 (.ob i (.row false 8 0 (A++(ji c p x++ep c p l))):: .acc 1 (aR x.1.1) x.2.1:: .own 8 (eN x.1.2) x.2.2::Sep (l.flatMap kT)::r) H:=by
 obtain⟨A,w⟩:=Wk.open w;have w:=Wk.split w;refine⟨A,w.BO,?_⟩;have w:=w.drop;rw[oP]at w;have e:(x::l).flatMap kT=.acc 1 (aR x.1.1) x.2.1:: .own 8 (eN x.1.2) x.2.2::l.flatMap kT:=by simp[kT]
 rw[e]at w;have a:Wk F0 H0 (l.flatMap kT++(.ob i (.row false 8 0 (A++(ji c p x++ep c p l))):: .acc 1 (aR x.1.1) x.2.1:: .own 8 (eN x.1.2) x.2.2::r)) H:=by
  refine w.perm ?_;have b:∀(u v w:As) (l:List As),((u::v::w::l)++r).Perm (l++u::v::w::r):=by
   intro u v w l;simp only[agQ];refine(List.Perm.cons u (List.Perm.cons v (ahe).symm)).trans<|(List.Perm.cons u (ahe).symm).trans<|(ahe).symm
  exact b _ _ _ _
 exact(MP a).perm ((List.Perm.swap _ _ _).trans (List.Perm.cons _ ((List.Perm.swap _ _ _).trans (List.Perm.cons _ (List.Perm.swap _ _ _)))))
def zi.close(b:B.length=k*8)(w:Wk F0 H0 (.ob i (.row false 8 0 (B++ep c p l))::Sep (l.flatMap kT)::r) H):Wk F0 H0 (zi i c p k l::r) H:=by
 refine Ng (φ:= λA:List M=>Sep (.fact (A.length=k*8):: .ob i (.row false 8 0 (A++ep c p l))::l.flatMap kT)) B<|MP (a:=.fact (B.length=k*8):: .ob i (.row false 8 0 (B++ep c p l))::l.flatMap kT) (Wk.zI b ?_);exact(Wk.split (w.perm (List.Perm.swap _ _ _))).perm ahe
end
def Hz{H:Hp}{c:Nm}{p:Int×Int}{A:List M}{a b:List (List D)}(f:eK H x.2.1=some (.sl a))(i:eK H x.2.2=some (.sl b)):
  (A++(ji c p (x.1,(.d (.sl a),.d (.sl b)))++B)).length=(A++(ji c p x++B)).length/\∀(k:Nat) e,(A++(ji c p (x.1,(.d (.sl a),.d (.sl b)))++B))[k]?=some e->(A++(ji c p x++B))[k]?=some e\/∃m d,(A++(ji c p x++B))[k]?=some m/\eK H m=some d/\e=.d d:=by
 refine⟨by simp[ji],λk l e=>?_⟩;rcases agJ k A.length with h|h
 .rw[agF h]at e⊢;exact .inl e
 .rw[agP h]at e⊢;generalize k-A.length=j at e;rcases agJ j 8 with g|g
  .rw[agF (by simpa [ji] using g)]at e⊢
   match j,g with
   |0,_=>exact .inl e
   |1,_=>exact .inl e
   |2,_=>exact .inl e
   |3,_=>exact .inl e
   |4,_=>exact .inr ⟨x.2.1,.sl a,W,f,by simpa [ji] using e.symm⟩
   |5,_=>exact .inr ⟨x.2.2,.sl b,W,i,by simpa [ji] using e.symm⟩
   |6,_=>exact .inl e
   |7,_=>exact .inl e
  .rw[agP (by simpa [ji] using g)]at e⊢;exact .inl e
end Go.Ps
namespace Go.Ps
open Go.Mt Go.Sm
def Ab(en:List En)(c:Nm)(all:List Nm):∀(a b:List aP) (r:R) (d:List (List Nm)),c7 en c all (a++b) r d=c7 en c all b (c7 en c all a r d).1 (c7 en c all a r d).2
 |[],b,r,d=>by rw[km];rfl
 |.mk n e u w p::a,b,r,d=>by rw[agQ,jY,jY];exact Ab en c all a b _ _
def DK(en:List En)(c:Nm)(all:List Nm)(l:List aP)(a:aP)(r:R)(d:List (List Nm)):c7 en c all (l++[a]) r d=
  (⟨(c7 en c all l r d).1.s,(h_ en false a.a_ (eM all a.a_ a.ps (eb c all a.name (c7 en c all l r d).1)).s (eM all a.a_ a.ps (eb c all a.name (c7 en c all l r d).1)).m).1,
   (eM all a.a_ a.ps (eb c all a.name (c7 en c all l r d).1)).q++(h_ en false a.a_ (eM all a.a_ a.ps (eb c all a.name (c7 en c all l r d).1)).s (eM all a.a_ a.ps (eb c all a.name (c7 en c all l r d).1)).m).2⟩,
  (c7 en c all l r d).2++[all.map (eb c all a.name (c7 en c all l r d).1).s.vars.nm]):=by
 rw[Ab];cases a with|mk n b u w p=>
 rw[jY,km];rfl
def xZ(en:List En)(c:Nm)(all:List Nm):∀(l:List aP) (r:R) (a:List (List Nm)),(c7 en c all l r a).2.length=a.length+l.length
 |[],r,a=>by rw[km];rfl
 |.mk n b u w p::l,r,a=>by rw[jY,xZ en c all l];simp;omega
def DM(l:List Nm):∀r∈eN l,r.length=8:=by intro r a;simp only[eN,agC]at a;obtain⟨v,_,rfl⟩:=a;rw[Xp.aj];rfl
def x9(n:Nat)(ns:List Nm)(a:List (List Nm)):List (List Nm×List Nm):=(List.range n).map λj=>(ns,a.map λv=>v[j]?.getD ⟨#[]⟩)
def tU(n:Nat)(ns:List Nm)(a:List (List Nm)):(x9 n ns a).length=n:=by simp[x9]
def x_(n:Nat)(ns:List Nm)(a:List (List Nm)){j:Nat}(h:j<(x9 n ns a).length):(x9 n ns a)[j]=(ns,a.map λv=>v[j]?.getD ⟨#[]⟩):=by simp[x9]
def yc(s:Sc):∀(l:List Nm) (r:R),(l.foldl (ek s) r).q=r.q/\(l.foldl (ek s) r).s.aY=r.s.aY/\(l.foldl (ek s) r).s.ck=r.s.ck
 |[],r=>⟨rfl,rfl,rfl⟩
 |x::l,r=>by rw[agy];exact yc s l _
end Go.Ps
namespace Go.Proofs.Pz
open Go.Mt Go.Sm Go.Ps Go.Proofs
open Tryz
def pA(it f iv o:Nat)(p:Pg)(L8:kL p.aG)(s:Sc)(m:MS)(q:aJ)(h3:q.kd=3)(hs:dZ s)(Mx:iW q.ex)(Ma:ou p.aG s.vars.ty (λx=>(s.vars x).isSome=true) q.ex)(QL:B9 s.vars 10000000)
  (ML:q.aq.length<=1000) (Me:∀a∈q.aq,yZ a.a_) (U8:pM q<=1000000) (O6:(cp q).Nodup) (Mg:(cp q).length<=1000000) (Mw:s.ck.length<100000)
  (NO:cm q.ex<=400000) (hn:m.n+cm q.ex+cm q.ex+1<=9000000) (hv:m.vars.length+cm q.ex+cm q.ex+1<=9000000)
  (r1:R) (Nr:r1=Ps.gG ⟨s,m,[]⟩ q.ex (dD p.aG s.vars.ty q.ex))
  (hR:∀(k:Nat) (h:k<q.aq.length),(c7 p.aG (nV r1.m.n) (cp q) (q.aq.take k) r1 []).1.s=r1.s/\(c7 p.aG (nV r1.m.n) (cp q) (q.aq.take k) r1 []).1.m.n+3*(cp q).length<=9000000/\
   (c7 p.aG (nV r1.m.n) (cp q) (q.aq.take k) r1 []).1.m.vars.length+3*(cp q).length<=9000000/\(c7 p.aG (nV r1.m.n) (cp q) (q.aq.take k) r1 []).1.q.length<=100000000/\(c7 p.aG (nV r1.m.n) (cp q) (q.aq.take (k+1)) r1 []).1.q.length<=100000000/\
   ve it f p p.aG false q.aq[k].a_ (eM (cp q) q.aq[k].a_ q.aq[k].ps (eb (nV r1.m.n) (cp q) q.aq[k].name (c7 p.aG (nV r1.m.n) (cp q) (q.aq.take k) r1 []).1)).s (eM (cp q) q.aq[k].a_ q.aq[k].ps (eb (nV r1.m.n) (cp q) q.aq[k].name (c7 p.aG (nV r1.m.n) (cp q) (q.aq.take k) r1 []).1)).m)
  (hZ:(c7 p.aG (nV r1.m.n) (cp q) q.aq r1 []).1.s=r1.s/\(c7 p.aG (nV r1.m.n) (cp q) q.aq r1 []).1.q.length<=100000000):
  Dt prog 260 [.ref f 0,l9 iv o s.ck,.d (.agg q.cells)] (gS it f iv o p ⟨s,m,[]⟩) λx l=>x=.d (.sl (cv (iB p.aG q ⟨s,m,[]⟩).q))/\l=gS it f iv o p (iB p.aG q ⟨s,m,[]⟩):=by
 intro L N hw;have OH:iB p.aG q ⟨s,m,[]⟩=⟨(c7 p.aG (nV r1.m.n) (cp q) q.aq r1 []).1.s,(c7 p.aG (nV r1.m.n) (cp q) q.aq r1 []).1.m,(c7 p.aG (nV r1.m.n) (cp q) q.aq r1 []).1.q++(List.range (cp q).length).map λi=>gQ ((c7 p.aG (nV r1.m.n) (cp q) q.aq r1 []).1.s.vars.nm ((cp q)[i]?.getD ⟨#[]⟩)) (.mk 13 0 0 (nV r1.m.n) (q.aq.map aP.name) ((c7 p.aG (nV r1.m.n) (cp q) q.aq r1 []).2.map λd=>bz (d[i]?.getD ⟨#[]⟩)) q.ps) q.ps⟩:=by
  rw[Nr];cases q with|mk k D g G E e C ps=>
  rw[iB];simp only[aJ.kd]at h3;rw[agw (by omega),agw (by omega),agw (by omega)];simp only[cp];rfl
 rw[OH];clear OH;obtain⟨_,K1,l',⟨rfl,rfl⟩,w,Mo⟩:=Wk.call (a:=[cP iv s.vars,gV f p m]) (r:=[_,_]) ((Wk.start hw).pick [2,1,0,3]) (wJ iv o f s.vars p m s.ck L8 QL q.ex Ma);have w:Wk N L (gS it f iv o p ⟨s,m,[]⟩) K1:=w.pick [2,1,0,3];obtain⟨_,K2,l',⟨t,rfl,rfl⟩,w,Lp⟩:=Wk.call (r:=[]) w (zZ it f iv o p s m q.ex (dD p.aG s.vars.ty q.ex) Mx hs (by omega) (by omega) (by omega));have K:=bN.val (r:=⟨s,m,[]⟩) hs q.ex (dD p.aG s.vars.ty q.ex);rw[<-Nr]at K w Lp;clear Nr;have Ou:=K.q;have NC:r1.s.ck=s.ck:=K.ck;have ce:=K.sc
 dsimp only[List.length_nil]at Ou
 have My:=Hl q ML Me U8;obtain⟨d,OE⟩:∃d,d=cp q:=⟨_,rfl⟩;obtain⟨c,Pr⟩:∃c,c=nV r1.m.n:=⟨_,rfl⟩;rw[<-Pr]at hR hZ Lp;rw[<-OE]at hR hZ My O6 Mg;rw[<-Pr,<-OE];clear Pr OE hn hv Ma QL K;obtain⟨j,Qn⟩:∃d,d=K2.length:=⟨_,rfl⟩;have Ny:(aR d).length=d.length:=by simp[aR]
 have Tk:(q.aq.map aP.cells).length=q.aq.length:=by simp
 rw[q.ex.aj]at Mo Lp;rw[q.aj,q.ex.aj,h3]at My⊢;refine Lj func260 W ntmps260 W ?_
 repeat refine DC.seq ?_
 apply KZ
 .intro g C;refine dB W W W W ?_;refine bp W W ?_;refine ah W W ?_;exact TL.nil W
 repeat refine DC.seq ?_
 apply KZ
 .intro g C;refine ai W W ?_;refine dP W W W W W ?_;refine ay W W ?_;refine fA W W W ?_;refine aD Mo W W ?_;refine aM W W ?_;refine aC W W W W W W ?_;exact TL.nil W
 repeat refine DC.seq ?_
 apply KZ
 .intro g C;refine ai W W ?_;refine dP W W W W W ?_;refine ay W W ?_;refine fA W W W ?_;refine aW W W W W W ?_;refine aD Lp W W ?_;refine ai W W ?_;refine bZ W W W ?_;refine bZ W W W ?_;refine ah W W ?_;refine ah W W ?_;exact TL.nil W
 repeat refine DC.seq ?_
 apply KZ
 .intro g C;refine aK W W W ?_;refine aL My W W ?_;refine ah W W ?_;exact TL.nil W
 repeat refine DC.seq ?_
 apply KZ
 .intro g C;refine ai W W ?_
  (refine aT W W W ?_;rw[Ny])
  refine AQ (len:=d.length) W W W W (by rfl) (by omega) (by omega) ?_;refine ah W W ?_;exact TL.nil W
 repeat refine DC.seq ?_
 apply KZ
 .intro g C;refine ai W W ?_
  (refine aT W W W ?_;rw[Ny])
  refine ai W W ?_;exact TL.nil W
 have w:=w.new (.row false 8 0 (ep c q.ps (List.replicate 0 qy)++bf (List.replicate (d.length-0) zX)));rw[<-Qn]at w;refine L3 [(45,.m (.d (.int .i64 ((0:Nat):Int)))),(44,.m (.d (.int .i64 ((d.length:Nat):Int)))),(11,.m (.cy j 0 d.length)),(10,.m (.d (.sl (aR d)))),(9,.m t),(8,.m (.d (.str c))),(5,.m (.d (.ca (eQ 3 q.lhs q.f (q.args.map Xp.cells) q.has (xC q.ex) (q.aq.map aP.cells) q.ps) 0))),(4,.loc 4 0),(0,.m (.ref f 0))] _ (K2++[.row false 8 0 (ep c q.ps (List.replicate 0 qy)++bf (List.replicate (d.length-0) zX))]) (by rw[Qn];rfl) (λ_=>rfl) (by
  show K2++[Ob.row false 8 0 (fM 8 d.length zX)]=_;rw[Cg (n:=8) (z:=zX) W (by omega)];rfl) ?_
 repeat refine DC.seq ?_
 refine DC.block ?_;refine DC.loop (λk u=>∃(i:Nat) (g:List (Nat×List M)) (h:Hp),u=⟨[(45,.m (.d (.int .i64 ((i:Nat):Int)))),(44,.m (.d (.int .i64 ((d.length:Nat):Int)))),(11,.m (.cy j 0 d.length)),(10,.m (.d (.sl (aR d)))),(9,.m t),(8,.m (.d (.str c))),(5,.m (.d (.ca (eQ 3 q.lhs q.f (q.args.map Xp.cells) q.has (xC q.ex) (q.aq.map aP.cells) q.ps) 0))),(4,.loc 4 0),(0,.m (.ref f 0))],g,h⟩/\
   Go.Mt.get g 4=some [.mp iv,.mp o,.d (.sl (bW s.ck))]/\
   Wk N L (.ob j (.row false 8 0 (ep c q.ps (List.replicate i qy)++bf (List.replicate (d.length-i) zX))):: .acc 16 (cv r1.q) t::gS it f iv o p r1) h/\i<=d.length/\k=d.length-i) d.length _
  ⟨0,_,_,rfl,rfl,w,by omega,rfl⟩ W ?_
 clear w Mo Lp;rintro k s1 ⟨i,bx,H1,rfl,u,w,hi,rfl⟩
 repeat refine DC.seq ?_
 apply KZ
 .intro g C;refine av W W W W ?_;exact TL.nil W
 repeat refine DC.seq ?_
 refine DC.cond W (λh=>?_) (λh=>?_)
 .have C:i<d.length:=by have:=agr h;omega
  clear h;have g:=w.ob;have E:=Hy c q.ps C;refine DC.skip ?_
  repeat refine DC.seq ?_
  refine DC.block ?_
  repeat refine DC.seq ?_
  apply KZ
  .intro G H;refine ai W W ?_;refine ah W W ?_;exact TL.nil W
  repeat refine DC.seq ?_
  apply KZ
  .intro G H;refine ai W W ?_;refine ai W W ?_;refine ai W W ?_;refine ay W W ?_;refine fA W W W ?_;refine bX W W W W W ?_;refine zB W W W g (ago i) (by omega) ?_;refine zC W W g W W E ?_;exact TL.nil W
  have D:=w.set (.row false 8 0 (ep c q.ps (List.replicate (i+1) qy)++bf (List.replicate (d.length-(i+1)) zX)))
  repeat refine DC.seq ?_
  apply KZ
  .intro G H;refine aI W W W (by omega) ?_;refine ai W W ?_;exact TL.nil W
  exact bH (k':=d.length-(i+1)) (by omega) ⟨i+1,_,_,rfl,u,D,by omega,rfl⟩ W W
 refine DC.exit ?_;obtain rfl:i=d.length:=by have:=agv h;omega
 rw[Nat.sub_self,List.replicate_zero,show bf []=[]from rfl,agL]at w;have w:=w.perm (List.Perm.refl _);have w:=nH.init d.length w;clear h;have w:Wk N L (.acc 16 (cv (c7 p.aG c d (q.aq.take 0) r1 []).1.q) t::nH j c q.ps (List.replicate d.length qy)::gS it f iv o p (c7 p.aG c d (q.aq.take 0) r1 []).1) H1:=by
  rw[agS,km];exact w.pick [1,0,2,3,4,5]
 have TN:(List.replicate d.length qy).map Prod.fst=x9 d.length ((q.aq.take 0).map aP.name) (c7 p.aG c d (q.aq.take 0) r1 []).2:=by
  rw[agS,km];simp[x9,List.map_const']
 repeat refine DC.seq ?_
 apply KZ
 .intro g C;refine ay W W ?_;refine ax W W W ?_
  (refine aT W W W ?_;rw[Tk])
  refine ai W W ?_;exact TL.nil W
 refine L3 [(59,.m (.d (.int .i64 ((0:Nat):Int)))),(58,.m (.d (.int .i64 ((q.aq.length:Nat):Int)))),(57,.m (.d (.sl (q.aq.map aP.cells)))),(11,.m (.cy j 0 d.length)),(10,.m (.d (.sl (aR d)))),(9,.m t),(8,.m (.d (.str c))),(5,.m (.d (.ca (eQ 3 q.lhs q.f (q.args.map Xp.cells) q.has (xC q.ex) (q.aq.map aP.cells) q.ps) 0))),(4,.loc 4 0),(0,.m (.ref f 0))] _ _ W (λ_=>rfl) W ?_
 repeat refine DC.seq ?_
 refine DC.block ?_;refine DC.loop (λu t=>∃(k:Nat) (g:M) (l:List Mr) (h:List (Nat×List M)) (i:Hp),t=⟨[(59,.m (.d (.int .i64 ((k:Nat):Int)))),(58,.m (.d (.int .i64 ((q.aq.length:Nat):Int)))),(57,.m (.d (.sl (q.aq.map aP.cells)))),(11,.m (.cy j 0 d.length)),(10,.m (.d (.sl (aR d)))),(9,.m g),(8,.m (.d (.str c))),(5,.m (.d (.ca (eQ 3 q.lhs q.f (q.args.map Xp.cells) q.has (xC q.ex) (q.aq.map aP.cells) q.ps) 0))),(4,.loc 4 0),(0,.m (.ref f 0))],h,i⟩/\Go.Mt.get h 4=some [.mp iv,.mp o,.d (.sl (bW s.ck))]/\
   l.map Prod.fst=x9 d.length ((q.aq.take k).map aP.name) (c7 p.aG c d (q.aq.take k) r1 []).2/\
   Wk N L (.acc 16 (cv (c7 p.aG c d (q.aq.take k) r1 []).1.q) g::nH j c q.ps l::gS it f iv o p (c7 p.aG c d (q.aq.take k) r1 []).1) i/\k<=q.aq.length/\u=q.aq.length-k) q.aq.length _
  ⟨0,t,_,_,_,rfl,u,TN,w,by omega,rfl⟩ W ?_
 clear w u TN;rintro kk s1 ⟨k,t,l,bx,H1,rfl,u,F,w,hk,rfl⟩
 repeat refine DC.seq ?_
 apply KZ
 .intro g C;refine av W W W W ?_;exact TL.nil W
 repeat refine DC.seq ?_
 refine DC.cond W (λh=>?_) (λh=>?_)
 .have Lg:k<q.aq.length:=by have:=agr h;omega
  clear h;have Ld:(q.aq.map aP.cells)[((k:Nat):Int).toNat]?=some q.aq[k].cells:=by simp[Lg]
  have WT:=Me _ (agx Lg);have ZN:=u6 (agx Lg);obtain⟨V4,R',ZO,WU,Y,SO⟩:=hR k Lg;have T:=DK p.aG c d (q.aq.take k) q.aq[k] r1 [];rw[<-agp Lg]at T;rw[T]at Y;have RI:(q.aq.take (k+1)).map aP.name=(q.aq.take k).map aP.name++[q.aq[k].name]:=by rw[agp Lg,agI];rfl
  have ZP:((q.aq.take k).map aP.name).length<=1000:=by rw[agt,agM];omega
  have U9:(c7 p.aG c d (q.aq.take k) r1 []).2.length<=1000:=by rw[xZ,agM,List.length_nil];omega
  generalize (q.aq.take k).map aP.name=D at F RI ZP;generalize c7 p.aG c d (q.aq.take k) r1 []=z at w F V4 R' ZO WU Y SO T U9;obtain⟨r,vs⟩:=z;generalize q.aq[k]=a at Ld WT ZN Y SO T RI
  dsimp only at w F V4 R' ZO WU Y SO T U9
  have ZQ:dZ r.s:=by rw[V4];exact ce
  have U_:r.s.ck=s.ck:=by rw[V4];exact NC
  clear hR;rw[a.aj]at Ld;obtain⟨G,PV⟩:∃d:R,d=⟨⟨r.s.vars,r.s.aY,s.ck++[(a.name,c)]⟩,r.m,r.q⟩:=⟨_,rfl⟩;have Qf:eb c d a.name r=d.foldl (ek r.s) G:=by
   rw[PV];show d.foldl (ek r.s) ⟨⟨_,_,r.s.ck++_⟩,_,_⟩=_;rw[U_]
  rw[Qf]at Y SO T;clear Qf;obtain⟨mc,K3,l',rfl,w,Lp⟩:=Wk.call (a:=[]) w (pt s.ck (by omega));have w:Wk N L (.acc 2 (bW s.ck) mc:: .acc 16 (cv r.q) t::nH j c q.ps l::gS it f iv o p r) K3:=w;have w2:=w.app [[.str a.name,.str c]];have U':bW s.ck++[[.str a.name,.str c]]=bW (s.ck++[(a.name,c)]):=by simp[bW]
  rw[U']at w2;obtain⟨_,K4,l',⟨O,P,rfl,rfl⟩,w4,Ly⟩:=Wk.call (a:=[cP iv r.s.vars,cP o r.s.aY]) (r:=[_,_,_,_,_]) (w2.pick [5,6,0,1,2,3,4]) (z7 iv o r.s.vars r.s.aY s.ck (cQ mc K3 [[.str a.name,.str c]]) (bQ _ _ _));have PX:=(w4.pick [4,0,1,2,3,5,6,7,8]).view (ja _);have w4:Wk N L [.acc 16 (cv r.q) t,nH j c q.ps l,.ob it bK,gV f p r.m,cP iv r.s.vars,cP o r.s.aY,cP O r.s.vars,cP P r.s.aY] K4:=(w4.pick [4,5,6,7,8,0,1,2,3]).drop;have Ln:(bW s.ck).length=s.ck.length:=by simp[bW]
  refine DC.skip ?_
  repeat refine DC.seq ?_
  refine DC.block ?_
  repeat refine DC.seq ?_
  apply KZ
  .intro g H;refine aN W W W (ago k) Ld W ?_;refine aK W W W ?_;refine aM W W ?_;refine aC W W W W W W ?_;exact TL.nil W
  repeat refine DC.seq ?_
  apply KZ
  .intro g H;refine aA W W ?_;refine aF W W W W ?_;refine ai W W ?_;refine bX W W W W W ?_;refine aM W W ?_;refine aC W W W W W W ?_;exact TL.nil W
  repeat refine DC.seq ?_
  apply Le mixed
  .intro g H;refine mN W W u W W ?_;refine aX W W ?_;refine bC W W u W ?_;refine bt Lp W W ?_;refine bG W W W W W ?_;refine bm W W W W W W W W ?_;refine fa w W W W W W W W (by omega) ?_;refine bt Ly W W ?_;refine fk W ?_;refine bS W W W W W W ?_;exact TF.nil ⟨by kernel_rfl,rfl⟩
  obtain⟨I,SP⟩:∃d,d=s.ck++[(a.name,c)]:=⟨_,rfl⟩;rw[<-SP]at PX PV;refine DC.uP 16 (Ls:=[.mp O,.mp P,.d (.sl (bW I))]) W W (JI PX) ?_;have Rc:(bW I).length=I.length:=by simp[bW]
  have d5:I.length=s.ck.length+1:=by rw[SP];simp
  have ZR:dZ G.s:=by
   have:=ZQ.more (a.name,c) (by rw[U_];omega);rw[U_,<-SP]at this;rw[PV];exact this
  have d6:G.m.n=r.m.n:=by rw[PV]
  have d7:G.m.vars.length=r.m.vars.length:=by rw[PV]
  have WV:G.q=r.q:=by rw[PV]
  have ZS:G.s.aY=r.s.aY:=by rw[PV]
  have WW:G.s.ck=I:=by rw[PV]
  have w4:Wk N L [.acc 16 (cv r.q) t,nH j c q.ps l,.ob it bK,gV f p G.m,cP iv r.s.vars,cP o r.s.aY,cP O G.s.vars,cP P r.s.aY] K4:=by rw[PV];exact w4
  clear PV w2 w Lp Ly PX;have hP:= λi=>bN.ov r.s (d.take i) ZR
  have hQ:= λi=>yc r.s (d.take i) G
  have hN:= λi=>Ch r.s (d.take i) G
  have WX:=DJ r.s d G O6;have WY:(d.foldl (ek r.s) G).q=r.q:=(yc r.s d G).1.trans WV;obtain⟨ac,hG⟩:∃G,G=x9 d.length D vs:=⟨_,rfl⟩;obtain⟨G',V5⟩:∃f,f=x9 d.length (D++[a.name]) (vs++[d.map (d.foldl (ek r.s) G).s.vars.nm]):=⟨_,rfl⟩;have V6:ac.length=d.length:=by rw[hG,tU]
  have Vb:G'.length=d.length:=by rw[V5,tU]
  rw[<-hG]at F
  repeat refine DC.seq ?_
  apply KZ
  .intro g H;refine ai W W ?_
   (refine aT W W W ?_;rw[Ny])
   refine ai W W ?_;exact TL.nil W
  refine L3 [(77,.m (.d (.int .i64 ((0:Nat):Int)))),(76,.m (.d (.int .i64 ((d.length:Nat):Int)))),(75,.m (.d (.sl (aR d)))),(16,.loc 16 0),(14,.loc 14 0),(59,.m (.d (.int .i64 ((k:Nat):Int)))),(58,.m (.d (.int .i64 ((q.aq.length:Nat):Int)))),(57,.m (.d (.sl (q.aq.map aP.cells)))),(11,.m (.cy j 0 d.length)),(10,.m (.d (.sl (aR d)))),(9,.m t),(8,.m (.d (.str c))),(5,.m (.d (.ca (eQ 3 q.lhs q.f (q.args.map Xp.cells) q.has (xC q.ex) (q.aq.map aP.cells) q.ps) 0))),(4,.loc 4 0),(0,.m (.ref f 0))] _ _ W (λ_=>rfl) W ?_
  repeat refine DC.seq ?_
  refine DC.block ?_;refine DC.loop (λw u=>∃(i:Nat) (l:List Mr) (g:List (Nat×List M)) (h:Hp),u=⟨[(77,.m (.d (.int .i64 ((i:Nat):Int)))),(76,.m (.d (.int .i64 ((d.length:Nat):Int)))),(75,.m (.d (.sl (aR d)))),(16,.loc 16 0),(14,.loc 14 0),(59,.m (.d (.int .i64 ((k:Nat):Int)))),(58,.m (.d (.int .i64 ((q.aq.length:Nat):Int)))),(57,.m (.d (.sl (q.aq.map aP.cells)))),(11,.m (.cy j 0 d.length)),(10,.m (.d (.sl (aR d)))),(9,.m t),(8,.m (.d (.str c))),(5,.m (.d (.ca (eQ 3 q.lhs q.f (q.args.map Xp.cells) q.has (xC q.ex) (q.aq.map aP.cells) q.ps) 0))),(4,.loc 4 0),(0,.m (.ref f 0))],g,h⟩/\Go.Mt.get g 4=some [.mp iv,.mp o,.d (.sl (bW s.ck))]/\Go.Mt.get g 16=some [.mp O,.mp P,.d (.sl (bW I))]/\Go.Mt.get g 14=some ([.str a.name,.sl (aB a.a_.vars),.sl (a.a_.eqs.map aJ.cells),.sl (eG a.eL),.sl (eG a.et),.int .i64 a.ps.1,.int .i64 a.ps.2].map M.d)/\
    l.map Prod.fst=G'.take i++ac.drop i/\
    Wk N L [.acc 16 (cv r.q) t,nH j c q.ps l,.ob it bK,gV f p ((d.take i).foldl (ek r.s) G).m,cP iv r.s.vars,cP o r.s.aY,cP O ((d.take i).foldl (ek r.s) G).s.vars,cP P r.s.aY] h/\i<=d.length/\w=d.length-i) d.length _
   ⟨0,l,_,_,rfl,u,rfl,rfl,by rw[agS,ag2,aiU];exact F,w4,by omega,rfl⟩ W ?_
  clear w4 F u;rintro ii s1 ⟨i,l,bx,H1,rfl,u,Q,V,F,w,hi,rfl⟩
  repeat refine DC.seq ?_
  apply KZ
  .intro g H;refine av W W W W ?_;exact TL.nil W
  repeat refine DC.seq ?_
  refine DC.cond W (λh=>?_) (λh=>?_)
  .have Ly:i<d.length:=by have:=agr h;omega
   clear h;have MU:=iC Ly;have K:=hP i;have iK:=hN i;have ZT:=hQ i;have N8:(d.take (i+1)).foldl (ek r.s) G=ek r.s ((d.take i).foldl (ek r.s) G) d[i]:=by rw[agp Ly,ag7];rfl
   rw[agM,ahN (by omega)]at iK;have NJ:=K.vs;rw[agM,ahN (by omega)]at NJ;generalize (d.take i).foldl (ek r.s) G=e at w K iK ZT N8 NJ;obtain⟨H,⟨ya,yb⟩,Z,rfl,Nw,O9⟩:=Hx F (by rw[V6,Vb]) (by rw[V6];exact Ly);clear F;obtain⟨g,PF⟩:∃d,d=vs.map λv=>v[i]?.getD ⟨#[]⟩:=⟨_,rfl⟩
   have e1:ac[i]'(by rw[V6];exact Ly)=(D,g):=by simp only[hG,PF,x_]
   have e2:G'[i]'(by rw[Vb];exact Ly)=(D++[a.name],g++[nV (e.m.n+1)]):=by
    simp only[V5,PF,x_,agI,agH,ag1,WX];simp[Ly,iK]
   rw[e1]at w;rw[e2]at O9;have NA:g.length<=1000:=by rw[PF,agt];exact U9
   clear e1 e2 PF;generalize d[i]=x at MU N8;subst Nw;have w:=w.pick [4,0,1,2,3,5,6,7];obtain⟨ev,Of,w⟩:=cP.open w;have V7:=w.ob;obtain⟨_,K5,l',⟨rfl,rfl⟩,E,MZ⟩:=Wk.call (a:=[.ob it bK,gV f p e.m]) (r:=[_,_,_,_,_,_]) (w.pick [3,4,0,1,2,5,6,7]) (rf it f p e.m (by omega) (by omega) (r.s.vars.ty x) I (by omega));have E:=E.pick [6,0,1,2,3,4,5,7];obtain⟨ej,Vc,E⟩:=cP.open E;have TX:=E.ob;have WZ:=(E.pick [3,0,1,2,4,5,6,7]).ob;refine DC.skip ?_
   repeat refine DC.seq ?_
   refine DC.block ?_
   repeat refine DC.seq ?_
   apply KZ
   .intro s0 Oo;refine ai W W ?_;refine aN W W W (ago H.length) MU W ?_;refine ax W W W ?_;refine ah W W ?_;refine ah W W ?_;exact TL.nil W
   repeat refine DC.seq ?_
   apply KZ
   .intro s0 Oo;refine ai W W ?_;refine aA W W ?_;refine aF W W u W ?_;refine ai W W ?_;refine kO Of V7 W W W ?_;refine G3 W W W W W ?_;refine aA W W ?_;refine aF W W Q W ?_;refine aD MZ W W ?_;refine ah W W ?_;exact TL.nil W
   repeat refine DC.seq ?_
   apply KZ
   .intro s0 Oo;refine aA W W ?_;refine aF W W Q W ?_;refine ai W W ?_;refine ai W W ?_;refine aA W W ?_;refine aF W W Q W ?_
    (refine aT W W W ?_;rw[Rc])
    refine aA W W ?_;refine aF W W u W ?_;refine ai W W ?_;refine kO Of WZ W W W ?_;refine G3 W W W W W ?_;refine bX W W W W W ?_;refine fW W W W TX Vc.k ?_;exact TL.nil W
   have J:=LQ (Vc.set x ⟨nV (e.m.n+1),I.length,(r.s.vars.ty x).1,(r.s.vars.ty x).2⟩) (E.set (.map (dH x (.d (.agg (nG ⟨nV (e.m.n+1),I.length,(r.s.vars.ty x).1,(r.s.vars.ty x).2⟩))) ej)));have J:=J.pick [3,0,1,2,4,5,6,7];have J:=LQ Of J;have J:=J.pick [5,0,1,2,3,4,6,7];generalize K5.set O (.map (dH x (.d (.agg (nG ⟨nV (e.m.n+1),I.length,(r.s.vars.ty x).1,(r.s.vars.ty x).2⟩))) ej))=K6 at J⊢;clear E TX WZ MZ w V7;have J:=nH.open J;have PP:=J.ob;have ZU:(ep c q.ps (H++((D,g),(ya,yb))::Z))[H.length*8+4]?=some ya:=Cd c q.ps H Z ((D,g),(ya,yb)) (by omega);have TY:=Hw c q.ps H Z ((D,g),(ya,yb)) (D++[a.name],g) (cQ ya K6 [[.str a.name]]);have w7:=J.pick [1,0,2,3,4,5,6,7,8,9,10];have X:=w7.app [[.str a.name]];have Rf:=(X.pick [1,0,2,3,4,5,6,7,8,9,10]).ob
   repeat refine DC.seq ?_
   apply Le mixed
   .intro s0 Oo;refine aO W W ?_;refine aO W W ?_;refine aO W W ?_;refine aO W W ?_;refine mI W W W PP (ago _) (by omega) ?_;refine q8 W W ?_;refine uD W W PP ZU ?_;refine aX W W ?_;refine bC W W V W ?_;refine bm W W W W W W W W ?_;refine fa w7 W W W W W W W (by simp only[aR,agt];omega) ?_;refine mI W W W Rf (ago _) (by omega) ?_;refine q8 W W ?_;refine zD W W Rf (bQ _ _ _) W TY ?_;exact TF.nil ⟨by kernel_rfl,rfl⟩
   have X:=(X.pick [1,0,2,3,4,5,6,7,8,9,10]).set (.row false 8 0 (ep c q.ps (H++((D++[a.name],g),(cQ ya K6 [[.str a.name]],yb))::Z)));have SQ:aR D++[[.str a.name]]=aR (D++[a.name]):=by simp[aR]
   dsimp only at X
   rw[SQ]at X;obtain⟨y1,Rt⟩:∃d,d=cQ ya K6 [[.str a.name]]:=⟨_,rfl⟩;obtain⟨K7,ZV⟩:∃d,d=(eg 1 ya K6 [[.str a.name]]).set j (.row false 8 0 (ep c q.ps (H++((D++[a.name],g),(cQ ya K6 [[.str a.name]],yb))::Z))):=⟨_,rfl⟩;rw[<-ZV,<-Rt]at X;refine L3 [(19,.m (.d (.str (nV (e.m.n+1))))),(17,.m (.d (.int .i64 ((H.length:Nat):Int)))),(77,.m (.d (.int .i64 ((H.length:Nat):Int)))),(76,.m (.d (.int .i64 ((d.length:Nat):Int)))),(75,.m (.d (.sl (aR d)))),(16,.loc 16 0),(14,.loc 14 0),(59,.m (.d (.int .i64 ((k:Nat):Int)))),(58,.m (.d (.int .i64 ((q.aq.length:Nat):Int)))),(57,.m (.d (.sl (q.aq.map aP.cells)))),(11,.m (.cy j 0 d.length)),(10,.m (.d (.sl (aR d)))),(9,.m t),(8,.m (.d (.str c))),(5,.m (.d (.ca (eQ 3 q.lhs q.f (q.args.map Xp.cells) q.has (xC q.ex) (q.aq.map aP.cells) q.ps) 0))),(4,.loc 4 0),(0,.m (.ref f 0))] _ K7 W (λ_=>rfl) ZV.symm ?_;clear PP Rf ZU TY w7 J SQ;have PP:=X.ob;have ZW:(ep c q.ps (H++((D++[a.name],g),(y1,yb))::Z))[H.length*8+5]?=some yb:=Cd c q.ps H Z ((D++[a.name],g),(y1,yb)) (by omega);have Mn:=fB (nV (e.m.n+1));rw[(bz (nV (e.m.n+1))).aj]at Mn;have Nh:e.s.ck=I:=ZT.2.2.trans WW;have X:=X.pick [2,0,1,3,4,5,6,7,8,9,10];by_cases ZX:g=[]
   .subst ZX;have R3:=X.Jo;subst R3;have w9:=(X.drop).new (.row false 8 0 (bf [zX]));have X0:=w9.ob;have Rf:=(w9.pick [1,0,2,3,4,5,6,7,8,9,10]).ob;have Qr:eN [nV (e.m.n+1)]=[xC (bz (nV (e.m.n+1)))]:=by simp[eN,Xp.aj]
    have X1:=w9.set (.row false 8 0 (bf (eN [nV (e.m.n+1)])));have LG:K7.length≠j:=by have:=(ahk.1 PP).1;omega
    have X2:dE (bf [zX]) 0 ((xC (bz (nV (e.m.n+1)))).map M.d)=some (bf (eN [nV (e.m.n+1)])):=by rw[Qr];rfl
    have X3:=Ce c q.ps H Z ((D++[a.name],[]),(y1,.d (.sl []))) (D++[a.name],[nV (e.m.n+1)]) (.cy K7.length 0 1)
    repeat refine DC.seq ?_
    apply DC.zN 10 mixed
    case hlen=>rfl
    case hd=>rfl
    case h1=>
     intro s0 Oo;refine aO W W ?_;refine aO W W ?_;refine mI W W W PP (ago _) (by omega) ?_;refine q8 W W ?_;refine uD W W PP ZW ?_;refine aO W W ?_;refine bc Mn W W ?_;refine lG W W W ?_;refine bm W W W W W W W W ?_;refine pc false W W W W (by rfl) (by simp) (by exact cM W) (by decide) ?_;exact TF.nil ⟨by kernel_rfl,rfl⟩
    case QZ=>kernel_rfl
    case hg=>kernel_rfl
    case t1=>exact inferInstance
    case t2=>exact inferInstance
    case t3=>exact inferInstance
    case t4=>exact inferInstance
    case t5=>exact inferInstance
    case t6=>exact inferInstance
    case t7=>exact inferInstance
    case P0=>rfl
    case Rt=>rfl
    case hj=>exact X0
    case XM=>exact ago _
    case Nw=>decide
    case NO=>rfl
    case Lp=>rfl
    case Si=>rfl
    case R4=>exact X2
    case R2=>rfl
    case R3=>rfl
    case Qn=>exact Rf
    case XN=>exact ago _
    case MR=>omega
    case NR=>rfl
    case Ly=>rfl
    case Mf=>rfl
    case P2=>exact X3
    case LG=>exact LG
    case Ok=>simp
    case MJ=>decide
    case O4=>rfl
    case Od=>rfl
    case Ru=>rfl
    have X4:=(X1.pick [1,0,2,3,4,5,6,7,8,9,10]).set (.row false 8 0 (ep c q.ps (H++((D++[a.name],[nV (e.m.n+1)]),(y1,.cy K7.length 0 1))::Z)));have V8:=Wk.Jq (rs:=eN [nV (e.m.n+1)]) (X4.pick [1,0,2,3,4,5,6,7,8,9,10]) (by simp[eN]);have X5:=nH.close (x:=((D++[a.name],[nV (e.m.n+1)]),(y1,.cy K7.length 0 1))) (V8.pick [1,2,0,3,4,5,6,7,8,9,10]);have X6:=X5.pick [5,0,3,4,1,6,2,7]
    repeat refine DC.seq ?_
    apply KZ
    .intro s0 Oo;refine aI W W W (by omega) ?_;refine ai W W ?_;exact TL.nil W
    exact bH (k':=d.length-(H.length+1)) (by omega) ⟨H.length+1,_,_,_,rfl,u,Q,V,O9 _,by
     rw[N8];show Wk N L [.acc 16 (cv r.q) t,nH j c q.ps _,.ob it bK,gV f p (e.m.fresh (r.s.vars.ty x) e.s.ck),cP iv r.s.vars,cP o r.s.aY,cP O (e.s.vars.set x ⟨nV (e.m.n+1),e.s.ck.length,(r.s.vars.ty x).1,(r.s.vars.ty x).2⟩),cP P r.s.aY] _;rw[Nh];exact X6,by omega,rfl⟩ W W
   .obtain⟨C,Lh,R3,w9⟩:=X.Jp (by intro am;apply ZX;simpa [eN] using am);subst R3;have TX:=w9.ob;have Vd:(eN g).length=g.length:=by simp[eN]
    have w9:=w9.set (.row false 8 (Lh+1) (bf (eN g)++bf [zX]));have X0:=w9.ob;have Rf:=(w9.pick [1,0,2,3,4,5,6,7,8,9,10]).ob;have LG:=w9.ne;have Qr:eN (g++[nV (e.m.n+1)])=eN g++[xC (bz (nV (e.m.n+1)))]:=by simp[eN,Xp.aj]
    have ZY:(eN (g++[nV (e.m.n+1)])).length=(eN g).length+1:=by simp[eN]
    have X2:dE (bf (eN g)++bf [zX]) (((((eN g).length:Nat):Int)).toNat*8) ((xC (bz (nV (e.m.n+1)))).map M.d)=some (bf (eN (g++[nV (e.m.n+1)]))):=by
     rw[Qr];have h1:=wM (a:=bf (eN g)) (b:=[]) (new:=(xC (bz (nV (e.m.n+1)))).map M.d) (iG:=bf [zX]) (off:=(eN g).length*8) (by rw[oh (n:=8)];intro r hr;simp only[eN,agC]at hr;obtain⟨v,_,rfl⟩:=hr;rw[Xp.aj];rfl) W;rw[agL,agL]at h1;rw[ai2,h1];simp[bf]
    have X1:=w9.set (.row false 8 (Lh+1) (bf (eN (g++[nV (e.m.n+1)]))));have X3:=Ce c q.ps H Z ((D++[a.name],g),(y1,.cy C Lh (eN g).length)) (D++[a.name],g++[nV (e.m.n+1)]) (.cy C (Lh+1) ((eN g).length+1))
    repeat refine DC.seq ?_
    apply DC.zN 10 mixed
    case hlen=>rfl
    case hd=>rfl
    case h1=>
     intro s0 Oo;refine aO W W ?_;refine aO W W ?_;refine mI W W W PP (ago _) (by omega) ?_;refine q8 W W ?_;refine uD W W PP ZW ?_;refine aO W W ?_;refine bc Mn W W ?_;refine IA W W ?_;refine bm W W W W W W W W ?_;refine m_ W W W TX (by rfl) (by exact cM W) (by rw[Vd];simp only[agB];omega) (by rw[Vd];simp only[agB];omega) ?_;exact TF.nil ⟨by kernel_rfl,rfl⟩
    case QZ=>kernel_rfl
    case hg=>kernel_rfl
    case t1=>exact inferInstance
    case t2=>exact inferInstance
    case t3=>exact inferInstance
    case t4=>exact inferInstance
    case t5=>exact inferInstance
    case t6=>exact inferInstance
    case t7=>exact inferInstance
    case P0=>rfl
    case Rt=>rfl
    case hj=>exact X0
    case XM=>exact ago _
    case Nw=>exact Int.ofNat_lt.2 (aib _)
    case NO=>rfl
    case Lp=>rfl
    case Si=>rfl
    case R4=>exact X2
    case R2=>rfl
    case R3=>rfl
    case Qn=>exact Rf
    case XN=>exact ago _
    case MR=>omega
    case NR=>rfl
    case Ly=>rfl
    case Mf=>rfl
    case P2=>exact X3
    case LG=>exact LG
    case Ok=>simp
    case MJ=>decide
    case O4=>rfl
    case Od=>rfl
    case Ru=>rfl
    have X4:=(X1.pick [1,0,2,3,4,5,6,7,8,9,10]).set (.row false 8 0 (ep c q.ps (H++((D++[a.name],g++[nV (e.m.n+1)]),(y1,.cy C (Lh+1) ((eN g).length+1)))::Z)));have V8:=Wk.Jq (rs:=eN (g++[nV (e.m.n+1)])) (X4.pick [1,0,2,3,4,5,6,7,8,9,10]) (by simp[eN]);rw[ZY]at V8;have X5:=nH.close (x:=((D++[a.name],g++[nV (e.m.n+1)]),(y1,.cy C (Lh+1) ((eN g).length+1)))) (V8.pick [1,2,0,3,4,5,6,7,8,9,10]);have X6:=X5.pick [5,0,3,4,1,6,2,7]
    repeat refine DC.seq ?_
    apply KZ
    .intro s0 Oo;refine aI W W W (by omega) ?_;refine ai W W ?_;exact TL.nil W
    exact bH (k':=d.length-(H.length+1)) (by omega) ⟨H.length+1,_,_,_,rfl,u,Q,V,O9 _,by
     rw[N8];show Wk N L [.acc 16 (cv r.q) t,nH j c q.ps _,.ob it bK,gV f p (e.m.fresh (r.s.vars.ty x) e.s.ck),cP iv r.s.vars,cP o r.s.aY,cP O (e.s.vars.set x ⟨nV (e.m.n+1),e.s.ck.length,(r.s.vars.ty x).1,(r.s.vars.ty x).2⟩),cP P r.s.aY] _;rw[Nh];exact X6,by omega,rfl⟩ W W
  refine DC.exit ?_;obtain rfl:i=d.length:=by have:=agv h;omega
  clear h;have K:=hP d.length;have RK:=(hQ d.length).2.1.trans ZS;have Tx:=(hQ d.length).2.2.trans WW;rw[agz]at w K RK Tx;rw[ahw (by omega),ajg (by omega),agL]at F;clear hP hQ hN WX hG V6 Vb;have SF:=K.n;have SG:=K.vs;have Qg:=K.q;rw[WV]at Qg;have W0:=K.sc;generalize d.foldl (ek r.s) G=S at WY w K RK Tx V5 Y SO T SF SG Qg W0;obtain⟨gl,PC⟩:∃d:List Mr,d=l:=⟨_,rfl⟩;rw[<-PC]at w F;clear PC l;have hL:= λj=>bN.DI a.ps ((d.take j).filter λx=> !(di (cE a.a_) x)) W0
  have O0:= λj=>aif (λx=> !(di (cE a.a_) x)) (d.take j)
  have w:Wk N L [.acc 16 (cv S.q) t,nH j c q.ps gl,.ob it bK,gV f p S.m,cP iv r.s.vars,cP o r.s.aY,cP O S.s.vars,cP P S.s.aY] H1:=by
   rw[RK,show S.q=r.q from WY];exact w
  repeat refine DC.seq ?_
  apply KZ
  .intro g H;refine ai W W ?_
   (refine aT W W W ?_;rw[Ny])
   refine ai W W ?_;exact TL.nil W
  refine L3 [(133,.m (.d (.int .i64 ((0:Nat):Int)))),(132,.m (.d (.int .i64 ((d.length:Nat):Int)))),(131,.m (.d (.sl (aR d)))),(16,.loc 16 0),(14,.loc 14 0),(59,.m (.d (.int .i64 ((k:Nat):Int)))),(58,.m (.d (.int .i64 ((q.aq.length:Nat):Int)))),(57,.m (.d (.sl (q.aq.map aP.cells)))),(11,.m (.cy j 0 d.length)),(10,.m (.d (.sl (aR d)))),(9,.m t),(8,.m (.d (.str c))),(5,.m (.d (.ca (eQ 3 q.lhs q.f (q.args.map Xp.cells) q.has (xC q.ex) (q.aq.map aP.cells) q.ps) 0))),(4,.loc 4 0),(0,.m (.ref f 0))] _ _ W (λ_=>rfl) W ?_
  repeat refine DC.seq ?_
  refine DC.block ?_;refine DC.loop (λw u=>∃(g:Nat) (i:M) (h:List (Nat×List M)) (t:Hp),u=⟨[(133,.m (.d (.int .i64 ((g:Nat):Int)))),(132,.m (.d (.int .i64 ((d.length:Nat):Int)))),(131,.m (.d (.sl (aR d)))),(16,.loc 16 0),(14,.loc 14 0),(59,.m (.d (.int .i64 ((k:Nat):Int)))),(58,.m (.d (.int .i64 ((q.aq.length:Nat):Int)))),(57,.m (.d (.sl (q.aq.map aP.cells)))),(11,.m (.cy j 0 d.length)),(10,.m (.d (.sl (aR d)))),(9,.m i),(8,.m (.d (.str c))),(5,.m (.d (.ca (eQ 3 q.lhs q.f (q.args.map Xp.cells) q.has (xC q.ex) (q.aq.map aP.cells) q.ps) 0))),(4,.loc 4 0),(0,.m (.ref f 0))],h,t⟩/\Go.Mt.get h 4=some [.mp iv,.mp o,.d (.sl (bW s.ck))]/\Go.Mt.get h 16=some [.mp O,.mp P,.d (.sl (bW I))]/\Go.Mt.get h 14=some ([.str a.name,.sl (aB a.a_.vars),.sl (a.a_.eqs.map aJ.cells),.sl (eG a.eL),.sl (eG a.et),.int .i64 a.ps.1,.int .i64 a.ps.2].map M.d)/\
    Wk N L [.acc 16 (cv (((d.take g).filter λx=> !(di (cE a.a_) x)).foldl (fq a.ps) S).q) i,nH j c q.ps gl,.ob it bK,gV f p (((d.take g).filter λx=> !(di (cE a.a_) x)).foldl (fq a.ps) S).m,cP iv r.s.vars,cP o r.s.aY,cP O (((d.take g).filter λx=> !(di (cE a.a_) x)).foldl (fq a.ps) S).s.vars,cP P (((d.take g).filter λx=> !(di (cE a.a_) x)).foldl (fq a.ps) S).s.aY] t/\g<=d.length/\w=d.length-g) d.length _
   ⟨0,t,_,_,rfl,u,Q,V,w,by omega,rfl⟩ W ?_
  clear w u Q V;rintro ii s1 ⟨C,t,bx,H1,rfl,u,Q,V,w,hj,rfl⟩
  repeat refine DC.seq ?_
  apply KZ
  .intro g H;refine av W W W W ?_;exact TL.nil W
  repeat refine DC.seq ?_
  refine DC.cond W (λh=>?_) (λh=>?_)
  .have Ly:C<d.length:=by have:=agr h;omega
   clear h;have MU:=iC Ly;have U:=hL C;have Ve:=O0 C;rw[agM,ahN (by omega)]at Ve;have H:((d.take (C+1)).filter λx=> !(di (cE a.a_) x)).foldl (fq a.ps) S=if(!(di (cE a.a_) d[C]))=true then fq a.ps (((d.take C).filter λx=> !(di (cE a.a_) x)).foldl (fq a.ps) S) d[C]else((d.take C).filter λx=> !(di (cE a.a_) x)).foldl (fq a.ps) S:=by
    rw[agp Ly,List.filter_append,ag7];by_cases Z:(!(di (cE a.a_) d[C]))=true
    .rw[agK Z,ai8 (p:= λx=> !(di (cE a.a_) x)) Z];rfl
    .rw[agw Z,ai9 (p:= λx=> !(di (cE a.a_) x)) Z];rfl
   have Vf:=U.n;have Vg:=U.vs;have Vh:=U.q;have Nh:=U.ck.trans Tx;have TZ:=U.sc;generalize ((d.take C).filter λx=> !(di (cE a.a_) x)).foldl (fq a.ps) S=e at w U H Vf Vg Vh Nh TZ;generalize d[C]=x at MU H;have U1:=B5 a.a_ WT (by omega);rw[a.a_.aj]at U1;have Pr:=jz (cE a.a_) x (by have:=sJ a.a_;omega);refine DC.skip ?_
   repeat refine DC.seq ?_
   refine DC.block ?_
   repeat refine DC.seq ?_
   apply KZ
   .intro g X;refine aN W W W (ago C) MU W ?_;refine ax W W W ?_;refine ah W W ?_;exact TL.nil W
   cases Z:di (cE a.a_) x with
   |true=>
    rw[Z]at Pr H
    repeat refine DC.seq ?_
    apply KZ
    .intro g X;refine aA W W ?_;refine aW W W V W W ?_;refine aL U1 W W ?_;refine ai W W ?_;refine aL Pr W W ?_;refine fb W W ?_;exact TL.nil W
    repeat refine DC.seq ?_
    refine Lc W ?_;refine DC.skip ?_
    repeat refine DC.seq ?_
    apply KZ
    .intro g X;refine aI W W W (by omega) ?_;refine ai W W ?_;exact TL.nil W
    exact bH (k':=d.length-(C+1)) (by omega) ⟨C+1,_,_,_,rfl,u,Q,V,by rw[H];exact w,by omega,rfl⟩ W W
   |false=>
    rw[Z]at Pr H;simp only[Bool.not_false,ah3]at H;have Qi:fq a.ps e x=⟨⟨e.s.vars,(eE e.s.aY I e.m x).1,e.s.ck⟩,(eE e.s.aY I e.m x).2.1,e.q++(eE e.s.aY I e.m x).2.2++[gQ (e.s.vars.nm x) (bz ((eE e.s.aY I e.m x).1.nm x)) a.ps]⟩:=by
     unfold fq;rw[lj];dsimp only;rw[Nh]
    rw[Qi]at H;have Rw:=mP e.s.aY e.s.ck e.m x TZ.l;rw[Nh]at Rw;have QZ:∀b,e.s.aY x=some b->b.kK<=I.length:= λb d=>by rw[<-Nh];exact TZ.l x b d
    obtain⟨_,K5,l',⟨rfl,rfl⟩,E,MZ⟩:=Wk.call (a:=[.ob it bK,gV f p e.m,cP P e.s.aY]) (r:=[_,_,_,_,_]) (w.pick [2,3,7,0,1,4,5,6]) (tP it f p e.m O P I e.s.aY x (by omega) (by omega) (by omega) QZ);generalize eE e.s.aY I e.m x=sf at E MZ H Rw;obtain⟨X,mf,qf⟩:=sf
    dsimp only at E MZ H Rw
    have E:=E.pick [3,0,1,2,4,5,6,7];have J:=E.app (cv qf);rw[<-fw]at J;have g:=J.pick [7,0,1,2,3,4,5,6];obtain⟨ej,Vc,g⟩:=cP.open g;have TX:=g.ob;have g:=g.pick [4,0,1,2,3,5,6,7];obtain⟨el,SI,g⟩:=cP.open g;have Tn:=g.ob;have g:=g.pick [2,0,1,3,4,5,6,7];have Mn:=fB (X.nm x);rw[(bz (X.nm x)).aj]at Mn;have My:=oL (e.s.vars.nm x) (bz (X.nm x)) a.ps;rw[ea,(bz (X.nm x)).aj]at My;have am:(cv qf).length<=1:=by have:=Rw.2.2.2;simpa [cv] using this
    have d8:(cv e.q).length<=200000000:=by simp only[cv,agt];omega
    have d9:(cv (e.q++qf)).length<=300000000:=by rw[fw,agq];omega
    repeat refine DC.seq ?_
    apply KZ
    .intro s0 Oo;refine aA W W ?_;refine aW W W V W W ?_;refine aL U1 W W ?_;refine ai W W ?_;refine aL Pr W W ?_;refine fb W W ?_;exact TL.nil W
    repeat refine DC.seq ?_
    refine Lo W ?_
    repeat refine DC.seq ?_
    apply KZ
    .intro s0 Oo;refine ai W W ?_;refine ai W W ?_;refine dP W W Q W W ?_;refine ai W W ?_;refine aD MZ W W ?_;refine cX E W W W W W W (dt _) (by omega) ?_;refine ah W W ?_;exact TL.nil W
    repeat refine DC.seq ?_
    apply Le mixed
    .intro s0 Oo;refine aO W W ?_;refine aX W W ?_;refine bC W W Q W ?_;refine aO W W ?_;refine tM Vc TX W W W ?_;refine xB W W W W ?_;refine aX W W ?_;refine bC W W Q W ?_;refine aO W W ?_;refine tM SI Tn W W W ?_;refine xB W W W W ?_;refine bc Mn W W ?_;refine aX W W ?_;refine bG W W V W W ?_;refine bc My W W ?_;refine bm W W W W W W W W ?_;refine fa g W W W W W W W (by omega) ?_;refine eX W W ?_;exact TF.nil ⟨by kernel_rfl,rfl⟩
    have w8:=g.app [eQ 1 [e.s.vars.nm x] ⟨#[]⟩ [] false (xC (bz (X.nm x))) [] a.ps];have Sw:cv (e.q++qf)++[eQ 1 [e.s.vars.nm x] ⟨#[]⟩ [] false (xC (bz (X.nm x))) [] a.ps]=cv (e.q++qf++[gQ (e.s.vars.nm x) (bz (X.nm x)) a.ps]):=by
     rw[fw (e.q++qf)];show _=cv (e.q++qf)++[(gQ (e.s.vars.nm x) (bz (X.nm x)) a.ps).cells];rw[ea]
    rw[Sw]at w8;have w8:=LQ SI (w8.pick [1,0,2,3,4,5,6,7]);have w8:=LQ Vc (w8.pick [2,0,1,3,4,5,6,7])
    repeat refine DC.seq ?_
    apply KZ
    .intro s0 Oo;refine aI W W W (by omega) ?_;refine ai W W ?_;exact TL.nil W
    exact bH (k':=d.length-(C+1)) (by omega) ⟨C+1,_,_,_,rfl,u,Q,V,by rw[H];exact w8.pick [2,5,3,4,6,7,0,1],by omega,rfl⟩ W W
  refine DC.exit ?_;obtain rfl:C=d.length:=by have:=agv h;omega
  clear h;have U:=hL d.length;have Ve:=O0 d.length;rw[agz]at w U Ve;clear hL O0
  dsimp only[eM]at SO Y T
  have Vf:=U.n;have Vg:=U.vs;have Vh:=U.q;have Nh:=U.ck.trans Tx;generalize (d.filter λx=> !(di (cE a.a_) x)).foldl (fq a.ps) S=i1 at w U SO Y T Vf Vg Vh Nh;obtain⟨_,K5,l',⟨rfl,rfl⟩,E,MZ⟩:=Wk.call (a:=gS it f O P p ⟨i1.s,i1.m,[]⟩) (r:=[_,_,_,_]) (w.pick [2,3,6,7,0,1,4,5]) (SO O P);rw[Nh,a.a_.aj]at MZ;generalize h_ p.aG false a.a_ i1.s i1.m=zb at E MZ Y T;obtain⟨mb,qb⟩:=zb
  dsimp only at E MZ Y T
  have E:Wk N L (.acc 16 (cv i1.q) t::nH j c q.ps gl::gS it f iv o p ⟨r.s,mb,[]⟩) K5:=E.pick [2,3,0,1,4,5];have J:=E.app (cv qb);rw[<-fw]at J;have f5:(cv i1.q).length+(cv qb).length<=100000000:=by rw[agq]at Y;simp only[cv,agt];omega
  repeat refine DC.seq ?_
  apply KZ
  .intro g H;refine ai W W ?_;refine ai W W ?_;refine dP W W Q W W ?_;refine aA W W ?_;refine aW W W V W W ?_;refine aD MZ W W ?_;refine cX E W W W W W W (dt _) (by omega) ?_;refine ah W W ?_;exact TL.nil W
  repeat refine DC.seq ?_
  apply KZ
  .intro g H;refine aI W W W (by omega) ?_;refine ai W W ?_;exact TL.nil W
  exact bH (k':=q.aq.length-(k+1)) (by omega) ⟨k+1,_,gl,_,_,rfl,u,by rw[F,V5,RI,T],by rw[T];exact J,by omega,rfl⟩ W W
 refine DC.exit ?_;obtain rfl:k=q.aq.length:=by have:=agv h;omega
 clear h hR;rw[agz]at w F;have ZZ:(c7 p.aG c d q.aq r1 []).2.length<=1000:=by rw[xZ,List.length_nil];omega
 generalize c7 p.aG c d q.aq r1 []=zz at w F hZ ZZ⊢;obtain⟨z,y⟩:=zz
 dsimp only at w F hZ ZZ⊢
 have w:=zi.start (w.pick [1,0,2,3,4,5]);have co:l.length=d.length:=by have:=ahA List.length F;rw[agt,tU]at this;exact this
 repeat refine DC.seq ?_
 apply KZ
 .intro g C;refine ai W W ?_
  (refine aT W W W ?_;rw[Ny])
  refine ai W W ?_;exact TL.nil W
 refine L3 [(177,.m (.d (.int .i64 ((0:Nat):Int)))),(176,.m (.d (.int .i64 ((d.length:Nat):Int)))),(175,.m (.d (.sl (aR d)))),(11,.m (.cy j 0 d.length)),(9,.m t),(8,.m (.d (.str c))),(5,.m (.d (.ca (eQ 3 q.lhs q.f (q.args.map Xp.cells) q.has (xC q.ex) (q.aq.map aP.cells) q.ps) 0))),(4,.loc 4 0)] _ _ W (λ_=>rfl) W ?_
 repeat refine DC.seq ?_
 refine DC.block ?_;refine DC.loop (λw u=>∃(i:Nat) (g:M) (l:List Mr) (h:List (Nat×List M)) (t:Hp),u=⟨[(177,.m (.d (.int .i64 ((i:Nat):Int)))),(176,.m (.d (.int .i64 ((d.length:Nat):Int)))),(175,.m (.d (.sl (aR d)))),(11,.m (.cy j 0 d.length)),(9,.m g),(8,.m (.d (.str c))),(5,.m (.d (.ca (eQ 3 q.lhs q.f (q.args.map Xp.cells) q.has (xC q.ex) (q.aq.map aP.cells) q.ps) 0))),(4,.loc 4 0)],h,t⟩/\Go.Mt.get h 4=some [.mp iv,.mp o,.d (.sl (bW s.ck))]/\
   l.map Prod.fst=(x9 d.length (q.aq.map aP.name) y).drop i/\
   Wk N L (zi j c q.ps i l:: .acc 16 (cv (z.q++(List.range i).map λi=>gQ (z.s.vars.nm (d[i]?.getD ⟨#[]⟩)) (.mk 13 0 0 c (q.aq.map aP.name) (y.map λd=>bz (d[i]?.getD ⟨#[]⟩)) q.ps) q.ps)) g::gS it f iv o p ⟨z.s,z.m,[]⟩) t/\i<=d.length/\w=d.length-i) d.length _
  ⟨0,t,l,_,_,rfl,u,F,by rw[List.range_zero,ag1,agL];exact w,by omega,rfl⟩ W ?_
 clear w u F co;rintro ii s1 ⟨i,t,l,bx,H1,rfl,u,F,w,hi,rfl⟩
 repeat refine DC.seq ?_
 apply KZ
 .intro g C;refine av W W W W ?_;exact TL.nil W
 repeat refine DC.seq ?_
 refine DC.cond W (λh=>?_) (λh=>?_)
 .have Ly:i<d.length:=by have:=agr h;omega
  clear h;have S:=iC Ly;have ac:=tU d.length (q.aq.map aP.name) y;rw[<-ajf (by rw[ac];exact Ly),x_]at F;obtain⟨Q,g,rfl,I,MR⟩:=List.map_eq_cons_iff.1 F;obtain⟨y1,T,U⟩:=Q
  dsimp only at I
  subst I;obtain⟨A,G,w⟩:=zi.open w
  dsimp only at w
  have w:=w.pick [2,0,1,3,4,5,6,7,8];obtain⟨Z,w,J⟩:=w.G8;have O:=w.view (DM _);have P:=(w.pick [2,0,1,3,4,5,6,7,8]).view (dq _);have w:=(w.drop).pick [1,0,2,3,4,5,6,7];have w:=w.drop;have D:=w.ob;have C:=Hz (c:=c) (p:=q.ps) (x:=((q.aq.map aP.name,y.map λv=>v[i]?.getD ⟨#[]⟩),(T,U))) (A:=A) (B:=ep c q.ps g) P O;refine J (DC.uO D C.1 C.2 ?_);have w:=w.set (.row false 8 0 (A++(ji c q.ps ((q.aq.map aP.name,y.map λv=>v[i]?.getD ⟨#[]⟩),(.d (.sl (aR (q.aq.map aP.name))),.d (.sl (eN (y.map λv=>v[i]?.getD ⟨#[]⟩)))))++ep c q.ps g)));generalize Z.set j (.row false 8 0 (A++(ji c q.ps ((q.aq.map aP.name,y.map λv=>v[i]?.getD ⟨#[]⟩),(.d (.sl (aR (q.aq.map aP.name))),.d (.sl (eN (y.map λv=>v[i]?.getD ⟨#[]⟩)))))++ep c q.ps g)))=H3 at w⊢;clear D C P O J;have D:=w.ob;have w:=w.pick [5,0,1,2,3,4,6];obtain⟨ev,C,w⟩:=cP.open w;have V:=w.ob;have w:=w.pick [3,0,1,2,4,5,6];have My:=oL (z.s.vars.nm d[i]) (.mk 13 0 0 c (q.aq.map aP.name) (y.map λv=>bz (v[i]?.getD ⟨#[]⟩)) q.ps) q.ps;have X:eN (y.map λv=>v[i]?.getD ⟨#[]⟩)=(y.map λv=>bz (v[i]?.getD ⟨#[]⟩)).map Xp.cells:=by simp[eN]
  rw[ea,Xp.aj]at My;rw[X]at w D;have am:((A++(ji c q.ps ((q.aq.map aP.name,y.map λv=>v[i]?.getD ⟨#[]⟩),(.d (.sl (aR (q.aq.map aP.name))),.d (.sl ((y.map λv=>bz (v[i]?.getD ⟨#[]⟩)).map Xp.cells))))++ep c q.ps g)).drop ((((i:Nat):Int)).toNat*8)).take 8=ji c q.ps ((q.aq.map aP.name,y.map λv=>v[i]?.getD ⟨#[]⟩),(.d (.sl (aR (q.aq.map aP.name))),.d (.sl ((y.map λv=>bz (v[i]?.getD ⟨#[]⟩)).map Xp.cells)))):=by
   rw[ai2,ai6,G,Nat.sub_self,ajg (by omega),ag2,aiU];rw[aiK (by simp[ji])];rfl
  have d5:(((i:Nat):Int)).toNat*8+8<=(A++(ji c q.ps ((q.aq.map aP.name,y.map λv=>v[i]?.getD ⟨#[]⟩),(.d (.sl (aR (q.aq.map aP.name))),.d (.sl ((y.map λv=>bz (v[i]?.getD ⟨#[]⟩)).map Xp.cells))))++ep c q.ps g)).length:=by
   rw[ai2,agq,agq,G];simp[ji];try omega
  have d6:(cv (z.q++(List.range i).map λi=>gQ (z.s.vars.nm (d[i]?.getD ⟨#[]⟩)) (.mk 13 0 0 c (q.aq.map aP.name) (y.map λd=>bz (d[i]?.getD ⟨#[]⟩)) q.ps) q.ps)).length<=200000000:=by
   simp only[cv,agt,agq,aij];omega
  refine DC.skip ?_
  repeat refine DC.seq ?_
  refine DC.block ?_
  repeat refine DC.seq ?_
  apply KZ
  .intro s0 Oo;refine ai W W ?_;refine aN W W W (ago i) S W ?_;refine ax W W W ?_;refine ah W W ?_;refine ah W W ?_;exact TL.nil W
  repeat refine DC.seq ?_
  apply Le mixed
  .intro s0 Oo;refine aO W W ?_;refine aX W W ?_;refine bC W W u W ?_;refine aO W W ?_;refine tM C V W W W ?_;refine xB W W W W ?_;refine aO W W ?_;refine aO W W ?_;refine mI W W W D (ago _) (by omega) ?_;refine Fb W W D am d5 W ?_;refine bI W W ?_;refine gm W W W ?_;refine bc My W W ?_;refine bm W W W W W W W W ?_;refine fa w W W W W W W W (by omega) ?_;refine eX W W ?_;exact TF.nil ⟨by kernel_rfl,rfl⟩
  have H:=w.app [eQ 1 [z.s.vars.nm d[i]] ⟨#[]⟩ [] false (xC (.mk 13 0 0 c (q.aq.map aP.name) (y.map λv=>bz (v[i]?.getD ⟨#[]⟩)) q.ps)) [] q.ps];have Y:cv (z.q++(List.range i).map λi=>gQ (z.s.vars.nm (d[i]?.getD ⟨#[]⟩)) (.mk 13 0 0 c (q.aq.map aP.name) (y.map λd=>bz (d[i]?.getD ⟨#[]⟩)) q.ps) q.ps)++[eQ 1 [z.s.vars.nm d[i]] ⟨#[]⟩ [] false (xC (.mk 13 0 0 c (q.aq.map aP.name) (y.map λv=>bz (v[i]?.getD ⟨#[]⟩)) q.ps)) [] q.ps]=cv (z.q++(List.range (i+1)).map λi=>gQ (z.s.vars.nm (d[i]?.getD ⟨#[]⟩)) (.mk 13 0 0 c (q.aq.map aP.name) (y.map λd=>bz (d[i]?.getD ⟨#[]⟩)) q.ps) q.ps):=by
   rw[List.range_succ,agI,<-ahi,fw (z.q++_)];show _=cv _++[(gQ (z.s.vars.nm (d[i]?.getD ⟨#[]⟩)) (.mk 13 0 0 c (q.aq.map aP.name) (y.map λd=>bz (d[i]?.getD ⟨#[]⟩)) q.ps) q.ps).cells];rw[ea,show d[i]?.getD ⟨#[]⟩=d[i] by simp[Ly]]
  rw[Y]at H
  repeat refine DC.seq ?_
  apply KZ
  .intro s0 Oo;refine aI W W W (by omega) ?_;refine ai W W ?_;exact TL.nil W
  have E:=LQ C (H.pick [1,0,2,3,4,5,6]);have E:=E.pick [2,3,1,4,5,0,6];rw[<-ahi]at E;have E:=zi.close (k:=i+1) (by rw[agq,G];simp[ji];try omega) E;exact bH (k':=d.length-(i+1)) (by omega) ⟨i+1,_,g,_,_,rfl,u,MR,E,by omega,rfl⟩ W W
 refine DC.exit ?_;obtain rfl:i=d.length:=by have:=agv h;omega
 have w:=w.drop;have Qe:=w.view (dt _)
 repeat refine DC.seq ?_
 apply KZ
 .intro g C;refine ai W W ?_;refine ah W W ?_;exact TL.nil W
 refine DC.bg 6 W Qe ?_;exact DC.ret ⟨_,W,_,⟨W,W⟩,w.drop⟩
end Go.Proofs.Pz
namespace Go.Ps
open Go.Mt Go.Sm
section
variable{en:List En}{T:TE}
def kW.get:∀{l:List aJ},kW en T l->∀q∈l,Cc en T q
 |[],_,q,h=>by simp at h
 |b::l,a,q,h=>by
  rw[kW]at a;rcases agu.1 h with rfl|h
  .exact a.1
  .exact kW.get a.2 q h
def kW.take:∀{l:List aJ} (i:Nat),kW en T l->kW en T (l.take i)
 |l,0,_=>by rw[agS,kW];trivial
 |[],i+1,h=>by rw[aiJ];exact h
 |b::l,i+1,a=>by
  rw[kW]at a;rw[ahg,kW];exact⟨a.1,kW.take i a.2⟩
def kn.get:∀{l:List aP},kn en T l->∀a∈l,zh en T a.a_
 |[],_,q,h=>by simp at h
 |.mk n b u w p::l,c,q,h=>by
  rw[kn]at c;rcases agu.1 h with rfl|h
  .exact c.1
  .exact kn.get c.2 q h
def kn.take:∀{l:List aP} (i:Nat),kn en T l->kn en T (l.take i)
 |l,0,_=>by rw[agS,kn];trivial
 |[],i+1,h=>by rw[aiJ];exact h
 |.mk n b u w p::l,i+1,a=>by
  rw[kn]at a;rw[ahg,kn];exact⟨a.1,kn.take i a.2⟩
end
def yd:∀{l:List aJ} {i:Nat} (h:i<l.length),gg (l.take i)+mg l[i]<=gg l
 |[],i,h=>by simp at h
 |a::l,0,h=>by rw[agS,gg,gg,ahM];omega
 |a::l,i+1,h=>by
  have:=yd (l:=l) (i:=i) (by simpa using h);rw[ahg,gg,gg,ahE];omega
def ye:∀(l:List aJ) (i:Nat),eH (l.take i)<=eH l
 |l,0=>by rw[agS,eH];omega
 |[],i+1=>by rw[aiJ];omega
 |a::l,i+1=>by have:=ye l i;rw[ahg,eH,eH];omega
def Ac:∀{l:List aJ} {q:aJ},q∈l->nh q<=eH l
 |[],q,h=>by simp at h
 |a::l,q,h=>by
  rw[eH];rcases agu.1 h with rfl|h
  .omega
  .have:=Ac h;omega
def sM(n:Nat):∀{l:List aP} {i:Nat} (h:i<l.length),fL n (l.take i)+(1+3*n+ib l[i].a_)<=fL n l
 |[],i,h=>by simp at h
 |.mk _ b _ _ _::l,0,h=>by rw[agS,fL,fL,ahM];simp only[aP.a_];omega
 |.mk _ b _ _ _::l,i+1,h=>by
  have:=sM n (l:=l) (i:=i) (by simpa using h);rw[ahg,fL,fL,ahE];omega
def Cj(n:Nat):∀(l:List aP) (i:Nat),fL n (l.take i)<=fL n l
 |l,0=>by rw[agS,fL];omega
 |[],i+1=>by rw[aiJ];omega
 |.mk _ b _ _ _::l,i+1=>by have:=Cj n l i;rw[ahg,fL,fL];omega
def sN:∀(l:List aP) (i:Nat),dJ (l.take i)<=dJ l
 |l,0=>by rw[agS,dJ];omega
 |[],i+1=>by rw[aiJ];omega
 |.mk _ b _ _ _::l,i+1=>by have:=sN l i;rw[ahg,dJ,dJ];omega
def kp:∀{l:List aP} {a:aP},a∈l->1+iX a.a_<=dJ l
 |[],q,h=>by simp at h
 |.mk _ b _ _ _::l,q,h=>by
  rw[dJ];rcases agu.1 h with rfl|h
  .simp only[aP.a_];omega
  .have:=kp h;omega
end Go.Ps
namespace Go.Proofs.Pz
open Go.Mt Go.Sm Go.Ps Go.Proofs
section
variable(it im:Nat)(p:Pg)(L8:kL p.aG)
include L8
mutual
def EL:∀(b:bT) (a:Bool) (s:Sc) (m:MS) (T:TE) (N:Nat),zh p.aG T b->dZ s->dI s T->kP T N->N+ib b<=9000000->s.ck.length+iX b<=90000->m.n+ib b<=8000000->m.vars.length+ib b<=8000000->ve it im p p.aG a b s m
 |.mk c a,d,s,m,T,N,l,n,q,t,u,v,w,x=>by
  rw[zh]at l;rw[ib]at u w x;rw[iX]at v;obtain⟨y,z,A,h⟩:=l;intro B C;refine rj it im B C p p.aG d (.mk c a) s m n (by omega) z y (by simp only[bT.vars];omega) (by simp only[bT.vars];omega) A ?_;intro i D;have j:=bN.open (r:=⟨s,m,[]⟩) n d c;have E:=dI.open (r:=⟨s,m,[]⟩) d q c;have e:i<a.length:=D;show(gf p.aG (a.take i) (iA d ⟨s,m,[]⟩ c)).s.ck=s.ck/\EJ it im p p.aG a[i] (gf p.aG (a.take i) (iA d ⟨s,m,[]⟩ c))/\(iB p.aG a[i] (gf p.aG (a.take i) (iA d ⟨s,m,[]⟩ c))).q.length<=100000000;have K:=yd e;have L:=ye a i;have M:=Ac (agx e);obtain⟨k,o⟩:=xY p.aG (a.take i) (iA d ⟨s,m,[]⟩ c) _ j.sc E (h.take i) (by rw[j.ck];dsimp only;omega);have f:=j.trans k;have g:=f.ck;have F:=f.n;have I:=f.vs;have G:=f.q
  dsimp only[List.length_nil]at g F I G
  obtain⟨H,_⟩:=EK p.aG a[i] _ _ k.sc o (h.get _ (agx e)) (by rw[g];omega);have J:=H.q;refine⟨g,EM a a[i] (agx e) _ _ (N+c.length) (h.get _ (agx e)) k.sc o (t.vV c) (by omega) (by rw[g];omega) (by omega) (by omega),?_⟩;exact agW J (by omega)
def EM:∀(l:List aJ) (q:aJ),q∈l->∀(r:Ps.R) (T:TE) (N:Nat),Cc p.aG T q->dZ r.s->dI r.s T->kP T N->N+mg q<=9000000->r.s.ck.length+nh q<=90000->r.m.n+mg q<=8000000->r.m.vars.length+mg q<=8000000->EJ it im p p.aG q r
 |[],q,h=>by simp at h
 |a::l,q,h=>by
  rcases agu.1 h with h|h
  .rw[h];exact JT a
  .exact EM l q h
def JT:∀(q:aJ) (r:Ps.R) (T:TE) (N:Nat),Cc p.aG T q->dZ r.s->dI r.s T->kP T N->N+mg q<=9000000->r.s.ck.length+nh q<=90000->r.m.n+mg q<=8000000->r.m.vars.length+mg q<=8000000->EJ it im p p.aG q r
 |.mk k b g l j e a h,r,T,N,D,m,o,C,P,Q,S,U=>by
  rw[Cc]at D;rw[mg]at P S U;rw[nh]at Q;obtain⟨x,V,⟨E,X,am,ce⟩,Y,q⟩:=D;intro s t;rcases Y with d|d|⟨d,Z⟩|⟨d,Ma,y,ML,Me,F,O6⟩
  .exact FM it im s t p p.aG r.s r.m (.mk k b g l j e a h) d x m (by simp only[aJ.ex];omega) (by simp only[aJ.ex];omega) (by simp only[aJ.ex];omega) (by simp only[aJ.lhs];omega)
  .exact DE it im s t p p.aG r.s r.m (.mk k b g l j e a h) d V x m (by simp only[aJ.ex,aJ.args];omega) (by simp only[aJ.ex,aJ.args];omega) E X (by simp only[aJ.lhs];omega) (by simp only[aJ.args];omega)
  .have f:=bN.val (r:=⟨r.s,r.m,[]⟩) m e (1,⟨#[]⟩);have w:=dI.val (r:=⟨r.s,r.m,[]⟩) o e (1,⟨#[]⟩);have v:=f.ck;have z:=f.n;have A:=f.vs
   dsimp only at v z A
   obtain⟨c,n,i⟩:∃b c,a=b::c:=by
    cases B:a with
    |nil=>exact absurd B Z
    |cons c n=>exact⟨c,n,W⟩
   have u:c∈a:=by rw[i];simp
   have G:=kp u;have H:1+3*(aZ b a).length+ib c.a_<=fL (aZ b a).length a:=by
    have B:0<a.length:=by rw[i];simp
    have:=sM (aZ b a).length B;have e:a[0]=c:=by simp[i]
    rw[e,agS,fL]at this;omega
   exact B' it im s t p p.aG r.s r.m (.mk k b g l j e a h) c n d i x m (by simp only[aJ.ex];omega) (by simp only[aJ.ex];omega) (by simp only[aJ.ex];omega)
    (yf a c u _ _ T N (q.get c u) f.sc w C (by omega) (by simp only[aJ.ex];rw[v];omega) (by simp only[aJ.ex];omega) (by simp only[aJ.ex];omega))
  .have Nv:=o.ty;have f:=bN.val (r:=⟨r.s,r.m,[]⟩) m e (dD p.aG r.s.vars.ty e);have u:=dI.val (r:=⟨r.s,r.m,[]⟩) o e (dD p.aG r.s.vars.ty e);have Z0:ou p.aG r.s.vars.ty (λx=>(r.s.vars x).isSome=true) e:=by
    rw[Nv];exact Ma.mono λx a=>by rw[o.some];exact a
   obtain⟨c,G⟩:∃a,a=Ps.gG ⟨r.s,r.m,[]⟩ e (dD p.aG r.s.vars.ty e):=⟨_,rfl⟩;rw[<-G]at f u;have v:=f.ck;have O4:=f.n;have L0:=f.vs;have Rv:=f.q
   dsimp only[List.length_nil]at v O4 L0 Rv
   have Mg:=agW (qu b a) F;refine Bk it im s t p r.s r.m (.mk k b g l j e a h) d _ (pA it im s t p L8 r.s r.m (.mk k b g l j e a h) d m x Z0 (by obtain⟨O,q1,q2⟩:=(o.Kq C);exact⟨O,by omega,q2⟩) ML Me (by rw[pM];exact F) (by rw[cp];exact rK a O6) (by rw[cp];omega) (by omega)
    E (by simp only[aJ.ex];omega) (by simp only[aJ.ex];omega) c G ?_ ?_)
   .rw[show cp (.mk k b g l j e a h)=aZ b a by rw[cp]];intro i hi;have A:i<a.length:=hi;show(c7 p.aG (nV c.m.n) (aZ b a) (a.take i) c []).1.s=c.s/\(c7 p.aG (nV c.m.n) (aZ b a) (a.take i) c []).1.m.n+3*(aZ b a).length<=9000000/\(c7 p.aG (nV c.m.n) (aZ b a) (a.take i) c []).1.m.vars.length+3*(aZ b a).length<=9000000/\
     (c7 p.aG (nV c.m.n) (aZ b a) (a.take i) c []).1.q.length<=100000000/\(c7 p.aG (nV c.m.n) (aZ b a) (a.take (i+1)) c []).1.q.length<=100000000/\
     ve it im p p.aG false a[i].a_ (eM (aZ b a) a[i].a_ a[i].ps (eb (nV c.m.n) (aZ b a) a[i].name (c7 p.aG (nV c.m.n) (aZ b a) (a.take i) c []).1)).s (eM (aZ b a) a[i].a_ a[i].ps (eb (nV c.m.n) (aZ b a) a[i].name (c7 p.aG (nV c.m.n) (aZ b a) (a.take i) c []).1)).m
    have w1:=sM (aZ b a).length A;have w2:=Cj (aZ b a).length a (i+1);have d1:=sN a i;have d2:=sN a (i+1);have d3:=kp (agx A);obtain⟨n,w⟩:=qw p.aG (a.take i) (nV c.m.n) (aZ b a) c [] T f.sc u y (q.take i) (by rw[v];omega);obtain⟨z3,_⟩:=qw p.aG (a.take (i+1)) (nV c.m.n) (aZ b a) c [] T f.sc u y (q.take (i+1)) (by rw[v];omega);have H:=n.n;have I:=n.vs;have J:=n.q;have co:=z3.q;generalize c7 p.aG (nV c.m.n) (aZ b a) (a.take i) c []=z at n w H I J⊢;obtain⟨z,vz⟩:=z
    dsimp only at n w H I J⊢
    have K:z.s.ck=r.s.ck:=by rw[w,v]
    have L:dI z.s T:=by rw[w];exact u
    have B:=bN.jZ (r:=z) n.sc (by rw[K];omega) (nV c.m.n) (aZ b a) a[i].name a[i].a_ a[i].ps;have M:=B.ck;have gn:=B.n;have gv:=B.vs
    dsimp only at M gn gv
    have ac:=ahA List.length M;rw[agq,agB,K]at ac;exact⟨w,by omega,by omega,by omega,by omega,yf a a[i] (agx A) _ _ T N (q.get _ (agx A)) B.sc ((dI.ov L (aZ b a) (r:=⟨⟨z.s.vars,z.s.aY,z.s.ck++[(a[i].name,nV c.m.n)]⟩,z.m,z.q⟩) y (L.vars W)).vars (qv _ _ _)) C (by omega) (by omega) (by omega) (by omega)⟩
   .rw[show cp (.mk k b g l j e a h)=aZ b a by rw[cp]];obtain⟨i,n⟩:=qw p.aG a (nV c.m.n) (aZ b a) c [] T f.sc u y q (by rw[v];omega);exact⟨n,by have:=i.q;simp only[aJ.aq];omega⟩
def yf:∀(l:List aP) (a:aP),a∈l->∀(s:Sc) (m:MS) (T:TE) (N:Nat),zh p.aG T a.a_->dZ s->dI s T->kP T N->N+ib a.a_<=9000000->s.ck.length+iX a.a_<=90000->m.n+ib a.a_<=8000000->m.vars.length+ib a.a_<=8000000->ve it im p p.aG false a.a_ s m
 |[],a,h=>by simp at h
 |.mk n b u w c::l,a,h=>by
  rcases agu.1 h with rfl|h
  .exact EL b false
  .exact yf l a h
end
end
end Go.Proofs.Pz
namespace Go.Ps
open Go.Mt Go.Sm
def dI.Hv{r:R}{T:TE}(h:dI r.s T)(v:Va):dI (e8 r v).s (T.add v):=by
 unfold e8;refine dI.vars (s:={r.s with vars:=r.s.vars.set v.name ⟨v.name,0,v.tk,v.tn⟩}) ?_ (vW _ _ _);intro y;show((Env.set r.s.vars v.name _) y).map _=_;unfold Env.set TE.add;by_cases e:y=v.name
 .rw[agK e,agK e];rfl
 .rw[agw e,agw e];exact h y
def dI.pN:∀(l:List Va) {r:R} {T:TE},dI r.s T->dI (l.foldl e8 r).s (l.foldl TE.add T)
 |[],r,T,h=>h
 |v::l,r,T,h=>by rw[agy,agy];exact dI.pN l (h.Hv v)
abbrev T0:TE:= λ_=>none
def HA:kP T0 0:=⟨[],by simp,λx h=>by simp at h⟩
structure Jt(en:List En)(d:Nd):Prop where
 l:d.ins.length+d.outs.length<=1000
 cl:∀v∈d.ins++d.outs,v.clock.length<=1000
 wf:zh en ((d.ins++d.outs).foldl TE.add T0) d.b
 wt:ib d.b<=7000000
 dp:iX d.b<=80000
structure Ju(p:Pg):Prop where
 e:kL p.aG
 n:p.nodes.length<=1000000
 d:∀d∈p.nodes,Jt p.aG d
end Go.Ps
namespace Go.Proofs.Pz
open Go.Mt Go.Sm Go.Ps Go.Proofs
def IS(it:Nat)(p:Pg)(a:Ju p):Dt Tryz.prog 56 [.d (.agg p.cells)] [.ob it bK] λx l=>x=.d (.agg (tB p).cells)/\l=[.ob it bK]:=by
 refine zg it p a.n λd b=>?_
 have h:=a.d d b;have b:(d.ins++d.outs).length<=1000:=by rw[agq];exact h.l
 have g:=bN.pN (d.ins++d.outs) wK;have t:=dI.pN (d.ins++d.outs) (r:=mE) (T:=T0) (λ_=>rfl);have c:=g.n;have e:=g.vs;have b:=g.ck
 dsimp only[List.length_nil]at c e b
 have c:=h.wt;have c:=h.dp;exact DG it p d h.l h.cl (λc=>EL it c p a.e d.b true _ _ _ _ h.wf g.sc t (kP.vV (d.ins++d.outs) HA) (by omega) (by rw[b];simp only[List.length_nil];omega) (by omega) (by omega))
  (agW (wL p.aG d.b true _ _ _ g.sc t h.wf (by rw[b];simp only[List.length_nil];omega)).q (by omega))
end Go.Proofs.Pz
namespace Go.Mt
variable{P:Program}{f:Nat}{ms:List M}{x:D}
def CT.qz{H K:Hp}{x:M}{d:D}(h:CT P f ms H λr a=>r=x/\a=K)(g:eK K x=some d):CT P f ms H λr a=>r=.d d/\a=K:=by
 intro c i j t k l;refine(h c i j t k l).mono ?_;rintro e u ⟨v,r,m,n,o,⟨rfl,a⟩,b,p,q,s⟩;exact⟨v,_,m,n,o,⟨W,a⟩,b,p.view b (by rw[a];exact g),q,s⟩
def Dt.qz{n:Nat}{a:List As}{rs:List (List D)}(h:Dt P f ms a λr l=>l=[.acc n rs r])(b:∀r∈rs,r.length=n):Dt P f ms a λr l=>r=.d (.sl rs)/\l=[]:=by
 intro H F c;obtain⟨x,K,⟨l,rfl,w⟩,d⟩:=h H F c;exact⟨_,K,⟨[],⟨W,W⟩,w.drop⟩,d.qz (w.view b)⟩
def Dt.ro(h:Dt P f ms [] λr l=>r=.d x/\l=[])(H:Hp):CT P f ms H λr K=>r=.d x/\K=H:=by
 obtain⟨_,K,⟨n,⟨rfl,rfl⟩,w⟩,j⟩:=h H (λ_=>False) (λ_ h=>h);obtain⟨_,_,b⟩:=w;have c:K.take H.length=H:=by
  refine ah7 λi=>?_
  rw[ahQ];by_cases a:i<H.length
  .rw[agK a];exact b.iG i a id
  .rw[agw a,agD (by omega)]
 intro g k l e d m;refine CT.drop (post:= λa b=>a=.d x/\b=H) H.length (ags _) (j.mono ?_) g k l e d m;rintro r o ⟨rfl,rfl⟩;exact⟨b.len,.d _,by rw[c];exact(by rw[<-d];exact e.hb),W,c⟩
def PT.ro{ds:List D}(h:Dt P f (ds.map M.d) [] λr l=>r=.d x/\l=[]):PT P f ds (·=[x]):=
 Lk ((h.ro []).mono λr K ⟨a,b⟩=>⟨[x],by rw[a];rfl,rfl⟩)
end Go.Mt
namespace Go.Ps
open Go.Mt Go.Sm
variable{F0:Nat->Prop}{H0 H:Hp}{r:List As}{f:oJ}{i im ic:Nat}{es:List (D×M)}{p:Pg}{ins outs:List Va}{u:US}
structure qA(es:List (D×M))(f:oJ):Prop where
 k:strKeys es=true
 l:∀x,(match eP x es with|some m=>m|none=>M.d (.sl []))=.d (.sl (bW (f x)))
def oQ(i:Nat)(f:oJ):As:=.ex λa:List (D×M)=>Sep [.ob i (.map a),.fact (qA a f)]
def oQ.close(h:qA es f)(w:Wk F0 H0 (.ob i (.map es)::r) H):Wk F0 H0 (oQ i f::r) H:=
 Ng (φ:= λes:List (D×M)=>Sep [.ob i (.map es),.fact (qA es f)]) es (MP (a:=[_,_]) ((Wk.zI h w).perm (List.Perm.swap _ _ _)))
def oQ.open(w:Wk F0 H0 (oQ i f::r) H):∃es,qA es f/\Wk F0 H0 (.ob i (.map es)::r) H:=by
 obtain⟨es,w⟩:=w.open;have w:=Wk.split (a:=[_,_]) w;have w:=w.perm (List.Perm.swap _ _ _);exact⟨es,w.BO,w.drop⟩
def qA.nil:qA [] (λ_=>[]):=⟨rfl,λ_=>rfl⟩
def qA.set(h:qA es f)(x:Nm)(c:List (Nm×Nm)):qA (dH x (.d (.sl (bW c))) es) (λy=>if y=x then c else f y):=by
 have d:=cI.1 h.k;have g:strKeys (dH x (.d (.sl (bW c))) es)=true:=by
  rcases k_ (k:=x) (v:=.d (.sl (bW c))) d with a|⟨a,m⟩
  .refine cI.2 λe b=>?_
   have:e.1∈es.map Prod.fst:=a▸ag4 b;rw[agC]at this;obtain⟨i,j,l⟩:=this;rw[<-l];exact d i j
  .refine cI.2 λe i=>?_
   have:e.1∈es.map Prod.fst++[.str x]:=a▸ag4 i;rw[agG,ag9]at this;rcases this with b|b
   .rw[agC]at b;obtain⟨j,b,l⟩:=b;rw[<-l];exact d j b
   .exact⟨x,b⟩
 refine⟨g,λy=>?_⟩;rw[py x y _ h.k];by_cases a:y=x
 .rw[agK a,agK a]
 .rw[agw a,agw a];exact h.l y
def fx(l:List Fq):List (List D):=l.map Fq.cells
abbrev kA(kd:Int)(lhs:List Nm)(f:Nm)(first e:List D)(args:List (List D))(ck:List (Nm×Nm))(rs:List Nm):List D:=[.int .u8 kd,.sl (aR lhs),.str f]++first++e++[.sl args,.sl (bW ck),.sl (aR rs)]
def Fq.aj(q:Fq):q.cells=kA q.kd q.lhs q.f q.first.cells q.e.cells (q.args.map Xp.cells) q.ck q.rs:=rfl
def yg(l:List Fq):∀r∈fx l,r.length=22:=by intro r a;obtain⟨q,_,rfl⟩:=agC.1 a;rw[q.aj,q.first.aj,q.e.aj];rfl
def jA(a b:Nat)(p:Pg)(c:Nm)(d e:List Va)(u:Ps.US):As:=.ex λx:M×M=>Sep [.ob a (.box [.d (.sl (p.aG.map En.cells)),.d (.sl (p.nodes.map Nd.cells)),.d (.str c),.d (.sl (aB d)),.d (.sl (aB e)),x.1,x.2,.mp b,.d (.int .i64 ((u.n:Nat):Int))]),.acc 15 (aB u.vars) x.1,.acc 22 (fx u.eqs) x.2]
def NM{b:Nm}{mv me:M}(w:Wk F0 H0 (.ob im (.box [.d (.sl (p.aG.map En.cells)),.d (.sl (p.nodes.map Nd.cells)),.d (.str b),.d (.sl (aB ins)),.d (.sl (aB outs)),mv,me,.mp ic,.d (.int .i64 ((u.n:Nat):Int))]):: .acc 15 (aB u.vars) mv:: .acc 22 (fx u.eqs) me::r) H):Wk F0 H0 (jA im ic p b ins outs u::r) H:=
 Ng (φ:= λx:M×M=>Sep [.ob im (.box [.d (.sl (p.aG.map En.cells)),.d (.sl (p.nodes.map Nd.cells)),.d (.str b),.d (.sl (aB ins)),.d (.sl (aB outs)),x.1,x.2,.mp ic,.d (.int .i64 ((u.n:Nat):Int))]),.acc 15 (aB u.vars) x.1,.acc 22 (fx u.eqs) x.2]) (mv,me) (MP (a:=[_,_,_]) w)
def jA.open{a:Nm}(w:Wk F0 H0 (jA im ic p a ins outs u::r) H):∃mv me,Wk F0 H0 (.ob im (.box [.d (.sl (p.aG.map En.cells)),.d (.sl (p.nodes.map Nd.cells)),.d (.str a),.d (.sl (aB ins)),.d (.sl (aB outs)),mv,me,.mp ic,.d (.int .i64 ((u.n:Nat):Int))]):: .acc 15 (aB u.vars) mv:: .acc 22 (fx u.eqs) me::r) H:=by
 obtain⟨⟨mv,me⟩,w⟩:=w.open;exact⟨mv,me,w.split⟩
end Go.Ps
namespace Go.Proofs.Pz
open Go.Mt Go.Sm Go.Ps Go.Proofs
open Tryz
section
variable{X:cY}{ops:Array Oper}{rest:List Oper}{post:St->Prop}{Lw:List Ef->St->Prop}{sl:List (Nat×V)}{bx:List (Nat×List M)}{H:Hp}{d ty:Nat}{pos:String}{af:Array Edge}
def HC{T e:Nat}{x y:Operand}{i:Nat}{a:Nm}{es:List (D×M)}{f:oJ}[ht:iq X.P T e][l:fC X.P e (.sl [])](b:qA es f)(c:H[i]?=some (.map es))(g:Nat.blt d X.n=true)(h:bj sl x=some (.m (.mp i)))(j:bj sl y=some (.m (.d (.str a))))
  (k:TF X ops rest ⟨(d,.m (.d (.sl (bW (f a)))))::sl,bx,H⟩ λes b=>Lw (⟨some d,.m (.d (.sl (bW (f a)))),[],[],none,true,none⟩::es) b):TF X ops (⟨some d,.lookup T x y false,ty,pos,af,none⟩::rest) ⟨sl,bx,H⟩ Lw:=
 xo g h j c b.k (by rw[<-b.l]at k;exact k)
end
def yh(l:List Nm)(a:l.length<=1000000):PT prog 206 [.sl (aR l)] (·=[.sl (aR l)]):=
 PT.ro (ds:=[_]) ((sH l (by omega)).qz (dq l))
def DN(l:List Va)(a:l.length<=30000000):PT prog 60 [.sl (aB l)] (·=[.sl (aB l)]):=
 PT.ro (ds:=[_]) ((pq l (by omega)).qz (bR l))
def qC(b a:Nat)(p:Pg)(d:Nm)(f g:List Va)(u:Ps.US)(c:oJ)(lhs:List Nm):
  Dt prog 205 [.ref b 0,.d (.sl (aR lhs))] [jA b a p d f g u,oQ a c] λr l=>r=.d (.sl (bW (mu c lhs)))/\l=[jA b a p d f g u,oQ a c]:=by
 intro H F e;refine⟨_,H,⟨_,⟨W,W⟩,Wk.start e⟩,?_⟩;have w:=Wk.start e;obtain⟨m,n,w⟩:=jA.open w;have h:=w.ob;obtain⟨o,i,w⟩:=oQ.open (w.pick [3,0,1,2]);have k:(aR lhs).length=lhs.length:=by simp[aR]
 refine Lf func205 W ntmps205 W λq s=>?_
 repeat refine TC.seq ?_
 refine TC.region<|ah W W<|TL.nil ?_;cases lhs with
 |nil=>
  repeat refine TC.seq ?_
  refine TC.region<|ai W W<|aT W W W<|av W W W (r:=.bool true) W<|TL.nil ?_
  repeat refine TC.seq ?_
  refine LK W ?_
  repeat refine TC.seq ?_
  refine TC.region<|ah W W<|TL.nil<|TC.ret ⟨_,W,W,W⟩
 |cons x r=>
  have j:((((x::r).length:Nat):Int)==0)=false:=by simp;omega
  repeat refine TC.seq ?_
  refine TC.region<|ai W W ?_
  (refine aT W W W ?_;rw[k])
  (refine av W W W (r:=.bool false) (by show some (D.bool ((((x::r).length:Nat):Int)==0))=_;rw[j]) ?_)
  refine TL.nil ?_
  repeat refine TC.seq ?_
  refine Ll W<|TC.skip ?_
  repeat refine TC.seq ?_
  refine Na mixed<|aO W W<|bO W W W<|bJ W W<|dy W W h W<|aO W W<|bE W W W (by decide) W W<|cd W W W<|HC i w.ob W W W<|eX W W<|TF.nil ⟨by kernel_rfl,?_⟩;exact TC.ret ⟨_,W,W,W⟩
def vY(it g b:Nat)(p:Pg)(c:Nm)(d f:List Va)(u:Ps.US)(e:Xp)(t:Int×Nm)(a:List (Nm×Nm))(rs:List Nm)(K:u.n<1000000000)(L:u.vars.length<=100000000)(M:u.eqs.length<=100000000)(B:rs.length<=1000000):
  Dt prog 252 [.ref g 0,.d (.agg e.cells),.d (.agg (fH t)),.d (.sl (bW a)),.d (.sl (aR rs))] [.ob it bK,jA g b p c d f u] λr l=>r=.d (.str (nE (u.n+1)))/\l=[.ob it bK,jA g b p c d f (iN u e t a rs)]:=by
 intro H F C;have w:=Wk.start C;have w:=w.pick [1,0];obtain⟨mv,me,w⟩:=jA.open w;have h:=w.ob;have v:((u.n:Nat):Int)+1=((u.n+1:Nat):Int):=by omega
 have n:u.n+1<=1000000000:=by omega
 unfold iN;generalize N:u.n+1=k at v n⊢;rw[e.aj];refine Lj func252 W ntmps252 W ?_
 repeat refine DC.seq ?_
 apply KZ
 .intro O P;refine bp W W<|bp W W<|ah W W<|TL.nil W
 repeat refine DC.seq ?_
 apply KZ
 .intro O P;refine ai W W<|dG W W W<|eB W W<|eC W W h W ?_
  (refine aI W W W (by omega) ?_;rw[v])
  refine dG W W W<|eB W W<|c8 W W h W W W<|TL.nil W
 have w:=w.set (.box [.d (.sl (p.aG.map En.cells)),.d (.sl (p.nodes.map Nd.cells)),.d (.str c),.d (.sl (aB d)),.d (.sl (aB f)),mv,me,.mp b,.d (.int .i64 ((k:Nat):Int))]);generalize H.set g (.box [.d (.sl (p.aG.map En.cells)),.d (.sl (p.nodes.map Nd.cells)),.d (.str c),.d (.sl (aB d)),.d (.sl (aB f)),mv,me,.mp b,.d (.int .i64 ((k:Nat):Int))])=j at w⊢;have h:=w.ob;have w:=w.pick [3,1,0,2];have E:=qo n w.ob
 repeat refine DC.seq ?_
 apply Le mixed
 .intro O P;refine aO W W<|bO W W W<|bJ W W<|dy W W h W<|fO E W W<|sK W W W W (agW (gR k n) (by omega:21<=4000000000))<|cx W W W<|aO W W<|dU W W W W W<|fk W<|bS W W W W W W<|TF.nil ⟨by kernel_rfl,rfl⟩
 have w:=w.pick [1,2,3,0];obtain⟨row,o⟩:∃row:List D,row=[.str (nE k),.int .u8 t.1,.str t.2,.sl (bW a),.bool false,.int .u8 0,.int .u8 0,.int .i32 0,.str ⟨#[]⟩,.sl [],.sl [],.int .i64 0,.int .i64 0,.int .i64 0,.int .i64 0]:=⟨_,rfl⟩;have x:aB (u.vars++[⟨nE k,t.1,t.2,a,false,cg,(0,0)⟩])=aB u.vars++[row]:=by
  rw[o];simp only[aB,agI,agH,ag1];rw[Va.aj];rfl
 have m:=w.app [row];have y:=(m.pick [1,0,2,3]).ob;rw[o]at m y
 repeat refine DC.seq ?_
 apply Le mixed
 .intro O P;refine aO W W<|aO W W<|bO W W W<|bJ W W<|bJ W W<|dy W W h W<|bG W W W W W<|bm W W W W W W W W<|fa w W W W W W W W (by simp only[aB,agt];omega)<|bO W W W<|bJ W W<|bJ W W<|iy W W y (bQ _ _ _) W W<|TF.nil ⟨by kernel_rfl,rfl⟩
 rw[o]at x;rw[<-x]at m;have i:=(m.pick [1,0,2,3]).set (.box [.d (.sl (p.aG.map En.cells)),.d (.sl (p.nodes.map Nd.cells)),.d (.str c),.d (.sl (aB d)),.d (.sl (aB f)),cQ mv j [[.str (nE k),.int .u8 t.1,.str t.2,.sl (bW a),.bool false,.int .u8 0,.int .u8 0,.int .i32 0,.str ⟨#[]⟩,.sl [],.sl [],.int .i64 0,.int .i64 0,.int .i64 0,.int .i64 0]],me,.mp b,.d (.int .i64 ((k:Nat):Int))]);obtain⟨z,G⟩:∃b,b=cQ mv j [[.str (nE k),.int .u8 t.1,.str t.2,.sl (bW a),.bool false,.int .u8 0,.int .u8 0,.int .i32 0,.str ⟨#[]⟩,.sl [],.sl [],.int .i64 0,.int .i64 0,.int .i64 0,.int .i64 0]]:=⟨_,rfl⟩;obtain⟨q,A⟩:∃h,h=(eg 15 mv j [[.str (nE k),.int .u8 t.1,.str t.2,.sl (bW a),.bool false,.int .u8 0,.int .u8 0,.int .i32 0,.str ⟨#[]⟩,.sl [],.sl [],.int .i64 0,.int .i64 0,.int .i64 0,.int .i64 0]]).set g (.box [.d (.sl (p.aG.map En.cells)),.d (.sl (p.nodes.map Nd.cells)),.d (.str c),.d (.sl (aB d)),.d (.sl (aB f)),cQ mv j [[.str (nE k),.int .u8 t.1,.str t.2,.sl (bW a),.bool false,.int .u8 0,.int .u8 0,.int .i32 0,.str ⟨#[]⟩,.sl [],.sl [],.int .i64 0,.int .i64 0,.int .i64 0,.int .i64 0]],me,.mp b,.d (.int .i64 ((k:Nat):Int))]):=⟨_,rfl⟩;rw[<-A,<-G]at i;have h:=i.ob;have i:=i.pick [2,0,1,3];have s:=i.app [kA 1 [nE k] ⟨#[]⟩ (bD 0 0 0 ⟨#[]⟩ [] [] (0,0)) (xC e) [] a rs];have I:fx (u.eqs++[⟨1,[nE k],⟨#[]⟩,cg,e,[],a,rs⟩])=fx u.eqs++[kA 1 [nE k] ⟨#[]⟩ (bD 0 0 0 ⟨#[]⟩ [] [] (0,0)) (xC e) [] a rs]:=by
  simp only[fx,agI,agH,ag1];rw[Fq.aj,cg.aj,e.aj];rfl
 refine L3 [(11,.loc 11 0),(6,.m (.d (.ca (xC e) 0))),(4,.m (.d (.sl (aR rs)))),(3,.m (.d (.sl (bW a)))),(0,.m (.ref g 0))] _ q W (λ_=>rfl) A.symm ?_
 repeat refine DC.seq ?_
 apply Le mixed
 .intro O P;refine aO W W<|aO W W<|bO W W W<|bJ W W<|bJ W W<|dy W W h W<|aX W W<|bC W W W W<|bm W W W W W W W W<|cx W W W<|aO W W<|aO W W<|bc (yh rs B) W W<|dU W W W W W<|bm W W W W W W W W<|fa i W W W W W W W (by simp only[fx,agt];omega)<|bO W W W<|bJ W W<|bJ W W<|iy W W ((s.pick [1,0,2,3]).ob) (bQ _ _ _) W W<|TF.nil ⟨by kernel_rfl,rfl⟩
 rw[<-I]at s;have J:Wk F H (jA g b p c d f ⟨k,u.vars++[⟨nE k,t.1,t.2,a,false,cg,(0,0)⟩],u.eqs++[⟨1,[nE k],⟨#[]⟩,cg,e,[],a,rs⟩]⟩:: [.ob it bK]) _:=
  NM (me:=cQ me q [kA 1 [nE k] ⟨#[]⟩ (bD 0 0 0 ⟨#[]⟩ [] [] (0,0)) (xC e) [] a rs]) (mv:=z) ((s.pick [1,2,0,3]).set (.box [.d (.sl (p.aG.map En.cells)),.d (.sl (p.nodes.map Nd.cells)),.d (.str c),.d (.sl (aB d)),.d (.sl (aB f)),z,cQ me q [kA 1 [nE k] ⟨#[]⟩ (bD 0 0 0 ⟨#[]⟩ [] [] (0,0)) (xC e) [] a rs],.mp b,.d (.int .i64 ((k:Nat):Int))]))
 repeat refine DC.seq ?_
 apply KZ
 .intro O P;refine aA W W<|aF W W W W<|ah W W<|TL.nil W
 exact DC.ret ⟨_,W,_,⟨W,W⟩,J.pick [1,0]⟩
end Go.Proofs.Pz
namespace Go.Ps
open Go.Mt Go.Sm
def HD(l:List Xp):qn.BW l=l.all qn:=by
 induction l with
 |nil=>rw[qn.BW];rfl
 |cons b l a=>rw[qn.BW,List.all_cons,a]
def IT(e:Xp):qn e=(!(decide (e.kd=9\/e.kd=10\/e.kd=11))&&e.kids.all qn):=by
 cases e;rw[qn,HD];rfl
end Go.Ps
namespace Go.Proofs.Pz
open Go.Mt Go.Sm Go.Ps Go.Proofs
open Tryz
theorem pR(l:List Xp)(a:Nat)[bu prog a](LX:List D)(p:Xp->Bool)(q:l.length<=10000000)(k:∀c∈l,PT prog a (.agg c.cells::LX) (·=[.bool (p c)])):PT prog 124 [.sl (l.map Xp.cells),.fn a LX] (·=[.int .i64 (kS (l.findIdx? p))]):=by
 refine Lk (Lf func124 W ntmps124 W λr t=>?_)
 repeat refine TC.seq ?_
 refine TC.region<|ah W W<|TL.nil ?_
 repeat refine TC.seq ?_
 refine TC.region<|ai W W ?_
 (refine aT W W W ?_;rw[agt])
 refine ai W W<|TL.nil ?_
 repeat refine TC.seq ?_
 refine TC.block<|LI (λk s=>∃i:Nat,s=⟨[(8,.m (.d (.int .i64 i))),(7,.m (.d (.int .i64 (l.length:Nat)))),(0,.m (.d (.sl (l.map Xp.cells)))),(1,.m (.d (.fn a LX)))],[],[]⟩/\i<=l.length/\k=l.length-i/\(∀(j:Nat) (a:j<l.length),j<i->p l[j]=false)) l.length _
  ⟨0,rfl,by omega,rfl,by grind⟩ W ?_
 rintro n s ⟨i,rfl,v,rfl,e⟩
 repeat refine TC.seq ?_
 refine TC.region<|av W W W W<|TL.nil ?_
 repeat refine TC.seq ?_
 refine TC.cond W (λm=>?_) (λm=>?_)
 .have c:i<l.length:=by grind
  have f:(l.map Xp.cells)[((i:Nat):Int).toNat]?=some l[i].cells:=by simp[c]
  have d:=k _ (agx c);obtain⟨b,g⟩:∃b,b=p l[i]:=⟨_,rfl⟩;rw[<-g]at d;rw[Xp.aj]at f d;refine TC.skip ?_
  repeat refine TC.seq ?_
  refine TC.block ?_
  repeat refine TC.seq ?_
  refine TC.region<|ai W W<|ah W W<|TL.nil ?_
  repeat refine TC.seq ?_
  refine TC.region<|ai W W<|ai W W<|ai W W<|aN W W W (ago i) f W<|aK W W W<|te d W W W<|TL.nil ?_
  repeat refine TC.seq ?_
  refine TC.cond W (λh=>?_) (λh=>?_)
  .repeat refine TC.seq ?_
   refine TC.region<|ai W W<|ah W W<|TL.nil<|TC.ret ⟨_,W,[_],W,by rw[oM c (g.symm.trans h) (λj a h=>e j a h)]⟩
  .refine TC.skip ?_
   repeat refine TC.seq ?_
   refine TC.region<|aI W W W (by omega)<|ai W W<|TL.nil<|again (k':=l.length-(i+1)) (by omega) ⟨i+1,rfl,by omega,rfl,?_⟩ W (kc (by simp;rfl)<|kc (rfl)<|kc (rfl)<|kc (rfl)<|rfl);intro o u j;rcases ahI.1 j with w|rfl
   .grind
   .grind
 .refine TC.exit ?_;have c:i=l.length:=by grind
  repeat refine TC.seq ?_
  refine TC.region<|ah W W<|TL.nil<|TC.ret ⟨_,W,[_],W,by rw[mM (λj a=>e j a (by omega))]⟩
def lI(l:List Xp)(a:Nat)[bu prog a](p:Xp->Bool)(g:l.length<=1000000)(c:∀b∈l,PT prog a [.agg b.cells] (·=[.bool (p b)])):PT prog 64 [.sl (l.map Xp.cells),.fn a []] (·=[.bool (l.any p)]):=by
 have d:decide ((0:Int)<=kS (l.findIdx? p))=l.any p:=by
  cases b:l.findIdx? p with
  |none=>
   rw[ahF]at b;have:l.any p=false:=by simp_all
   rw[this];rfl
  |some i=>
   have:l.any p=true:=by
    rw[ahd]at b;obtain⟨e,f,_⟩:=b;exact ahX.2 ⟨_,agx e,f⟩
   rw[this];exact aha (by simp only[kS];omega)
 refine Lk (Lf func64 W ntmps64 W λh j=>?_)
 repeat refine TC.seq ?_
 refine TC.region<|ah W W<|TL.nil ?_
 repeat refine TC.seq ?_
 refine TC.region<|ai W W<|ai W W<|aL (pR l a [] p (by omega) c) W W ?_
 (refine av W W W (r:=.bool (l.any p)) (by show some (D.bool (decide ((0:Int)<=kS (l.findIdx? p))))=_;rw[d]) ?_)
 refine ah W W<|TL.nil<|TC.ret ⟨_,W,[_],W,W⟩
theorem rL(e:Xp)(a:iW e):PT prog 251 [.agg e.cells] (·=[.bool (qn e)]):=by
 have g:∀k∈e.kids,PT prog 288 [.agg k.cells] (·=[.bool (!(qn k))]):=by
  intro k b;have:=MT b;have h:=rL k (by cases a with|mk _ _ _ i=>exact i k b);rw[k.aj]at h⊢;refine Lk (Lf func288 W ntmps288 W λj l=>?_)
  repeat refine TC.seq ?_
  refine TC.region<|bp W W<|ah W W<|TL.nil ?_
  repeat refine TC.seq ?_
  refine TC.region<|aK W W W<|aL h W W<|fb W W<|ah W W<|TL.nil<|TC.ret ⟨_,W,[_],W,W⟩
 rw[IT,e.aj];refine Lk (Lf func251 W ntmps251 W λj l=>?_)
 repeat refine TC.seq ?_
 refine TC.region<|bp W W<|ah W W<|TL.nil ?_;by_cases c:e.kd=9
 .rw[c]
  repeat refine TC.seq ?_
  refine TC.region<|ay W W<|ax W W W<|av W W W (r:=.bool true) W<|ai W W<|aQ W W<|aQ W W<|aQ W W<|cH W W W<|ai W W<|aQ W W<|aQ W W<|aQ W W<|cH W W W<|TL.nil ?_
  repeat refine TC.seq ?_
  refine LK W ?_
  repeat refine TC.seq ?_
  refine TC.region<|ah W W<|TL.nil<|TC.ret ⟨_,W,[_],W,W⟩
 by_cases d:e.kd=10
 .rw[d]
  repeat refine TC.seq ?_
  refine TC.region<|ay W W<|ax W W W<|av W W W (r:=.bool false) W<|ai W W<|aE W ?_;refine ay W W ?_;refine aE W ?_;refine ax W W W ?_;refine aE W ?_;refine av W W W (r:=.bool true) W ?_;refine cH W W W<|ai W W<|aQ W W<|aQ W W<|aQ W W<|cH W W W<|TL.nil ?_
  repeat refine TC.seq ?_
  refine LK W ?_
  repeat refine TC.seq ?_
  refine TC.region<|ah W W<|TL.nil<|TC.ret ⟨_,W,[_],W,W⟩
 by_cases f:e.kd=11
 .rw[f]
  repeat refine TC.seq ?_
  refine TC.region<|ay W W<|ax W W W<|av W W W (r:=.bool false) W<|ai W W<|aE W ?_;refine ay W W ?_;refine aE W ?_;refine ax W W W ?_;refine aE W ?_;refine av W W W (r:=.bool false) W ?_;refine cH W W W<|ai W W<|aE W ?_;refine ay W W ?_;refine aE W ?_;refine ax W W W ?_;refine aE W ?_;refine av W W W (r:=.bool true) W ?_;refine cH W W W<|TL.nil ?_
  repeat refine TC.seq ?_
  refine LK W ?_
  repeat refine TC.seq ?_
  refine TC.region<|ah W W<|TL.nil<|TC.ret ⟨_,W,[_],W,W⟩
 have m:(e.kd==9)=false:=by simp[c]
 have p:(e.kd==10)=false:=by simp[d]
 have q:(e.kd==11)=false:=by simp[f]
 have n:(!(decide (e.kd=9\/e.kd=10\/e.kd=11))&&e.kids.all qn)= !(e.kids.any λk=> !(qn k)):=by
  grind
 rw[n]
 repeat refine TC.seq ?_
 refine TC.region<|ay W W<|ax W W W ?_
 (refine av W W W (r:=.bool false) (by show some (D.bool (e.kd==9))=_;rw[m]) ?_)
 refine ai W W<|aE W ?_;refine ay W W ?_;refine aE W ?_;refine ax W W W ?_;refine aE W ?_;refine av W W W (r:=.bool false) (by show some (D.bool (e.kd==10))=_;rw[p]) ?_;refine cH W W W<|ai W W<|aE W ?_;refine ay W W ?_;refine aE W ?_;refine ax W W W ?_;refine aE W ?_;refine av W W W (r:=.bool false) (by show some (D.bool (e.kd==11))=_;rw[q]) ?_;refine cH W W W<|TL.nil ?_
 repeat refine TC.seq ?_
 refine Ll W<|TC.skip ?_
 repeat refine TC.seq ?_
 refine TC.region<|ay W W<|ax W W W<|aL (lI e.kids 288 (λk=> !(qn k)) (by cases a with|mk _ o _ _=>exact o) g) W W<|fb W W<|ah W W<|TL.nil<|TC.ret ⟨_,W,[_],W,W⟩
end Go.Proofs.Pz
namespace Go.Ps
open Go.Mt Go.Sm
abbrev Kr(lhs:List Nm)(f:Nm)(ma:M)(ck:List (Nm×Nm))(mr:M):List M:=[.d (.int .u8 3),.d (.sl (aR lhs)),.d (.str f)]++(bD 0 0 0 ⟨#[]⟩ [] [] (0,0)).map M.d++(bD 0 0 0 ⟨#[]⟩ [] [] (0,0)).map M.d++[ma,.d (.sl (bW ck)),mr]
def Ck(b:List (Nm×Nm))(rs:List Nm)(r:Ps.US×List Xp)(a:Xp×(Int×Nm)):(dx b rs r a).1.n<=r.1.n+1/\(dx b rs r a).1.vars.length<=r.1.vars.length+1/\(dx b rs r a).1.eqs.length<=r.1.eqs.length+1/\(dx b rs r a).2.length=r.2.length+1:=by
 unfold dx iN;split<;>simp
def kQ(a:List (Nm×Nm))(rs:List Nm):∀(l:List (Xp×(Int×Nm))) (r:Ps.US×List Xp),(l.foldl (dx a rs) r).1.n<=r.1.n+l.length/\(l.foldl (dx a rs) r).1.vars.length<=r.1.vars.length+l.length/\(l.foldl (dx a rs) r).1.eqs.length<=r.1.eqs.length+l.length/\(l.foldl (dx a rs) r).2.length=r.2.length+l.length
 |[],r=>by simp
 |b::l,r=>by
  have c:=Ck a rs r b;have c:=kQ a rs l (dx a rs r b);rw[agy,agA];omega
end Go.Ps
namespace Go.Proofs.Pz
open Go.Mt Go.Sm Go.Ps Go.Proofs
open Tryz
def DO(it g h:Nat)(p:Pg)(k:Nm)(m n:List Va)(u:Ps.US)(q:aJ)(b:List (Nm×Nm))(rs:List Nm)(iT:Nm->List (Int×Nm))(C:oJ)(E:q.kd=2)(Z:p.nodes.length<=1000000)(j:Nat)(d:Nd)(hj:gu p.nodes q.f=some j)(hd:p.nodes[j]?=some d)(O:iT q.f=d.ins.map λv=>(v.tk,v.tn))(ML:q.args.length<=d.ins.length)(Mg:d.ins.length<=1000000)
  (Mx:∀e∈q.args,iW e) (hn:u.n+q.args.length+1<1000000000) (hv:u.vars.length+q.args.length+1<=30000000) (hq:u.eqs.length+q.args.length+1<=10000000) (hr:rs.length<=100000) (Mw:b=mu C q.lhs):
  Dt prog 207 [.ref g 0,.d (.agg q.cells),.d (.sl (bW b)),.d (.sl (aR rs))] [.ob it bK,jA g h p k m n u] λr l=>l=[.ob it bK,jA g h p k m n (oK iT C rs q u)]:=by
 intro H F hw;obtain⟨A,G⟩:∃A,A=q.args.zip (iT q.f):=⟨_,rfl⟩;have ac:A.length=q.args.length:=by rw[G,List.length_zip,O,agt];omega
 have OH:oK iT C rs q u=if q.has then(if q.ex.kd=4 then⟨(A.foldl (dx b rs) (u,[])).1.n,(A.foldl (dx b rs) (u,[])).1.vars,(A.foldl (dx b rs) (u,[])).1.eqs++[⟨3,q.lhs,q.f,cg,cg,(A.foldl (dx b rs) (u,[])).2,b,rs++[q.ex.nm]⟩]⟩
    else⟨(iN (A.foldl (dx b rs) (u,[])).1 q.ex (1,⟨#[]⟩) b rs).n,(iN (A.foldl (dx b rs) (u,[])).1 q.ex (1,⟨#[]⟩) b rs).vars,(iN (A.foldl (dx b rs) (u,[])).1 q.ex (1,⟨#[]⟩) b rs).eqs++[⟨3,q.lhs,q.f,cg,cg,(A.foldl (dx b rs) (u,[])).2,b,rs++[nE ((A.foldl (dx b rs) (u,[])).1.n+1)]⟩]⟩)
   else⟨(A.foldl (dx b rs) (u,[])).1.n,(A.foldl (dx b rs) (u,[])).1.vars,(A.foldl (dx b rs) (u,[])).1.eqs++[⟨3,q.lhs,q.f,cg,cg,(A.foldl (dx b rs) (u,[])).2,b,rs⟩]⟩:=by
  rw[G,Mw];cases q with|mk Y N t T S e z L=>
  rw[oK.eq_def];simp only[aJ.kd]at E;subst E;rfl
 rw[OH];have w:=Wk.start hw;obtain⟨y,K1,P,rfl,w,Lp⟩:=Wk.call (a:=[]) w (sH rs (by omega));have w:=w;have Rz:=w.zS;have w:=(w.pick [2,0,1]);obtain⟨mv,me,w⟩:=jA.open w;have s:=w.ob;have Q:=pw p q.f Z;rw[hj]at Q;have R:(p.nodes.map Nd.cells)[((j:Nat):Int).toNat]?=some d.cells:=by simp[hd]
 have X_:d.cells=[.str d.name,.sl (aB d.ins),.sl (aB d.outs),.sl (aB d.b.vars),.sl (d.b.eqs.map aJ.cells),.int .i64 d.ps.1,.int .i64 d.ps.2]:=by unfold Nd.cells;rfl
 rw[X_]at R;have d5:(q.args.map Xp.cells).length=q.args.length:=by simp
 rw[q.aj,q.ex.aj,E];refine Lj func207 W ntmps207 W ?_
 repeat refine DC.seq ?_
 apply KZ
 .intro t z;refine bp W W<|TL.nil W
 repeat refine DC.seq ?_
 apply Le mixed
 .intro t z;refine bI W W<|cd W W W<|bI W W<|cd W W W<|aO W W<|aO W W<|bt Lp W W<|uV (cs:=Kr q.lhs q.f (.d (.sl [])) b y) W W W (by simp only[jH];rw[Rz];rfl)<|fk W<|bS W W W (fu _) W W<|TF.nil ⟨by kernel_rfl,rfl⟩
 repeat refine DC.seq ?_
 apply Le mixed
 .intro t z;refine aO W W<|bO W W W<|bJ W W<|bJ W W<|dy W W s W<|aO W W<|bO W W W<|bJ W W<|zA W W s W W<|bI W W<|cd W W W<|bc Q W W<|bE W W W (ago j) R W<|cx W W W<|fk W<|bS W W W W W W<|TF.nil ⟨by kernel_rfl,rfl⟩
 repeat refine DC.seq ?_
 apply KZ
 .intro t z;refine ay W W<|ax W W W ?_
  (refine aT W W W ?_;rw[d5])
  refine ai W W<|TL.nil W
 have w:=Wk.nil ((NM w).pick [1,2,0]) 8
 repeat refine DC.seq ?_
 refine DC.block<|DC.loop (λs t=>∃(i:Nat) (f:M) (c:List (Nat×List M)) (o:Hp),t=⟨[(38,.m (.d (.int .i64 ((i:Nat):Int)))),(37,.m (.d (.int .i64 ((q.args.length:Nat):Int)))),(36,.m (.d (.sl (q.args.map Xp.cells)))),(9,.loc 9 0),(8,.loc 8 0),(5,.m (.d (.ca (eQ 2 q.lhs q.f (q.args.map Xp.cells) q.has (xC q.ex) (q.aq.map aP.cells) q.ps) 0))),(3,.m (.d (.sl (aR rs)))),(2,.m (.d (.sl (bW b)))),(0,.m (.ref g 0))],c,o⟩/\
   Go.Mt.get c 8=some (Kr q.lhs q.f f b y)/\Go.Mt.get c 9=some ([.str d.name,.sl (aB d.ins),.sl (aB d.outs),.sl (aB d.b.vars),.sl (d.b.eqs.map aJ.cells),.int .i64 d.ps.1,.int .i64 d.ps.2].map M.d)/\
   Wk F H [.acc 8 (((A.take i).foldl (dx b rs) (u,[])).2.map Xp.cells) f,.acc 1 (aR rs) y,.ob it bK,jA g h p k m n ((A.take i).foldl (dx b rs) (u,[])).1] o/\i<=q.args.length/\s=q.args.length-i) q.args.length _
  ⟨0,.d (.sl []),_,_,rfl,rfl,rfl,w,by omega,rfl⟩ W ?_
 rintro Y s1 ⟨i,ma,bx,I,rfl,o,J,w,hi,rfl⟩
 repeat refine DC.seq ?_
 apply KZ
 .intro t z;refine av W W W W<|TL.nil W
 repeat refine DC.seq ?_
 refine DC.cond W (λK=>?_) (λK=>?_)
 .have S:i<q.args.length:=by have:=agr K;omega
  have L:(q.args.map Xp.cells)[((i:Nat):Int).toNat]?=some q.args[i].cells:=by simp[S]
  have am:i<d.ins.length:=by omega
  have N:=kN am;have ce:A[i]'(by omega)=(q.args[i],(d.ins[i].tk,d.ins[i].tn)):=by simp[G,O]
  have t:(A.take (i+1)).foldl (dx b rs) (u,[])=dx b rs ((A.take i).foldl (dx b rs) (u,[])) (q.args[i],(d.ins[i].tk,d.ins[i].tn)):=by rw[agp (by omega:i<A.length),ag7,ce];rfl
  have x:=kQ b rs (A.take i) (u,[]);have T:=Mx _ (agx S);rw[agM,ahN (by omega),List.length_nil]at x;generalize (A.take i).foldl (dx b rs) (u,[])=r at w t x;obtain⟨c,f⟩:=r
  dsimp only at w x
  generalize q.args[i]=e at L t T;generalize d.ins[i]=v at N t;have z:=rL e T;rw[e.aj]at L z;rw[v.aj]at N;have Tm:(f.map Xp.cells).length<=10000000:=by rw[agt];omega
  refine DC.skip ?_
  repeat refine DC.seq ?_
  refine DC.block ?_
  repeat refine DC.seq ?_
  apply KZ
  .intro U V;refine ai W W<|aN W W W (ago i) L W<|aK W W W<|aM W W<|ah W W<|aC W W W W W W<|TL.nil W
  have co:dx b rs (c,f) (e,(v.tk,v.tn))=if qn e then(c,f++[e])else(iN c e (v.tk,v.tn) b rs,f++[bz (nE (c.n+1))]):=rfl
  rw[co]at t;cases B:qn e with
  |true=>
   rw[B]at z;rw[B,agK W]at t
   repeat refine DC.seq ?_
   apply KZ
   .intro X Oo;refine aW W W W W W<|aL z W W<|fb W W<|TL.nil W
   repeat refine DC.seq ?_
   refine Lc W<|DC.skip ?_
   repeat refine DC.seq ?_
   apply KZ
   .intro X Oo;refine aA W W<|aF W W o W<|aW W W W W W<|aU W W W W W W W W<|cX w W W W W W W (by exact cM W) (by simp only[agB];omega)<|aA W W<|aC W W o (bQ _ _ _) W W<|TL.nil W
   have U:=w.app [xC e];have V:f.map Xp.cells++[xC e]=(f++[e]).map Xp.cells:=by rw[agI];simp[e.aj]
   rw[V]at U
   repeat refine DC.seq ?_
   apply KZ
   .intro X Oo;refine aI W W W (by omega)<|ai W W<|TL.nil W
   exact bH (k':=q.args.length-(i+1)) (by omega) ⟨i+1,_,_,_,rfl,rfl,J,by rw[t];exact U,by omega,rfl⟩ W W
  |false=>
   rw[B]at z;rw[B,agw (by simp)]at t;obtain⟨_,K2,P,⟨rfl,rfl⟩,w,V⟩:=Wk.call (a:=[.ob it bK,jA g h p k m n c]) (r:=[_,_]) (w.pick [2,3,0,1]) (vY it g h p k m n c e (v.tk,v.tn) b rs (by omega) (by omega) (by omega) (by omega));have w:=w.pick [2,3,0,1];have X:=fB (nE (c.n+1));rw[(bz (nE (c.n+1))).aj]at X;rw[e.aj]at V
   repeat refine DC.seq ?_
   apply KZ
   .intro s0 Oo;refine aW W W W W W<|aL z W W<|fb W W<|TL.nil W
   repeat refine DC.seq ?_
   refine Lo W ?_
   repeat refine DC.seq ?_
   apply Le mixed
   .intro s0 Oo;refine aO W W<|bG W W W W W<|aX W W<|bC W W J W<|aO W W<|bE W W W (ago i) N W<|bI W W<|gm W W W<|aO W W<|aO W W<|bt V W W<|bc X W W<|bS W W W W W W<|TF.nil ⟨by kernel_rfl,rfl⟩
   repeat refine DC.seq ?_
   apply KZ
   .intro s0 Oo;refine aA W W<|aF W W o W<|aW W W W W W<|aU W W W W W W W W<|cX w W W W W W W (by exact cM W) (by simp only[agB];omega)<|aA W W<|aC W W o (bQ _ _ _) W W<|TL.nil W
   have U:=w.app [xC (bz (nE (c.n+1)))];have U3:f.map Xp.cells++[xC (bz (nE (c.n+1)))]=(f++[bz (nE (c.n+1))]).map Xp.cells:=by rw[agI];simp[Xp.aj]
   rw[U3]at U
   repeat refine DC.seq ?_
   apply KZ
   .intro s0 Oo;refine aI W W W (by omega)<|ai W W<|TL.nil W
   exact bH (k':=q.args.length-(i+1)) (by omega) ⟨i+1,_,_,_,rfl,rfl,J,by rw[t];exact U,by omega,rfl⟩ W W
 refine DC.exit ?_;obtain rfl:i=q.args.length:=by have:=agv K;omega
 rw[ahw (by omega)]at w;have x:=kQ b rs A (u,[]);rw[ac,List.length_nil]at x;generalize A.foldl (dx b rs) (u,[])=r at w x⊢;obtain⟨c,f⟩:=r
 dsimp only at w x⊢
 cases B:q.has with
 |false=>
  simp only[ahj,ahL]
  repeat refine DC.seq ?_
  apply KZ
  .intro U V;refine ay W W<|ax W W W<|TL.nil W
  repeat refine DC.seq ?_
  refine Lc W<|DC.skip ?_;have z:=w.view (jc _);have L:=(w.pick [1,0,2,3]).view (dq _);have w:=(w.drop).drop;have w:=w.pick [1,0];obtain⟨mv,me,w⟩:=jA.open w;have s:=w.ob;have w:=w.pick [2,0,1,3];have t:=w.app [kA 3 q.lhs q.f (bD 0 0 0 ⟨#[]⟩ [] [] (0,0)) (bD 0 0 0 ⟨#[]⟩ [] [] (0,0)) (f.map Xp.cells) b rs];have N:=(t.pick [1,0,2,3]).ob;have S:fx (c.eqs++[⟨3,q.lhs,q.f,cg,cg,f,b,rs⟩])=fx c.eqs++[kA 3 q.lhs q.f (bD 0 0 0 ⟨#[]⟩ [] [] (0,0)) (bD 0 0 0 ⟨#[]⟩ [] [] (0,0)) (f.map Xp.cells) b rs]:=by
   simp only[fx,agI,agH,ag1];rw[Fq.aj,cg.aj];rfl
  refine DC.cZ (Ls:=(kA 3 q.lhs q.f (bD 0 0 0 ⟨#[]⟩ [] [] (0,0)) (bD 0 0 0 ⟨#[]⟩ [] [] (0,0)) (f.map Xp.cells) b rs).map M.d) 8 o (cq (cq (cq (cq (cq (cq (cq (cq (cq (cq (cq (cq (cq (cq (cq (cq (cq (cq (cq (lQ z (cq (lQ L (po _))))))))))))))))))))))) ?_
  repeat refine DC.seq ?_
  apply Le mixed
  .intro U V;refine aO W W<|aO W W<|bO W W W<|bJ W W<|bJ W W<|dy W W s W<|bG W W W W W<|bm W W W W W W W W<|fa w W W W W W W W (by simp only[fx,agt];omega)<|bO W W W<|bJ W W<|bJ W W<|iy W W N (bQ _ _ _) W W<|TF.nil ⟨by kernel_rfl,rfl⟩
  rw[<-S]at t;have T:Wk F H (jA g h p k m n ⟨c.n,c.vars,c.eqs++[⟨3,q.lhs,q.f,cg,cg,f,b,rs⟩]⟩:: [.ob it bK]) _:=
   NM (me:=cQ me I [kA 3 q.lhs q.f (bD 0 0 0 ⟨#[]⟩ [] [] (0,0)) (bD 0 0 0 ⟨#[]⟩ [] [] (0,0)) (f.map Xp.cells) b rs]) (mv:=mv) ((t.pick [1,2,0,3]).set (.box [.d (.sl (p.aG.map En.cells)),.d (.sl (p.nodes.map Nd.cells)),.d (.str k),.d (.sl (aB m)),.d (.sl (aB n)),mv,cQ me I [kA 3 q.lhs q.f (bD 0 0 0 ⟨#[]⟩ [] [] (0,0)) (bD 0 0 0 ⟨#[]⟩ [] [] (0,0)) (f.map Xp.cells) b rs],.mp h,.d (.int .i64 ((c.n:Nat):Int))]))
  exact⟨_,W,_,W,T.pick [1,0]⟩
 |true=>
  simp only[ah3]
  repeat refine DC.seq ?_
  apply KZ
  .intro t L;refine ay W W<|ax W W W<|TL.nil W
  repeat refine DC.seq ?_
  refine Lo W ?_
  repeat refine DC.seq ?_
  apply KZ
  .intro t L;refine ay W W<|ay W W<|ax W W W<|ah W W<|TL.nil W
  by_cases z:q.ex.kd=4
  .rw[agK z]
   repeat refine DC.seq ?_
   apply KZ
   .intro s0 Oo;refine ay W W<|ay W W<|ax W W W ?_
    (refine av W W W (r:=.bool false) (by show some (D.bool (q.ex.kd !=4))=_;rw[z];rfl) ?_)
    exact TL.nil W
   repeat refine DC.seq ?_
   refine Lc W<|DC.skip ?_;have w:=w.pick [1,0,2,3]
   repeat refine DC.seq ?_
   apply KZ
   .intro s0 Oo;refine aA W W<|aF W W o W<|ai W W<|aU W W W W W W W W<|cX w W W W W W W (by exact cM W) (by simp only[aR,agt,agB];omega)<|aA W W<|aC W W o (bQ _ _ _) W W<|TL.nil W
   have w:=w.app [[.str q.ex.nm]];have SQ:aR rs++[[.str q.ex.nm]]=aR (rs++[q.ex.nm]):=by simp[aR]
   rw[SQ]at w;have w:=w.pick [1,0,2,3];obtain⟨L,N⟩:∃b,b=eg 1 y I [[.str q.ex.nm]]:=⟨_,rfl⟩;rw[<-N]at w;refine LF [(8,.loc 8 0),(0,.m (.ref g 0))] L W N.symm ?_;have S:=w.view (jc _);have T:=(w.pick [1,0,2,3]).view (dq _);have w:=(w.drop).drop;have w:=w.pick [1,0];obtain⟨mv,me,w⟩:=jA.open w;have s:=w.ob;have w:=w.pick [2,0,1,3];have t:=w.app [kA 3 q.lhs q.f (bD 0 0 0 ⟨#[]⟩ [] [] (0,0)) (bD 0 0 0 ⟨#[]⟩ [] [] (0,0)) (f.map Xp.cells) b (rs++[q.ex.nm])];have U:=(t.pick [1,0,2,3]).ob;have V:fx (c.eqs++[⟨3,q.lhs,q.f,cg,cg,f,b,rs++[q.ex.nm]⟩])=fx c.eqs++[kA 3 q.lhs q.f (bD 0 0 0 ⟨#[]⟩ [] [] (0,0)) (bD 0 0 0 ⟨#[]⟩ [] [] (0,0)) (f.map Xp.cells) b (rs++[q.ex.nm])]:=by
    simp only[fx,agI,agH,ag1];rw[Fq.aj,cg.aj];rfl
   refine DC.cZ (Ls:=(kA 3 q.lhs q.f (bD 0 0 0 ⟨#[]⟩ [] [] (0,0)) (bD 0 0 0 ⟨#[]⟩ [] [] (0,0)) (f.map Xp.cells) b (rs++[q.ex.nm])).map M.d) 8 W (cq (cq (cq (cq (cq (cq (cq (cq (cq (cq (cq (cq (cq (cq (cq (cq (cq (cq (cq (lQ S (cq (lQ T (po _))))))))))))))))))))))) ?_
   repeat refine DC.seq ?_
   apply Le mixed
   .intro s0 Oo;refine aO W W<|aO W W<|bO W W W<|bJ W W<|bJ W W<|dy W W s W<|bG W W W W W<|bm W W W W W W W W<|fa w W W W W W W W (by simp only[fx,agt];omega)<|bO W W W<|bJ W W<|bJ W W<|iy W W U (bQ _ _ _) W W<|TF.nil ⟨by kernel_rfl,rfl⟩
   rw[<-V]at t;have X:Wk F H (jA g h p k m n ⟨c.n,c.vars,c.eqs++[⟨3,q.lhs,q.f,cg,cg,f,b,rs++[q.ex.nm]⟩]⟩:: [.ob it bK]) _:=
    NM (me:=cQ me L [kA 3 q.lhs q.f (bD 0 0 0 ⟨#[]⟩ [] [] (0,0)) (bD 0 0 0 ⟨#[]⟩ [] [] (0,0)) (f.map Xp.cells) b (rs++[q.ex.nm])]) (mv:=mv) ((t.pick [1,2,0,3]).set (.box [.d (.sl (p.aG.map En.cells)),.d (.sl (p.nodes.map Nd.cells)),.d (.str k),.d (.sl (aB m)),.d (.sl (aB n)),mv,cQ me L [kA 3 q.lhs q.f (bD 0 0 0 ⟨#[]⟩ [] [] (0,0)) (bD 0 0 0 ⟨#[]⟩ [] [] (0,0)) (f.map Xp.cells) b (rs++[q.ex.nm])],.mp h,.d (.int .i64 ((c.n:Nat):Int))]))
   exact⟨_,W,_,W,X.pick [1,0]⟩
  .rw[agw z];have am:(q.ex.kd !=4)=true:=by simp[z]
   obtain⟨_,U,P,⟨rfl,rfl⟩,w,S⟩:=Wk.call (a:=[.ob it bK,jA g h p k m n c]) (r:=[_,_]) (w.pick [2,3,0,1]) (vY it g h p k m n c q.ex (1,⟨#[]⟩) b rs (by omega) (by omega) (by omega) (by omega));rw[q.ex.aj]at S;have ce:(iN c q.ex (1,⟨#[]⟩) b rs).eqs.length<=c.eqs.length+1:=by simp[iN]
   generalize iN c q.ex (1,⟨#[]⟩) b rs=t at w ce⊢;have w:=w.pick [2,3,0,1]
   repeat refine DC.seq ?_
   apply KZ
   .intro s0 Oo;refine ay W W<|ay W W<|ax W W W ?_
    (refine av W W W (r:=.bool true) (by show some (D.bool (q.ex.kd !=4))=_;rw[am]) ?_)
    exact TL.nil W
   repeat refine DC.seq ?_
   refine Lo W ?_
   repeat refine DC.seq ?_
   apply KZ
   .intro s0 Oo;refine ai W W<|ay W W<|fA W W W<|bX W W W W W<|ai W W<|ai W W<|aD S W W<|ah W W<|TL.nil W
   have w:=w.pick [1,0,2,3]
   repeat refine DC.seq ?_
   apply KZ
   .intro s0 Oo;refine aA W W<|aF W W o W<|ai W W<|aU W W W W W W W W<|cX w W W W W W W (by exact cM W) (by simp only[aR,agt,agB];omega)<|aA W W<|aC W W o (bQ _ _ _) W W<|TL.nil W
   have w:=w.app [[.str (nE (c.n+1))]];have SQ:aR rs++[[.str (nE (c.n+1))]]=aR (rs++[nE (c.n+1)]):=by simp[aR]
   rw[SQ]at w;have w:=w.pick [1,0,2,3];obtain⟨N,T⟩:∃b,b=eg 1 y U [[.str (nE (c.n+1))]]:=⟨_,rfl⟩;rw[<-T]at w;refine LF [(8,.loc 8 0),(0,.m (.ref g 0))] N W T.symm ?_;have V:=w.view (jc _);have X:=(w.pick [1,0,2,3]).view (dq _);have w:=(w.drop).drop;have w:=w.pick [1,0];obtain⟨mv,me,w⟩:=jA.open w;have s:=w.ob;have w:=w.pick [2,0,1,3];have L:=w.app [kA 3 q.lhs q.f (bD 0 0 0 ⟨#[]⟩ [] [] (0,0)) (bD 0 0 0 ⟨#[]⟩ [] [] (0,0)) (f.map Xp.cells) b (rs++[nE (c.n+1)])];have ND:=(L.pick [1,0,2,3]).ob;have PN:fx (t.eqs++[⟨3,q.lhs,q.f,cg,cg,f,b,rs++[nE (c.n+1)]⟩])=fx t.eqs++[kA 3 q.lhs q.f (bD 0 0 0 ⟨#[]⟩ [] [] (0,0)) (bD 0 0 0 ⟨#[]⟩ [] [] (0,0)) (f.map Xp.cells) b (rs++[nE (c.n+1)])]:=by
    simp only[fx,agI,agH,ag1];rw[Fq.aj,cg.aj];rfl
   refine DC.cZ (Ls:=(kA 3 q.lhs q.f (bD 0 0 0 ⟨#[]⟩ [] [] (0,0)) (bD 0 0 0 ⟨#[]⟩ [] [] (0,0)) (f.map Xp.cells) b (rs++[nE (c.n+1)])).map M.d) 8 W (cq (cq (cq (cq (cq (cq (cq (cq (cq (cq (cq (cq (cq (cq (cq (cq (cq (cq (cq (lQ V (cq (lQ X (po _))))))))))))))))))))))) ?_
   repeat refine DC.seq ?_
   apply Le mixed
   .intro s0 Oo;refine aO W W<|aO W W<|bO W W W<|bJ W W<|bJ W W<|dy W W s W<|bG W W W W W<|bm W W W W W W W W<|fa w W W W W W W W (by simp only[fx,agt];omega)<|bO W W W<|bJ W W<|bJ W W<|iy W W ND (bQ _ _ _) W W<|TF.nil ⟨by kernel_rfl,rfl⟩
   rw[<-PN]at L;have w3:Wk F H (jA g h p k m n ⟨t.n,t.vars,t.eqs++[⟨3,q.lhs,q.f,cg,cg,f,b,rs++[nE (c.n+1)]⟩]⟩:: [.ob it bK]) _:=
    NM (me:=cQ me N [kA 3 q.lhs q.f (bD 0 0 0 ⟨#[]⟩ [] [] (0,0)) (bD 0 0 0 ⟨#[]⟩ [] [] (0,0)) (f.map Xp.cells) b (rs++[nE (c.n+1)])]) (mv:=mv) ((L.pick [1,2,0,3]).set (.box [.d (.sl (p.aG.map En.cells)),.d (.sl (p.nodes.map Nd.cells)),.d (.str k),.d (.sl (aB m)),.d (.sl (aB n)),mv,cQ me N [kA 3 q.lhs q.f (bD 0 0 0 ⟨#[]⟩ [] [] (0,0)) (bD 0 0 0 ⟨#[]⟩ [] [] (0,0)) (f.map Xp.cells) b (rs++[nE (c.n+1)])],.mp h,.d (.int .i64 ((t.n:Nat):Int))]))
   exact⟨_,W,_,W,w3.pick [1,0]⟩
end Go.Proofs.Pz
namespace Go.Ps
open Go.Mt Go.Sm
def vf(iT:Nm->List (Int×Nm))(c:oJ)(rs:List Nm):∀(a b:List aJ) (u:Ps.US),fV iT c rs (a++b) u=fV iT c rs b (fV iT c rs a u)
 |[],b,u=>by rw[fV.eq_def iT c rs []];rfl
 |e::a,b,u=>by rw[agQ,fV.eq_def iT c rs (e::_),fV.eq_def iT c rs (e::a)];exact vf iT c rs a b _
end Go.Ps
namespace Go.Proofs.Pz
open Go.Mt Go.Sm Go.Ps Go.Proofs
open Tryz
def vZ(it b a:Nat)(p:Pg)(d:Nm)(e f:List Va)(c:oJ)(rs:List Nm)(q:aJ)(u:Ps.US):Prop:=Dt prog 161 [.ref b 0,.d (.agg q.cells),.d (.sl (aR rs))] [.ob it bK,jA b a p d e f u,oQ a c] λr l=>l=[.ob it bK,jA b a p d e f (oK (fr p.nodes) c rs q u),oQ a c]
def FV(it i b:Nat)(p:Pg)(f:Nm)(g h:List Va)(c:oJ)(rs:List Nm)(q:aJ)(u:Ps.US)(j:q.kd=1)(n:rs.length<=1000000)(B:u.eqs.length<=10000000):vZ it i b p f g h c rs q u:=by
 intro H F o;have s:oK (fr p.nodes) c rs q u=⟨u.n,u.vars,u.eqs++[⟨1,q.lhs,⟨#[]⟩,cg,q.ex,[],mu c q.lhs,rs⟩]⟩:=by
  cases q with|mk z G A J I e C D=>
  rw[oK.eq_def];simp only[aJ.kd]at j;subst j;rfl
 rw[s];obtain⟨_,l,E,⟨rfl,rfl⟩,w,m⟩:=Wk.call (a:=[jA i b p f g h u,oQ b c]) (r:=[_]) ((Wk.start o).pick [1,2,0]) (qC i b p f g h u c q.lhs);obtain⟨d,t⟩:∃b,b=mu c q.lhs:=⟨_,rfl⟩;rw[<-t]at m⊢;obtain⟨mv,me,w⟩:=jA.open w;have v:=w.ob;have w:=w.pick [2,0,1,3,4];have k:=w.app [kA 1 q.lhs ⟨#[]⟩ (bD 0 0 0 ⟨#[]⟩ [] [] (0,0)) (xC q.ex) [] d rs];have x:fx (u.eqs++[⟨1,q.lhs,⟨#[]⟩,cg,q.ex,[],d,rs⟩])=fx u.eqs++[kA 1 q.lhs ⟨#[]⟩ (bD 0 0 0 ⟨#[]⟩ [] [] (0,0)) (xC q.ex) [] d rs]:=by
  simp only[fx,agI,agH,ag1];rw[Fq.aj,cg.aj,q.ex.aj];rfl
 rw[q.aj,q.ex.aj,j];refine Lj func161 W ntmps161 W ?_
 repeat refine DC.seq ?_
 apply KZ
 .intro z A;refine bp W W<|TL.nil W
 repeat refine DC.seq ?_
 apply KZ
 .intro z A;refine ai W W<|ay W W<|ax W W W<|aD m W W<|ah W W<|TL.nil W
 repeat refine DC.seq ?_
 apply KZ
 .intro z A;refine ay W W<|ax W W W<|TL.nil W
 repeat refine DC.seq ?_
 refine DC.block ?_
 repeat refine DC.seq ?_
 apply KZ
 .intro z A;refine av W W W (r:=.bool true) W<|ah W W<|TL.nil W
 repeat refine DC.seq ?_
 refine Lo W ?_
 repeat refine DC.seq ?_
 apply Le mixed
 .intro z A;refine aO W W<|aO W W<|bO W W W<|bJ W W<|bJ W W<|dy W W v W<|bI W W<|cd W W W<|bI W W<|gm W W W<|aO W W<|aO W W<|bc (yh rs n) W W<|dU W W W W W<|bm W W W W W W W W<|fa w W W W W W W W (by simp only[fx,agt];omega)<|bO W W W<|bJ W W<|bJ W W<|iy W W ((k.pick [1,0,2,3,4]).ob) (bQ _ _ _) W W<|TF.nil ⟨by kernel_rfl,rfl⟩
 rw[<-x]at k;have y:Wk F H (jA i b p f g h ⟨u.n,u.vars,u.eqs++[⟨1,q.lhs,⟨#[]⟩,cg,q.ex,[],d,rs⟩]⟩:: [oQ b c,.ob it bK]) _:=
  NM (me:=cQ me l [kA 1 q.lhs ⟨#[]⟩ (bD 0 0 0 ⟨#[]⟩ [] [] (0,0)) (xC q.ex) [] d rs]) (mv:=mv) ((k.pick [1,2,0,3,4]).set (.box [.d (.sl (p.aG.map En.cells)),.d (.sl (p.nodes.map Nd.cells)),.d (.str f),.d (.sl (aB g)),.d (.sl (aB h)),mv,cQ me l [kA 1 q.lhs ⟨#[]⟩ (bD 0 0 0 ⟨#[]⟩ [] [] (0,0)) (xC q.ex) [] d rs],.mp b,.d (.int .i64 ((u.n:Nat):Int))]))
 exact⟨_,W,_,W,y.pick [2,0,1]⟩
def Cl(it c b:Nat)(p:Pg)(f:Nm)(h i:List Va)(g:oJ)(rs:List Nm)(q:aJ)(u:Ps.US)(k:q.kd=2)(m:p.nodes.length<=1000000)(j:Nat)(d:Nd)(n:gu p.nodes q.f=some j)(o:p.nodes[j]?=some d)(s:fr p.nodes q.f=d.ins.map λv=>(v.tk,v.tn))(t:q.args.length<=d.ins.length)(x:d.ins.length<=1000000)
  (y:∀e∈q.args,iW e) (z:u.n+q.args.length+1<1000000000) (A:u.vars.length+q.args.length+1<=30000000) (B:u.eqs.length+q.args.length+1<=10000000) (C:rs.length<=100000):vZ it c b p f h i g rs q u:=by
 intro H G D;obtain⟨_,J,E,⟨rfl,rfl⟩,w,F⟩:=Wk.call (a:=[jA c b p f h i u,oQ b g]) (r:=[_]) ((Wk.start D).pick [1,2,0]) (qC c b p f h i u g q.lhs);obtain⟨I,K,E,rfl,w,l⟩:=Wk.call (a:=[.ob it bK,jA c b p f h i u]) (r:=[_]) (w.pick [2,0,1]) (DO it c b p f h i u q (mu g q.lhs) rs (fr p.nodes) g k m j d n o s t x y z A B C W);rw[q.aj,q.ex.aj,k]at l⊢;refine Lj func161 W ntmps161 W ?_
 repeat refine DC.seq ?_
 apply KZ
 .intro L M;refine bp W W<|TL.nil W
 repeat refine DC.seq ?_
 apply KZ
 .intro L M;refine ai W W<|ay W W<|ax W W W<|aD F W W<|ah W W<|TL.nil W
 repeat refine DC.seq ?_
 apply KZ
 .intro L M;refine ay W W<|ax W W W<|TL.nil W
 repeat refine DC.seq ?_
 refine DC.block ?_
 repeat refine DC.seq ?_
 apply KZ
 .intro L M;refine av W W W (r:=.bool false) W<|ah W W<|TL.nil W
 repeat refine DC.seq ?_
 refine Lc W ?_
 repeat refine DC.seq ?_
 apply KZ
 .intro L M;refine av W W W (r:=.bool true) W<|ah W W<|TL.nil W
 repeat refine DC.seq ?_
 refine Lo W ?_
 repeat refine DC.seq ?_
 apply KZ
 .intro L M;refine ai W W<|aK W W W<|ai W W<|ai W W<|aD l W W<|TL.nil W
 exact⟨_,W,_,W,w⟩
theorem Cm(it f d:Nat)(p:Pg)(h:Nm)(k l:List Va)(c:oJ)(rs:List Nm)(q:aJ)(u:Ps.US)(a:aP)(D:List aP)(m:q.kd=5)(n:q.aq=a::D)(Q:rs.length<=100000)(R:a.a_.eqs.length<=10000000)
  (v:∀(i:Nat) (g:i<a.a_.eqs.length),vZ it f d p h k l c (rs++[q.ex.nm]) a.a_.eqs[i] (fV (fr p.nodes) c (rs++[q.ex.nm]) (a.a_.eqs.take i) u)):vZ it f d p h k l c rs q u:=by
 intro H F E;have G:oK (fr p.nodes) c rs q u=fV (fr p.nodes) c (rs++[q.ex.nm]) a.a_.eqs u:=by
  cases q with|mk C Y o am ac e s t=>
  rw[oK.eq_def];simp only[aJ.kd]at m;simp only[aJ.aq]at n;subst m;subst n;cases a with|mk A b B P S=>
  cases b;simp only[Ba.eq_def,Fs.eq_def];rfl
 rw[G];obtain⟨_,T,x,⟨rfl,rfl⟩,w,I⟩:=Wk.call (a:=[jA f d p h k l u,oQ d c]) (r:=[_]) ((Wk.start E).pick [1,2,0]) (qC f d p h k l u c q.lhs);obtain⟨U,V,x,rfl,w,J⟩:=Wk.call (a:=[]) w (sH rs (by omega));have w:=w;have j:=w.app [[.str q.ex.nm]];have K:aR rs++[[.str q.ex.nm]]=aR (rs++[q.ex.nm]):=by simp[aR]
 rw[K]at j;have y:=j.view (dq _);have j:=(j.drop).pick [2,0,1];have z:(q.aq.map aP.cells)[((0:Nat):Int).toNat]?=some a.cells:=by rw[n];rfl
 rw[a.aj]at z;have X:(aR rs).length<=100000:=by grind
 obtain⟨g,L⟩:∃c,c=rs++[q.ex.nm]:=⟨_,rfl⟩;rw[<-L]at y v⊢;have O:(a.a_.eqs.map aJ.cells).length=a.a_.eqs.length:=by simp
 rw[q.aj,q.ex.aj,m];refine Lj func161 W ntmps161 W ?_
 repeat refine DC.seq ?_
 apply KZ
 .intro o s;refine bp W W<|TL.nil W
 repeat refine DC.seq ?_
 apply KZ
 .intro o s;refine ai W W<|ay W W<|ax W W W<|aD I W W<|ah W W<|TL.nil W
 repeat refine DC.seq ?_
 apply KZ
 .intro o s;refine ay W W<|ax W W W<|TL.nil W
 repeat refine DC.seq ?_
 refine DC.block ?_
 repeat refine DC.seq ?_
 apply KZ
 .intro o s;refine av W W W (r:=.bool false) W<|ah W W<|TL.nil W
 repeat refine DC.seq ?_
 refine Lc W ?_
 repeat refine DC.seq ?_
 apply KZ
 .intro o s;refine av W W W (r:=.bool false) W<|ah W W<|TL.nil W
 repeat refine DC.seq ?_
 refine Lc W ?_
 repeat refine DC.seq ?_
 apply KZ
 .intro o s;refine av W W W (r:=.bool true) W<|ah W W<|TL.nil W
 repeat refine DC.seq ?_
 refine Lo W ?_
 repeat refine DC.seq ?_
 apply Le mixed
 .intro o s;refine aO W W<|bt J W W<|bI W W<|bI W W<|cd W W W<|bm W W W W W W W W<|fa w W W W W W W W (by omega)<|eX W W<|TF.nil ⟨by kernel_rfl,rfl⟩
 refine DC.bg 7 W y ?_
 repeat refine DC.seq ?_
 apply KZ
 .intro o s;refine ay W W<|ax W W W<|aN W W W (by decide) z W<|ay W W<|ay W W<|ax W W W ?_
  (refine aT W W W ?_;rw[O])
  refine ai W W<|TL.nil W
 repeat refine DC.seq ?_
 refine DC.block<|DC.loop (λm n=>∃(i:Nat) (o:List (Nat×List M)) (j:Hp),n=⟨[(60,.m (.d (.int .i64 ((i:Nat):Int)))),(59,.m (.d (.int .i64 ((a.a_.eqs.length:Nat):Int)))),(58,.m (.d (.sl (a.a_.eqs.map aJ.cells)))),(7,.m (.d (.sl (aR g)))),(0,.m (.ref f 0))],o,j⟩/\
   Wk F H [.ob it bK,jA f d p h k l (fV (fr p.nodes) c g (a.a_.eqs.take i) u),oQ d c] j/\i<=a.a_.eqs.length/\m=a.a_.eqs.length-i) a.a_.eqs.length _
  ⟨0,_,_,rfl,by rw[agS,fV.eq_def];exact j,by omega,rfl⟩ W ?_
 rintro C Z ⟨i,bx,H1,rfl,w,hi,rfl⟩
 repeat refine DC.seq ?_
 apply KZ
 .intro o s;refine av W W W W<|TL.nil W
 repeat refine DC.seq ?_
 refine DC.cond W (λN=>?_) (λN=>?_)
 .have o:i<a.a_.eqs.length:=by grind
  have s:(a.a_.eqs.map aJ.cells)[((i:Nat):Int).toNat]?=some a.a_.eqs[i].cells:=by simp[o]
  have A:fV (fr p.nodes) c g (a.a_.eqs.take (i+1)) u=oK (fr p.nodes) c g a.a_.eqs[i] (fV (fr p.nodes) c g (a.a_.eqs.take i) u):=by
   rw[agp o,vf,fV.eq_def _ _ _ [_]];simp only;rw[fV.eq_def]
  have t:=v i o;generalize fV (fr p.nodes) c g (a.a_.eqs.take i) u=u1 at w A t;generalize a.a_.eqs[i]=e at s A t;obtain⟨P,K3,x,rfl,w,B⟩:=Wk.call (r:=[]) w t;rw[e.aj,e.ex.aj]at s B;refine DC.skip ?_
  repeat refine DC.seq ?_
  refine DC.block ?_
  repeat refine DC.seq ?_
  apply KZ
  .intro S Y;refine aN W W W (ago i) s W<|aK W W W<|aM W W<|aC W W W W W W<|TL.nil W
  repeat refine DC.seq ?_
  apply KZ
  .intro S Y;refine ai W W<|aW W W W W W<|ai W W<|aD B W W<|TL.nil W
  repeat refine DC.seq ?_
  apply KZ
  .intro S Y;refine aI W W W (by omega)<|ai W W<|TL.nil W
  exact bH (k':=a.a_.eqs.length-(i+1)) (by omega) ⟨i+1,_,_,rfl,by grind,by omega,rfl⟩ W W
 refine DC.exit ?_;obtain rfl:i=a.a_.eqs.length:=by grind
 rw[agz]at w;exact⟨_,W,_,W,w⟩
end Go.Proofs.Pz
namespace Go.Ps
open Go.Mt Go.Sm
variable{j i:Nat}{a b:Ps.US}{ns:List Nd}
mutual
def pB:aJ->Nat
 |.mk _ _ _ b _ _ a _=>b.length+2+jq a
def jq:List aP->Nat
 |[]=>0
 |.mk _ b _ _ _::l=>nI b+jq l
def nI:bT->Nat
 |.mk _ a=>kq a
def kq:List aJ->Nat
 |[]=>0
 |q::l=>pB q+kq l
end
mutual
def wy:aJ->Nat
 |.mk _ _ _ _ _ _ a _=>qD a
def qD:List aP->Nat
 |[]=>0
 |.mk _ b _ _ _::l=>max (1+zj b) (qD l)
def zj:bT->Nat
 |.mk _ a=>gh a
def gh:List aJ->Nat
 |[]=>0
 |q::l=>max (wy q) (gh l)
end
section
variable(ns:List Nd)
mutual
def DP:aJ->Prop
 |.mk k _ f b _ _ a _=>(k=1\/(k=2/\(∀a∈b,iW a)/\∃j d,gu ns f=some j/\ns[j]?=some d/\b.length<=d.ins.length/\d.ins.length<=1000000)\/(k=5/\a≠[]))/\yi a
def yi:List aP->Prop
 |[]=>True
 |.mk _ b _ _ _::l=>Bn b/\yi l
def Bn:bT->Prop
 |.mk _ a=>a.length<=10000000/\rM a
def rM:List aJ->Prop
 |[]=>True
 |q::l=>DP q/\rM l
end
end
structure sO(u a:Ps.US)(k:Nat):Prop where
 n:a.n<=u.n+k
 vs:a.vars.length<=u.vars.length+k
 q:a.eqs.length<=u.eqs.length+k
def sO.refl(u:Ps.US):sO u u 0:=⟨ags _,ags _,ags _⟩
def sO.trans{c:Ps.US}(h:sO a b i)(g:sO b c j):sO a c (i+j):=⟨by have:=h.n;have:=g.n;omega,by have:=h.vs;have:=g.vs;omega,by have:=h.q;have:=g.q;omega⟩
def sO.gN(h:sO a b i)(c:i<=j):sO a b j:=⟨by have:=h.n;omega,by have:=h.vs;omega,by have:=h.q;omega⟩
def FW(u:Ps.US)(e:Xp)(t:Int×Nm)(a:List (Nm×Nm))(rs:List Nm):sO u (iN u e t a rs) 1:=⟨by simp[iN],by simp[iN],by simp[iN]⟩
section
variable(iT:Nm->List (Int×Nm))(cl:oJ)
mutual
theorem IU:∀(q:aJ) (rs:List Nm) (u:Ps.US),sO u (oK iT cl rs q u) (pB q)
 |.mk k c f a m e l p,rs,u=>by
  rw[oK.eq_def,pB]
  dsimp only
  by_cases d:k=1
  .rw[agK d];exact⟨by grind,by grind,by grind⟩
  rw[agw d];by_cases g:k=2
  .rw[agK g];have h:=kQ (mu cl c) rs (a.zip (iT f)) (u,[]);have n:(a.zip (iT f)).length<=a.length:=by grind
   generalize (a.zip (iT f)).foldl (dx (mu cl c) rs) (u,[])=r at h⊢
   dsimp only at h
   cases m with
   |false=>simp only[ahj,ahL];exact⟨by grind,by grind,by grind⟩
   |true=>
    simp only[ah3];by_cases i:e.kd=4
    .rw[agK i];exact⟨by grind,by grind,by grind⟩
    .rw[agw i];have b:=FW r.1 e (1,⟨#[]⟩) (mu cl c) rs;have:=b.n;have:=b.vs;have:=b.q;exact⟨by grind,by grind,by grind⟩
  rw[agw g];by_cases j:k=5
  .rw[agK j];exact(IV l (rs++[e.nm]) u).gN (by omega)
  rw[agw j];exact(sO.refl u).gN (by omega)
theorem IV:∀(l:List aP) (rs:List Nm) (u:Ps.US),sO u (Ba iT cl rs l u) (jq l)
 |[],rs,u=>by rw[Ba.eq_def,jq];exact .refl u
 |.mk n b x y p::l,rs,u=>by rw[Ba.eq_def,jq];exact(IW b rs u).gN (by omega)
theorem IW:∀(b:bT) (rs:List Nm) (u:Ps.US),sO u (Fs iT cl rs b u) (nI b)
 |.mk c a,rs,u=>by rw[Fs.eq_def,nI];exact qE a rs u
theorem qE:∀(l:List aJ) (rs:List Nm) (u:Ps.US),sO u (fV iT cl rs l u) (kq l)
 |[],rs,u=>by rw[fV.eq_def,kq];exact .refl u
 |q::l,rs,u=>by rw[fV.eq_def,kq];exact(IU q rs u).trans (qE l rs _)
end
end
def ni:∀{l:List aJ} {i:Nat} (h:i<l.length),kq (l.take i)+pB l[i]<=kq l
 |[],i,h=>by simp at h
 |a::l,0,h=>by rw[agS,kq,kq,ahM];omega
 |a::l,i+1,h=>by
  have:=ni (l:=l) (i:=i) (by simpa using h);rw[ahg,kq,kq,ahE];omega
def vg:∀{l:List aJ} {q:aJ},q∈l->wy q<=gh l
 |[],q,h=>by simp at h
 |a::l,q,h=>by
  rw[gh];rcases agu.1 h with rfl|h
  .omega
  .have:=vg h;omega
def rM.get:∀{l:List aJ},rM ns l->∀q∈l,DP ns q
 |[],_,q,h=>by simp at h
 |b::l,a,q,h=>by
  rw[rM]at a;rcases agu.1 h with rfl|h
  .exact a.1
  .exact rM.get a.2 q h
theorem FX{f:Nm}{d:Nd}(b:gu ns f=some j)(a:ns[j]?=some d):fr ns f=d.ins.map λv=>(v.tk,v.tn):=by
 unfold fr;have h:ns.find? (λd=>decide (d.name=f))=some d:=by
  unfold gu at b;rw[ahd]at b;obtain⟨c,e,g⟩:=b;rw[ag3 c]at a;injection a with a;subst a
  rw[aiG];exact⟨e,j,c,W,λk a=>by grind⟩
 rw[h]
end Go.Ps
namespace Go.Proofs.Pz
open Go.Mt Go.Sm Go.Ps Go.Proofs
section
variable(it im ic:Nat)(p:Pg)(nm:Nm)(ins outs:List Va)(cl:oJ)(Qp:p.nodes.length<=1000000)
include Qp
mutual
theorem Cn:∀(q:aJ) (rs:List Nm) (u:Ps.US),DP p.nodes q->rs.length+wy q<=90000->u.n+pB q<=9000000->u.vars.length+pB q<=20000000->u.eqs.length+pB q<=9000000->vZ it im ic p nm ins outs cl rs q u
 |.mk k i g l j e a h,rs,u,m,s,t,v,w=>by
  rw[DP]at m;rw[pB]at t v w;rw[wy]at s;obtain⟨x,y⟩:=m;rcases x with b|⟨b,z,r,d,n,o,A,B⟩|⟨b,C⟩
  .exact FV it im ic p nm ins outs cl rs (.mk k i g l j e a h) u b (by omega) (by omega)
  .exact Cl it im ic p nm ins outs cl rs (.mk k i g l j e a h) u b Qp r d n o (FX n o) A B z (by simp only[aJ.args];omega) (by simp only[aJ.args];omega) (by simp only[aJ.args];omega) (by omega)
  .have F:=HE a (rs++[e.nm]) u y (by grind) (by omega) (by omega) (by omega);obtain⟨c,f,q⟩:∃b c,a=b::c:=by
    cases D:a with
    |nil=>exact absurd D C
    |cons c f=>exact⟨c,f,W⟩
   obtain⟨D,E⟩:=F c f q;exact Cm it im ic p nm ins outs cl rs (.mk k i g l j e a h) u c f b q (by omega) D E
theorem HE:∀(l:List aP) (rs:List Nm) (u:Ps.US),yi p.nodes l->rs.length+qD l<=90001->u.n+jq l<=9000000->u.vars.length+jq l<=20000000->u.eqs.length+jq l<=9000000->∀a b,l=a::b->
  a.a_.eqs.length<=10000000/\∀(i:Nat) (h:i<a.a_.eqs.length),vZ it im ic p nm ins outs cl rs a.a_.eqs[i] (fV (fr p.nodes) cl rs (a.a_.eqs.take i) u)
 |[],rs,u,c,d,e,f,g,a,b,h=>by cases h
 |.mk o (.mk z c) x y r::l,rs,u,d,e,f,j,k,a,q,h=>by
  injection h with h m
  subst h;rw[yi,Bn]at d;rw[jq,nI]at f j k;rw[qD,zj]at e;refine⟨d.1.1,λi n=>?_⟩;have b:i<c.length:=n;have s:=ni b;have m:=vg (agx b);have g:=qE (fr p.nodes) cl (c.take i) rs u;have t:=g.n;have v:=g.vs;have w:=g.q;exact Co c c[i] (agx b) rs _ (d.1.2.get _ (agx b)) (by omega) (by simp only[aP.a_,bT.eqs];omega) (by simp only[aP.a_,bT.eqs];omega) (by simp only[aP.a_,bT.eqs];omega)
theorem Co:∀(l:List aJ) (q:aJ),q∈l->∀(rs:List Nm) (u:Ps.US),DP p.nodes q->rs.length+wy q<=90000->u.n+pB q<=9000000->u.vars.length+pB q<=20000000->u.eqs.length+pB q<=9000000->vZ it im ic p nm ins outs cl rs q u
 |[],q,h=>by simp at h
 |a::l,q,h=>by
  rcases agu.1 h with h|h
  .rw[h];exact Cn a
  .exact Co l q h
end
end
end Go.Proofs.Pz
namespace Go.Ps
open Go.Mt Go.Sm
def Cp(l:List Va)(v:Va):eT (l++[v])= λy=>if y=v.name then v.clock else eT l y:=by
 funext y
 unfold eT;rw[aiR,ajh,ajp,ajk];by_cases h:v.name=y
 .rw[agK h.symm];simp[h]
 .rw[agw (ahJ h)];simp[h]
def sP:eT []= λ_=>[]:=rfl
end Go.Ps
namespace Go.Proofs.Pz
open Go.Mt Go.Sm Go.Ps Go.Proofs
open Tryz
section
variable{X:cY}{ops:Array Oper}{rest:List Oper}{post:St->Prop}{sl:List (Nat×V)}{bx:List (Nat×List M)}{H:Hp}{d ty:Nat}{pos:String}{af:Array Edge}
def Ad{T n:Nat}{x:Operand}{i off:Nat}{cs a:List M}[ht:dw X.P T n](b:Nat.blt d X.n=true)(c:bj sl x=some (.m (.ref i off)))(e:H[i]?=some (.box cs))(f:sub cs off n=some a)
  (k:TL X ops rest ⟨(d,.m (pack a))::sl,bx,H⟩ post):TL X ops (⟨some d,.load T x,ty,pos,af,none⟩::rest) ⟨sl,bx,H⟩ post:=
 LA W W b (k9 c e (u7 f)) k
end
def v7(a b c:List Va)(h:a.length+b.length+c.length<=30000000):PT prog 61 [.sl [[.sl (aB a)],[.sl (aB b)],[.sl (aB c)]]] (·=[.sl (aB (a++b++c))]):=by
 have d:=n5 [aB a,aB b,aB c] (by
  intro l e r f;simp only[agu,agE,ag0]at e;rcases e with rfl|rfl|rfl<;>exact bR _ r f) (by simp) (by simp[aB];omega)
 have g:[aB a,aB b,aB c].flatten=aB (a++b++c):=by simp[aB]
 rw[g]at d;exact d
def Fl.aj(f:Fl):f.cells=[.str f.name,.sl (aB f.ins),.sl (aB f.outs),.sl (aB f.vars),.sl (fx f.eqs)]:=rfl
def DQ(it:Nat)(p:Pg)(d:Nd)(O:p.nodes.length<=1000000)(P:d.ins.length+d.outs.length+d.b.vars.length<=9000000)(m:Bn p.nodes d.b)(z:zj d.b<=80000)(A:nI d.b<=8000000):
  Dt prog 109 [.d (.agg p.cells),.d (.agg d.cells)] [.ob it bK] λr l=>r=.d (.agg (sG p.nodes d).cells)/\l=[.ob it bK]:=by
 intro H F Q;have w:=Wk.start Q;have R:d.cells=[.str d.name,.sl (aB d.ins),.sl (aB d.outs),.sl (aB d.b.vars),.sl (d.b.eqs.map aJ.cells),.int .i64 d.ps.1,.int .i64 d.ps.2]:=by unfold Nd.cells;rfl
 rw[R];obtain⟨L,q⟩:∃L,L=d.ins++d.outs++d.b.vars:=⟨_,rfl⟩;have XU:L.length<=9000000:=by rw[q];simp only[agq];exact P
 have B:=DN d.b.vars (by omega);have C:=v7 d.ins d.outs d.b.vars (by omega);rw[<-q]at C;have ce:(aB L).length=L.length:=by simp[aB]
 have ac:(d.b.eqs.map aJ.cells).length=d.b.eqs.length:=by simp
 have S:sG p.nodes d=⟨d.name,d.ins,d.outs,(fV (fr p.nodes) (eT L) [] d.b.eqs ⟨0,d.b.vars,[]⟩).vars,(fV (fr p.nodes) (eT L) [] d.b.eqs ⟨0,d.b.vars,[]⟩).eqs⟩:=by rw[q];rfl
 rw[S];obtain⟨b,D⟩:∃b,b=H.length:=⟨_,rfl⟩;obtain⟨c,T⟩:∃b,b=H.length+1:=⟨_,rfl⟩;have w:=(w.new (.map []));have E:(H++[Ob.map []]).length=c:=by rw[T];simp
 have w:=w.new (.box [.d (.sl (p.aG.map En.cells)),.d (.sl (p.nodes.map Nd.cells)),.d (.str d.name),.d (.sl (aB d.ins)),.d (.sl (aB d.outs)),.d (.sl []),.d (.sl []),.mp b,.d (.int .i64 0)]);rw[E,<-D]at w;refine Lj func109 W ntmps109 W ?_
 repeat refine DC.seq ?_
 apply KZ
 .intro j k;refine bp W W<|bp W W<|aM W W<|TL.nil W
 repeat refine DC.seq ?_
 apply KZ
 .intro j k;refine aK W W W<|ay W W<|ax W W W<|ay W W<|ax W W W<|ay W W<|ax W W W<|bX W W W W W<|jn W<|mJ (cs:=[.d (.sl (p.aG.map En.cells)),.d (.sl (p.nodes.map Nd.cells)),.d (.str d.name),.d (.sl (aB d.ins)),.d (.sl (aB d.outs)),.d (.sl []),.d (.sl []),.mp H.length,.d (.int .i64 0)]) W W W W<|nP W W (fu _)<|ah W W<|TL.nil W
 obtain⟨n,G⟩:∃c,c=H++[Ob.map []]++[Ob.box [.d (.sl (p.aG.map En.cells)),.d (.sl (p.nodes.map Nd.cells)),.d (.str d.name),.d (.sl (aB d.ins)),.d (.sl (aB d.outs)),.d (.sl []),.d (.sl []),.mp b,.d (.int .i64 0)]]:=⟨_,rfl⟩;rw[<-G]at w;refine LF [(5,.m (.ref c 0)),(4,.loc 4 0),(3,.m (.d (.ca [.str d.name,.sl (aB d.ins),.sl (aB d.outs),.sl (aB d.b.vars),.sl (d.b.eqs.map aJ.cells),.int .i64 d.ps.1,.int .i64 d.ps.2] 0)))] n (by rw[<-E];rfl) (by rw[G,D]) ?_;obtain⟨s,K1,U,rfl,w,B⟩:=Wk.call (a:=[]) w (pq d.b.vars (by omega));have w:=w;have V:=w.zS;have w:=w.pick [1,0,2,3];have g:=w.ob;have w:=w.set (.box [.d (.sl (p.aG.map En.cells)),.d (.sl (p.nodes.map Nd.cells)),.d (.str d.name),.d (.sl (aB d.ins)),.d (.sl (aB d.outs)),s,.d (.sl []),.mp b,.d (.int .i64 0)])
 repeat refine DC.seq ?_
 apply KZ
 .intro j k;refine ai W W<|ay W W<|ay W W<|ax W W W<|aD B W W<|dG W W W<|eB W W<|eB W W<|c8 W W g V W W<|TL.nil W
 repeat refine DC.seq ?_
 apply KZ
 .intro j k;refine ay W W<|ax W W W<|ay W W<|ax W W W<|ay W W<|ay W W<|ax W W W<|aU W W W W W W W W<|aL C W W ?_
  (refine aT W W W ?_;rw[ce])
  refine ai W W<|TL.nil W
 have w:=oQ.close qA.nil (w.pick [2,0,1,3])
 repeat refine DC.seq ?_
 refine DC.block<|DC.loop (λk h=>∃(i:Nat) (g:List (Nat×List M)) (f:Hp),h=⟨[(39,.m (.d (.int .i64 ((i:Nat):Int)))),(38,.m (.d (.int .i64 ((L.length:Nat):Int)))),(37,.m (.d (.sl (aB L)))),(5,.m (.ref c 0)),(4,.loc 4 0),(3,.m (.d (.ca [.str d.name,.sl (aB d.ins),.sl (aB d.outs),.sl (aB d.b.vars),.sl (d.b.eqs.map aJ.cells),.int .i64 d.ps.1,.int .i64 d.ps.2] 0)))],g,f⟩/\Go.Mt.get g 4=some [.d (.str ⟨#[]⟩),.d (.sl []),.d (.sl []),.d (.sl []),.d (.sl [])]/\
   Wk F H [oQ b (eT (L.take i)),.ob c (.box [.d (.sl (p.aG.map En.cells)),.d (.sl (p.nodes.map Nd.cells)),.d (.str d.name),.d (.sl (aB d.ins)),.d (.sl (aB d.outs)),s,.d (.sl []),.mp b,.d (.int .i64 0)]),.acc 15 (aB d.b.vars) s,.ob it bK] f/\i<=L.length/\k=L.length-i) L.length _
  ⟨0,_,_,rfl,rfl,by rw[agS,sP];exact w,by omega,rfl⟩ W ?_
 rintro N X ⟨i,Y,n,rfl,h,w,Z,rfl⟩
 repeat refine DC.seq ?_
 apply KZ
 .intro j k;refine av W W W W<|TL.nil W
 repeat refine DC.seq ?_
 refine DC.cond W (λf=>?_) (λf=>?_)
 .have o:i<L.length:=by have:=agr f;omega
  have j:=kN o;have k:eT (L.take (i+1))= λy=>if y=L[i].name then L[i].clock else eT (L.take i) y:=by rw[agp o,Cp]
  generalize eT (L.take i)=J at w k;generalize L[i]=v at j k;rw[v.aj]at j;obtain⟨x,t,w⟩:=oQ.open w;have g:=(w.pick [1,0,2,3]).ob;refine DC.skip ?_
  repeat refine DC.seq ?_
  refine DC.block ?_
  repeat refine DC.seq ?_
  apply KZ
  .intro y I;refine aN W W W (ago i) j W<|aK W W W<|aM W W<|aC W W W W W W<|TL.nil W
  repeat refine DC.seq ?_
  apply Le mixed
  .intro y I;refine aO W W<|bO W W W<|bJ W W<|dy W W g W<|aX W W<|bC W W W W<|aX W W<|bC W W W W<|pa W W W w.ob t.k<|TF.nil ⟨by kernel_rfl,rfl⟩
  repeat refine DC.seq ?_
  apply KZ
  .intro y I;refine aI W W W (by omega)<|ai W W<|TL.nil W
  exact bH (k':=L.length-(i+1)) (by omega) ⟨i+1,_,_,rfl,h,by rw[k];exact(oQ.close (t.set v.name v.clock) (w.set (.map (dH v.name (.d (.sl (bW v.clock))) x)))),by omega,rfl⟩ W W
 refine DC.exit ?_;obtain rfl:i=L.length:=by have:=agv f;omega
 rw[agz]at w;have w:Wk F H [.ob it bK,jA c b p d.name d.ins d.outs ⟨0,d.b.vars,[]⟩,oQ b (eT L)] n:=by
  have w:=(w.nil 22).pick [2,3,0,1,4];exact(NM (u:=⟨0,d.b.vars,[]⟩) w).pick [2,0,1]
 have QE:d.b.eqs.length<=10000000:=by
  cases j:d.b with
  |mk o k=>rw[j,Bn]at m;exact m.1
 repeat refine DC.seq ?_
 apply KZ
 .intro j k;refine ay W W<|ay W W<|ax W W W ?_
  (refine aT W W W ?_;rw[ac])
  refine ai W W<|TL.nil W
 repeat refine DC.seq ?_
 refine DC.block<|DC.loop (λk h=>∃(i:Nat) (g:List (Nat×List M)) (f:Hp),h=⟨[(56,.m (.d (.int .i64 ((i:Nat):Int)))),(55,.m (.d (.int .i64 ((d.b.eqs.length:Nat):Int)))),(54,.m (.d (.sl (d.b.eqs.map aJ.cells)))),(5,.m (.ref c 0)),(4,.loc 4 0)],g,f⟩/\Go.Mt.get g 4=some [.d (.str ⟨#[]⟩),.d (.sl []),.d (.sl []),.d (.sl []),.d (.sl [])]/\
   Wk F H [.ob it bK,jA c b p d.name d.ins d.outs (fV (fr p.nodes) (eT L) [] (d.b.eqs.take i) ⟨0,d.b.vars,[]⟩),oQ b (eT L)] f/\i<=d.b.eqs.length/\k=d.b.eqs.length-i) d.b.eqs.length _
  ⟨0,_,_,rfl,h,by rw[agS,fV.eq_def];exact w,by omega,rfl⟩ W ?_
 rintro N X ⟨i,Y,n,rfl,h,w,Z,rfl⟩
 repeat refine DC.seq ?_
 apply KZ
 .intro j k;refine av W W W W<|TL.nil W
 repeat refine DC.seq ?_
 refine DC.cond W (λf=>?_) (λf=>?_)
 .have j:i<d.b.eqs.length:=by have:=agr f;omega
  have t:(d.b.eqs.map aJ.cells)[((i:Nat):Int).toNat]?=some d.b.eqs[i].cells:=by simp[j]
  have x:fV (fr p.nodes) (eT L) [] (d.b.eqs.take (i+1)) ⟨0,d.b.vars,[]⟩=oK (fr p.nodes) (eT L) [] d.b.eqs[i] (fV (fr p.nodes) (eT L) [] (d.b.eqs.take i) ⟨0,d.b.vars,[]⟩):=by
   rw[agp j,vf,fV.eq_def _ _ _ [_]];simp only;rw[fV.eq_def]
  have y:vZ it c b p d.name d.ins d.outs (eT L) [] d.b.eqs[i] (fV (fr p.nodes) (eT L) [] (d.b.eqs.take i) ⟨0,d.b.vars,[]⟩):=by
   have o:=qE (fr p.nodes) (eT L) (d.b.eqs.take i) [] ⟨0,d.b.vars,[]⟩;have gn:=o.n;have gv:=o.vs;have gq:=o.q
   dsimp only[List.length_nil]at gn gv gq
   have h1:=ni j;have h2:=vg (agx j);have SU:kq d.b.eqs<=8000000:=by cases k:d.b with|mk K J=>rw[k,nI]at A;exact A
   have OH:gh d.b.eqs<=80000:=by cases k:d.b with|mk K J=>rw[k,zj]at z;exact z
   have am:rM p.nodes d.b.eqs:=by cases k:d.b with|mk K J=>rw[k,Bn]at m;exact m.2
   exact Cn it c b p d.name d.ins d.outs (eT L) O d.b.eqs[i] [] _ (am.get _ (agx j)) (by rw[List.length_nil];omega) (by omega) (by omega) (by omega)
  generalize fV (fr p.nodes) (eT L) [] (d.b.eqs.take i) ⟨0,d.b.vars,[]⟩=u1 at w x y;generalize d.b.eqs[i]=e at t x y;obtain⟨co,K3,U,rfl,w,I⟩:=Wk.call (r:=[]) w y;rw[e.aj,e.ex.aj]at t I;refine DC.skip ?_
  repeat refine DC.seq ?_
  refine DC.block ?_
  repeat refine DC.seq ?_
  apply KZ
  .intro k o;refine aN W W W (ago i) t W<|aK W W W<|aM W W<|aC W W W W W W<|TL.nil W
  repeat refine DC.seq ?_
  apply KZ
  .intro k o;refine ai W W<|aW W W W W W<|aD I W W<|TL.nil W
  repeat refine DC.seq ?_
  apply KZ
  .intro k o;refine aI W W W (by omega)<|ai W W<|TL.nil W
  exact bH (k':=d.b.eqs.length-(i+1)) (by omega) ⟨i+1,_,_,rfl,h,by rw[x];exact w,by omega,rfl⟩ W W
 refine DC.exit ?_;obtain rfl:i=d.b.eqs.length:=by have:=agv f;omega
 rw[agz]at w;generalize fV (fr p.nodes) (eT L) [] d.b.eqs ⟨0,d.b.vars,[]⟩=u at w⊢;obtain⟨Rh,Ya,w⟩:=jA.open (w.pick [1,0,2]);have g:=w.ob
 repeat refine DC.seq ?_
 apply KZ
 .intro j k;refine ai W W<|dG W W W<|eB W W<|Ad W W g W<|aC W W h (fu _) W W<|TL.nil W
 refine DC.cZ (Ls:=[.d (.str d.name),.d (.sl (aB d.ins)),.d (.sl (aB d.outs)),.d (.sl (aB u.vars)),.d (.sl (fx u.eqs))]) 4 W (cq (cq (cq (lQ ((w.pick [1,0,2,3,4]).view (bR _)) (lQ ((w.pick [2,0,1,3,4]).view (yg _)) (po _))))))<|DC.ret ⟨_,W,_,⟨W,W⟩,((w.pick [3,0,1,2,4]).pick [1,2,3,4,0]).drop.drop.drop.drop⟩
end Go.Proofs.Pz
namespace Go.Ps
open Go.Mt Go.Sm
mutual
def ow:aJ->List Nm->List Nm
 |.mk k _ f _ _ _ a _,l=>fy a (if k=2 then dh l f else l)
def fy:List aP->List Nm->List Nm
 |[],l=>l
 |.mk _ b _ _ _::r,l=>fy r ((iD b).foldl dh l)
def iD:bT->List Nm
 |.mk _ a=>fI a []
def fI:List aJ->List Nm->List Nm
 |[],l=>l
 |q::r,l=>fI r (ow q l)
end
def v8:∀(a b:List aJ) (l:List Nm),fI (a++b) l=fI b (fI a l)
 |[],b,l=>by rw[fI.eq_def []];rfl
 |q::a,b,l=>by rw[agQ,fI.eq_def (q::_),fI.eq_def (q::a)];exact v8 a b _
def v_:∀(a b:List aP) (l:List Nm),fy (a++b) l=fy b (fy a l)
 |[],b,l=>by rw[fy.eq_def []];rfl
 |.mk _ _ _ _ _::a,b,l=>by rw[agQ,fy.eq_def (_::_),fy.eq_def (_::a)];exact v_ a b _
mutual
def DR:∀(q:aJ) (l:List Nm),(ow q l).length<=l.length+pB q
 |.mk k _ f d _ _ a _,l=>by
  rw[ow.eq_def,pB];have b:=qF a (if k=2 then dh l f else l);have c:(if k=2 then dh l f else l).length<=l.length+1:=by split;exact jb l f;omega
  dsimp only
  omega
def qF:∀(a:List aP) (l:List Nm),(fy a l).length<=l.length+jq a
 |[],l=>by rw[fy.eq_def,jq];exact ags _
 |.mk _ b _ _ _::r,l=>by
  rw[fy.eq_def,jq]
  dsimp only
  have c:=qF r ((iD b).foldl dh l);have c:=jS (iD b) l;have c:=sQ b;omega
def sQ:∀(b:bT),(iD b).length<=nI b
 |.mk _ a=>by
  rw[iD.eq_def,nI];have:=qG a [];simpa using this
def qG:∀(q:List aJ) (l:List Nm),(fI q l).length<=l.length+kq q
 |[],l=>by rw[fI.eq_def,kq];exact ags _
 |q::r,l=>by
  rw[fI.eq_def,kq]
  dsimp only
  have a:=qG r (ow q l);have a:=DR q l;omega
end
mutual
def Bo:bT->Prop
 |.mk _ a=>a.length<=10000000/\rN a
def rN:List aJ->Prop
 |[]=>True
 |.mk _ _ _ _ _ _ a _::l=>(a.length<=1000000/\qH a)/\rN l
def qH:List aP->Prop
 |[]=>True
 |.mk _ b _ _ _::l=>Bo b/\qH l
end
end Go.Ps
namespace Go.Proofs.Pz
open Go.Mt Go.Sm Go.Ps Go.Proofs
open Tryz
def yj{α:Type}{a:Nat}{x y:α}{r:List (Nat×α)}(t:Nat):Go.Mt.get ((a,x)::r) t=Go.Mt.get ((a,x)::(a,y)::r) t:=by
 by_cases h:a.beq t=true
 .simp[Go.Mt.get,h]
 .simp[Go.Mt.get,ai3.2 h]
def sR:∀{l:List aP} {i:Nat} (h:i<l.length),jq (l.take i)+nI l[i].a_<=jq l
 |[],i,h=>by simp at h
 |.mk _ b _ _ _::l,0,h=>by rw[agS,jq,jq.eq_def (_::_),ahM];simp[aP.a_]
 |.mk _ b _ _ _::l,i+1,h=>by
  have:=sR (l:=l) (i:=i) (by simpa using h);rw[ahg,jq.eq_def (_::_),jq.eq_def (_::l),ahE];simp only;omega
def FY(b:bT)(QE:b.eqs.length<=10000000)(O:∀q∈b.eqs,q.aq.length<=1000000)(P:nI b<=8000000)(Q:∀q∈b.eqs,∀a∈q.aq,PT prog 159 [.agg a.a_.cells] (·=[.sl (aR (iD a.a_))])):
  PT prog 159 [.agg b.cells] (·=[.sl (aR (iD b))]):=by
 refine PT.ro (ds:=[_]) ?_;intro H F R;have w:=(Wk.start R).nil 1;have ac:(b.eqs.map aJ.cells).length=b.eqs.length:=by simp
 have S:iD b=fI b.eqs []:=by cases b;rw[iD.eq_def];rfl
 have am:nI b=kq b.eqs:=by cases b;rw[nI];rfl
 rw[am]at P;rw[S,b.aj];refine Lj func159 W ntmps159 W ?_
 repeat refine DC.seq ?_
 apply KZ
 .intro a d;refine bp W W<|ah W W<|TL.nil W
 repeat refine DC.seq ?_
 apply KZ
 .intro a d;refine ah W W<|TL.nil W
 repeat refine DC.seq ?_
 apply KZ
 .intro a d;refine ay W W<|ax W W W ?_
  (refine aT W W W ?_;rw[ac])
  refine ai W W<|TL.nil W
 repeat refine DC.seq ?_
 refine DC.block<|DC.loop (λk c=>∃(i:Nat) (m:M) (d:List (Nat×List M)) (a:Hp),c=⟨[(13,.m (.d (.int .i64 ((i:Nat):Int)))),(12,.m (.d (.int .i64 ((b.eqs.length:Nat):Int)))),(11,.m (.d (.sl (b.eqs.map aJ.cells)))),(3,.m m)],d,a⟩/\
   Wk F H [.acc 1 (aR (fI (b.eqs.take i) [])) m] a/\i<=b.eqs.length/\k=b.eqs.length-i) b.eqs.length _
  ⟨0,.d (.sl []),_,_,rfl,by rw[agS,fI.eq_def];exact w,by omega,rfl⟩ W ?_
 rintro B C ⟨i,m,f,x,rfl,w,hi,rfl⟩
 repeat refine DC.seq ?_
 apply KZ
 .intro a d;refine av W W W W<|TL.nil W
 repeat refine DC.seq ?_
 refine DC.cond W (λc=>?_) (λc=>?_)
 .have g:i<b.eqs.length:=by have:=agr c;omega
  have y:(b.eqs.map aJ.cells)[((i:Nat):Int).toNat]?=some b.eqs[i].cells:=by simp[g]
  have k:fI (b.eqs.take (i+1)) []=ow b.eqs[i] (fI (b.eqs.take i) []):=by
   rw[agp g,v8,fI.eq_def [_]];simp only;rw[fI.eq_def]
  have E:=qG (b.eqs.take i) [];have G:=ni g;have I:=Q _ (agx g);have T:=O _ (agx g);generalize fI (b.eqs.take i) []=l at w k E;generalize b.eqs[i]=q at y k I T G;have U:(q.aq.map aP.cells).length=q.aq.length:=by simp
  have V:ow q l=fy q.aq (if q.kd=2 then dh l q.f else l):=by cases q;rw[ow.eq_def];rfl
  have ce:pB q=q.args.length+2+jq q.aq:=by cases q;rw[pB];rfl
  rw[V]at k;rw[ce]at G;rw[List.length_nil]at E;rw[q.aj,q.ex.aj]at y;refine DC.skip ?_
  repeat refine DC.seq ?_
  refine DC.block ?_
  repeat refine DC.seq ?_
  apply KZ
  .intro a e;refine aN W W W (ago i) y W<|aK W W W<|aM W W<|aC W W W W W W<|TL.nil W
  obtain⟨d,n⟩:∃a,a=if q.kd=2 then dh l q.f else l:=⟨_,rfl⟩
  have WQ:d.length<=l.length+1:=by rw[n];split;exact jb l q.f;omega
  rw[<-n]at k;obtain⟨J,X,Y,o⟩:∃a c,Wk F H [.acc 1 (aR d) a] c/\(if q.kd=2 then CT prog 179 [m,.d (.str q.f)] x λd e=>d=a/\e=c else a=m/\c=x):=by
   by_cases a:q.kd=2
   .obtain⟨e,h,t,s,w,c⟩:=Wk.call (r:=[]) w (tJ l q.f (by omega) m);subst s;refine⟨e,h,?_,by rw[agK a];exact c⟩;rw[n,agK a];exact w
   .exact⟨m,x,by rw[n,agw a];exact w,by rw[agw a];exact⟨W,W⟩⟩
  refine DC.seq<|DC.GX ⟨[(5,.loc 5 0),(13,.m (.d (.int .i64 ((i:Nat):Int)))),(12,.m (.d (.int .i64 ((b.eqs.length:Nat):Int)))),(11,.m (.d (.sl (b.eqs.map aJ.cells)))),(3,.m J)],(5,(eQ q.kd q.lhs q.f (q.args.map Xp.cells) q.has (xC q.ex) (q.aq.map aP.cells) q.ps).map M.d)::f,X⟩ ?_ ?_
  .by_cases a:q.kd=2
   .rw[agK a]at o;have e:(q.kd==2)=true:=by simp[a]
    repeat refine DC.seq ?_
    apply KZ
    .intro h s;refine aA W W<|aF W W W W ?_
     (refine av W W W (r:=.bool true) (by show some (D.bool (q.kd==2))=_;rw[e]) ?_)
     exact TL.nil W
    repeat refine DC.seq ?_
    refine Lo W ?_
    repeat refine DC.seq ?_
    apply KZ
    .intro h s;refine ai W W<|aA W W<|aF W W W W<|aD o W W<|ah W W<|TL.nil W
    exact A0 yj W W
   .rw[agw a]at o;obtain⟨rfl,rfl⟩:=o;have e:(q.kd==2)=false:=by simp[a]
    repeat refine DC.seq ?_
    apply KZ
    .intro h s;refine aA W W<|aF W W W W ?_
     (refine av W W W (r:=.bool false) (by show some (D.bool (q.kd==2))=_;rw[e]) ?_)
     exact TL.nil W
    repeat refine DC.seq ?_
    refine Lc W<|DC.skip<|A0 yj W W
  have K:Go.Mt.get ((5,(eQ q.kd q.lhs q.f (q.args.map Xp.cells) q.has (xC q.ex) (q.aq.map aP.cells) q.ps).map M.d)::f) 5=some ((eQ q.kd q.lhs q.f (q.args.map Xp.cells) q.has (xC q.ex) (q.aq.map aP.cells) q.ps).map M.d):=rfl;generalize (5,(eQ q.kd q.lhs q.f (q.args.map Xp.cells) q.has (xC q.ex) (q.aq.map aP.cells) q.ps).map M.d)::f=d6 at K
  repeat refine DC.seq ?_
  apply KZ
  .intro a e;refine aA W W<|aF W W K W ?_
   (refine aT W W W ?_;rw[U])
   refine ai W W<|TL.nil W
  repeat refine DC.seq ?_
  refine DC.block<|DC.loop (λk c=>∃(j:Nat) (m:M) (e:List (Nat×List M)) (a:Hp),c=⟨[(27,.m (.d (.int .i64 ((j:Nat):Int)))),(26,.m (.d (.int .i64 ((q.aq.length:Nat):Int)))),(25,.m (.d (.sl (q.aq.map aP.cells)))),(13,.m (.d (.int .i64 ((i:Nat):Int)))),(12,.m (.d (.int .i64 ((b.eqs.length:Nat):Int)))),(11,.m (.d (.sl (b.eqs.map aJ.cells)))),(3,.m m)],e,a⟩/\
    Wk F H [.acc 1 (aR (fy (q.aq.take j) d)) m] a/\j<=q.aq.length/\k=q.aq.length-j) q.aq.length _
   ⟨0,J,_,_,rfl,by rw[agS,fy.eq_def];exact Y,by omega,rfl⟩ W ?_
  rintro B C ⟨j,m2,f,H2,rfl,p,hj,rfl⟩
  repeat refine DC.seq ?_
  apply KZ
  .intro a e;refine av W W W W<|TL.nil W
  repeat refine DC.seq ?_
  refine DC.cond W (λc=>?_) (λc=>?_)
  .have s:j<q.aq.length:=by have:=agr c;omega
   have z:(q.aq.map aP.cells)[((j:Nat):Int).toNat]?=some q.aq[j].cells:=by simp[s]
   have t:fy (q.aq.take (j+1)) d=(iD q.aq[j].a_).foldl dh (fy (q.aq.take j) d):=by
    rw[agp s,v_,fy.eq_def [_]];generalize q.aq[j]=e;cases e;simp only;rw[fy.eq_def];rfl
   have Z9:=qF (q.aq.take j) d;have Z_:=sR s;have u:=I _ (agx s);have L:=sQ q.aq[j].a_;generalize fy (q.aq.take j) d=v at p t Z9;generalize q.aq[j]=e at z t u Z_ L;rw[e.aj]at z;refine DC.skip ?_
   repeat refine DC.seq ?_
   refine DC.block ?_
   repeat refine DC.seq ?_
   apply KZ
   .intro N Z;refine aN W W W (ago j) z W<|aK W W W<|aM W W<|aC W W W W W W<|TL.nil W
   obtain⟨a,Ns⟩:∃a,a=iD e.a_:=⟨_,rfl⟩;rw[<-Ns]at t u L;rw[e.a_.aj]at u;have V3:(aR a).length=a.length:=by simp
   repeat refine DC.seq ?_
   apply KZ
   .intro N Z;refine aA W W<|aW W W W W W ?_
    (refine tc u W W ?_;rintro _ rfl)
    (refine aT W W W ?_;rw[V3])
    refine ai W W<|TL.nil W
   repeat refine DC.seq ?_
   refine DC.block<|DC.loop (λk d=>∃(h:Nat) (m:M) (e:List (Nat×List M)) (c:Hp),d=⟨[(35,.m (.d (.int .i64 ((h:Nat):Int)))),(34,.m (.d (.int .i64 ((a.length:Nat):Int)))),(33,.m (.d (.sl (aR a)))),(27,.m (.d (.int .i64 ((j:Nat):Int)))),(26,.m (.d (.int .i64 ((q.aq.length:Nat):Int)))),(25,.m (.d (.sl (q.aq.map aP.cells)))),(13,.m (.d (.int .i64 ((i:Nat):Int)))),(12,.m (.d (.int .i64 ((b.eqs.length:Nat):Int)))),(11,.m (.d (.sl (b.eqs.map aJ.cells)))),(3,.m m)],e,c⟩/\
     Wk F H [.acc 1 (aR ((a.take h).foldl dh v)) m] c/\h<=a.length/\k=a.length-h) a.length _
    ⟨0,m2,_,_,rfl,p,by omega,rfl⟩ W ?_
   rintro B C ⟨h,m3,f,H3,rfl,A,hh,rfl⟩
   repeat refine DC.seq ?_
   apply KZ
   .intro N Z;refine av W W W W<|TL.nil W
   repeat refine DC.seq ?_
   refine DC.cond W (λc=>?_) (λc=>?_)
   .have N:h<a.length:=by have:=agr c;omega
    have Yb:(aR a)[((h:Nat):Int).toNat]?=some [.str a[h]]:=by simp[aR,N]
    have Z':(a.take (h+1)).foldl dh v=dh ((a.take h).foldl dh v) a[h]:=by rw[agp N,ag7];rfl
    have d7:=jS (a.take h) v;have Lx:(a.take h).length<=a.length:=by rw[agM];omega
    obtain⟨co,d5,l',Z,w4,Pc⟩:=Wk.call (r:=[]) A (tJ _ a[h] (by omega) m3);subst Z;refine DC.skip ?_
    repeat refine DC.seq ?_
    refine DC.block ?_
    repeat refine DC.seq ?_
    apply KZ
    .intro s0 Oo;refine aN W W W (ago h) Yb W<|ax W W W<|ah W W<|TL.nil W
    repeat refine DC.seq ?_
    apply KZ
    .intro s0 Oo;refine ai W W<|ai W W<|aD Pc W W<|ah W W<|TL.nil W
    repeat refine DC.seq ?_
    apply KZ
    .intro s0 Oo;refine aI W W W (by omega)<|ai W W<|TL.nil W
    exact bH (k':=a.length-(h+1)) (by omega) ⟨h+1,_,_,_,rfl,by rw[Z'];exact w4,by omega,rfl⟩ W W
   refine DC.exit ?_;obtain rfl:h=a.length:=by have:=agv c;omega
   rw[agz,<-t]at A
   repeat refine DC.seq ?_
   apply KZ
   .intro N Z;refine aI W W W (by omega)<|ai W W<|TL.nil W
   exact bH (k':=q.aq.length-(j+1)) (by omega) ⟨j+1,_,_,_,rfl,A,by omega,rfl⟩ W W
  refine DC.exit ?_;obtain rfl:j=q.aq.length:=by have:=agv c;omega
  rw[agz,<-k]at p
  repeat refine DC.seq ?_
  apply KZ
  .intro a e;refine aI W W W (by omega)<|ai W W<|TL.nil W
  exact bH (k':=b.eqs.length-(i+1)) (by omega) ⟨i+1,_,_,_,rfl,p,by omega,rfl⟩ W W
 refine DC.exit ?_;obtain rfl:i=b.eqs.length:=by have:=agv c;omega
 rw[agz]at w
 repeat refine DC.seq ?_
 apply KZ
 .intro a d;refine ai W W<|ah W W<|TL.nil W
 refine DC.bg 2 W (w.view (dq _))<|DC.ret ⟨_,W,_,⟨W,W⟩,w.drop⟩
end Go.Proofs.Pz
namespace Go.Ps
open Go.Mt Go.Sm
variable{ns:List Nd}{n:Nat}
def Bp(ns:List Nd):Prop:=(ns.map (·.name)).Nodup/\∀(i:Nat) (h:i<ns.length),∀s∈iD (ns[i]).b,s∈(ns.take i).map (·.name)\/gu ns s=none
def rN.mem:∀{l:List aJ},rN l->∀q∈l,q.aq.length<=1000000/\qH q.aq
 |.mk _ _ _ _ _ _ b _::l,h,q,a=>by
  rw[rN]at h;rcases agu.1 a with rfl|a
  .exact h.1
  .exact rN.mem h.2 q a
def qH.mem:∀{l:List aP},qH l->∀a∈l,Bo a.a_
 |.mk _ b _ _ _::l,h,a,c=>by
  rw[qH]at h;rcases agu.1 c with rfl|c
  .exact h.1
  .exact qH.mem h.2 a c
def HF{b:bT}{q:aJ}{a:aP}(c:q∈b.eqs)(d:a∈q.aq):nI a.a_<=nI b:=by
 obtain⟨i,e,rfl⟩:=ahr c;obtain⟨j,f,rfl⟩:=ahr d;have h:=ni e;have k:=Go.Proofs.Pz.sR f;have g:∀q:aJ,jq q.aq<=pB q:=by intro q;cases q;rw[pB];simp only[aJ.aq];omega
 have l:nI b=kq b.eqs:=by cases b;rw[nI];rfl
 have:=g b.eqs[i];omega
def DU(h:Bp ns)(b:n<ns.length):((iD ns[n].b).any λs=> !di ((ns.take n).map (·.name)) s&&(gu ns s).isSome)=false:=by
 rw[List.any_eq_false];intro s c;rcases h.2 n b s c with a|a
 .rw[ki.2 a];simp
 .rw[a];simp
theorem HG(h:Bp ns)(a:n<ns.length):di ((ns.take n).map (·.name)) ns[n].name=false:=by
 rw[ai3,ne_eq,ki,ajq];intro b;have a:=h.1;have c:n<(ns.map (·.name)).length:=by grind
 rw[<-ahf n (ns.map (·.name)),ah6]at a;refine a.2.2 _ b _ ?_ W;rw[ahv c];simp
def HI{i:Nat}(hi:i<n)(a:i<ns.length):di ((ns.take n).map (·.name)) ns[i].name=true:=
 ki.2 (agC.2 ⟨ns[i],aiY.2 ⟨i,by omega,rfl⟩,rfl⟩)
end Go.Ps
namespace Go.Proofs.Pz
open Go.Mt Go.Sm Go.Ps Go.Proofs
open Tryz
def Ae(b:bT)(f:Bo b)(g:nI b<=8000000):PT prog 159 [.agg b.cells] (·=[.sl (aR (iD b))]):=by
 have a:b.eqs.length<=10000000/\rN b.eqs:=by cases b;rw[Bo]at f;exact f
 refine FY b a.1 (λq c=>(a.2.mem q c).1) g λq c e d=>?_
 have h:=aJ.EC d;have i:SizeOf.sizeOf q<SizeOf.sizeOf b:=by cases b;have:=aie c;simp only[bT.eqs]at this;simp;omega
 exact Ae e.a_ ((a.2.mem q c).2.mem e d) (by have:=HF c d;omega)
termination_by SizeOf.sizeOf b
theorem yk(l:List Nm)(a:Nat)[bu prog a](k:a<1024)(LX:List M)(p:Nm->Bool)(A:List As)(y:l.length<=10000000)(m:∀c∈l,Dt prog a (.d (.str c)::LX) A λr a=>r=.d (.bool (p c))/\a=A):
  Dt prog 132 [.d (.sl (aR l)),.fn a LX] A λr a=>r=.d (.int .i64 (kS (l.findIdx? p)))/\a=A:=by
 intro H F n;have w:=Wk.start n;have s:(aR l).length=l.length:=by simp
 refine Lj func132 W ntmps132 W ?_
 repeat refine DC.seq ?_
 apply KZ
 .intro c e;refine ah W W<|TL.nil W
 repeat refine DC.seq ?_
 apply KZ
 .intro c e;refine ai W W ?_
  (refine aT W W W ?_;rw[s])
  refine ai W W<|TL.nil W
 repeat refine DC.seq ?_
 refine DC.block<|DC.loop (λk s=>∃(i:Nat) (c:List (Nat×List M)) (K:Hp),s=⟨[(8,.m (.d (.int .i64 ((i:Nat):Int)))),(7,.m (.d (.int .i64 ((l.length:Nat):Int)))),(0,.m (.d (.sl (aR l)))),(1,.m (.fn a LX))],c,K⟩/\Wk F H A K/\i<=l.length/\k=l.length-i/\(∀(j:Nat) (a:j<l.length),j<i->p l[j]=false)) l.length _
  ⟨0,_,_,rfl,w,by omega,rfl,by grind⟩ W ?_
 rintro t u ⟨i,D,K,rfl,w,G,rfl,d⟩
 repeat refine DC.seq ?_
 apply KZ
 .intro c e;refine av W W W W<|TL.nil W
 repeat refine DC.seq ?_
 refine DC.cond W (λo=>?_) (λo=>?_)
 .have e:i<l.length:=by grind
  have q:(aR l)[((i:Nat):Int).toNat]?=some [.str l[i]]:=by grind
  obtain⟨x,I,z,⟨rfl,rfl⟩,c,f⟩:=Wk.call (r:=[]) (by rw[agL];exact w) (m _ (agx e));rw[agL]at c;obtain⟨b,g⟩:∃b,b=p l[i]:=⟨_,rfl⟩;rw[<-g]at f;refine DC.skip ?_
  repeat refine DC.seq ?_
  refine DC.block ?_
  repeat refine DC.seq ?_
  apply KZ
  .intro j v;refine ai W W<|ah W W<|TL.nil W
  repeat refine DC.seq ?_
  apply KZ
  .intro j v;refine ai W W<|ai W W<|ai W W<|aN W W W (ago i) q W<|ax W W W ?_
   (refine Fg f W W W ?_ k)
   exact TL.nil W
  repeat refine DC.seq ?_
  refine DC.cond W (λh=>?_) (λh=>?_)
  .repeat refine DC.seq ?_
   apply KZ
   .intro j v;refine ai W W<|ah W W<|TL.nil W
   exact DC.ret ⟨_,W,_,⟨by rw[oM e (g.symm.trans h) (λj a h=>d j a h)];rfl,rfl⟩,c⟩
  .refine DC.skip ?_
   repeat refine DC.seq ?_
   apply KZ
   .intro B C;refine aI W W W (by omega)<|ai W W<|TL.nil W
   refine bH (k':=l.length-(i+1)) (by omega) ⟨i+1,_,_,rfl,c,by omega,rfl,?_⟩ W W;intro v E j;rcases ahI.1 j with J|rfl
   .grind
   .grind
 .refine DC.exit ?_;have f:i=l.length:=by grind
  repeat refine DC.seq ?_
  apply KZ
  .intro c e;refine ah W W<|TL.nil W
  exact DC.ret ⟨_,W,_,⟨by rw[mM (λj a=>d j a (by omega))];rfl,rfl⟩,w⟩
theorem tV(l:List Nm)(a:Nat)[bu prog a](d:a<1024)(LX:List M)(p:Nm->Bool)(A:List As)(e:l.length<=10000000)(f:∀b∈l,Dt prog a (.d (.str b)::LX) A λr a=>r=.d (.bool (p b))/\a=A):
  Dt prog 87 [.d (.sl (aR l)),.fn a LX] A λr a=>r=.d (.bool (l.any p))/\a=A:=by
 intro H F g;obtain⟨x,o,n,⟨rfl,rfl⟩,c,h⟩:=Wk.call (r:=[]) (by rw[agL];exact Wk.start g) (yk l a d LX p A e f);rw[agL]at c;have i:decide ((0:Int)<=kS (l.findIdx? p))=l.any p:=by
  cases b:l.findIdx? p with
  |none=>
   rw[ahF]at b;have:l.any p=false:=by grind
   rw[this];rfl
  |some m=>
   have:l.any p=true:=by
    rw[ahd]at b;obtain⟨j,k,_⟩:=b;exact ahX.2 ⟨_,agx j,k⟩
   rw[this];exact aha (by simp only[kS];omega)
 refine Lj func87 W ntmps87 W ?_
 repeat refine DC.seq ?_
 apply KZ
 .intro b j;refine ah W W<|TL.nil W
 repeat refine DC.seq ?_
 apply KZ
 .intro b j;refine ai W W<|ai W W<|aD h W W ?_
  (refine av W W W (r:=.bool (l.any p)) (by show some (D.bool (decide ((0:Int)<=kS (l.findIdx? p))))=_;rw[i]) ?_)
  refine ah W W<|TL.nil W
 exact DC.ret ⟨_,W,_,⟨W,W⟩,c⟩
def DV(b:Nat)(p:Pg)(f:p.nodes.length<=1000000)(out:List Nm)(k:out.length<=1000000)(m:M)(s:Nm):
  Dt prog 160 [.d (.str s),.ref b 0,.d (.ca [.sl (p.aG.map En.cells),.sl (p.nodes.map Nd.cells)] 0)] [.ob b (.box [m]),.acc 1 (aR out) m] λr l=>r=.d (.bool (!(di out s)&&(gu p.nodes s).isSome))/\l=[.ob b (.box [m]),.acc 1 (aR out) m]:=by
 intro H F g;have w:=Wk.start g;have c:=w.ob;have d:=(w.pick [1,0]).view (dq out);have a:=jz out s (by omega);have h:decide ((0:Int)<=kS (gu p.nodes s))=(gu p.nodes s).isSome:=by
  cases gu p.nodes s with
  |none=>rfl
  |some i=>exact aha (by simp only[kS];omega)
 refine Lj func160 W ntmps160 W ?_;cases e:di out s with
 |true=>
  rw[e]at a
  repeat refine DC.seq ?_
  apply KZ
  .intro i j;refine ah W W<|TL.nil W
  repeat refine DC.seq ?_
  apply KZ
  .intro i j;refine eC W W c W<|ai W W ?_
   (refine TL.bg 5 W d ?_;refine aL a W W ?_)
   refine fb W W<|ai W W<|aQ W W<|aQ W W<|aQ W W<|aQ W W<|cH W W W<|ah W W<|TL.nil W
  exact DC.ret ⟨_,W,_,⟨W,W⟩,w⟩
 |false=>
  rw[e]at a
  repeat refine DC.seq ?_
  apply KZ
  .intro i j;refine ah W W<|TL.nil W
  repeat refine DC.seq ?_
  apply KZ
  .intro i j;refine eC W W c W<|ai W W ?_
   (refine TL.bg 5 W d ?_;refine aL a W W ?_)
   refine fb W W<|ai W W<|aE W ?_;refine aK W W W ?_;refine aE W ?_;refine ai W W ?_;refine aE W ?_;refine aL (pw p s f) W W ?_;refine aE W ?_;refine av W W W (r:=.bool (gu p.nodes s).isSome) (by show some (D.bool (decide ((0:Int)<=kS (gu p.nodes s))))=_;rw[h]) ?_;refine cH W W W<|ah W W<|TL.nil W
  exact DC.ret ⟨_,W,_,⟨W,W⟩,w⟩
end Go.Proofs.Pz
