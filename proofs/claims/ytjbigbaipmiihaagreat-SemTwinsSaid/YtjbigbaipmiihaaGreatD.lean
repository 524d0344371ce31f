/- A part of the proof of the last text of this claim, without conditions. -/
import Derived.Test.YtjbigbaipmiihaaGreatC
set_option maxRecDepth 4000
set_option linter.all false
namespace Go.Mt
structure TI where
 sz:Option Nat
 ag:Option Bool
 zr:Option D
 se:Option Nat
 ik:Option IntKind
 pl:Option (List (Nat×Nat))
def KM(P:Program)(t:Nat):Option Nat:=match P.underlying t with
 |some (.slice e)=>some e
 |_=>none
def KN(P:Program)(t:Nat):Option IntKind:=match P.underlying t with
 |some (.int k)=>some k
 |_=>none
def Kh(P:Program)(t:Nat):TI:=⟨fu P t,tw P t,sU P t,KM P t,KN P t,pW P t⟩
structure mi(P:Program)where
 tb:List (Nat×TI)
 ok:tb=(tb.map Prod.fst).map λt=>(t,Kh P t)
theorem mi.get{P:Program}(C:mi P){t:Nat}{e:TI}(h:get C.tb t=some e):e=Kh P t:=by
 have b:=get_mem h;rw[C.ok]at b;obtain⟨d,_,a⟩:=aqM.1 b;injection a with a c
 subst a;exact c.symm
section
variable{P:Program}(C:mi P)
theorem mi.sz{t n:Nat}{e:TI}(h:Mt.get C.tb t=some e)(a:e.sz=some n):bU P t n:=⟨by rw[C.get h]at a;exact a⟩
theorem mi.cell{t:Nat}{e:TI}(h:Mt.get C.tb t=some e)(a:e.ag=some false):cj P t:=⟨by rw[C.get h]at a;exact a⟩
theorem mi.agg{t n:Nat}{e:TI}(h:Mt.get C.tb t=some e)(a:e.ag=some true)(b:e.sz=some n):jr P t n:=⟨by rw[C.get h]at a;exact a,by rw[C.get h]at b;exact b⟩
theorem mi.zr{t:Nat}{z:D}{e:TI}(h:Mt.get C.tb t=some e)(a:e.zr=some z):gg P t z:=⟨by rw[C.get h]at a;exact a⟩
theorem mi.slice{t n:Nat}{e:TI}(h:Mt.get C.tb t=some e)(b:e.se=some n):aQ P t n:=⟨by
 rw[C.get h]at b;have a:KM P t=some n:=b;unfold KM at a;split at a
 ·grind
 ·cases a⟩
theorem mi.int{t:Nat}{k:IntKind}{e:TI}(h:Mt.get C.tb t=some e)(b:e.ik=some k):kU P t k:=⟨by
 rw[C.get h]at b;have a:KN P t=some k:=b;unfold KN at a;split at a
 ·grind
 ·cases a⟩
theorem mi.str{t:Nat}{ps:List (Nat×Nat)}{z:List D}{e:TI}(h:Mt.get C.tb t=some e)(a:e.pl=some ps)(b:e.zr=some (.agg z)):jS P t ps z:=
 ⟨by rw[C.get h]at a;exact a,by rw[C.get h]at b;exact b⟩
theorem Ck{h d:Type}{f:h->Option d} : ∀{l:List h} {ps:List d} {i:Nat} {y:d},l.mapM f=some ps->ps[i]?=some y-> ∃x,l[i]?=some x/\f x=some y
 | [],ps,i,y,a,e=>by grind
 |j::l,ps,i,y,a,e=>by
  rw[asF]at a;cases c:f j with
  |none=>simp[c]at a
  |some b=>
   cases g:l.mapM f with
   |none=>simp[c,g]at a
   |some k=>
    simp[c,g]at a;subst a;cases i with
    |zero=>simp at e;subst e;exact⟨j,rfl,c⟩
    |succ i=>
     obtain⟨x,n,m⟩:=Ck g (show k[i]?=some y by grind);exact⟨x,by grind,m⟩
theorem mi.Mh{t f o n:Nat}{ps:List (Nat×Nat)}{e:TI}(h:Mt.get C.tb t=some e)(c:e.pl=some ps)(i:ps[f]?=some (o,n+1)):i_ P t f o:=by
 rw[C.get h]at c;have b:pW P t=some ps:=c;unfold pW at b;split at b
 ·rename_i k j;obtain⟨d,l,a⟩:=Ck b i;refine mO ?_;unfold tz;rw[j];simp only;rw[show k[f]?=some d by grind];simp only;cases g:fu P d.type with
  |none=>rw[g]at a;cases a
  |some m=>
   rw[g]at a;simp only[ash,arv,Prod.mk.injEq]at a;simp[a.1,a.2]
 ·cases b
theorem mi.zc{t:Nat}{z:D}{e:TI}(h:Mt.get C.tb t=some e)(a:e.zr=some z):xh P t ((bf z).map .d):=⟨z,fY (C.zr h a).zero,rfl⟩
def KO:BinOp->Bool
 | .eql=>true| .neq=>true| .lss=>true| .leq=>true| .gtr=>true| .geq=>true|_=>false
def Bb(op:Op)(sl:List (Nat×V))(bx:List (Nat×List M))(H:Hp):Option (V×List Nat×Bool):=match op with
 | .move x=>match bj sl x with|some v=>some (v,[],false)|none=>none
 | .assign x=>match bj sl x with|some v=>some (v,[],false)|none=>none
 | .fieldAddr s x f=>match get C.tb s with
  |none=>none
  |some e=>match e.pl with
   |none=>none
   |some ps=>match ps[f]? with
    |some (o,_+1)=>(match bj sl x with
     |some (.m (.d (.aZ cs off)))=>some (.m (.d (.aZ cs (off+o))),[],false)
     |some (.loc t off)=>some (.loc t (off+o),[],false)
     |some (.m (.ref i off))=>some (.m (.ref i (off+o)),[],false)
     |some (.m (.dX i aG off))=>some (.m (.dX i aG (off+o)),[],false)
     |_=>none)
    |_=>none
 | .load t x=>match get C.tb t with
  |none=>none
  |some e=>match e.ag with
   |some false=>(match bj sl x with
    |some (.m (.d (.aZ cs off)))=>(match cs[off]? with|some v=>some (.m (.d v),[],false)|none=>none)
    |some (.loc u off)=>(match get bx u with|some cs=>(match cs[off]? with|some m=>some (.m m,[u],false)|none=>none)|none=>none)
    |some (.m (.ref i off))=>(match H[i]? with|some (.box cs)=>(match cs[off]? with|some m=>some (.m m,[],true)|none=>none)|_=>none)
    |_=>none)
   |some true=>(match e.sz with
    |none=>none
    |some n=>match bj sl x with
     |some (.m (.d (.aZ cs off)))=>(match off with
      |0=>bif Nat.beq cs.length n then some (.m (.d (.agg cs)),[],false)else(match sub cs 0 n with|some ds=>some (.m (.d (.agg ds)),[],false)|none=>none)
      |off+1=>match sub cs (off+1) n with|some ds=>some (.m (.d (.agg ds)),[],false)|none=>none)
     |some (.loc u off)=>(match get bx u with|some cs=>(match sub cs off n with|some MY=>(match j9 MY with|some ds=>some (.m (.d (.agg ds)),[u],false)|none=>none)|none=>none)|none=>none)
     |some (.m (.ref i off))=>(match H[i]? with|some (.box cs)=>(match sub cs off n with|some MY=>(match j9 MY with|some ds=>some (.m (.d (.agg ds)),[],true)|none=>none)|none=>none)|_=>none)
     |_=>none)
   |none=>none
 | .pick c x y=>match bj sl c with
  |some (.m (.d (.bool b)))=>(match bj sl (bif b then x else y)with|some v=>some (v,[],false)|none=>none)
  |_=>none
 | .nilCheck x=>match bj sl x with
  |some v=>(match tA v with|true=>some (v,[],false)|false=>none)
  |none=>none
 | .extract x i=>match bj sl x with
  |some (.m (.cZ vs))=>(match vs[i]? with|some m=>some (.m m,[],false)|none=>none)
  |_=>none
 | .unOp .not xt x=>match bj sl x with
  |some (.m (.d (.bool b)))=>some (.m (.d (.bool (!b))),[],false)
  |_=>none
 | .binOp op xt x y yt=>match KO op with
  |false=>none
  |true=>(match bj sl x with
   |some (.m (.d (.int k m)))=>(match bj sl y with
    |some (.m (.d (.int k2 n)))=>(match decEq k k2 with
     | .isTrue _=>(match lB op k m n with|some r=>some (.m (.d r),[],false)|none=>none)
     | .isFalse _=>none)
    |_=>none)
   |some (.m (.d (.str s)))=>(match bj sl y with
    |some (.m (.d (.str u)))=>(match op with
     | .eql=>some (.m (.d (.bool (decide (s=u)))),[],false)
     | .neq=>some (.m (.d (.bool (!decide (s=u)))),[],false)
     |_=>none)
    |_=>none)
   |_=>none)
 | .box t x=>match bj sl x with
  |some (.m (.d v))=>some (.m (.d (.aZ (bf v) 0)),[],false)
  |_=>none
 | .call ⟨.builtin .len,⟨[x]⟩,⟨[t]⟩⟩=>match get C.tb t with
  |none=>none
  |some e=>match e.se with
   |none=>none
   |some _=>match bj sl x with
    |some (.m (.d v))=>(match oB v with|some n=>some (.m (.d (.int .i64 n)),[],false)|none=>none)
    |_=>none
 | .build T ⟨parts⟩=>match get C.tb T with
  |none=>none
  |some e=>match e.pl,e.zr with
   |some ps,some (.agg z)=>(match gH sl parts,tf z with
    |some ms,some zs=>(match tE ps zs ms with
     |some cs=>(match j9 cs with|some ds=>some (.m (.d (.agg ds)),[],false)|none=>none)
     |none=>none)
    |_,_=>none)
   |_,_=>none
 | .buildSlice T len ⟨parts⟩=>match get C.tb T with
  |none=>none
  |some e=>match e.se with
   |none=>none
   |some el=>match get C.tb el with
    |none=>none
    |some e2=>match e2.sz,e2.zr with
     |some n,some z=>bif Nat.blt 0 n&&Nat.beq (bf z).length n&&Nat.ble (len*n) 16777216 then(match gH sl parts with
      |some ms=>(match oD 0 ms with
       |some rows=>bif Nat.beq rows.length len&&lD n rows then some (.m (.d (.sl rows)),[],false)else none
       |none=>none)
      |none=>none)else none
     |_,_=>none
 | .makeFunc (.func f) ⟨[]⟩ ⟨Nj⟩=>match gE sl Nj with
  |some ds=>some (.m (.d (.fn f ds)),[],false)
  |none=>none
 | .convert s t x=>match get C.tb s,get C.tb t with
  |some a,some b=>(match a.ik,b.ik with
   |some _,some k2=>(match bj sl x with
    |some (.m (.d (.int _ n)))=>some (.m (.d (.int k2 (k2.wrap n))),[],false)
    |_=>none)
   |_,_=>none)
  |_,_=>none
 |_=>none
end
section
variable{X:bD}{ops:Array Oper}{rest:List Oper}{sl:List (Nat×V)}{bx:List (Nat×List M)}{H:Hp}{d ty:Nat}{pos:String}{af:Array Edge}
theorem xS{b:List (Nat×V)} : ∀{ps:List (Nat×Operand)},(∀p∈ps,bj b p.2=bj sl p.2)->gH b ps=gH sl ps
 | [],_=>rfl
 |(c,d)::e,a=>by simp only[gH];rw[a (c,d) (by simp),xS (ps:=e) λp f=>a p (by simp[f])]
theorem Cl{b:List (Nat×V)} : ∀{ps:List Operand},(∀p∈ps,bj b p=bj sl p)->gE b ps=gE sl ps
 | [],_=>rfl
 |c::d,a=>by simp only[gE];rw[a c (by simp),Cl (ps:=d) λp e=>a p (by simp[e])]
theorem zP(C:mi X.P){op:Op}{v:V}{rs:List Nat}{rh:Bool}(h:Bb C op sl bx H=some (v,rs,rh)){q:List (Nat×V)}{r:List (Nat×List M)}{s:Hp}
  (c: ∀D∈op.operands.toList,bj q D=bj sl D) (G: ∀E∈rs,get r E=get bx E) (I:rh=true->s=H):cE X ⟨some d,op,ty,pos,af,none⟩ ⟨q,r,s⟩ (c_ v ⟨q,r,s⟩):=by
 unfold Bb at h;split at h
 ·split at h
  ·rename_i a;cases h;exact BV ((c _ (by simp[Op.operands])).trans a)
  ·cases h
 ·split at h
  ·rename_i a;cases h;exact Dv ((c _ (by simp[Op.operands])).trans a)
  ·cases h
 ·split at h
  ·cases h
  ·rename_i ht;split at h
   ·cases h
   ·rename_i j;split at h
    ·rename_i O;have hF:=C.Mh ht j O;split at h
     ·rename_i a;cases h;exact Dz ((c _ (by simp[Op.operands])).trans a)
     ·rename_i a;cases h;exact DA ((c _ (by simp[Op.operands])).trans a)
     ·rename_i a;cases h;exact w5 ((c _ (by simp[Op.operands])).trans a)
     ·rename_i a;cases h;exact DB ((c _ (by simp[Op.operands])).trans a)
     ·cases h
    ·cases h
 ·split at h
  ·cases h
  ·rename_i e ht;split at h
   ·rename_i n;have P:=C.cell ht n;split at h
    ·rename_i a;split at h
     ·rename_i u;cases h;exact wZ ((c _ (by simp[Op.operands])).trans a) u
     ·cases h
    ·rename_i a;split at h
     ·rename_i l;split at h
      ·rename_i k;cases h;exact tD ((c _ (by simp[Op.operands])).trans a) ((G _ (by simp)).trans l) k
      ·cases h
     ·cases h
    ·rename_i a;split at h
     ·rename_i l;split at h
      ·rename_i k;cases h;have:=I W;subst this;exact lk ((c _ (by simp[Op.operands])).trans a) l (by unfold gu;rw[P.cell];exact k)
      ·cases h
     ·cases h
    ·cases h
   ·rename_i n;split at h
    ·cases h
    ·rename_i m w;have J:=C.agg ht n w;split at h
     ·rename_i a;split at h
      ·cases i:Nat.beq (List.length _) m with
       |true=>rw[i]at h;cases h;exact Dy ((c _ (by simp[Op.operands])).trans a) (aqr i)
       |false=>
        rw[i]at h;simp only[arS]at h;split at h
        ·rename_i f;cases h;exact w4 ((c _ (by simp[Op.operands])).trans a) (arc (sub_eq f).1) (sub_eq f).2
        ·cases h
      ·split at h
       ·rename_i f;cases h;exact w4 ((c _ (by simp[Op.operands])).trans a) (arc (sub_eq f).1) (sub_eq f).2
       ·cases h
     ·rename_i a;split at h
      ·rename_i l;split at h
       ·rename_i f;split at h
        ·rename_i o;cases h;exact xa ((c _ (by simp[Op.operands])).trans a) ((G _ (by simp)).trans l) (arc (sub_eq f).1) (by rw[(sub_eq f).2];exact o)
        ·cases h
       ·cases h
      ·cases h
     ·rename_i a;split at h
      ·rename_i l;split at h
       ·rename_i f;split at h
        ·rename_i o;cases h;have:=I W;subst this;exact lk ((c _ (by simp[Op.operands])).trans a) l (by unfold gu;rw[J.agg,J.size];simp only[arc (sub_eq f).1,aqX];rw[(sub_eq f).2];unfold pack;rw[o])
        ·cases h
       ·cases h
      ·cases h
     ·cases h
   ·cases h
 ·split at h
  ·rename_i b n;split at h
   ·rename_i a;cases h;cases b with
    |true=>exact Dw ((c _ (by simp[Op.operands])).trans n) ((c _ (by simp[Op.operands])).trans a)
    |false=>exact Dx ((c _ (by simp[Op.operands])).trans n) ((c _ (by simp[Op.operands])).trans a)
   ·cases h
  ·cases h
 ·split at h
  ·rename_i a;split at h
   ·rename_i u;cases h;exact um ((c _ (by simp[Op.operands])).trans a) u
   ·cases h
  ·cases h
 ·split at h
  ·rename_i a;split at h
   ·rename_i k;cases h;exact BW ((c _ (by simp[Op.operands])).trans a) k
   ·cases h
  ·cases h
 ·split at h
  ·rename_i a;cases h;exact I_ ((c _ (by simp[Op.operands])).trans a)
  ·cases h
 ·split at h
  ·cases h
  ·split at h
   ·rename_i a;split at h
    ·rename_i t;split at h
     ·rename_i Q _;subst Q;split at h
      ·rename_i f;cases h;exact ul ((c _ (by simp[Op.operands])).trans a) ((c _ (by simp[Op.operands])).trans t) f
      ·cases h
     ·cases h
    ·cases h
   ·rename_i a;split at h
    ·rename_i t;split at h
     ·cases h;exact FP ((c _ (by simp[Op.operands])).trans a) ((c _ (by simp[Op.operands])).trans t)
     ·cases h;exact FQ ((c _ (by simp[Op.operands])).trans a) ((c _ (by simp[Op.operands])).trans t)
     ·cases h
    ·cases h
   ·cases h
 ·split at h
  ·rename_i a;cases h;exact Jb ((c _ (by simp[Op.operands])).trans a)
  ·cases h
 ·split at h
  ·cases h
  ·rename_i ht;split at h
   ·cases h
   ·rename_i x;have y:=C.slice ht x;split at h
    ·rename_i a;split at h
     ·rename_i R;cases h;exact w6 ((c _ (by simp[Op.operands,Call.operands])).trans a) R
     ·cases h
    ·cases h
 ·split at h
  ·cases h
  ·rename_i ht;split at h
   ·rename_i j z;have y:=C.str ht j z;split at h
    ·rename_i k ac;split at h
     ·rename_i S T;split at h
      ·rename_i U o;cases h;have A:=vk (ht:=y) (X:=X) (dst:=some d) (ty:=ty) (pos:=pos) (af:=af) (g:=none) (st:=⟨q,r,s⟩) (by rw[hJ,xS (sl:=sl) λF j=>c _ (by simp[Op.operands];exact⟨_,j⟩)];exact k) (by rw[<-pX ac];exact sW T);have:pack S= .d (.agg U):=by simp[pack,o]
       rw[this]at A;exact A
      ·cases h
     ·cases h
    ·cases h
   ·cases h
 ·split at h
  ·cases h
  ·rename_i ht;split at h
   ·cases h
   ·rename_i x;have y:=C.slice ht x;split at h
    ·cases h
    ·rename_i K;split at h
     ·rename_i m N w z;have hN:=C.sz K w;have hZ:=C.zr K z;cases i:(Nat.blt 0 m&&Nat.beq (bf N).length m&&Nat.ble (_*m) 16777216)with
      |false=>rw[i]at h;cases h
      |true=>
       rw[i]at h;simp only[aqX]at h;simp only[aqB]at i;split at h
       ·rename_i k;split at h
        ·rename_i L f;cases p:(Nat.beq L.length _&&lD m L)with
         |false=>rw[p]at h;cases h
         |true=>
          rw[p]at h;simp only[aqB]at p;cases h;exact uw i.1.1 i.1.2 i.2 (by rw[hJ,xS (sl:=sl) λF j=>c _ (by simp[Op.operands];exact⟨_,j⟩)];exact k) f p.1 p.2
        ·cases h
       ·cases h
     ·cases h
 ·split at h
  ·rename_i B;cases h;exact AU (by rw[rQ,Cl (sl:=sl) λF j=>c _ (by simp[Op.operands];exact j)];exact B)
  ·cases h
 ·split at h
  ·rename_i B Y;split at h
   ·rename_i Z M';have A:=C.int B Z;have h2:=C.int Y M';split at h
    ·rename_i a;cases h;exact vm ((c _ (by simp[Op.operands])).trans a)
    ·cases h
   ·cases h
  ·cases h
 ·cases h
end
def gate(ops:Array Oper)(sl:List (Nat×V)):Option (Nat×Bool)->Option Bool
 |none=>some true
 |some (j,w)=>match ops[j]? with
  |some q=>(match q.dst with
   |some g=>(match get sl g with
    |some (.m (.d (.bool b)))=>some (b==w)
    |some (.m (.cZ []))=>some false
    |_=>none)
   |none=>none)
  |none=>none
inductive So where
 |go (sl:List (Nat×V)) (bx:List (Nat×List M)) (e:Ef)
 |no
def tN{P:Program}(C:mi P)(N:Nat)(ops:Array Oper)(o:Oper)(sl:List (Nat×V))(bx:List (Nat×List M))(H:Hp):So:=match gate ops sl o.guard with
 |some false=>(match o.dst with
  |some d=>bif Nat.blt d N then .go ((d,.m (.cZ []))::sl) bx ⟨some d,.m (.cZ []),[],[],none,false,none⟩else .no
  |none=> .no)
 |some true=>(match o.dst with
  |some d=>bif Nat.blt d N then(match o.op with
   | .alloc T=>(match get C.tb T with
    |some e=>(match e.zr with
     |some z=>(match tf (bf z)with
      |some cs=>bif gI d sl then .go ((d,.loc d 0)::sl) ((d,cs)::bx) ⟨some d,.loc d 0,[],[(d,cs)],some d,false,none⟩else .no
      |none=> .no)
     |none=> .no)
    |none=> .no)
   |op=>match Bb C op sl bx H with
    |some (v,rs,rh)=> .go ((d,v)::sl) bx ⟨some d,v,rs,[],none,rh,none⟩
    |none=> .no)else .no
  |none=>(match o.op with
   | .store T x y=>(match bj sl x with
    |some (.loc t off)=>(match bj sl y with
     |some (.m m)=>(match get bx t with
      |some cs=>(match gR m with
       |some new=>(match get C.tb T with
        |some e=>(match e.sz with
         |some n=>bif Nat.beq new.length n then(match wr cs off new with
          |some Nc=> .go sl ((t,Nc)::bx) ⟨none,.m .undef,[],[(t,Nc)],none,false,none⟩
          |none=> .no)else .no
         |none=> .no)
        |none=> .no)
       |none=> .no)
      |none=> .no)
     |_=> .no)
    |_=> .no)
   |_=> .no))
 |none=> .no
section
variable{X:bD}{ops:Array Oper}{o:Oper}{rest:List Oper}{sl Na:List (Nat×V)}{bx Ns:List (Nat×List M)}{H:Hp}{e:Ef}
theorem wj(C:mi X.P)(h:tN C X.n ops o sl bx H= .go Na Ns e):(gate ops sl o.guard=some false/\ ∃d,o.dst=some d/\Nat.blt d X.n=true/\Na=(d,.m (.cZ []))::sl/\Ns=bx/\e=⟨some d,.m (.cZ []),[],[],none,false,none⟩)\/
  (gate ops sl o.guard=some true/\((∃d,o.dst=some d/\Nat.blt d X.n=true/\((∃T cs,o.op= .alloc T/\xh X.P T cs/\gI d sl=true/\Na=(d,.loc d 0)::sl/\Ns=(d,cs)::bx/\e=⟨some d,.loc d 0,[],[(d,cs)],some d,false,none⟩)\/
   (∃v rs rh,Bb C o.op sl bx H=some (v,rs,rh)/\Na=(d,v)::sl/\Ns=bx/\e=⟨some d,v,rs,[],none,rh,none⟩)))\/
   (o.dst=none/\ ∃T x y t off m cs b n c,o.op= .store T x y/\bU X.P T n/\bj sl x=some (.loc t off)/\bj sl y=some (.m m)/\get bx t=some cs/\gR m=some b/\Nat.beq b.length n=true/\wr cs off b=some c/\
    Na=sl/\Ns=(t,c)::bx/\e=⟨none,.m .undef,[],[(t,c)],none,false,none⟩))):=by
 unfold tN at h;split at h
 ·rename_i g;split at h
  ·rename_i d f;cases a:Nat.blt d X.n with
   |false=>rw[a]at h;cases h
   |true=>rw[a]at h;cases h;exact .inl ⟨g,d,f,a,rfl,rfl,rfl⟩
  ·cases h
 ·rename_i g;refine .inr ⟨g,?_⟩;split at h
  ·rename_i d f;cases a:Nat.blt d X.n with
   |false=>rw[a]at h;cases h
   |true=>
    rw[a]at h;simp only[aqX]at h;refine .inl ⟨d,f,a,?_⟩;split at h
    ·rename_i T i;split at h
     ·rename_i j;split at h
      ·rename_i A q;split at h
       ·rename_i cs k;cases p:gI d sl with
        |false=>rw[p]at h;cases h
        |true=>rw[p]at h;cases h;exact .inl ⟨T,cs,i,by rw[pX k];exact C.zc j q,rfl,rfl,rfl,rfl⟩
       ·cases h
      ·cases h
     ·cases h
    ·split at h
     ·rename_i v rs rh r;cases h;exact .inr ⟨v,rs,rh,r,rfl,rfl,rfl⟩
     ·cases h
  ·rename_i f;split at h
   ·rename_i T x y i;split at h
    ·rename_i t off s;split at h
     ·rename_i m u;split at h
      ·rename_i cs w;split at h
       ·rename_i b k;split at h
        ·rename_i j;split at h
         ·rename_i n a;cases l:Nat.beq b.length n with
          |false=>rw[l]at h;cases h
          |true=>
           rw[l]at h;simp only[aqX]at h;split at h
           ·rename_i c z;cases h;exact .inr ⟨f,T,x,y,t,off,m,cs,b,n,c,i,C.sz j a,s,u,w,k,l,z,rfl,rfl,rfl⟩
           ·cases h
         ·cases h
        ·cases h
       ·cases h
      ·cases h
     ·cases h
    ·cases h
   ·cases h
 ·cases h
theorem pv{b:Bool}(h:gate ops sl o.guard=some b):jq ops o ⟨sl,bx,H⟩=some b:=by
 unfold gate at h;unfold jq;split at h
 ·grind
 ·grind
theorem Cm(C:mi X.P){post:St->Prop}(h:tN C X.n ops o sl bx H= .go Na Ns e)(k:TL X ops rest ⟨Na,Ns,H⟩ post):TL X ops (o::rest) ⟨sl,bx,H⟩ post:=by
 rcases wj C h with⟨c,d,a,f,rfl,rfl,_⟩|⟨c,⟨d,a,f,⟨z,A,g,I,n,rfl,rfl,_⟩|⟨v,J,K,B,rfl,rfl,_⟩⟩|⟨a,z,D,E,F,N,m,A,O,G,L,g,M,p,q,r,s,t,u,rfl,rfl,_⟩⟩
 ·exact TL.skip (pv c) a f k
 ·obtain⟨y,i,j,l,af,b⟩:=o;subst a;subst g;cases b with
  |none=>exact BZ f n k
  |some w=>exact aB (pv c) (BZ f n k)
 ·obtain⟨y,i,j,l,af,b⟩:=o;subst a;have x:=TL.lA (X:=X) (ops:=ops) (rest:=rest) (post:=post) (o:=⟨some d,i,j,l,af,none⟩) W W f (zP C B (λ_ _=>rfl) (λ_ _=>rfl) λ_=>rfl) k;cases b with
  |none=>exact x
  |some w=>exact aB (pv c) x
 ·obtain⟨y,i,j,l,af,b⟩:=o;subst a;subst g;cases b with
  |none=>exact ff p q r s t u k
  |some w=>exact aB (pv c) (ff p q r s t u k)
theorem Bc{post:List Ef->St->Prop}{dst:Option Nat}{op:Op}{ty:Nat}{pos:String}{af:Array Edge}{g:Option (Nat×Bool)}(a:gate ops sl g=some true)
  (k:TF X ops (⟨dst,op,ty,pos,af,none⟩::rest) ⟨sl,bx,H⟩ post):TF X ops (⟨dst,op,ty,pos,af,g⟩::rest) ⟨sl,bx,H⟩ post:=by
 cases g with
 |none=>exact k
 |some d=>
  obtain⟨f,c⟩:=d;simp only[gate]at a;split at a
  ·rename_i h i;split at a
   ·rename_i g j;split at a
    ·rename_i b e;injection a with a
     have:b=c:=by grind
     subst this;exact aU (by grind) e k
    ·cases a
    ·cases a
   ·cases a
  ·cases a
theorem Cn(C:mi X.P){post:List Ef->St->Prop}(h:tN C X.n ops o sl bx H= .go Na Ns e)(k:TF X ops rest ⟨Na,Ns,H⟩ λy z=>post (e::y) z):TF X ops (o::rest) ⟨sl,bx,H⟩ post:=by
 rcases wj C h with⟨a,d,c,g,rfl,rfl,rfl⟩|⟨a,⟨d,c,g,⟨u,A,j,S,T,rfl,rfl,rfl⟩|⟨v,B,D,E,rfl,rfl,rfl⟩⟩|⟨c,u,w,M,N,Z,m,A,ac,O,U,j,V,l,F,i,G,t,I,rfl,rfl,rfl⟩⟩
 ·obtain⟨r,n,p,s,af,f⟩:=o;subst c;cases f with
  |none=>cases a
  |some J=>
   obtain⟨P,Q⟩:=J;simp only[gate]at a;split at a
   ·rename_i R t;split at a
    ·rename_i f c;split at a
     ·rename_i b i;injection a with a;exact bg g (by grind) i a k
     ·rename_i i;exact bh g (by grind) i k
     ·cases a
    ·cases a
   ·cases a
 ·obtain⟨r,n,p,s,af,f⟩:=o;subst c;subst j;exact Bc a (Hw g k)
 ·obtain⟨r,n,p,s,af,f⟩:=o;subst c;exact Bc a (TF.cons (e:=⟨some d,v,B,[],none,D,none⟩) (M2 W W (bL g) λY q=>zP C E (λw l=>q.ev l) (λx K=>q.bx x (by simp[K])) λL=>q.H (by simp[L])) W k)
 ·obtain⟨r,n,p,s,af,f⟩:=o;subst c;subst j;exact Bc a (iH l F i G t I k)
end
inductive K where
 |c (x:Code)
 |b (id:Nat)
abbrev vt:=Code->St->(Exit->St->Prop)->Prop
abbrev E9:=Array Oper->List Oper->St->(St->Prop)->Prop
def Kp(C:vt):List K->(Exit->St->Prop)->Exit->St->Prop
 | [],post=>post
 | .c y::ks,post=>after (Kp C ks post) λs=>C y s (Kp C ks post)
 | .b id::ks,post=>rK id (Kp C ks post)
def Kn(C:vt)(ks:List K)(post:Exit->St->Prop):St->Prop:= λs=>Kp C ks post .normal s
inductive Cf where
 |code (x:Code) (ks:List K)
 |ops (os:Array Oper) (r:List Oper) (ks:List K)
 |Gf (ks:List K)
def Cf.den(C:vt)(L:E9)(post:Exit->St->Prop):Cf->St->Prop
 | .code x ks,s=>C x s (Kp C ks post)
 | .ops os r ks,s=>L os r s (Kn C ks post)
 | .Gf ks,s=>Kp C ks post .normal s
inductive Sp where
 |go (c:Cf) (ps:List Nat) (sl:List (Nat×V)) (bx:List (Nat×List M))
 |no
def stops(ps:List Nat)(o:Oper):Bool:=match ps with
 |p::_=>(match o.dst with|some d=>Nat.beq p (d+4)|none=>Nat.beq p 999)
 | []=>false
def xT{P:Program}(D:mi P)(N:Nat)(H:Hp)(ps:List Nat)(sl:List (Nat×V))(bx:List (Nat×List M)):Cf->Sp
 | .code x ks=>(match x with
  | .seq a b=> .go (.code a (.c b::ks)) ps sl bx
  | .skip=> .go (.Gf ks) ps sl bx
  | .block id y=>(match ps with
   |3::ps=> .go (.code y (.b id::ks)) ps sl bx
   |_=> .no)
  | .cond c y z=>(match ps with
   |1::ps=>(match bj sl c with
    |some (.m (.d (.bool true)))=> .go (.code y ks) ps sl bx
    |_=> .no)
   |0::ps=>(match bj sl c with
    |some (.m (.d (.bool false)))=> .go (.code z ks) ps sl bx
    |_=> .no)
   |_=> .no)
  | .region _ ⟨os⟩ false=>(match ps with
   |2::ps=> .go (.ops ⟨os⟩ os ks) ps sl bx
   |_=> .no)
  |_=> .no)
 | .ops os r ks=>(match r with
  | []=> .go (.Gf ks) ps sl bx
  |o::r=>bif stops ps o then .no else(match tN D N os o sl bx H with
   | .go sl bx _=> .go (.ops os r ks) ps sl bx
   | .no=> .no))
 | .Gf ks=>(match ks with
  | .c y::ks=> .go (.code y ks) ps sl bx
  | .b _::ks=> .go (.Gf ks) ps sl bx
  | []=> .no)
inductive Rs where
 |at(c:Cf) (sl:List (Nat×V)) (bx:List (Nat×List M))
 |out
def rW{P:Program}(D:mi P)(N:Nat)(H:Hp):Nat->Cf->List Nat->List (Nat×V)->List (Nat×List M)->Rs
 |0,_,_,_,_=> .out
 |f+1,c,ps,sl,bx=>match xT D N H ps sl bx c with
  | .go c ps sl bx=>rW D N H f c ps sl bx
  | .no=> .at c sl bx
structure Mode(P:Program)(N:Nat)(C:vt)(L:E9):Prop where
 seq: ∀x y st post,C x st (after post λs=>C y s post)->C (.seq x y) st post
 skip: ∀st post,post .normal st->C .skip st post
 block: ∀id x st post,C x st (rK id post)->C (.block id x) st post
 ct: ∀c x y st post,st.ev c=some (.m (.d (.bool true)))->C x st post->C (.cond c x y) st post
 cf: ∀c x y st post,st.ev c=some (.m (.d (.bool false)))->C y st post->C (.cond c x y) st post
 region: ∀id (os:List Oper) st post,L os.toArray os st (post .normal)->C (.region id os.toArray false) st post
 nil: ∀os st (post:St->Prop),post st->L os [] st post
 row: ∀(D:mi P) os o r sl bx Na Ns e H (post:St->Prop),tN D N os o sl bx H= .go Na Ns e->L os r ⟨Na,Ns,H⟩ post->L os (o::r) ⟨sl,bx,H⟩ post
theorem Gg{P:Program}{N:Nat}{C:vt}{L:E9}(W:Mode P N C L)(b:mi P){ps i:List Nat}{sl Na:List (Nat×V)}{bx Ns:List (Nat×List M)}{H:Hp}{c d:Cf}{post:Exit->St->Prop}
  (h:xT b N H ps sl bx c= .go d i Na Ns) (k:d.den C L post ⟨Na,Ns,H⟩):c.den C L post ⟨sl,bx,H⟩:=by
 cases c with
 |code j e=>
  simp only[xT]at h;split at h
  ·cases h;exact W.seq _ _ _ _ k
  ·cases h;exact W.skip _ _ k
  ·split at h
   ·cases h;exact W.block _ _ _ _ k
   ·cases h
  ·split at h
   ·split at h
    ·rename_i a;cases h;exact W.ct _ _ _ _ _ a k
    ·cases h
   ·split at h
    ·rename_i a;cases h;exact W.cf _ _ _ _ _ a k
    ·cases h
   ·cases h
  ·split at h
   ·cases h;exact W.region _ _ _ _ k
   ·cases h
  ·cases h
 |ops m l e=>
  simp only[xT]at h;split at h
  ·cases h;exact W.nil _ _ _ k
  ·cases f:stops ps _ with
   |true=>rw[f]at h;cases h
   |false=>
    rw[f]at h;simp only[arS]at h;split at h
    ·rename_i g;cases h;exact W.row b _ _ _ _ _ _ _ _ _ _ g k
    ·cases h
 |Gf e=>
  simp only[xT]at h;split at h
  ·cases h;exact k
  ·cases h;exact k
  ·cases h
theorem lH{P:Program}{N:Nat}{C:vt}{L:E9}(W:Mode P N C L)(b:mi P){H:Hp}{post:Exit->St->Prop} : ∀(f:Nat) {ps:List Nat} {sl Na:List (Nat×V)} {bx Ns:List (Nat×List M)} {c d:Cf},
  rW b N H f c ps sl bx= .at d Na Ns->d.den C L post ⟨Na,Ns,H⟩->c.den C L post ⟨sl,bx,H⟩
 |0,_,_,_,_,_,_,_,a,_=>by cases a
 |f+1,ps,sl,Na,bx,Ns,c,d,a,e=>by
  simp only[rW]at a;split at a
  ·rename_i g;exact Gg W b g (lH W b f a e)
  ·grind
theorem Bd(X:bD):Mode X.P X.n (TC X) (TL X)where
 seq _ _ _ _ h:=TC.seq h
 skip _ _ h:=TC.skip h
 block _ _ _ _ h:=TC.block h
 ct _ _ _ _ _ hc h:=TC.cond hc (λ_=>h) λh=>by cases h
 cf _ _ _ _ _ hc h:=TC.cond hc (λh=>by cases h) λ_=>h
 region _ _ _ _ h:=TC.region h
 nil _ _ _ h:=TL.nil h
 row D _ _ _ _ _ _ _ _ _ _ h k:=Cm D h k
def DL(P:Program)(n:Nat)(os:Array Oper)(r:List Oper)(st:St)(Q:St->Prop):Prop:= ∃s,(∀s0 Oo,TL ⟨P,n,s0,Oo,[]⟩ os r st λs'=>s'=s)/\Q s
theorem Be(P:Program)(n B:Nat):Mode P n (DC P n B) (DL P n)where
 seq _ _ _ _ h:=DC.seq h
 skip _ _ h:=DC.skip h
 block _ _ _ _ h:=DC.block h
 ct _ _ _ _ _ hc h:=DC.cond hc (λ_=>h) λh=>by cases h
 cf _ _ _ _ _ hc h:=DC.cond hc (λh=>by cases h) λ_=>h
 region _ _ _ _ h:=DC.region h
 nil _ st _ h:=⟨st,λ_ _=>TL.nil W,h⟩
 row D _ _ _ _ _ _ _ _ _ _ h k:=by
  obtain⟨s,h1,h2⟩:=k;exact⟨s,λs0 Oo=>Cm (X:=⟨P,n,s0,Oo,[]⟩) D h (h1 s0 Oo),h2⟩
theorem Mu{P:Program}{n:Nat}{a:Array Oper}{r r':List Oper}{st c:St}{Q:St->Prop}(h: ∀{s0 Oo} {b:St->Prop},TL ⟨P,n,s0,Oo,[]⟩ a r' c b->TL ⟨P,n,s0,Oo,[]⟩ a r st b)(k:DL P n a r' c Q):DL P n a r st Q:=by
 obtain⟨d,e,f⟩:=k;exact⟨d,λs0 Oo=>h (e s0 Oo),f⟩
def qM{P:Program}(C:mi P)(N:Nat)(ops:Array Oper)(H:Hp):Nat->List Oper->List (Nat×V)->List (Nat×List M)->List Ef->Option (List Oper×List (Nat×V)×List (Nat×List M)×List Ef)
 |0,r,sl,bx,es=>some (r,sl,bx,es)
 |n+1,o::r,sl,bx,es=>(match tN C N ops o sl bx H with
  | .go sl bx e=>qM C N ops H n r sl bx (e::es)
  | .no=>none)
 |_+1,[],_,_,_=>none
theorem TF.run{X:bD}(C:mi X.P){ops:Array Oper}{H:Hp} : ∀(n:Nat) {post:List Ef->St->Prop} {r r':List Oper} {sl Na:List (Nat×V)} {bx Ns:List (Nat×List M)} {es b:List Ef},
  qM C X.n ops H n r sl bx es=some (r',Na,Ns,b)->TF X ops r' ⟨Na,Ns,H⟩ (λd f=>post (b.reverse++d) f)->TF X ops r ⟨sl,bx,H⟩ λd f=>post (es.reverse++d) f
 |0,post,r,r',sl,Na,bx,Ns,es,b,a,c=>by cases a;exact c
 |n+1,post,[],r',sl,Na,bx,Ns,es,b,a,c=>by cases a
 |n+1,post,h::r,r',sl,Na,bx,Ns,es,b,a,c=>by
  simp only[qM]at a;split at a
  ·rename_i e g;refine Cn C g ?_;have:=TF.run C n (post:=post) a c;simpa using this
  ·cases a
theorem TF.rn{X:bD}(C:mi X.P){ops:Array Oper}{H:Hp}(n:Nat){post:List Ef->St->Prop}{r r':List Oper}{sl Na:List (Nat×V)}{bx Ns:List (Nat×List M)}{a:List Ef}
  (h:qM C X.n ops H n r sl bx []=some (r',Na,Ns,a)) (k:TF X ops r' ⟨Na,Ns,H⟩ λb c=>post (a.reverse++b) c):TF X ops r ⟨sl,bx,H⟩ post:=TF.run C n (post:=post) h k
theorem iT.run{X:bD}{g:Hp->Prop}(C:mi X.P){ops:Array Oper}{H:Hp} : ∀(n:Nat) {post:List Ef->St->Prop} {r r':List Oper} {sl Na:List (Nat×V)} {bx Ns:List (Nat×List M)} {es b:List Ef},
  qM C X.n ops H n r sl bx es=some (r',Na,Ns,b)->iT X g ops r' ⟨Na,Ns,H⟩ (λd f=>post (b.reverse++d) f)->iT X g ops r ⟨sl,bx,H⟩ λd f=>post (es.reverse++d) f
 |0,post,r,r',sl,Na,bx,Ns,es,b,a,c=>by cases a;exact c
 |n+1,post,[],r',sl,Na,bx,Ns,es,b,a,c=>by cases a
 |n+1,post,i::r,r',sl,Na,bx,Ns,es,b,a,c=>by
  simp only[qM]at a;split at a
  ·rename_i e h;refine MF (Cn C h (TF.nil ⟨rfl,rfl⟩)) ?_;have:=iT.run C n (post:=post) a c;simpa using this
  ·cases a
section
variable{P:Program}{f:Nat}{fn:Func}{c:Code}{ms:List M}{H:Hp}{post:M->Hp->Prop}{n:Nat}
theorem CT.ob(hf:P.funcs[f]?=some fn)(d:fn.body=some c)(e:fn.ntmps=n)(g:Nat.ble ms.length n=true)
  (h: ∀(a:Sg) (b:Nat->Nat->Prop),TC ⟨P,n,a,b,[]⟩ c ⟨qv 0 ms,[],H⟩ (Kp (TC ⟨P,n,a,b,[]⟩) [] (rN P fn post))):CT P f ms H post:=CT.uq hf d e g h
theorem DT.ob(hf:P.funcs[f]?=some fn)(a:fn.body=some c)(b:fn.ntmps=n)(d:Nat.ble ms.length n=true)
  (h:DC P n H.length c ⟨qv 0 ms,[],H⟩ (Kp (DC P n H.length) [] (rN P fn post))):DT P f ms H post:=DT.uq hf a b d h
end
section
variable{X:bD}{st:St}{c x y:Code}{sl:List (Nat×V)}{bx:List (Nat×List M)}{H:Hp}{post:Exit->St->Prop}{P:Program}{n B:Nat}
theorem TC.lp(a:Nat->St->Prop)(g:Nat)(Na:List (Nat×V))(j:a g ⟨Na,bx,H⟩)(k:keeps sl Na)
  (n: ∀e f,a e f->TC X c f (Kp (TC X) [] (after post λl=> ∃h i,h<e/\a h i/\ ∀b d,Inv X l b d->Inv X i b d))):TC X (.loop c) ⟨sl,bx,H⟩ post:=
 TC.Ht a g _ j (λb d m=>m.nK (gJ k) λ_=>rfl) n
theorem DC.lp(a:Nat->St->Prop)(e:Nat)(Na:List (Nat×V))(f:a e ⟨Na,bx,H⟩)(g:keeps sl Na)
  (i: ∀b d,a b d->DC P n B c d (Kp (DC P n B) [] (after post λh=>xK P n B a b h))):DC P n B (.loop c) ⟨sl,bx,H⟩ post:=DC.loop a e Na f g i
theorem TC.LK{z:Code}(a:St)(f:TC X x st (Kp (TC X) [.c y] (after post λs=> ∀b c,Inv X s b c->Inv X a b c)))(g:TC X z a post):
  TC X x st (after (after post λs=>TC X z s post) λs=>TC X y s (after post λs=>TC X z s post)):=
 TC.mono f λe s d=>by
  cases e with
  |normal=>exact TC.KJ a d g
  |_=>exact d
theorem DC.md(a:St)(f:DC P n B x st (Kp (DC P n B) [] (after post λs=> ∀b e,b.H.length<=B-> ∀c d,Inv ⟨P,n,b,e,[]⟩ s c d->Inv ⟨P,n,b,e,[]⟩ a c d)))(g:DC P n B y a post):DC P n B x st (after post λs=>DC P n B y s post):=DC.KJ a f g
theorem Ny(Q:St->Prop)(h:DC P n B x st (Kp (DC P n B) [] (after post λs=> ∃a,Q a/\ ∀b g,b.H.length<=B-> ∀c d,Inv ⟨P,n,b,g,[]⟩ s c d->Inv ⟨P,n,b,g,[]⟩ a c d)))(i: ∀a,Q a->DC P n B y a post):DC P n B x st (after post λs=>DC P n B y s post):=
 DC.mono h λe s f=>by
  cases e with
  |normal=>obtain⟨a,j,k⟩:=f;exact Oj _ k (i a j)
  |_=>exact f
theorem DC.E_{z:Code}(Q:St->Prop)(h:DC P n B x st (Kp (DC P n B) [.c y] (after post λs=> ∃a,Q a/\ ∀b g,b.H.length<=B-> ∀c d,Inv ⟨P,n,b,g,[]⟩ s c d->Inv ⟨P,n,b,g,[]⟩ a c d)))(i: ∀a,Q a->DC P n B z a post):
  DC P n B x st (after (after post λs=>DC P n B z s post) λs=>DC P n B y s (after post λs=>DC P n B z s post)):=
 DC.mono h λe s f=>by
  cases e with
  |normal=>exact Ny Q f i
  |_=>exact f
end
section
variable{X:bD}{ops:Array Oper}{rest:List Oper}{sl:List (Nat×V)}{bx:List (Nat×List M)}{H:Hp}{post:St->Prop}{d ty:Nat}{pos:String}{af:Array Edge}
theorem aN{op:BinOp}{c e:Nat}{x y:Operand}{a:IntKind}{m n:Int}{b' b:Bool}(f:b'=b)(g:Nat.blt d X.n=true)(h:bj sl x=some (.m (.d (.int a m))))(i:bj sl y=some (.m (.d (.int a n))))(j:lB op a m n=some (.bool b'))
  (k:TL X ops rest ⟨(d,.m (.d (.bool b)))::sl,bx,H⟩ post):TL X ops (⟨some d,.binOp op c x y e,ty,pos,af,none⟩::rest) ⟨sl,bx,H⟩ post:=fZ g h i (f▸j) k
end
abbrev nN(k e:Nat):Nat×V:=(k,.m (.d (.int .i64 (e:Int))))
abbrev nI(k:Nat)(e:Int):Nat×V:=(k,.m (.d (.int .i64 e)))
abbrev nR(k a:Nat):Nat×V:=(k,.m (.ref a 0))
abbrev nD(k:Nat)(d:D):Nat×V:=(k,.m (.d d))
abbrev nM(k:Nat)(m:M):Nat×V:=(k,.m m)
abbrev dN(e:Nat):M:= .d (.int .i64 (e:Int))
abbrev iN(e:Nat):D:= .int .i64 (e:Int)
end Go.Mt
namespace Go.Proofs
open Go.Mt
def LL:List (Nat×TI):=[
 (3,⟨some 1,some false,some (.int .i64 0),none,some .i64,none⟩),
 (62,⟨some 8,some true,some (.agg [.int .u8 0,.int .u8 0,.int .i32 0,.str ⟨#[]⟩,.sl [],.sl [],.int .i64 0,.int .i64 0]),none,none,some [(0,1),(1,1),(2,1),(3,1),(4,1),(5,1),(6,2)]⟩),
 (5,⟨some 1,some false,some (.int .u8 0),none,some .u8,none⟩),
 (9,⟨some 1,some false,some (.str ⟨#[]⟩),none,none,none⟩),
 (68,⟨some 16,some true,some (.agg [.int .u8 0,.sl [],.str ⟨#[]⟩,.sl [],.bool false,.int .u8 0,.int .u8 0,.int .i32 0,.str ⟨#[]⟩,.sl [],.sl [],.int .i64 0,.int .i64 0,.sl [],.int .i64 0,.int .i64 0]),none,none,some [(0,1),(1,1),(2,1),(3,1),(4,1),(5,8),(13,1),(14,2)]⟩),
 (46,⟨some 1,some false,some (.sl []),some 64,none,none⟩),
 (64,⟨some 15,some true,some (.agg [.str ⟨#[]⟩,.int .u8 0,.str ⟨#[]⟩,.sl [],.bool false,.int .u8 0,.int .u8 0,.int .i32 0,.str ⟨#[]⟩,.sl [],.sl [],.int .i64 0,.int .i64 0,.int .i64 0,.int .i64 0]),none,none,some [(0,1),(1,2),(3,1),(4,1),(5,8),(13,2)]⟩),
 (21,⟨some 1,some false,some (.int .i32 0),none,some .i32,none⟩),
 (28,⟨some 2,some true,some (.agg [.sl [],.sl []]),none,none,some [(0,1),(1,1)]⟩),
 (102,⟨some 3,some true,some (.agg [.sl [],.sl [],.sl []]),none,none,some [(0,1),(1,1),(2,1)]⟩),
 (57,⟨some 2,some true,some (.agg [.int .u8 0,.str ⟨#[]⟩]),none,none,some [(0,1),(1,1)]⟩),
 (23,⟨some 1,some false,some (.sl []),some 21,none,none⟩),
 (59,⟨some 1,some false,some (.sl []),some 9,none,none⟩),
 (49,⟨some 2,some true,some (.agg [.sl [],.sl []]),none,none,some [(0,1),(1,1)]⟩),
 (53,⟨some 7,some true,some (.agg [.str ⟨#[]⟩,.sl [],.sl [],.sl [],.sl [],.int .i64 0,.int .i64 0]),none,none,some [(0,1),(1,1),(2,1),(3,2),(5,2)]⟩),
 (136,⟨some 8,some true,some (.agg [.bQ,.str ⟨#[]⟩,.sl [],.sl [],.sl [],.sl [],.sl [],.sl []]),none,none,some [(0,1),(1,1),(2,1),(3,1),(4,1),(5,1),(6,1),(7,1)]⟩),
 (112,⟨some 5,some true,some (.agg [.bQ,.bQ,.bool false,.sl [],.sl []]),none,none,some [(0,1),(1,1),(2,1),(3,1),(4,1)]⟩),
 (66,⟨some 1,some false,some (.sl []),some 176,none,none⟩),
 (60,⟨some 1,some false,some (.sl []),some 62,none,none⟩),
 (93,⟨some 13,some true,some (.agg [.sl [],.sl [],.str ⟨#[]⟩,.sl [],.sl [],.sl [],.sl [],.int .i64 0,.int .i64 0,.sl [],.sl [],.sl [],.int .i64 0]),none,none,some [(0,2),(2,7),(9,1),(10,1),(11,1),(12,1)]⟩),
 (157,⟨some 17,some true,some (.agg [.int .u8 0,.sl [],.str ⟨#[]⟩,.sl [],.bool false,.int .u8 0,.int .u8 0,.int .i32 0,.str ⟨#[]⟩,.sl [],.sl [],.int .i64 0,.int .i64 0,.sl [],.int .i64 0,.int .i64 0,.int .i64 0]),none,none,some [(0,16),(16,1)]⟩),
 (4,⟨some 1,some false,some (.bool false),none,none,none⟩),
 (84,⟨some 1,some false,some (.bQ),none,none,none⟩),
 (176,⟨some 7,some true,some (.agg [.str ⟨#[]⟩,.sl [],.sl [],.sl [],.sl [],.int .i64 0,.int .i64 0]),none,none,some [(0,1),(1,2),(3,1),(4,1),(5,2)]⟩),
 (47,⟨some 1,some false,some (.sl []),some 68,none,none⟩),
 (123,⟨some 20,some true,some (.agg [.str ⟨#[]⟩,.int .u8 0,.str ⟨#[]⟩,.sl [],.bool false,.int .u8 0,.int .u8 0,.int .i32 0,.str ⟨#[]⟩,.sl [],.sl [],.int .i64 0,.int .i64 0,.int .i64 0,.int .i64 0,.int .i64 0,.bQ,.bQ,.int .u8 0,.int .i32 0]),none,none,some [(0,15),(15,1),(16,1),(17,1),(18,1),(19,1)]⟩),
 (108,⟨some 1,some false,some (.bQ),none,none,none⟩),
 (26,⟨some 1,some false,some (.sl []),some 53,none,none⟩),
 (132,⟨some 1,some false,some (.sl []),some 131,none,none⟩),
 (2,⟨some 1,some false,some (.int .i64 0),none,some .i64,none⟩),
 (120,⟨some 1,some false,some (.bQ),none,none,none⟩),
 (81,⟨some 5,some true,some (.agg [.bQ,.int .i64 0,.int .i64 0,.int .i64 0,.bool false]),none,none,some [(0,1),(1,1),(2,1),(3,1),(4,1)]⟩),
 (139,⟨some 2,some true,some (.agg [.bQ,.bool false]),none,none,some [(0,1),(1,1)]⟩),
 (178,⟨some 12,some true,some (.agg [.int .u8 0,.int .u8 0,.int .i32 0,.str ⟨#[]⟩,.sl [],.sl [],.int .i64 0,.int .i64 0,.str ⟨#[]⟩,.bool false,.int .i64 0,.int .i64 0]),none,none,some [(0,8),(8,1),(9,1),(10,2)]⟩),
 (25,⟨some 1,some false,some (.sl []),some 77,none,none⟩),
 (119,⟨some 5,some true,some (.agg [.bQ,.sl [],.sl [],.oA,.oA]),none,none,some [(0,1),(1,1),(2,1),(3,1),(4,1)]⟩),
 (110,⟨some 1,some false,some (.sl []),some 1,none,none⟩),
 (128,⟨some 1,some false,some (.bQ),none,none,none⟩),
 (73,⟨some 1,some false,some (.bQ),none,none,none⟩),
 (37,⟨some 1,some false,some (.sl []),some 23,none,none⟩),
 (131,⟨some 2,some true,some (.agg [.int .u8 0,.int .i32 0]),none,none,some [(0,1),(1,1)]⟩),
 (35,⟨some 1,some false,some (.bQ),none,none,none⟩),
 (109,⟨some 1,some false,some (.bQ),none,none,none⟩),
 (133,⟨some 1,some false,some (.sl []),some 128,none,none⟩),
 (174,⟨some 1,some false,some (.sl []),some 178,none,none⟩),
 (215,⟨some 1,some false,some (.pT),none,none,none⟩),
 (55,⟨some 1,some false,some (.sl []),some 4,none,none⟩),
 (121,⟨some 1,some false,some (.bQ),none,none,none⟩),
 (90,⟨some 3,some true,some (.agg [.sl [],.sl [],.oA]),none,none,some [(0,2),(2,1)]⟩),
 (77,⟨some 4,some true,some (.agg [.str ⟨#[]⟩,.sl [],.int .i64 0,.int .i64 0]),none,none,some [(0,1),(1,1),(2,2)]⟩),
 (116,⟨some 1,some false,some (.sl []),some 120,none,none⟩),
 (91,⟨some 1,some false,some (.sl []),some 84,none,none⟩),
 (22,⟨some 1,some false,some (.sl []),some 5,none,none⟩),
 (58,⟨some 1,some false,some (.sl []),some 195,none,none⟩),
 (87,⟨some 1,some true,some (.agg [.bQ]),none,none,some [(0,1)]⟩),
 (195,⟨some 2,some true,some (.agg [.str ⟨#[]⟩,.str ⟨#[]⟩]),none,none,some [(0,1),(1,1)]⟩),
 (117,⟨some 1,some false,some (.sl []),some 121,none,none⟩),
 (75,⟨some 2,some true,some (.agg [.sl [],.int .i64 0]),none,none,some [(0,1),(1,1)]⟩),
 (144,⟨some 2,some true,some (.agg [.str ⟨#[]⟩,.int .i32 0]),none,none,some [(0,1),(1,1)]⟩),
 (141,⟨some 1,some false,some (.sl []),some 144,none,none⟩),
 (114,⟨some 1,some false,some (.oA),none,none,none⟩),
 (134,⟨some 1,some false,some (.sl []),some 3,none,none⟩),
 (223,⟨some 1,some false,some (.int .u64 0),none,some .u64,none⟩),
 (88,⟨some 1,some false,some (.oA),none,none,none⟩),
 (152,⟨some 1,some false,some (.sl []),some 46,none,none⟩),
 (217,⟨some 1,some false,some (.pT),none,none,none⟩),
 (115,⟨some 1,some false,some (.oA),none,none,none⟩),
 (1,⟨some 1,some false,some (.pT),none,none,none⟩)]
noncomputable def pa:mi Tryz.prog:=⟨LL,by kernel_rfl⟩
theorem bT:Tryz.prog.follows .mixedOrders=true:=by kernel_rfl
section
variable{n B:Nat}{s0:Sg}{Oo:Nat->Nat->Prop}{df:List Deferred}{sl Na:List (Nat×V)}{bx Ns:List (Nat×List M)}{H:Hp}{c:Code}{cf:Cf}{os os':Array Oper}{r r':List Oper}{ks WY:List K}{post:Exit->St->Prop}
theorem tC(ps:List Nat)(h:rW pa n H 5000 (.code c ks) ps sl bx= .at cf Na Ns)(k:cf.den (TC ⟨Tryz.prog,n,s0,Oo,df⟩) (TL ⟨Tryz.prog,n,s0,Oo,df⟩) post ⟨Na,Ns,H⟩):TC ⟨Tryz.prog,n,s0,Oo,df⟩ c ⟨sl,bx,H⟩ (Kp (TC ⟨Tryz.prog,n,s0,Oo,df⟩) ks post):=
 lH (Bd ⟨Tryz.prog,n,s0,Oo,df⟩) pa _ h k
theorem tL(ps:List Nat)(h:rW pa n H 5000 (.ops os r ks) ps sl bx= .at cf Na Ns)(k:cf.den (TC ⟨Tryz.prog,n,s0,Oo,df⟩) (TL ⟨Tryz.prog,n,s0,Oo,df⟩) post ⟨Na,Ns,H⟩):TL ⟨Tryz.prog,n,s0,Oo,df⟩ os r ⟨sl,bx,H⟩ (Kn (TC ⟨Tryz.prog,n,s0,Oo,df⟩) ks post):=
 lH (Bd ⟨Tryz.prog,n,s0,Oo,df⟩) pa _ h k
theorem tO(ps:List Nat)(h:rW pa n H 5000 (.code c ks) ps sl bx= .at (.ops os r WY) Na Ns)(k:TL ⟨Tryz.prog,n,s0,Oo,df⟩ os r ⟨Na,Ns,H⟩ (Kn (TC ⟨Tryz.prog,n,s0,Oo,df⟩) WY post)):TC ⟨Tryz.prog,n,s0,Oo,df⟩ c ⟨sl,bx,H⟩ (Kp (TC ⟨Tryz.prog,n,s0,Oo,df⟩) ks post):=
 lH (Bd ⟨Tryz.prog,n,s0,Oo,df⟩) pa _ h k
theorem tR(ps:List Nat)(h:rW pa n H 5000 (.ops os r ks) ps sl bx= .at (.ops os' r' WY) Na Ns)(k:TL ⟨Tryz.prog,n,s0,Oo,df⟩ os' r' ⟨Na,Ns,H⟩ (Kn (TC ⟨Tryz.prog,n,s0,Oo,df⟩) WY post)):TL ⟨Tryz.prog,n,s0,Oo,df⟩ os r ⟨sl,bx,H⟩ (Kn (TC ⟨Tryz.prog,n,s0,Oo,df⟩) ks post):=
 lH (Bd ⟨Tryz.prog,n,s0,Oo,df⟩) pa _ h k
theorem dC(ps:List Nat)(h:rW pa n H 5000 (.code c ks) ps sl bx= .at cf Na Ns)(k:cf.den (DC Tryz.prog n B) (DL Tryz.prog n) post ⟨Na,Ns,H⟩):DC Tryz.prog n B c ⟨sl,bx,H⟩ (Kp (DC Tryz.prog n B) ks post):=
 lH (Be _ n B) pa _ h k
theorem dL(ps:List Nat)(h:rW pa n H 5000 (.ops os r ks) ps sl bx= .at cf Na Ns)(k:cf.den (DC Tryz.prog n B) (DL Tryz.prog n) post ⟨Na,Ns,H⟩):DL Tryz.prog n os r ⟨sl,bx,H⟩ (Kn (DC Tryz.prog n B) ks post):=
 lH (Be _ n B) pa _ h k
theorem dO(ps:List Nat)(h:rW pa n H 5000 (.code c ks) ps sl bx= .at (.ops os r WY) Na Ns)(k:DL Tryz.prog n os r ⟨Na,Ns,H⟩ (Kn (DC Tryz.prog n B) WY post)):DC Tryz.prog n B c ⟨sl,bx,H⟩ (Kp (DC Tryz.prog n B) ks post):=
 lH (Be _ n B) pa _ h k
theorem dR(ps:List Nat)(h:rW pa n H 5000 (.ops os r ks) ps sl bx= .at (.ops os' r' WY) Na Ns)(k:DL Tryz.prog n os' r' ⟨Na,Ns,H⟩ (Kn (DC Tryz.prog n B) WY post)):DL Tryz.prog n os r ⟨sl,bx,H⟩ (Kn (DC Tryz.prog n B) ks post):=
 lH (Be _ n B) pa _ h k
theorem dF{a:Nat}{ops:List Oper}{es:List Ef}(h:qM pa n ops.toArray H ops.length ops sl bx []=some ([],Na,Ns,es))(b:gj ops sl es.reverse=true)(k:Kp (DC Tryz.prog n B) ks post .normal ⟨Na,Ns,H⟩):
  DC Tryz.prog n B (.region a ops.toArray true) ⟨sl,bx,H⟩ (Kp (DC Tryz.prog n B) ks post):=
 Mz bT (λc d=>TF.rn (X:=⟨Tryz.prog,n,c,d,[]⟩) pa _ h (TF.nil ⟨by simpa using b,rfl⟩)) k
theorem fR{a:Array Oper}{es:List Ef}{q:List Ef->St->Prop}(m:Nat)(h:qM pa n a H m r sl bx []=some (r',Na,Ns,es))(k:TF ⟨Tryz.prog,n,s0,Oo,df⟩ a r' ⟨Na,Ns,H⟩ λb c=>q (es.reverse++b) c):TF ⟨Tryz.prog,n,s0,Oo,df⟩ a r ⟨sl,bx,H⟩ q:=
 TF.rn (X:=⟨Tryz.prog,n,s0,Oo,df⟩) pa m h k
theorem iR{b:Hp->Prop}{a:Array Oper}{es:List Ef}{q:List Ef->St->Prop}(m:Nat)(h:qM pa n a H m r sl bx []=some (r',Na,Ns,es))(k:iT ⟨Tryz.prog,n,s0,Oo,df⟩ b a r' ⟨Na,Ns,H⟩ λc d=>q (es.reverse++c) d):iT ⟨Tryz.prog,n,s0,Oo,df⟩ b a r ⟨sl,bx,H⟩ q:=
 iT.run (X:=⟨Tryz.prog,n,s0,Oo,df⟩) pa m (post:=q) h k
end
end Go.Proofs
namespace Go.Sm
open Go.Mt
abbrev Nm:=ByteArray
inductive Xp where
 |mk (k op n:Int) (s:Nm) (names:List Nm) (kids:List Xp) (p:Int×Int)
abbrev dq(l:List Nm):List (List D):=l.map λx=>[.str x]
abbrev bO(k op n:Int)(s:Nm)(names:List Nm)(kids:List (List D))(p:Int×Int):List D:=[.int .u8 k,.int .u8 op,.int .i32 n,.str s,.sl (dq names),.sl kids,.int .i64 p.1,.int .i64 p.2]
mutual
def Xp.cells:Xp->List D
 | .mk k op n s names kids p=>bO k op n s names (rq kids) p
def rq:List Xp->List (List D)
 | []=>[]
 |e::l=>e.cells::rq l
end
theorem Gh(l:List Xp):rq l=l.map Xp.cells:=by induction l with
 |nil=>rfl
 |cons b l a=>simp[rq,a]
def Xp.kd:Xp->Int| .mk k _ _ _ _ _ _=>k
def Xp.op:Xp->Int| .mk _ o _ _ _ _ _=>o
def Xp.num:Xp->Int| .mk _ _ n _ _ _ _=>n
def Xp.nm:Xp->Nm| .mk _ _ _ s _ _ _=>s
def Xp.names:Xp->List Nm| .mk _ _ _ _ l _ _=>l
def Xp.kids:Xp->List Xp| .mk _ _ _ _ _ l _=>l
def Xp.ps:Xp->Int×Int| .mk _ _ _ _ _ _ p=>p
theorem Xp.aA(e:Xp):e.cells=bO e.kd e.op e.num e.nm e.names (e.kids.map Xp.cells) e.ps:=by
 cases e;rw[Xp.cells,Gh];rfl
theorem Xp.len(e:Xp):e.cells.length=8:=by rw[e.aA];rfl
theorem Xp.Bf{e k:Xp}(h:k∈e.kids):SizeOf.sizeOf k<SizeOf.sizeOf e:=by
 cases e;have:=asv h;simp only[Xp.kids]at this;simp;omega
abbrev LM:Xp:= .mk 0 0 0 ⟨#[]⟩ [] [] (0,0)
abbrev HM(z:Int):Xp:= .mk 1 0 z ⟨#[]⟩ [] [] (0,0)
structure Va where
 name:Nm
 tk:Int
 tn:Nm
 clock:List (Nm×Nm)
 last:Bool
 first:Xp
 ps:Int×Int
abbrev rX(l:List (Nm×Nm)):List (List D):=l.map λc=>[.str c.1,.str c.2]
def Va.cells(v:Va):List D:=[.str v.name,.int .u8 v.tk,.str v.tn,.sl (rX v.clock),.bool v.last]++v.first.cells++ [.int .i64 v.ps.1,.int .i64 v.ps.2]
theorem Va.len(v:Va):v.cells.length=15:=by simp[Va.cells,Xp.len]
def aC(l:List Va):List (List D):=l.map Va.cells
structure Tr where
 e:Xp
 to:Nm
 fb:Bool
 ps:Int×Int
def Tr.cells(t:Tr):List D:=t.e.cells++ [.str t.to,.bool t.fb,.int .i64 t.ps.1,.int .i64 t.ps.2]
def eC(l:List Tr):List (List D):=l.map Tr.cells
mutual
inductive ay where
 |mk (k:Int) (lhs:List Nm) (f:Nm) (args:List Xp) (has:Bool) (e:Xp) (ah:List aY) (p:Int×Int)
inductive aY where
 |mk (name:Nm) (b:aW) (eT eU:List Tr) (p:Int×Int)
inductive aW where
 |mk (vars:List Va) (au:List ay)
end
abbrev qN(k:Int)(lhs:List Nm)(f:Nm)(args:List (List D))(has:Bool)(e:List D)(ah:List (List D))(p:Int×Int):List D:=[.int .u8 k,.sl (dq lhs),.str f,.sl args,.bool has]++e++ [.sl ah,.int .i64 p.1,.int .i64 p.2]
mutual
def ay.cells:ay->List D
 | .mk k lhs f args has e ah p=>qN k lhs f (args.map Xp.cells) has e.cells (b7 ah) p
def aY.cells:aY->List D
 | .mk name b eT eU p=>[.str name]++b.cells++ [.sl (eC eT),.sl (eC eU),.int .i64 p.1,.int .i64 p.2]
def b7:List aY->List (List D)
 | []=>[]
 |a::l=>a.cells::b7 l
def aW.cells:aW->List D
 | .mk vars au=>[.sl (aC vars),.sl (bF au)]
def bF:List ay->List (List D)
 | []=>[]
 |q::l=>q.cells::bF l
end
theorem mj(l:List aY):b7 l=l.map aY.cells:=by induction l with
 |nil=>rfl
 |cons b l a=>simp[b7,a]
theorem mn(l:List ay):bF l=l.map ay.cells:=by induction l with
 |nil=>rfl
 |cons b l a=>simp[bF,a]
def ay.kd:ay->Int| .mk k _ _ _ _ _ _ _=>k
def ay.lhs:ay->List Nm| .mk _ l _ _ _ _ _ _=>l
def ay.f:ay->Nm| .mk _ _ f _ _ _ _ _=>f
def ay.args:ay->List Xp| .mk _ _ _ a _ _ _ _=>a
def ay.has:ay->Bool| .mk _ _ _ _ h _ _ _=>h
def ay.ex:ay->Xp| .mk _ _ _ _ _ e _ _=>e
def ay.ah:ay->List aY| .mk _ _ _ _ _ _ l _=>l
def ay.ps:ay->Int×Int| .mk _ _ _ _ _ _ _ p=>p
def aY.name:aY->Nm| .mk n _ _ _ _=>n
def aY.cp:aY->aW| .mk _ b _ _ _=>b
def aY.eT:aY->List Tr| .mk _ _ u _ _=>u
def aY.eU:aY->List Tr| .mk _ _ _ w _=>w
def aY.ps:aY->Int×Int| .mk _ _ _ _ p=>p
def aW.vars:aW->List Va| .mk v _=>v
def aW.au:aW->List ay| .mk _ q=>q
theorem ay.aA(q:ay):q.cells=qN q.kd q.lhs q.f (q.args.map Xp.cells) q.has q.ex.cells (q.ah.map aY.cells) q.ps:=by cases q;rw[ay.cells,mj];rfl
theorem aW.aA(b:aW):b.cells= [.sl (aC b.vars),.sl (b.au.map ay.cells)]:=by cases b;rw[aW.cells,mn];rfl
theorem aY.aA(a:aY):a.cells= [.str a.name,.sl (aC a.cp.vars),.sl (a.cp.au.map ay.cells),.sl (eC a.eT),.sl (eC a.eU),.int .i64 a.ps.1,.int .i64 a.ps.2]:=by cases a;rw[aY.cells,aW.aA];rfl
theorem ay.len(q:ay):q.cells.length=16:=by rw[q.aA];simp[qN,Xp.len]
theorem aY.Jm(a:aY):SizeOf.sizeOf a.cp<SizeOf.sizeOf a:=by cases a;simp[aY.cp];omega
theorem ay.Jn{q:ay}{a:aY}(h:a∈q.ah):SizeOf.sizeOf a.cp<SizeOf.sizeOf q:=by
 have:=a.Jm;cases q;have:=asv h;simp only[ay.ah]at this;simp;omega
structure Nd where
 name:Nm
 ins:List Va
 outs:List Va
 b:aW
 ps:Int×Int
def Nd.cells(n:Nd):List D:=[.str n.name,.sl (aC n.ins),.sl (aC n.outs),.sl (aC n.b.vars),.sl (n.b.au.map ay.cells),.int .i64 n.ps.1,.int .i64 n.ps.2]
structure En where
 name:Nm
 dD:List Nm
 ps:Int×Int
def En.cells(e:En):List D:=[.str e.name,.sl (dq e.dD),.int .i64 e.ps.1,.int .i64 e.ps.2]
structure Pg where
 aI:List En
 nodes:List Nd
abbrev Pg.cells(p:Pg):List D:=[.sl (p.aI.map En.cells),.sl (p.nodes.map Nd.cells)]
def aP(l:List Nat):Nat:=l.foldr (·+ ·) 0
theorem jK(a:Nat)(l:List Nat):aP (a::l)=a+aP l:=rfl
theorem nT(a b:List Nat):aP (a++b)=aP a+aP b:=by
 induction a with
 |nil=>simp[aP]
 |cons d a c=>simp only[aP,arl,asz]at c⊢;omega
theorem jn{l:List Nat}{x:Nat}(h:x∈l):x<=aP l:=by
 induction l with
 |nil=>cases h
 |cons b l a=>
  simp only[aP,asz];rcases aqs.1 h with rfl|h
  ·omega
  ·have:=a h;simp only[aP]at this;omega
theorem tP(l:List Nat)(i:Nat):aP (l.take i)<=aP l:=by
 have:=nT (l.take i) (l.drop i);rw[arw]at this;omega
theorem fD{a:Type}(f:a->Nat){l:List a}{i:Nat}(h:i<l.length):aP ((l.take (i+1)).map f)=aP ((l.take i).map f)+f l[i]/\aP ((l.take (i+1)).map f)<=aP (l.map f):=by
 refine⟨?_,?_⟩
 ·rw[aqu h,aqO,nT];simp[aP]
 ·have:=tP (l.map f) (i+1);rw[<-asN]at this;exact this
def dE(k:Int):Nat:=if k=9\/k=10\/k=11 then 1 else 0
def ij(k:Int):Nat:=if k=2\/k=4 then 1 else 0
mutual
def xP:Xp->Nat
 | .mk k _ _ _ _ kids _=>dE k+fQ kids
def fQ:List Xp->Nat
 | []=>0
 |e::l=>xP e+fQ l
end
theorem s7(l:List Xp):fQ l=aP (l.map xP):=by induction l with
 |nil=>rfl
 |cons b l a=>rw[fQ,a];rfl
theorem DZ(e:Xp):xP e=dE e.kd+aP (e.kids.map xP):=by cases e;rw[xP,s7];rfl
def aR(l:List Va):Nat:=(l.filter (·.last)).length
theorem lm(l:List Va)(i:Nat):aR (l.take i)<=aR l:=by
 have:aR (l.take i)+aR (l.drop i)=aR l:=by
  unfold aR;rw[<-aqg,<-List.filter_append,arw]
 omega
theorem zi(a b:List Va):aR (a++b)=aR a+aR b:=by simp[aR]
theorem pw(l:List Va)(w:Va):aR (l++ [w])=aR l+(if w.last then 1 else 0):=by
 rw[zi];congr 1;cases a:w.last<;>simp[aR,a]
mutual
def qP:ay->Nat
 | .mk k _ _ args _ e ah _=>xP e+fQ args+ij k+kp ah
def fo:aY->Nat
 | .mk _ b _ _ _=>bP b
def kp:List aY->Nat
 | []=>0
 |a::l=>fo a+kp l
def bP:aW->Nat
 | .mk vars au=>aR vars+uD au
def uD:List ay->Nat
 | []=>0
 |q::l=>qP q+uD l
end
theorem zQ(l:List aY):kp l=aP (l.map fo):=by induction l with
 |nil=>rfl
 |cons b l a=>rw[kp,a];rfl
theorem Fe(l:List ay):uD l=aP (l.map qP):=by induction l with
 |nil=>rfl
 |cons b l a=>rw[uD,a];rfl
theorem vu(b:aW):bP b=aR b.vars+aP (b.au.map qP):=by cases b;rw[bP,Fe];rfl
theorem mS(a:aY):fo a=bP a.cp:=by cases a;rw[fo];rfl
theorem jt(q:ay):qP q=xP q.ex+aP (q.args.map xP)+ij q.kd+aP (q.ah.map fo):=by cases q;rw[qP,zQ,s7];rfl
inductive je:Xp->Prop where
 |mk {k op n:Int} {s:Nm} {names:List Nm} {kids:List Xp} {p:Int×Int} (h0:k=9->kids≠ []) (h1:kids.length<=1000000) (h2:names.length<=1000000) (h3: ∀e∈kids,je e):je (.mk k op n s names kids p)
inductive tQ:aW->Prop where
 |mk {vars:List Va} {au:List ay} (h1:vars.length<=1000000) (h2:au.length<=1000000)
   (h3: ∀q∈au,∀a∈q.ah,tQ a.cp) (h4: ∀q∈au,q.ah.length<=1000) (h5: ∀q∈au,je q.ex/\q.args.length<=1000000/\ ∀e∈q.args,je e) (h6: ∀q∈au,q.lhs.length<=1000000)
   (h7: ∀q∈au,∀a∈q.ah,a.eT.length<=1000000/\a.eU.length<=1000000):tQ (.mk vars au)
abbrev lI:Nm:=⟨#[102,97,108,115,101]⟩
abbrev oM:Nm:=⟨#[116,114,117,101]⟩
def kB(l:List Nm)(x:Nm):Int:=match l.findIdx? (λy=>decide (y=x))with
 |some i=>(i:Int)
 |none=> -1
def lJ(l:List Nm)(x:Nm):Bool:=l.any λy=>decide (y=x)
theorem og{l:List Nm}{x:Nm} :lJ l x=true↔x∈l:=by simp[lJ]
def eM(en:List En)(tk:Int)(tn:Nm):List Nm:=
 if tk=1 then [lI,oM]else if tk=3 then(match en.find? (λe=>decide (e.name=tn))with|some e=>e.dD|none=>[])else []
def p9(en:List En)(x:Nm):Int:=match en.find? (λt=>lJ t.dD x)with
 |some t=>kB t.dD x
 |none=>0
def oO(en:List En)(e:Xp):Int:=if e.kd=1\/e.kd=2 then e.num else if e.kd=3 then p9 en e.nm else 0
def gx(en:List En)(x:Nm):Int:=if x=lI then 0 else if x=oM then 1 else p9 en x
def i32(n:Int):Int:=IntKind.i32.wrap n
def kq(b:Bool):Int:=if b then 1 else 0
def Bg(op a:Int):Int:=if op=1 then kq (a==0)else if op=2 then i32 (-a)else 0
def iL(op a b:Int):Int:=
 if op=3 then i32 (a+b)else if op=4 then i32 (a-b)else if op=5 then i32 (a*b)
 else if op=6 then(if b=0 then 0 else if a= -2147483648/\b= -1 then a else i32 (Int.tdiv a b))
 else if op=7 then(if b=0 then 0 else if a= -2147483648/\b= -1 then 0 else Int.tmod a b)
 else if op=8 then kq (a !=0&&b !=0)else if op=9 then kq (a !=0||b !=0)
 else if op=10\/op=12 then kq (a !=b)else if op=11 then kq (a==b)
 else if op=13 then kq (decide (a<b))else if op=14 then kq (decide (a<=b))else if op=15 then kq (decide (b<a))else if op=16 then kq (decide (b<=a))else 0
def wk(en:List En)(k:Int)(kids:List Xp):List (Option Int):=
 if k=9 then [some (match kids with|e::_=>oO en e| []=>0)]else if k=10 then [some 0]else if k=11 then [some 1]else []
mutual
def gW(en:List En):Xp->List (Option Int)
 | .mk k _ _ _ _ kids _=>wk en k kids++jz en kids
def jz(en:List En):List Xp->List (Option Int)
 | []=>[]
 |e::l=>gW en e++jz en l
end
def iF(en:List En)(l:List Va):List (Option Int):=(l.filter (·.last)).map λv=>some (oO en v.first)
mutual
def tS(en:List En):ay->List (Option Int)
 | .mk k _ _ args _ e ah _=>List.replicate (ij k) none++(gW en e++jz en args)++lR en ah
def Jo(en:List En):aY->List (Option Int)
 | .mk _ b _ _ _=>ku en b
def lR(en:List En):List aY->List (Option Int)
 | []=>[]
 |a::l=>Jo en a++lR en l
def ku(en:List En):aW->List (Option Int)
 | .mk vars au=>iF en vars++mT en au
def mT(en:List En):List ay->List (Option Int)
 | []=>[]
 |q::l=>tS en q++mT en l
end
def iM(en:List En)(d:Nd):List (Option Int):=ku en d.b++iF en d.outs
def bW(d:Nd):Nat:=bP d.b+aR d.outs
inductive US where
 |mk (i:Nat) (mem:Nat->Int) (cu:Nat->Bool) (aj:Nat->Option US)
def US.i:US->Nat| .mk i _ _ _=>i
def US.mem:US->Nat->Int| .mk _ m _ _=>m
def US.cu:US->Nat->Bool| .mk _ _ p _=>p
def US.aj:US->Nat->Option US| .mk _ _ _ s=>s
def cd(l:List (Option Int))(k:Nat):Int:=((l[k]?).getD none).getD 0
def US.init(p:Pg)(i:Nat):US:= .mk i (λk=>match p.nodes[i]? with|some d=>cd (iM p.aI d) k|none=>0) (λ_=>false) (λ_=>none)
structure zj where
 vars:List Va
 db:List (Option Nat)
 au:List ay
 pos:List Nat
def cm:List Va->Nat->List (Option Nat)
 | [],_=>[]
 |v::l,a=>if v.last then some a::cm l (a+1)else none::cm l a
def fy:List ay->Nat->List Nat
 | [],_=>[]
 |q::l,a=>a::fy l (a+qP q)
def Bh(b:aW)(a:Nat):zj:=⟨b.vars,cm b.vars a,b.au,fy b.au (a+aR b.vars)⟩
def tq(d:Nd):zj:=⟨d.ins++d.outs++d.b.vars,List.replicate d.ins.length none++cm d.outs (bP d.b)++cm d.b.vars 0,d.b.au,fy d.b.au (aR d.b.vars)⟩
def fS(l:List Va)(x:Nm):Option Nat:=l.findIdx? (λv=>decide (v.name=x))
def kC(l:List Nm)(x:Nm):List Nm:=if lJ l x then l else l++ [x]
mutual
def b_:ay->List Nm
 | .mk _ lhs _ _ _ _ ah _=>jA lhs ah
def jA(l:List Nm):List aY->List Nm
 | []=>l
 |a::r=>jA ((qO a).foldl kC l) r
def qO:aY->List Nm
 | .mk _ b _ _ _=>jL b
def jL:aW->List Nm
 | .mk vars au=>kO vars [] au
def kO(vars:List Va)(l:List Nm):List ay->List Nm
 | []=>l
 |q::r=>kO vars (((b_ q).filter λx=>(fS vars x).isNone).foldl kC l) r
end
abbrev Path:=List Nat
inductive It where
 |cell (J:Path) (k:Nat)|call (J:Path) (j:Nat)|bN (J:Path) (j:Nat)|lv (J:Path) (j:Nat)
structure aH where
 ok:Path->Prop
 fr:Path->zj
 val:Path->Nat->Option Int
 rk:Path->Nat->Nat
 sb:Path->Nat->Nat
 ek:Path->Nat->Nat
 bN:Path->Nat->Nat
 mU:Path->Nat->Bool
 ev:Path->Nat->Int
 ew:Path->Nat->List (Nat×Int)
 outs:Path->Nat->List Int
 ln:Path->Nat->US
 pJ:Path->Nat->Nat
 nan:Path->Nat->Bool
 rd:Nat->Int
 rp:Nat->Bool
 rs:Nat->Option US
 eV:Nat
 sz:Nat
 an:List It
 wt:It->Nat
def aH.find(c:aH):Path->Nm->Option (Path×Nat)
 | [],x=>(fS (c.fr []).vars x).map λk=>([],k)
 |j::J,x=>match fS (c.fr (j::J)).vars x with
  |some k=>some (j::J,k)
  |none=>c.find J x
def aH.get(c:aH)(σ:Path×Nat):Int:=(c.val σ.1 σ.2).getD 0
def aH.mV(c:aH)(σ:Path×Nat):Nat:=c.rk σ.1 σ.2
def aH.dD(en:List En)(c:aH)(σ:Path×Nat):List Nm:=match(c.fr σ.1).vars[σ.2]? with
 |some v=>eM en v.tk v.tn
 |none=>[]
section
variable(en:List En)(c:aH)
inductive gT(J:Path):Nat->Xp->Nat->Int->List (Nat×Int)->Prop where
 |vw {r k op n s names kids p a} (hk:k=1\/k=2\/k=3):gT J r (.mk k op n s names kids p) a (oO en (.mk k op n s names kids p)) []
 |var {r op n s names kids p a σ} (h:c.find J s=some σ) (hr:c.mV σ<r):gT J r (.mk 4 op n s names kids p) a (c.get σ) []
 |last {r op n s names kids p a σ q} (h:c.find J s=some σ) (hp:(c.fr σ.1).db[σ.2]?=some (some q)) (hq:q<c.sz):gT J r (.mk 5 op n s names kids p) a (c.rd q) []
 |un {r op n s names x p a v w} (h:gT J r x a v w):gT J r (.mk 6 op n s names [x] p) a (Bg op v) w
 |bin {r op n s names x y p a v w v' w'} (h:gT J r x a v w) (h':gT J r y (a+xP x) v' w'):gT J r (.mk 7 op n s names [x,y] p) a (iL op v v') (w++w')
 |ite {r op n s names x y z p a v w v' w' v'' Ug} (h:gT J r x a v w) (h':gT J r y (a+xP x) v' w') (h'':gT J r z (a+xP x+xP y) v'' Ug):gT J r (.mk 8 op n s names [x,y,z] p) a (if v=0 then v'' else v') (w++w'++Ug)
 |fA {r op n s names x y p a v w} (ha:a<c.sz) (h:gT J c.eV y (a+1+xP x) v w):gT J r (.mk 9 op n s names [x,y] p) a (c.rd a) ((a,v)::w)
 |pre {r op n s names y p a v w} (ha:a<c.sz) (h:gT J c.eV y (a+1) v w):gT J r (.mk 10 op n s names [y] p) a (c.rd a) ((a,v)::w)
 |arrow {r op n s names x y p a v w v' w'} (ha:a<c.sz) (h:gT J r x (a+1) v w) (h':gT J r y (a+1+xP x) v' w'):gT J r (.mk 11 op n s names [x,y] p) a (if c.rd a=0 then v' else v) ((a,0)::(w++w'))
 |e_ {r op n s names x p a v w} (h:gT J r x a v w):gT J r (.mk 12 op n s names [x] p) a v w
 |merge {r op n s names kids p a σ i cn e v w} (h:c.find J s=some σ) (hr:c.mV σ<r) (hi:names[i]?=some cn) (hn:kB (c.dD en σ) cn=c.get σ)
   (S2: ∀(i':Nat) (x:Nm),i'<i->names[i']?=some x->kB (c.dD en σ) x≠c.get σ) (hk:kids[i]?=some e) (he:gT J r e (a+fQ (kids.take i)) v w):gT J r (.mk 13 op n s names kids p) a v w
inductive xU(J:Path)(r:Nat):List Xp->Nat->List Int->List (Nat×Int)->Prop where
 |nil {a} :xU J r [] a [] []
 |cons {e l a v w vs ws} (h:gT en c J r e a v w) (h':xU J r l (a+xP e) vs ws):xU J r (e::l) a (v::vs) (w++ws)
inductive Bi(J:Path)(r:Nat):List (Nm×Nm)->Bool->Prop where
 |nil:Bi J r [] true
 |no {k x l σ} (h:c.find J x=some σ) (hr:c.mV σ<r) (hv: ∀n,c.val σ.1 σ.2=some n->kB (c.dD en σ) k≠n):Bi J r ((k,x)::l) false
 |Co {k x l σ n b} (h:c.find J x=some σ) (hr:c.mV σ<r) (hv:c.val σ.1 σ.2=some n) (hn:kB (c.dD en σ) k=n) (h':Bi J r l b):Bi J r ((k,x)::l) b
inductive p_(J:Path)(r:Nat):List Tr->Option Tr->Prop where
 |nil:p_ J r [] none
 |Co {t l v} (h:gT en c J r t.e 0 v []) (hv:v≠0):p_ J r (t::l) (some t)
 |no {t l o} (h:gT en c J r t.e 0 0 []) (h':p_ J r l o):p_ J r (t::l) o
inductive Src:Nat->Path->Nat->Nm->Option (Path×Nat)->Prop where
 |leaf {r J j x q} (hq:(c.fr J).au[j]?=some q) (hk:q.kd=1\/q.kd=2) (hr:c.ek J j<=r):Src r J j x (some (J,j))
 |bN {r J j x q j' q' s} (hq:(c.fr J).au[j]?=some q) (hk:q.kd=3\/q.kd=4\/q.kd=5) (hr:c.ek J j<=r) (h':(c.fr (j::J)).au[j']?=some q') (hd:x∈b_ q')
   (hf: ∀(i:Nat) (q:ay),i<j'->(c.fr (j::J)).au[i]?=some q->x∉b_ q) (h:Src r (j::J) j' x s):Src r J j x s
 |last {r J j x q} (hq:(c.fr J).au[j]?=some q) (hk:q.kd=3\/q.kd=4\/q.kd=5) (hr:c.ek J j<=r) (M9: ∀q'∈(c.fr (j::J)).au,x∉b_ q'):Src r J j x none
end
def gr(q:ay)(p:Nat):Nat:=if q.kd=4 then p+1 else p+xP q.ex
def dx(q:ay)(p a:Nat):Nat:=gr q p+aP ((q.ah.take a).map fo)
def lK(l:List Nd)(x:Nm):Option Nat:=l.findIdx? (λd=>decide (d.name=x))
def mo(l:List aY)(x:Nm):Option Nat:=l.findIdx? (λa=>decide (a.name=x))
def aH.nu(c:aH)(J:Path)(q:ay):Prop:=(q.kd=1\/q.kd=2)->match q.lhs with
 | []=>True
 |x::_=> ∃σ,c.find J x=some σ/\(c.val σ.1 σ.2).isSome=true
section
variable(P:Pg)(step:US->List Int->List Int->US->Prop)(c:aH)
structure uE(J:Path)(j:Nat)(q:ay)(p:Nat)(a:aY):Prop where
 ha:q.ah[c.bN J j]?=some a
 ok:c.ok (j::J)
 fr:c.fr (j::J)=Bh a.cp (dx q p (c.bN J j))
inductive LN(J:Path)(j:Nat)(q:ay)(p:Nat):Prop where
 |df (hk:q.kd=1) (x:Nm) (hl:q.lhs= [x]) (he:c.nu J q->gT P.aI c J (c.ek J j) q.ex p (c.ev J j) (c.ew J j))
 |call (hk:q.kd=2) (hp:p<c.sz) (ci:Nat) (hn:lK P.nodes q.f=some ci) (w0 w1:List (Nat×Int)) (vs:List Int)
   (h0:c.nu J q->if q.has then gT P.aI c J (c.ek J j) q.ex (p+1) (c.ev J j) w0 else c.ev J j=0/\w0= [])
   (h1:c.nu J q->xU P.aI c J (c.ek J j) q.args (p+1+xP q.ex) vs w1) (hw:c.ew J j=w0++w1)
   (hs:c.nu J q->step (((if c.ev J j=0 then c.rs p else none)).getD (US.init P ci)) vs (c.outs J j) (c.ln J j))
   (hi:c.nu J q-> ∀u,c.rs p=some u->u.i=ci)
   (ho:c.nu J q->q.lhs.length<=(c.outs J j).length)
 |sw (hk:q.kd=3) (he:gT P.aI c J (c.ek J j) q.ex p (c.ev J j) (c.ew J j)) (a:aY) (ha:uE c J j q p a) (hv:gx P.aI a.name=c.ev J j)
   (hf: ∀(i:Nat) (b:aY),i<c.bN J j->q.ah[i]?=some b->gx P.aI b.name≠c.ev J j) (hn:c.mU J j=false)
 |aL (hk:q.kd=4) (hp:p<c.sz) (s:Nat) (a0:aY) (hs:c.rd p=(s:Int)) (h0:q.ah[s]?=some a0) (t:Option Tr) (hu:p_ P.aI c J (c.ek J j) a0.eT t)
   (ht:match t with|none=>c.bN J j=s/\c.mU J j=c.rp p|some t=>mo q.ah t.to=some (c.bN J j)/\c.mU J j= !t.fb) (a:aY) (ha:uE c J j q p a)
   (t':Option Tr) (Sd:p_ P.aI c (j::J) c.eV a.eU t') (V9:match t' with|none=>c.pJ J j=c.bN J j/\c.nan J j=false|some t=>mo q.ah t.to=some (c.pJ J j)/\c.nan J j= !t.fb)
   (hw:c.ew J j= [])
 |reset (hk:q.kd=5) (he:gT P.aI c J (c.ek J j) q.ex p (c.ev J j) (c.ew J j)) (a:aY) (ha:uE c J j q p a) (h0:c.bN J j=0) (hn:c.mU J j=decide (c.ev J j≠0))
def jB(f:zj)(k:Nat)(v:Va)(j:Nat):Prop:=fS f.vars v.name=some k/\(∃q,f.au[j]?=some q/\v.name∈b_ q)/\ ∀(i:Nat) (q:ay),j<i->f.au[i]?=some q->v.name∉b_ q
structure HN(J:Path)(k:Nat)(v:Va)(lp:Option Nat):Prop where
 pr:Bi P.aI c J (c.sb J k) v.clock (c.val J k).isSome
 sr:c.sb J k<=c.rk J k
 tp:c.rk J k<c.eV
 df: ∀n,c.val J k=some n-> ∃j s,jB (c.fr J) k v j/\Src c (c.sb J k) J j v.name s/\match s with
  |none=> ∃p,lp=some p/\p<c.sz/\n=c.rd p
  |some (ML,j')=>c.find ML v.name=some (J,k)/\ ∃q,(c.fr ML).au[j']?=some q/\(q.kd=1->q.lhs= [v.name]/\n=c.ev ML j')/\(q.kd=2->v.name∈q.lhs/\c.nu ML q)
def nU(k:Nat)(v:Int):Prop:=(∃J j q,c.ok J/\(c.fr J).au[j]?=some q/\c.nu J q/\(k,v)∈c.ew J j)\/(∃J i,c.ok J/\(c.fr J).db[i]?=some (some k)/\c.val J i=some v)
 \/(∃J j q,c.ok J/\(c.fr J).au[j]?=some q/\q.kd=4/\(c.fr J).pos[j]?=some k/\v=(c.pJ J j:Int))
def zl(k:Nat)(b:Bool):Prop:= ∃J j q,c.ok J/\(c.fr J).au[j]?=some q/\q.kd=4/\(c.fr J).pos[j]?=some k/\b=c.nan J j
def xV(k:Nat)(u:US):Prop:= ∃J j q,c.ok J/\(c.fr J).au[j]?=some q/\q.kd=2/\c.nu J q/\(c.fr J).pos[j]?=some k/\u=c.ln J j
def fE(k:Nat):Prop:= ∃J j q p a,c.ok J/\(c.fr J).au[j]?=some q/\(c.fr J).pos[j]?=some p/\(q.kd=3\/q.kd=4\/q.kd=5)/\c.mU J j=true/\q.ah[c.bN J j]?=some a/\dx q p (c.bN J j)<=k/\k<dx q p (c.bN J j)+bP a.cp
structure gX(d:Nd)(u:US)(ins outs:List Int)(u':US):Prop where
 nd:P.nodes[u.i]?=some d
 sz:c.sz=bW d
 Gi:c.ok []
 iG: ∀j J,c.ok (j::J)->c.ok J/\ ∃q,(c.fr J).au[j]?=some q/\(q.kd=3\/q.kd=4\/q.kd=5)
 vx:c.fr []=tq d
 uF:ins.length=d.ins.length
 Cp: ∀(k:Nat) (v:Va) (n:Int),d.ins[k]?=some v->ins[k]?=some n->c.val [] k=some n/\c.rk [] k<c.eV
 cell: ∀J k v lp,c.ok J->(c.fr J).vars[k]?=some v->(c.fr J).db[k]?=some lp->(J= []->d.ins.length<=k)->HN P c J k v lp
 eq: ∀J j q p,c.ok J->(c.fr J).au[j]?=some q->(c.fr J).pos[j]?=some p->LN P step c J j q p/\c.ek J j<c.eV
 lhs: ∀J j q,c.ok J->(c.fr J).au[j]?=some q->q.kd=2->c.nu J q-> ∀(i:Nat) (x:Nm),q.lhs[i]?=some x-> ∃σ n,c.find J x=some σ/\c.val σ.1 σ.2=some n/\(c.outs J j)[i]?=some n/\c.sb σ.1 σ.2=c.ek J j/\c.ek J j<=c.mV σ
  /\(∀i' x' MZ,q.lhs[i']?=some x'->c.find J x'=some MZ->MZ=σ->i'=i)/\ ∃s j0,jB (c.fr σ.1) σ.2 s j0/\s.name=x/\(c.fr σ.1).vars[σ.2]?=some s/\Src c (c.sb σ.1 σ.2) σ.1 j0 x (some (J,j))/\(σ.1= []->d.ins.length<=σ.2)
 nx: ∀J j,c.pJ J j<=1000
 zm: ∀J,¬c.ok J->(c.fr J).vars= []/\(c.fr J).au= []
 gh: ∀(J:Path) (j:Nat) (q:ay),(c.fr J).au[j]?=some q->q.kd=2->c.sb (j::J) 0=c.ek J j/\c.val (j::J) 0=none
 lh: ∀(J:Path) (j:Nat) (q:ay),c.ok J->(c.fr J).au[j]?=some q-> ∀x∈q.lhs,∀σ,c.find J x=some σ->σ.1= []->d.ins.length<=σ.2
 KP: ∀(i:Nat) (v:Va),d.outs[i]?=some v->c.find [] v.name=some ([],d.ins.length+i)
 Jp: ∀(J:Path) (j:Nat) (q:ay) (x:Nm),c.ok J->(c.fr J).au[j]?=some q->q.kd=1->q.lhs= [x]->c.nu J q-> ∃σ s j0,c.find J x=some σ/\jB (c.fr σ.1) σ.2 s j0/\s.name=x/\(c.fr σ.1).vars[σ.2]?=some s/\Src c (c.sb σ.1 σ.2) σ.1 j0 x (some (J,j))/\(σ.1= []->d.ins.length<=σ.2)
 KQ: ∀(J:Path) (j:Nat) (q:ay),c.ok J->(c.fr J).au[j]?=some q-> ∀x∈b_ q,∃σ,c.find J x=some σ
 ah: ∀(J:Path) (j:Nat) (q:ay),c.ok J->(c.fr J).au[j]?=some q->q.kd=1\/q.kd=2->q.ah= []
 rd: ∀k,k<c.sz->(fE c k->c.rd k=cd (iM P.aI d) k)/\(¬fE c k->c.rd k=u.mem k)
 rp: ∀k,k<c.sz->(fE c k->(iM P.aI d)[k]?=some none->c.rp k=false)/\(¬(fE c k/\(iM P.aI d)[k]?=some none)->c.rp k=u.cu k)
 rs: ∀k,k<c.sz->(fE c k->(iM P.aI d)[k]?=some none->c.rs k=none)/\(¬(fE c k/\(iM P.aI d)[k]?=some none)->c.rs k=u.aj k)
 nm: ∀k,k<c.sz->(∀v,nU c k v->u'.mem k=v)/\((∀v,¬nU c k v)->u'.mem k=c.rd k)
 np: ∀k,k<c.sz->(∀v,zl c k v->u'.cu k=v)/\((∀v,¬zl c k v)->u'.cu k=c.rp k)
 ns: ∀k,k<c.sz->(∀v,xV c k v->u'.aj k=some v)/\((∀v,¬xV c k v)->u'.aj k=c.rs k)
 ui:u'.i=u.i
 wc: ∀J k v,c.ok J->(c.fr J).vars[k]?=some v->(J= []->d.ins.length<=k)->It.cell J k∈c.an/\1<=c.wt (.cell J k)/\ ∀j ML j' q,jB (c.fr J) k v j->Src c (c.sb J k) J j v.name (some (ML,j'))->(c.fr ML).au[j']?=some q->q.kd=1->1+(c.ew ML j').length<=c.wt (.cell J k)
 wq: ∀J j q,c.ok J->(c.fr J).au[j]?=some q->(q.kd=2->c.nu J q->It.call J j∈c.an/\(c.ew J j).length<=c.wt (.call J j))/\(q.kd=3\/q.kd=4\/q.kd=5->It.bN J j∈c.an/\(c.ew J j).length<=c.wt (.bN J j))/\(q.kd=4->It.lv J j∈c.an/\1<=c.wt (.lv J j))
 ws:(c.an.map c.wt).foldr (·+ ·) 0<=1000000000000
 outs:outs=(List.range d.outs.length).map λi=>c.get ([],d.ins.length+i)
end
def fT(P:Pg):Nat->US->List Int->List Int->US->Prop
 |0,_,_,_,_=>False
 |n+1,u,ins,outs,u'=> ∃c d,gX P (fT P n) c d u ins outs u'
def bz(n:Nat)(f:Nat->M):List M:=(List.range n).map f
theorem il{n:Nat}{f:Nat->M}{k:Nat}(h:k<n):(bz n f)[((k:Nat):Int).toNat*1]?=some (f k):=by simp[bz,h]
def rY(f:Nat->M)(k:Nat)(v:M)(j:Nat):M:=if j=k then v else f j
theorem mH{n:Nat}{f:Nat->M}{k:Nat}(v:M)(h:k<n):dI (bz n f) (((k:Nat):Int).toNat*1) [v]=some (bz n (rY f k v)):=by
 have e:((k:Nat):Int).toNat*1=k:=by omega
 rw[e];unfold dI;have c:Nat.ble (k+ [v].length) (bz n f).length=true:=by
  rw[Nat.ble_eq];simp[bz];omega
 rw[c];simp only[aqX]
 congr 1
 apply List.ext_getElem
 ·simp[bz];try omega
 ·intro a g d;simp only[bz,aqE,List.length_range]at d;rcases arx a k with b|b|b
  ·rw[ase (by simp[bz];omega),ase (by simp[bz];omega)];simp[bz,rY,show ¬a=k by omega]
  ·subst b;rw[ase (by simp[bz];omega),asI (by simp[bz];omega)];simp[bz,rY,asg (as8 h)]
  ·rw[asI (by simp[bz];omega)];simp[bz,asg (as8 h),rY,show ¬a=k by omega]
   congr 1
   omega
theorem pK{n:Nat}{f g:Nat->M}(h: ∀a,a<n->f a=g a):bz n f=bz n g:=by
 unfold bz;exact aq3 λa b=>h a (arU.1 b)
abbrev HO(d:Nd):List M:=[.d (.str d.name),.d (.sl (aC d.ins)),.d (.sl (aC d.outs)),.d (.sl (aC d.b.vars)),.d (.sl (d.b.au.map ay.cells)),.d (.int .i64 d.ps.1),.d (.int .i64 d.ps.2)]
abbrev oP(P:Pg)(d:Nd)(im ip iY:Nat):List M:=[.d (.sl (P.aI.map En.cells)),.d (.sl (P.nodes.map Nd.cells))]++HO d++ [.bB im 0 (bW d),.bB ip 0 (bW d),.bB iY 0 (bW d),.d (.int .i64 ((bW d:Nat):Int))]
abbrev io(f:Nat->Int)(k:Nat):M:= .d (.int .i32 (f k))
abbrev ju(f:Nat->Bool)(k:Nat):M:= .d (.bool (f k))
abbrev eG(f:Nat->Option US)(ad:Nat->Nat)(k:Nat):M:=match f k with
 |none=> .d .bQ
 |some _=> .ref (ad k) 0
inductive Bj where
 |un|me|pe|su
 |sb (k:Nat)
def iq(P:Pg):Nat->US->Nat->(Nat->Prop)->Hp->Prop
 |0,_,_,_,_=>False
 |n+1,u,iu,F,H=> ∃(d:Nd) (own:Nat->Option Bj) (im ip iY:Nat) (ad:Nat->Nat),P.nodes[u.i]?=some d/\(∀a,F a↔own a≠none)/\(∀a,F a->a<H.length)/\
   (own iu=some .un/\own im=some .me/\own ip=some .pe/\own iY=some .su)/\
   H[iu]?=some (.box (oP P d im ip iY))/\H[im]?=some (.row false 1 0 (bz (bW d) (io u.mem)))/\H[ip]?=some (.row false 1 0 (bz (bW d) (ju u.cu)))/\
   H[iY]?=some (.row false 1 0 (bz (bW d) (eG u.aj ad)))/\
   ∀k,k<bW d-> ∀u',u.aj k=some u'->iq P n u' (ad k) (λa=>own a=some (.sb k)) H
theorem iq.frame{P:Pg} : ∀{n:Nat} {u:US} {iu:Nat} {F:Nat->Prop} {H K:Hp},iq P n u iu F H->(∀a,F a->K[a]?=H[a]?)->H.length<=K.length->iq P n u iu F K
 |0,_,_,_,_,_,b,_,_=>b.elim
 |n+1,u,iu,F,H,K,b,i,f=>by
  obtain⟨d,z,j,k,l,m,o,g,p,⟨q,r,s,t⟩,A,B,C,D,v⟩:=b;refine⟨d,z,j,k,l,m,o,g,λa c=>ard (p a c) f,⟨q,r,s,t⟩,?_,?_,?_,?_,λh w x y=>(v h w x y).frame (λa c=>i a ((λe=>(g _).2 (by rw[e];simp)) c)) f⟩
  ·grind
  ·grind
  ·grind
  ·grind
theorem iq.lt{P:Pg}{n:Nat}{u:US}{iu:Nat}{F:Nat->Prop}{H:Hp}(h:iq P n u iu F H): ∀a,F a->a<H.length:=by
 cases n with
 |zero=>exact h.elim
 |succ n=>obtain⟨_,_,_,_,_,_,_,_,b,_⟩:=h;exact b
theorem iq.congr{P:Pg}{n:Nat}{u:US}{iu:Nat}{F b:Nat->Prop}{H:Hp}(h:iq P n u iu F H)(e: ∀a,F a↔b a):iq P n u iu b H:=by
 have:F=b:=funext λa=>propext (e a)
 subst this;exact h
theorem iq.up{P:Pg} : ∀{n:Nat} {u:US} {iu:Nat} {F:Nat->Prop} {H:Hp},iq P n u iu F H->iq P (n+1) u iu F H
 |0,_,_,_,_,a=>a.elim
 |n+1,u,iu,F,H,a=>by
  obtain⟨d,v,c,e,f,g,h,i,j,k,l,m,o,p,q⟩:=a;exact⟨d,v,c,e,f,g,h,i,j,k,l,m,o,p,λb r s t=>(q b r s t).up⟩
theorem zR(en:List En)(k:Int)(kids:List Xp):(wk en k kids).length=dE k:=by
 unfold wk dE;split
 ·grind
 ·grind
mutual
theorem Cq(en:List En): ∀e:Xp,(gW en e).length=xP e
 | .mk b g c d h a f=>by rw[gW,xP,aqg,zR,s8 en a]
theorem s8(en:List En): ∀l:List Xp,(jz en l).length=fQ l
 | []=>rfl
 |e::l=>by rw[jz,fQ,aqg,Cq en e,s8 en l]
end
theorem oQ(en:List En)(l:List Va):(iF en l).length=aR l:=by simp[iF,aR]
mutual
theorem HP(en:List En): ∀q:ay,(tS en q).length=qP q
 | .mk b f c h g e a d=>by rw[tS,qP];simp only[aqg,arL,Cq,s8,vy en a];omega
theorem HQ(en:List En): ∀a:aY,(Jo en a).length=fo a
 | .mk f b c d e=>by rw[Jo,fo,uG en b]
theorem vy(en:List En): ∀l:List aY,(lR en l).length=kp l
 | []=>rfl
 |a::l=>by rw[lR,kp,aqg,HQ en a,vy en l]
theorem uG(en:List En): ∀b:aW,(ku en b).length=bP b
 | .mk c a=>by rw[ku,bP,aqg,oQ,vA en a]
theorem vA(en:List En): ∀l:List ay,(mT en l).length=uD l
 | []=>rfl
 |a::l=>by rw[mT,uD,aqg,HP en a,vA en l]
end
theorem zS(en:List En)(l:List Xp):jz en l=(l.map (gW en)).flatten:=by
 induction l with
 |nil=>rfl
 |cons b l a=>rw[jz,a];rfl
theorem zT(en:List En)(l:List ay):mT en l=(l.map (tS en)).flatten:=by
 induction l with
 |nil=>rfl
 |cons b l a=>rw[mT,a];rfl
theorem zU(en:List En)(l:List aY):lR en l=(l.map λa=>ku en a.cp).flatten:=by
 induction l with
 |nil=>rfl
 |cons a l b=>rw[lR,b];cases a;rw[Jo];rfl
theorem Jq(en:List En)(e:Xp):gW en e=wk en e.kd e.kids++jz en e.kids:=by cases e;rw[gW];rfl
theorem Jr(en:List En)(q:ay):tS en q=List.replicate (ij q.kd) none++(gW en q.ex++jz en q.args)++lR en q.ah:=by cases q;rw[tS];rfl
theorem Js(en:List En)(b:aW):ku en b=iF en b.vars++mT en b.au:=by cases b;rw[ku];rfl
theorem Cr(en:List En)(a b:List Va):iF en (a++b)=iF en a++iF en b:=by simp[iF]
def lj(l:List (Option Int))(a fr to:Nat)(m:Nat->Int)(k:Nat):Int:=if a<=k/\k<a+l.length/\fr<=k/\k<to then cd l (k-a)else m k
def px(l:List (Option Int))(a fr to:Nat)(m:Nat->Bool)(k:Nat):Bool:=if(a<=k/\k<a+l.length/\fr<=k/\k<to)/\l[k-a]?=some none then false else m k
def py(l:List (Option Int))(a fr to:Nat)(m:Nat->Option US)(k:Nat):Option US:=if(a<=k/\k<a+l.length/\fr<=k/\k<to)/\l[k-a]?=some none then none else m k
theorem Gj(a fr b:Nat)(m:Nat->Int):lj [] a fr b m=m:=by funext c;unfold lj;rw[aqo (by simp;omega)]
theorem Gk(a fr b:Nat)(m:Nat->Bool):px [] a fr b m=m:=by funext c;unfold px;rw[aqo (by simp)]
theorem Gl(a fr b:Nat)(m:Nat->Option US):py [] a fr b m=m:=by funext c;unfold py;rw[aqo (by simp)]
theorem lL{a b:List (Option Int)}{i:Nat} :(a++b)[i]?=if i<a.length then a[i]? else b[i-a.length]?:=by grind
theorem Gm(c e:List (Option Int))(a fr d:Nat)(m:Nat->Int):lj (c++e) a fr d m=lj e (a+c.length) fr d (lj c a fr d m):=by
 funext b
 unfold lj;simp only[aqg];by_cases f:a+c.length<=b/\b<a+c.length+e.length/\fr<=b/\b<d
 ·rw[aqy (by omega),aqy f];unfold cd;rw[lL,aqo (by omega),show b-a-c.length=b-(a+c.length) by omega]
 ·rw[aqo f];by_cases g:a<=b/\b<a+c.length/\fr<=b/\b<d
  ·rw[aqy (by omega),aqy g];unfold cd;rw[lL,aqy (by omega)]
  ·grind
theorem Gn(b e:List (Option Int))(a fr d:Nat)(m:Nat->Bool):px (b++e) a fr d m=px e (a+b.length) fr d (px b a fr d m):=by
 funext c
 unfold px;simp only[aqg,lL];by_cases f:a+b.length<=c/\c<a+b.length+e.length/\fr<=c/\c<d
 ·grind
 ·grind
theorem Gp(b e:List (Option Int))(a fr d:Nat)(m:Nat->Option US):py (b++e) a fr d m=py e (a+b.length) fr d (py b a fr d m):=by
 funext c
 unfold py;simp only[aqg,lL];by_cases f:a+b.length<=c/\c<a+b.length+e.length/\fr<=c/\c<d
 ·grind
 ·grind
structure Kp where
 m:Nat->Int
 p:Nat->Bool
 s:Nat->Option US
def Kp.fb(x:Kp)(l:List (Option Int))(a fr to:Nat):Kp:=⟨lj l a fr to x.m,px l a fr to x.p,py l a fr to x.s⟩
theorem Kp.uH(x:Kp)(a fr b:Nat):x.fb [] a fr b=x:=by unfold Kp.fb;rw[Gj,Gk,Gl]
theorem Kp.qa(x:Kp)(b d:List (Option Int))(a fr c:Nat):x.fb (b++d) a fr c=(x.fb b a fr c).fb d (a+b.length) fr c:=by unfold Kp.fb;rw[Gm,Gn,Gp]
theorem wl(v:Va)(l:List Va):aR (v::l)=(if v.last then 1 else 0)+aR l:=by
 unfold aR;rw[List.filter_cons];split
 ·simp;omega
 ·simp
theorem fq{l:List Va} : ∀{a k q:Nat},(cm l a)[k]?=some (some q)->a<=q/\q<a+aR l:=by
 induction l with
 |nil=>intro a k q b;simp[cm]at b
 |cons v l c=>
  intro a k q b;rw[wl];unfold cm at b;split at b
  ·grind
  ·grind
theorem Gq{l:List ay} : ∀{a j p:Nat} {q:ay},(fy l a)[j]?=some p->l[j]?=some q->a<=p/\p+qP q<=a+aP (l.map qP):=by
 induction l with
 |nil=>intro a j p q b;simp[fy]at b
 |cons e l d=>
  intro a j p q b c;rw[aqN,jK];cases j with
  |zero=>
   simp only[fy,List.getElem?_cons_zero]at b c;injection b with b
   injection c with c
   subst b;subst c;omega
  |succ j=>
   have:=d (a:=a+qP e) (by simpa [fy] using b) (by simpa using c);omega
theorem vB(l:List ay): ∀a,(fy l a).length=l.length:=by
 induction l with
 |nil=>intro a;rfl
 |cons e l b=>intro a;simp[fy,b]
theorem ey(l:List Va): ∀a,(cm l a).length=l.length:=by
 induction l with
 |nil=>intro a;rfl
 |cons e l b=>intro a;unfold cm;split<;>simp[b]
theorem zV{q:ay}{p i:Nat}{a:aY}(h:q.ah[i]?=some a)(f:q.kd=3\/q.kd=4\/q.kd=5)(g:q.kd=4->xP q.ex=0)(j:q.args= []):p+ij q.kd+xP q.ex<=dx q p i/\dx q p i+bP a.cp<=p+qP q:=by
 have d:i<q.ah.length:=by
  grind
 have k:=fD fo d;rw[aqi d]at h;injection h with h
 rw[h]at k;have l:=mS a;have c:=jt q;rw[j]at c;simp only[arf]at c;unfold dx gr;rcases f with b|b|b
 ·rw[b]at c⊢;have e:ij 3=0:=by decide
  rw[aqo (by decide)];omega
 ·have:=g b;rw[b]at c⊢;have e:ij 4=1:=by decide
  rw[aqy W];omega
 ·rw[b]at c⊢;have e:ij 5=0:=by decide
  rw[aqo (by decide)];omega
end Go.Sm
namespace Go.Mt
end Go.Mt
namespace Go.Sm
open Go.Mt
theorem Cs(k:Int):(k=9/\dE k=1)\/(k=10/\dE k=1)\/(k=11/\dE k=1)\/(k≠9/\k≠10/\k≠11/\dE k=0):=by unfold dE;split<;>omega
theorem Ct(k:Int):(k=2/\ij k=1)\/(k=4/\ij k=1)\/(k≠2/\k≠4/\ij k=0):=by unfold ij;split<;>omega
theorem je.rZ{e k:Xp}(h:je e)(a:k∈e.kids):je k:=by cases h with|mk c d f b=>exact b k a
theorem je.kids{e:Xp}(h:je e):e.kids.length<=1000000:=by cases h with|mk b a c d=>exact a
theorem je.fA{e:Xp}(h:je e)(b:e.kd=9): ∃a l,e.kids=a::l:=by
 cases h with|mk c d f g=>exact List.exists_cons_of_ne_nil (c b)
theorem je.names{e:Xp}(h:je e):e.names.length<=1000000:=by cases h with|mk b c a d=>exact a
theorem bw(l:List Va):(aC l).length=l.length:=by simp[aC]
theorem dM{l:List Va}{i:Nat}(h:i<l.length):(aC l)[(i:Int).toNat]?=some l[i].cells:=by simp[aC,h]
theorem cc(l:List Va): ∀r∈aC l,r.length=15:=by intro r a;obtain⟨_,_,rfl⟩:=aqM.1 a;exact Va.len _
theorem Va.aA(v:Va):v.cells= [.str v.name,.int .u8 v.tk,.str v.tn,.sl (rX v.clock),.bool v.last,.int .u8 v.first.kd,.int .u8 v.first.op,.int .i32 v.first.num,.str v.first.nm,.sl (dq v.first.names),.sl (v.first.kids.map Xp.cells),.int .i64 v.first.ps.1,.int .i64 v.first.ps.2,.int .i64 v.ps.1,.int .i64 v.ps.2]:=by unfold Va.cells;rw[v.first.aA];rfl
end Go.Sm
namespace Go.Proofs.Sz
open Go.Mt Go.Sm Go.Proofs
instance:br Tryz.prog 85:=cK (by kernel_rfl)
instance:br Tryz.prog 55:=cK (by kernel_rfl)
instance:br Tryz.prog 40:=cK (by kernel_rfl)
theorem jo(e:Xp)(p:je e)(j:xP e<=1000000000):PT Tryz.prog 85 [.agg e.cells] (·= [iN (xP e)]):=by
 have k:=DZ e;have q: ∀c∈e.kids,PT Tryz.prog 85 [.agg c.cells] (·= [iN (xP c)]):= λc d=>
  have:=Xp.Bf d
  jo c (p.rZ d) (by have:=jn (aqU (f:=xP) d);omega)
 have l:=e.aA;have m:=Cs e.kd;have t:=p.kids;rw[l,k];rw[k]at j;generalize e.kids=a at q j k l t⊢;generalize dE e.kd=g at m j⊢;generalize e.kd=u at m l⊢;generalize e.op=v;generalize e.num=s;generalize e.nm=i;generalize e.names=E;generalize e.ps=w;refine MP (CT.ob Tryz.func85 W Tryz.ntmps85 W λF G=> ?_);refine tC [2,2] W<|TC.LK ⟨[nN 3 g,nD 1 (.aZ (bO u v s i E (a.map Xp.cells) w) 0)],[],[]⟩ ?_ ?_
 ·rcases m with⟨rfl,rfl⟩|⟨rfl,rfl⟩|⟨rfl,rfl⟩|⟨x,y,z,rfl⟩
  ·refine tO [2,1,2,24] W<|ax W W W (by omega)<|tL [] W<|down W W
  ·refine tO [2,1,2,24] W<|ax W W W (by omega)<|tL [] W<|down W W
  ·refine tO [2,1,2,24] W<|ax W W W (by omega)<|tL [] W<|down W W
  ·have A:=aqV.2 x;refine tO [2,12] W<|aN A W W W W<|tR [16] W ?_
   first|refine aE W W ?_|(refine aB W ?_;(refine aN (aqV.2 y) W W W W ?_))
   refine tR [21] W ?_
   first|refine aE W W ?_|(refine aB W ?_;(refine aN (aqV.2 z) W W W W ?_))
   refine tL [0] W<|down W W
 refine tO [2,27] W<|bH W W W ?_;rw[aqE];refine tL [] W<|Ou [nN 24 0,nN 23 a.length,nD 22 (.sl (a.map Xp.cells)),nN 3 (g+aP ((a.take 0).map xP))] [] W W<|tC [3] W<|TC.lp (λc i=> ∃(b:Nat) (r:List (Nat×List M)),i=⟨[nN 24 b,nN 23 a.length,nD 22 (.sl (a.map Xp.cells)),nN 3 (g+aP ((a.take b).map xP))],r,[]⟩/\b<=a.length/\c=a.length-b) a.length _
  ⟨0,_,rfl,by omega,rfl⟩ W ?_
 rintro c i ⟨b,r,rfl,H,rfl⟩;refine tC [2] W<|TC.cond W (λB=> ?_) (λB=> ?_)
 ·have h:b<a.length:=by grind
  have n:(a.map Xp.cells)[((b:Nat):Int).toNat]?=some a[b].cells:=by simp[h]
  have d:=q _ (aqz h);have C:aP ((a.take (b+1)).map xP)=aP ((a.take b).map xP)+xP a[b]:=by rw[aqu h,aqO,nT];simp[aP]
  have I:aP ((a.take (b+1)).map xP)<=aP (a.map xP):=by have:=tP (a.map xP) (b+1);rw[<-asN]at this;exact this
  generalize a[b]=o at n d C;rw[o.aA]at n d;have D:((g+aP ((a.take b).map xP):Nat):Int)+((xP o:Nat):Int)=((g+aP ((a.take (b+1)).map xP):Nat):Int):=by omega
  refine tO [3,2,30] W<|aK W W W (aqe b) n W<|tR [2,34] W<|aJ d W W<|tR [35] W<|ax W W W (by omega) ?_;rw[D];refine tR [2,36] W<|ax W W W (by omega)<|tL [] W<|again (k':=a.length-(b+1)) (by omega) ⟨b+1,_,rfl,by omega,rfl⟩ W W
 ·refine TC.exit ?_;have h:b=a.length:=by grind
  subst h;rw[aqQ];refine tC [2] W<|TC.ret ⟨_,rfl,[_],rfl,rfl⟩
termination_by SizeOf.sizeOf e
end Go.Proofs.Sz
namespace Go.Sm
theorem qQ{s:Type}{l:List s}(h:l.length=16): ∃a b c d e f g i j k m n o p q r,l= [a,b,c,d,e,f,g,i,j,k,m,n,o,p,q,r]:=by
 match l,h with
 | [a,b,c,d,e,f,g,i,j,k,m,n,o,p,q,r],_=>exact⟨_,_,_,_,_,_,_,_,_,_,_,_,_,_,_,_,rfl⟩
end Go.Sm
namespace Go.Proofs.Sz
open Go.Mt Go.Sm Go.Proofs
theorem Bk(q:ay)(y:je q.ex)(K:q.args.length<=1000000)(z: ∀e∈q.args,je e)(l:qP q<=1000000000)(L:q.ah.length<=1000)(A: ∀x∈q.ah,PT Tryz.prog 40 [.agg x.cp.cells] (·= [iN (bP x.cp)])):PT Tryz.prog 55 [.agg q.cells] (·= [iN (qP q)]):=by
 have B:=jt q;have t:=Ct q.kd;have w:=jo q.ex y (by omega);have C: ∀e∈q.args,PT Tryz.prog 85 [.agg e.cells] (·= [iN (xP e)]):= λe D=>jo e (z e D) (by have:=jn (aqU (f:=xP) D);omega)
 have h:=q.aA;rw[h,B];rw[B]at l;generalize ij q.kd=p at t l⊢;generalize q.kd=E at t h⊢;generalize q.lhs=H at h⊢;generalize q.f=F at h⊢;generalize q.has=I at h⊢;generalize q.ps=G at h⊢;generalize q.args=c at z K C l h⊢;generalize q.ah=b at L A l h⊢;generalize q.ex=d at y w l h⊢;rw[d.aA]at w h⊢;refine MP (CT.ob Tryz.func55 W Tryz.ntmps55 W λU V=> ?_);refine tO [2,2,14] W<|aJ w W W<|tR [2,17] W<|bH W W W ?_;rw[aqE];refine tL [] W ?_;obtain⟨r,J⟩: ∃r,r=qN E H F (c.map Xp.cells) I (bO d.kd d.op d.num d.nm d.names (d.kids.map Xp.cells) d.ps) (b.map aY.cells) G:=⟨_,rfl⟩;refine Ou [nN 14 0,nN 13 c.length,nD 12 (.sl (c.map Xp.cells)),nN 3 (xP d+aP ((c.take 0).map xP)),nD 1 (.aZ r 0)] [] (kc W (kc W (kc W (kc W (kc (by rw[J];rfl) W))))) W<|tC [3] W<|TC.lp (λn o=> ∃(a:Nat) (m:List (Nat×List M)),o=⟨[nN 14 a,nN 13 c.length,nD 12 (.sl (c.map Xp.cells)),nN 3 (xP d+aP ((c.take a).map xP)),nD 1 (.aZ r 0)],m,[]⟩/\a<=c.length/\n=c.length-a) c.length _
  ⟨0,_,rfl,by omega,rfl⟩ W ?_
 rintro n o ⟨a,m,rfl,N,rfl⟩;refine tC [2] W<|TC.cond W (λu=> ?_) (λu=> ?_)
 ·have g:a<c.length:=by grind
  have j:(c.map Xp.cells)[((a:Nat):Int).toNat]?=some c[a].cells:=by simp[g]
  have k:=C _ (aqz g);obtain⟨s,S⟩:=fD xP g;generalize c[a]=q at j k s;rw[q.aA]at j k;have v:((xP d+aP ((c.take a).map xP):Nat):Int)+((xP q:Nat):Int)=((xP d+aP ((c.take (a+1)).map xP):Nat):Int):=by omega
  refine tO [3,2,20] W<|aK W W W (aqe a) j W<|tR [2,24] W<|aJ k W W<|tR [25] W<|ax W W W (by omega) ?_;rw[v];refine tR [2,26] W<|ax W W W (by omega)<|tL [] W<|again (k':=c.length-(a+1)) (by omega) ⟨a+1,_,rfl,by omega,rfl⟩ W W
 refine TC.exit ?_;have g:a=c.length:=by grind
 subst g;rw[aqQ];obtain⟨i,O⟩: ∃i,i=xP d+aP (c.map xP):=⟨_,rfl⟩;rw[<-O]at l⊢;subst J;refine tC [] W<|TC.LK ⟨[nN 3 (i+p),nD 1 (.aZ (qN E H F (c.map Xp.cells) I (bO d.kd d.op d.num d.nm d.names (d.kids.map Xp.cells) d.ps) (b.map aY.cells) G) 0)],m,[]⟩ ?_ ?_
 ·rcases t with⟨rfl,rfl⟩|⟨rfl,rfl⟩|⟨P,Q,rfl⟩
  ·refine tO [2,1,2,36] W<|ax W W W (by omega)<|tL [] W<|down W W
  ·refine tO [2,1,2,36] W<|ax W W W (by omega)<|tL [] W<|down W W
  ·have R:=aqV.2 P;refine tO [2,29] W<|aN R W W W W<|tR [33] W ?_
   first|refine aE W W ?_|(refine aB W ?_;(refine aN (aqV.2 Q) W W W W ?_))
   refine tL [0] W<|down W W
 have T:(b.map aY.cells).length=b.length:=by simp
 refine tO [2,39] W<|bH W W W ?_;rw[T];refine tL [] W<|Ou [nN 36 0,nN 35 b.length,nD 34 (.sl (b.map aY.cells)),nN 3 (i+p+aP ((b.take 0).map fo))] [] W W<|tC [3] W<|TC.lp (λn o=> ∃(a:Nat) (m:List (Nat×List M)),o=⟨[nN 36 a,nN 35 b.length,nD 34 (.sl (b.map aY.cells)),nN 3 (i+p+aP ((b.take a).map fo))],m,[]⟩/\a<=b.length/\n=b.length-a) b.length _
  ⟨0,_,rfl,by omega,rfl⟩ W ?_
 rintro n o ⟨a,m,rfl,N,rfl⟩;refine tC [2] W<|TC.cond W (λu=> ?_) (λu=> ?_)
 ·have g:a<b.length:=by grind
  have j:(b.map aY.cells)[((a:Nat):Int).toNat]?=some b[a].cells:=by simp[g]
  have k:=A _ (aqz g);obtain⟨s,S⟩:=fD fo g;generalize b[a]=q at j k s;rw[mS]at s;rw[aW.aA]at k;rw[aY.aA]at j;have v:((i+p+aP ((b.take a).map fo):Nat):Int)+((bP q.cp:Nat):Int)=((i+p+aP ((b.take (a+1)).map fo):Nat):Int):=by omega
  refine tO [3,2,42] W<|aK W W W (aqe a) j W<|tR [2,47] W<|aJ k W W<|tR [48] W<|ax W W W (by omega) ?_;rw[v];refine tR [2,49] W<|ax W W W (by omega)<|tL [] W<|again (k':=b.length-(a+1)) (by omega) ⟨a+1,_,rfl,by omega,rfl⟩ W W
 ·refine TC.exit ?_;have g:a=b.length:=by grind
  subst g;rw[aqQ];refine tC [2] W<|TC.ret ⟨_,rfl,[_],rfl,rfl⟩
theorem kY(b:aW)(x:tQ b):bP b<=1000000000->PT Tryz.prog 40 [.agg b.cells] (·= [iN (bP b)]):=by
 induction x with
 | @mk c d I J K y o L N z=>
  intro A;have s:=vu (.mk c d);simp only[aW.vars,aW.au]at s;have B: ∀e∈d,PT Tryz.prog 55 [.agg e.cells] (·= [iN (qP e)]):= λe i=>by
   have O:=jn (aqU (f:=qP) i);refine Bk e (o e i).1 (o e i).2.1 (o e i).2.2 (by omega) (y e i) λw t=>z e i w t ?_
   have C:=jn (aqU (f:=fo) t);have P:=jt e;rw[mS]at C;omega
  rw[s]at A⊢;rw[aW.aA];simp only[aW.vars,aW.au];refine MP (CT.ob Tryz.func40 W Tryz.ntmps40 W λQ R=> ?_);refine tO [2,2,2,14] W<|bH W W W ?_;rw[bw];refine tL [] W<|Ou [nN 11 0,nN 10 c.length,nD 9 (.sl (aC c)),nN 3 (aR (c.take 0)),nD 1 (.aZ [.sl (aC c),.sl (d.map ay.cells)] 0)] [] W W<|tC [3] W<|TC.lp (λk l=> ∃(a:Nat) (m:List (Nat×List M)),l=⟨[nN 11 a,nN 10 c.length,nD 9 (.sl (aC c)),nN 3 (aR (c.take a)),nD 1 (.aZ [.sl (aC c),.sl (d.map ay.cells)] 0)],m,[]⟩/\a<=c.length/\k=c.length-a) c.length _
   ⟨0,_,rfl,by omega,rfl⟩ W ?_
  rintro k l ⟨a,m,rfl,D,rfl⟩;refine tC [2] W<|TC.cond W (λp=> ?_) (λp=> ?_)
  ·have g:a<c.length:=by grind
   have h:=dM g;have u:=aqu g;have G:=lm c (a+1);generalize c[a]=n at h u;have j:=pw (c.take a) n;rw[<-u]at j;rw[n.aA]at h;refine tC [3] W ?_;cases v:n.last with
   |true=>
    rw[v]at h j;simp only[arR]at j;have q:((aR (c.take a):Nat):Int)+1=((aR (c.take (a+1)):Nat):Int):=by omega
    refine tO [2,17] W<|aK W W W (aqe a) h W<|tR [2,1,2,22] W<|ax W W W (by omega) ?_;rw[q];refine tR [2,23] W<|ax W W W (by omega)<|tL [] W<|again (k':=c.length-(a+1)) (by omega) ⟨a+1,_,rfl,by omega,rfl⟩ W W
   |false=>
    rw[v]at h j;simp only[are,arK,arV]at j;refine tO [2,17] W<|aK W W W (aqe a) h W<|tR [2,0,2,23] W<|ax W W W (by omega)<|tL [] W<|again (k':=c.length-(a+1)) (by omega) ⟨a+1,_,rfl,by omega,rfl⟩ W (kc W (kc W (kc W (kc (by rw[j];rfl) W))))
  refine TC.exit ?_;have g:a=c.length:=by grind
  subst g;rw[aqQ];have H:(d.map ay.cells).length=d.length:=by simp
  refine tO [2,26] W<|bH W W W ?_;rw[H];refine tL [] W<|Ou [nN 23 0,nN 22 d.length,nD 21 (.sl (d.map ay.cells)),nN 3 (aR c+aP ((d.take 0).map qP))] [] W W<|tC [3] W<|TC.lp (λk l=> ∃(a:Nat) (m:List (Nat×List M)),l=⟨[nN 23 a,nN 22 d.length,nD 21 (.sl (d.map ay.cells)),nN 3 (aR c+aP ((d.take a).map qP))],m,[]⟩/\a<=d.length/\k=d.length-a) d.length _
   ⟨0,_,rfl,by omega,rfl⟩ W ?_
  rintro k l ⟨a,m,rfl,D,rfl⟩;refine tC [2] W<|TC.cond W (λp=> ?_) (λp=> ?_)
  ·have g:a<d.length:=by grind
   have h:(d.map ay.cells)[((a:Nat):Int).toNat]?=some d[a].cells:=by simp[g]
   have r:=B _ (aqz g);obtain⟨E,G⟩:=fD qP g;generalize d[a]=e at h r E;obtain⟨S,T,U,V,X,Y,Z,a7,a8,a9,b0,b1,b2,b3,b4,b5,F⟩:=qQ e.len;rw[F]at h r;have q:((aR c+aP ((d.take a).map qP):Nat):Int)+((qP e:Nat):Int)=((aR c+aP ((d.take (a+1)).map qP):Nat):Int):=by omega
   refine tO [3,2,29] W<|aK W W W (aqe a) h W<|tR [2,33] W<|aJ r W W<|tR [34] W<|ax W W W (by omega) ?_;rw[q];refine tR [2,35] W<|ax W W W (by omega)<|tL [] W<|again (k':=d.length-(a+1)) (by omega) ⟨a+1,_,rfl,by omega,rfl⟩ W W
  ·refine TC.exit ?_;have g:a=d.length:=by grind
   subst g;rw[aqQ];refine tC [2] W<|TC.ret ⟨_,rfl,[_],rfl,rfl⟩
end Go.Proofs.Sz
namespace Go.Sm
open Go.Mt
def qR(o:Option Nat):Int:=match o with
 |some i=>(i:Int)
 |none=> -1
theorem qb{b:Type}{l:List b}{p:b->Bool}{i:Nat}(hi:i<l.length)(h:p l[i]=true)(d: ∀(a:Nat) (c:a<l.length),a<i->p l[a]=false):qR (l.findIdx? p)=(i:Int):=by
 have:l.findIdx? p=some i:=by
  rw[aq2];exact⟨hi,h,λa c=>by grind⟩
 rw[this];rfl
theorem oh{b:Type}{l:List b}{p:b->Bool}(e: ∀(a:Nat) (c:a<l.length),p l[a]=false):qR (l.findIdx? p)= -1:=by
 have:l.findIdx? p=none:=by
  rw[arB];intro d f;obtain⟨a,c,rfl⟩:=List.getElem_of_mem f;exact e a c
 rw[this];rfl
theorem qc(l:List Nm)(x:Nm):kB l x=qR (l.findIdx? λy=>decide (y=x)):=rfl
theorem HR(l:List Nm)(x:Nm): -1<=kB l x/\kB l x<l.length:=by
 rw[qc];cases a:l.findIdx? λb=>decide (b=x)with
 |none=>simp only[qR];omega
 |some c=>rw[aq2]at a;obtain⟨d,_⟩:=a;simp only[qR];omega
theorem HS(l:List Nm)(x:Nm):lJ l x=decide (kB l x>=0):=by
 rw[qc];cases a:l.findIdx? λb=>decide (b=x)with
 |none=>
  rw[arB]at a;have:lJ l x=false:=by
   rw[<-arp];intro e;have:=a _ (og.1 e);simp at this
  rw[this];simp[qR]
 |some c=>
  rw[aq2]at a;obtain⟨d,f,_⟩:=a;have:lJ l x=true:=og.2 (by grind);rw[this];simp[qR]
theorem Bl{n:Int}(h: -2147483648<=n/\n<=2147483647):IntKind.i32.wrap n=n:=by
 have:IntKind.i32.wrap n=if n%4294967296>=2147483648 then n%4294967296-4294967296 else n%4294967296:=by
  simp[IntKind.wrap,IntKind.bits,IntKind.signed]
 rw[this];split<;>omega
end Go.Sm
namespace Go.Proofs.Sz
open Go.Mt Go.Sm Go.Proofs
theorem rE(l:List Nd)(e:Nat)[br Tryz.prog e](h:List D)(p:Nd->Bool)(u:l.length<=1000000)(s: ∀j∈l,PT Tryz.prog e (.agg j.cells::h) (·= [.bool (p j)])):PT Tryz.prog 38 [.sl (l.map Nd.cells),.fn e h] (·= [.int .i64 (qR (l.findIdx? p))]):=by
 refine MP (CT.ob Tryz.func38 W Tryz.ntmps38 W λv w=> ?_);refine tO [2,2,11] W<|bH W W W ?_;rw[aqE];refine tL [3] W<|TC.lp (λk m=> ∃a:Nat,m=⟨[nI 8 a,nI 7 (l.length:Nat),nD 0 (.sl (l.map Nd.cells)),nD 1 (.fn e h)],[],[]⟩/\a<=l.length/\k=l.length-a/\(∀(c:Nat) (d:c<l.length),c<a->p l[c]=false)) l.length _
  ⟨0,rfl,by omega,rfl,by grind⟩ W ?_
 rintro k m ⟨a,rfl,x,rfl,n⟩;refine tC [2] W<|TC.cond W (λt=> ?_) (λt=> ?_)
 ·have f:a<l.length:=by grind
  have o:(l.map Nd.cells)[((a:Nat):Int).toNat]?=some l[a].cells:=by simp[f]
  have i:=s _ (aqz f);obtain⟨b,q⟩: ∃b,b=p l[a]:=⟨_,rfl⟩;rw[<-q]at i;unfold Nd.cells at o i;refine tO [3,2,2,18] W<|aK W W W (aqe a) o W<|tR [20] W<|uv i W W W<|tL [] W<|TC.cond W (λr=> ?_) (λr=> ?_)
  ·refine tC [2] W<|TC.ret ⟨_,rfl,[_],rfl,by rw[qb f (q.symm.trans r) (λc d g=>n c d g)]⟩
  ·refine tO [2,22] W<|ax W W W (by omega)<|tL [] W<|again (k':=l.length-(a+1)) (by omega) ⟨a+1,rfl,by omega,rfl,?_⟩ W W;intro c d g;rcases aq0.1 g with y|rfl
   ·grind
   ·grind
 ·refine TC.exit ?_;have f:a=l.length:=by grind
  refine tC [2] W<|TC.ret ⟨_,rfl,[_],rfl,by rw[oh (λc d=>n c d (by omega))]⟩
theorem lS(l:List En)(e:Nat)[br Tryz.prog e](h:List D)(p:En->Bool)(u:l.length<=1000000)(s: ∀j∈l,PT Tryz.prog e (.agg j.cells::h) (·= [.bool (p j)])):PT Tryz.prog 78 [.sl (l.map En.cells),.fn e h] (·= [.int .i64 (qR (l.findIdx? p))]):=by
 refine MP (CT.ob Tryz.func78 W Tryz.ntmps78 W λv w=> ?_);refine tO [2,2,11] W<|bH W W W ?_;rw[aqE];refine tL [3] W<|TC.lp (λk m=> ∃a:Nat,m=⟨[nI 8 a,nI 7 (l.length:Nat),nD 0 (.sl (l.map En.cells)),nD 1 (.fn e h)],[],[]⟩/\a<=l.length/\k=l.length-a/\(∀(c:Nat) (d:c<l.length),c<a->p l[c]=false)) l.length _
  ⟨0,rfl,by omega,rfl,by grind⟩ W ?_
 rintro k m ⟨a,rfl,x,rfl,n⟩;refine tC [2] W<|TC.cond W (λt=> ?_) (λt=> ?_)
 ·have f:a<l.length:=by grind
  have o:(l.map En.cells)[((a:Nat):Int).toNat]?=some l[a].cells:=by simp[f]
  have i:=s _ (aqz f);obtain⟨b,q⟩: ∃b,b=p l[a]:=⟨_,rfl⟩;rw[<-q]at i;unfold En.cells at o i;refine tO [3,2,2,18] W<|aK W W W (aqe a) o W<|tR [20] W<|uv i W W W<|tL [] W<|TC.cond W (λr=> ?_) (λr=> ?_)
  ·refine tC [2] W<|TC.ret ⟨_,rfl,[_],rfl,by rw[qb f (q.symm.trans r) (λc d g=>n c d g)]⟩
  ·refine tO [2,22] W<|ax W W W (by omega)<|tL [] W<|again (k':=l.length-(a+1)) (by omega) ⟨a+1,rfl,by omega,rfl,?_⟩ W W;intro c d g;rcases aq0.1 g with y|rfl
   ·grind
   ·grind
 ·refine TC.exit ?_;have f:a=l.length:=by grind
  refine tC [2] W<|TC.ret ⟨_,rfl,[_],rfl,by rw[oh (λc d=>n c d (by omega))]⟩
theorem r_(l:List aY)(e:Nat)[br Tryz.prog e](h:List D)(p:aY->Bool)(u:l.length<=1000000)(s: ∀j∈l,PT Tryz.prog e (.agg j.cells::h) (·= [.bool (p j)])):PT Tryz.prog 129 [.sl (l.map aY.cells),.fn e h] (·= [.int .i64 (qR (l.findIdx? p))]):=by
 refine MP (CT.ob Tryz.func129 W Tryz.ntmps129 W λv w=> ?_);refine tO [2,2,11] W<|bH W W W ?_;rw[aqE];refine tL [3] W<|TC.lp (λk m=> ∃a:Nat,m=⟨[nI 8 a,nI 7 (l.length:Nat),nD 0 (.sl (l.map aY.cells)),nD 1 (.fn e h)],[],[]⟩/\a<=l.length/\k=l.length-a/\(∀(c:Nat) (d:c<l.length),c<a->p l[c]=false)) l.length _
  ⟨0,rfl,by omega,rfl,by grind⟩ W ?_
 rintro k m ⟨a,rfl,x,rfl,n⟩;refine tC [2] W<|TC.cond W (λt=> ?_) (λt=> ?_)
 ·have f:a<l.length:=by grind
  have o:(l.map aY.cells)[((a:Nat):Int).toNat]?=some l[a].cells:=by simp[f]
  have i:=s _ (aqz f);obtain⟨b,q⟩: ∃b,b=p l[a]:=⟨_,rfl⟩;rw[<-q]at i;rw[aY.aA]at o i;refine tO [3,2,2,18] W<|aK W W W (aqe a) o W<|tR [20] W<|uv i W W W<|tL [] W<|TC.cond W (λr=> ?_) (λr=> ?_)
  ·refine tC [2] W<|TC.ret ⟨_,rfl,[_],rfl,by rw[qb f (q.symm.trans r) (λc d g=>n c d g)]⟩
  ·refine tO [2,22] W<|ax W W W (by omega)<|tL [] W<|again (k':=l.length-(a+1)) (by omega) ⟨a+1,rfl,by omega,rfl,?_⟩ W W;intro c d g;rcases aq0.1 g with y|rfl
   ·grind
   ·grind
 ·refine TC.exit ?_;have f:a=l.length:=by grind
  refine tC [2] W<|TC.ret ⟨_,rfl,[_],rfl,by rw[oh (λc d=>n c d (by omega))]⟩
theorem sc(l:List Va)(e:Nat)[br Tryz.prog e](h:List D)(p:Va->Bool)(u:l.length<=1000000)(s: ∀j∈l,PT Tryz.prog e (.agg j.cells::h) (·= [.bool (p j)])):PT Tryz.prog 137 [.sl (l.map Va.cells),.fn e h] (·= [.int .i64 (qR (l.findIdx? p))]):=by
 refine MP (CT.ob Tryz.func137 W Tryz.ntmps137 W λv w=> ?_);refine tO [2,2,11] W<|bH W W W ?_;rw[aqE];refine tL [3] W<|TC.lp (λk m=> ∃a:Nat,m=⟨[nI 8 a,nI 7 (l.length:Nat),nD 0 (.sl (l.map Va.cells)),nD 1 (.fn e h)],[],[]⟩/\a<=l.length/\k=l.length-a/\(∀(c:Nat) (d:c<l.length),c<a->p l[c]=false)) l.length _
  ⟨0,rfl,by omega,rfl,by grind⟩ W ?_
 rintro k m ⟨a,rfl,x,rfl,n⟩;refine tC [2] W<|TC.cond W (λt=> ?_) (λt=> ?_)
 ·have f:a<l.length:=by grind
  have o:(l.map Va.cells)[((a:Nat):Int).toNat]?=some l[a].cells:=by simp[f]
  have i:=s _ (aqz f);obtain⟨b,q⟩: ∃b,b=p l[a]:=⟨_,rfl⟩;rw[<-q]at i;rw[Va.aA]at o i;refine tO [3,2,2,18] W<|aK W W W (aqe a) o W<|tR [20] W<|uv i W W W<|tL [] W<|TC.cond W (λr=> ?_) (λr=> ?_)
  ·refine tC [2] W<|TC.ret ⟨_,rfl,[_],rfl,by rw[qb f (q.symm.trans r) (λc d g=>n c d g)]⟩
  ·refine tO [2,22] W<|ax W W W (by omega)<|tL [] W<|again (k':=l.length-(a+1)) (by omega) ⟨a+1,rfl,by omega,rfl,?_⟩ W W;intro c d g;rcases aq0.1 g with y|rfl
   ·grind
   ·grind
 ·refine TC.exit ?_;have f:a=l.length:=by grind
  refine tC [2] W<|TC.ret ⟨_,rfl,[_],rfl,by rw[oh (λc d=>n c d (by omega))]⟩
theorem zn(d:Nd)(x:Nm):PT Tryz.prog 39 [.agg d.cells,.aZ [.str x] 0] (·= [.bool (decide (d.name=x))]):=by
 unfold Nd.cells;refine MP (CT.ob Tryz.func39 W Tryz.ntmps39 W λa b=> ?_);refine tC [2,2] W<|TC.ret ⟨_,rfl,[_],rfl,rfl⟩
theorem uI(P:Pg)(x:Nm)(a:P.nodes.length<=1000000):PT Tryz.prog 25 [.agg P.cells,.str x] (·= [.int .i64 (qR (lK P.nodes x))]):=by
 refine MP (CT.ob Tryz.func25 W Tryz.ntmps25 W λb c=> ?_);refine tO [2,2,12] W<|aJ (rE P.nodes 39 [.aZ [.str x] 0] (λd=>decide (d.name=x)) a (λd _=>zn d x)) W W<|tL [] W<|TC.ret ⟨_,rfl,[_],rfl,rfl⟩
theorem zo(d:En)(x:Nm):PT Tryz.prog 79 [.agg d.cells,.aZ [.str x] 0] (·= [.bool (decide (d.name=x))]):=by
 unfold En.cells;refine MP (CT.ob Tryz.func79 W Tryz.ntmps79 W λa b=> ?_);refine tC [2,2] W<|TC.ret ⟨_,rfl,[_],rfl,rfl⟩
theorem uJ(l:List En)(x:Nm)(a:l.length<=1000000):PT Tryz.prog 49 [.sl (l.map En.cells),.str x] (·= [.int .i64 (qR (l.findIdx? λe=>decide (e.name=x)))]):=by
 refine MP (CT.ob Tryz.func49 W Tryz.ntmps49 W λb c=> ?_);refine tO [2,2,11] W<|aJ (lS l 79 [.aZ [.str x] 0] (λd=>decide (d.name=x)) a (λd _=>zo d x)) W W<|tL [] W<|TC.ret ⟨_,rfl,[_],rfl,rfl⟩
theorem HT(d:aY)(x:Nm):PT Tryz.prog 130 [.agg d.cells,.aZ [.str x] 0] (·= [.bool (decide (d.name=x))]):=by
 rw[aY.aA];refine MP (CT.ob Tryz.func130 W Tryz.ntmps130 W λa b=> ?_);refine tC [2,2] W<|TC.ret ⟨_,rfl,[_],rfl,rfl⟩
theorem Ff(l:List aY)(x:Nm)(a:l.length<=1000000):PT Tryz.prog 94 [.sl (l.map aY.cells),.str x] (·= [.int .i64 (qR (mo l x))]):=by
 refine MP (CT.ob Tryz.func94 W Tryz.ntmps94 W λb c=> ?_);refine tO [2,2,11] W<|aJ (r_ l 130 [.aZ [.str x] 0] (λd=>decide (d.name=x)) a (λd _=>HT d x)) W W<|tL [] W<|TC.ret ⟨_,rfl,[_],rfl,rfl⟩
theorem Gr(d:Va)(x:Nm):PT Tryz.prog 138 [.agg d.cells,.aZ [.str x] 0] (·= [.bool (decide (d.name=x))]):=by
 rw[Va.aA];refine MP (CT.ob Tryz.func138 W Tryz.ntmps138 W λa b=> ?_);refine tC [2,2] W<|TC.ret ⟨_,rfl,[_],rfl,rfl⟩
theorem HU(l:List Va)(x:Nm)(a:l.length<=1000000):PT Tryz.prog 119 [.sl (aC l),.str x] (·= [.int .i64 (qR (fS l x))]):=by
 refine MP (CT.ob Tryz.func119 W Tryz.ntmps119 W λb c=> ?_);refine tO [2,2,11] W<|aJ (sc l 138 [.aZ [.str x] 0] (λd=>decide (d.name=x)) a (λd _=>Gr d x)) W W<|tL [] W<|TC.ret ⟨_,rfl,[_],rfl,rfl⟩
theorem jZ{l:List Nm}{i:Nat}(h:i<l.length):(dq l)[((i:Nat):Int).toNat]?=some [.str l[i]]:=by grind
theorem zW(l:List Nm)(x:Nm)(k:l.length<=1000000):PT Tryz.prog 117 [.sl (dq l),.str x] (·= [.int .i64 (kB l x)]):=by
 refine MP (CT.ob Tryz.func117 W Tryz.ntmps117 W λm n=> ?_);refine tO [2,2,11] W<|bH W W W ?_;rw[aqE];refine tL [3] W<|TC.lp (λf g=> ∃a:Nat,g=⟨[nI 8 a,nI 7 (l.length:Nat),nD 0 (.sl (dq l)),nD 1 (.str x)],[],[]⟩/\a<=l.length/\f=l.length-a/\(∀(b:Nat) (c:b<l.length),b<a->decide (l[b]=x)=false)) l.length _
  ⟨0,rfl,by omega,rfl,by grind⟩ W ?_
 rintro f g ⟨a,rfl,o,rfl,h⟩;refine tC [2] W<|TC.cond W (λj=> ?_) (λj=> ?_)
 ·have e:a<l.length:=by grind
  refine tO [3,2,2,18] W<|aK W W W (aqe a) (jZ e) W<|tL [] W<|TC.cond W (λi=> ?_) (λi=> ?_)
  ·refine tC [2] W<|TC.ret ⟨_,rfl,[_],rfl,by rw[qc,qb e (aqI (aqv i).symm) (λb c d=>h b c d)]⟩
  ·refine tO [2,22] W<|ax W W W (by omega)<|tL [] W<|again (k':=l.length-(a+1)) (by omega) ⟨a+1,rfl,by omega,rfl,?_⟩ W W;intro b c d;rcases aq0.1 d with p|rfl
   ·grind
   ·grind
 ·refine TC.exit ?_;have e:a=l.length:=by grind
  refine tC [2] W<|TC.ret ⟨_,rfl,[_],rfl,by rw[qc,oh (λb c=>h b c (by omega))]⟩
theorem xW(l:List Nm)(x:Nm)(k:l.length<=1000000):PT Tryz.prog 96 [.sl (dq l),.str x] (·= [.int .i32 (kB l x)]):=by
 refine MP (CT.ob Tryz.func96 W Tryz.ntmps96 W λm n=> ?_);refine tO [2,2,12] W<|bH W W W ?_;rw[aqE];refine tL [3] W<|TC.lp (λg h=> ∃a:Nat,h=⟨[nI 9 a,nI 8 (l.length:Nat),nD 7 (.sl (dq l)),nD 1 (.str x)],[],[]⟩/\a<=l.length/\g=l.length-a/\(∀(b:Nat) (c:b<l.length),b<a->decide (l[b]=x)=false)) l.length _
  ⟨0,rfl,by omega,rfl,by grind⟩ W ?_
 rintro g h ⟨a,rfl,o,rfl,i⟩;refine tC [2] W<|TC.cond W (λj=> ?_) (λj=> ?_)
 ·have e:a<l.length:=by grind
  refine tO [3,2,16] W<|aK W W W (aqe a) (jZ e) W<|tL [2] W<|TC.cond W (λf=> ?_) (λf=> ?_)
  ·refine tO [2,22] W<|xu W W ?_;rw[Bl (by omega)];refine tL [] W<|TC.ret ⟨_,rfl,[_],rfl,by rw[qc,qb e f (λb c d=>i b c d)]⟩
  ·refine tO [2,23] W<|ax W W W (by omega)<|tL [] W<|again (k':=l.length-(a+1)) (by omega) ⟨a+1,rfl,by omega,rfl,?_⟩ W W;intro b c d;rcases aq0.1 d with p|rfl
   ·grind
   ·exact f
 ·refine TC.exit ?_;have e:a=l.length:=by grind
  refine tC [2] W<|TC.ret ⟨_,rfl,[_],rfl,by rw[qc,oh (λb c=>i b c (by omega))]⟩
theorem nV(l:List Nm)(x:Nm)(a:l.length<=1000000):PT Tryz.prog 97 [.sl (dq l),.str x] (·= [.bool (lJ l x)]):=by
 rw[HS];refine MP (CT.ob Tryz.func97 W Tryz.ntmps97 W λb c=> ?_);refine tO [2,2,11] W<|aJ (zW l x a) W W<|tL [] W<|TC.ret ⟨_,rfl,[_],rfl,rfl⟩
end Go.Proofs.Sz
namespace Go.Sm
open Go.Mt
theorem zX{a:Type}(l:List a)(p:a->Bool):(l.findIdx? p=none/\l.find? p=none)\/ ∃(i:Nat) (h:i<l.length),l.findIdx? p=some i/\l.find? p=some l[i]:=by
 cases h:l.findIdx? p with
 |none=>
  refine .inl ⟨rfl,?_⟩;rw[arB]at h;rw[List.find?_eq_none];intro c d;rw[h c d];simp
 |some i=>
  rw[aq2]at h;obtain⟨b,e,g⟩:=h;refine .inr ⟨i,b,rfl,?_⟩;rw[List.find?_eq_some_iff_getElem];exact⟨e,i,b,rfl,λf j=>by grind⟩
def kZ(tk c n:Int):Bool:=if tk=2 then true else if tk=1 then(n==0||n==1)else if tk=3 then(decide (n>=0)&&decide (n<c))else false
structure qd(en:List En):Prop where
 n:en.length<=1000000
 c: ∀e∈en,e.dD.length<=1000000
theorem Fg{n:Int}(h: -2147483648<=n/\n<=2147483647):IntKind.i64.wrap n=n:=IntWalk.i64_in _ ⟨by omega,by omega⟩
theorem uK{en:List En}(h:qd en)(tk:Int)(a:Nm):(eM en tk a).length<=1000000:=by
 unfold eM;split
 ·simp
 ·split
  ·split
   ·rename_i e b;exact h.c _ (asJ b)
   ·simp
  ·simp
end Go.Sm
namespace Go.Proofs.Sz
open Go.Mt Go.Sm Go.Proofs
theorem Cu{l:List En}{i:Nat}(h:i<l.length):(l.map En.cells)[((i:Nat):Int).toNat]?=some l[i].cells:=by simp[h]
theorem gZ(b:Bool):PT Tryz.prog 139 [.bool b] (·= [.int .i32 (kq b)]):=by
 refine MP (CT.ob Tryz.func139 W Tryz.ntmps139 W λa c=> ?_);refine tC [2,2] W ?_;cases b with
 |true=>
  refine tC [1,2] W<|TC.ret ⟨_,rfl,[_],rfl,rfl⟩
 |false=>
  refine tC [0,2] W<|TC.ret ⟨_,rfl,[_],rfl,rfl⟩
theorem KR(op a:Int):PT Tryz.prog 121 [.int .u8 op,.int .i32 a] (·= [.int .i32 (Bg op a)]):=by
 refine MP (CT.ob Tryz.func121 W Tryz.ntmps121 W λf g=> ?_);refine tC [2,2,3] W ?_;by_cases b:op=1
 ·have d:(op==1)=true:=by simp[b]
  refine tO [2,11] W<|aN d W W W W<|tR [1,2,14] W<|aJ (gZ _) W W<|tL [] W<|TC.ret ⟨_,rfl,[_],rfl,by simp[Bg,b]⟩
 have d:(op==1)=false:=by simp[b]
 refine tO [2,11] W<|aN d W W W W<|tL [0] W ?_;by_cases c:op=2
 ·have e:(op==2)=true:=by simp[c]
  refine tO [2,16] W<|aN e W W W W<|tR [1,2,18] W<|KG W W<|tL [] W<|TC.ret ⟨_,rfl,[_],rfl,by simp[Bg,c,i32]⟩
 have e:(op==2)=false:=by simp[c]
 refine tO [2,16] W<|aN e W W W W<|tL [0,2] W<|TC.ret ⟨_,rfl,[_],rfl,by simp[Bg,b,c]⟩
theorem zY(op a b:Int)(h:op=6\/op=7):PT Tryz.prog 140 [.int .u8 op,.int .i32 a,.int .i32 b] (·= [.int .i32 (iL op a b)]):=by
 refine MP (CT.ob Tryz.func140 W Tryz.ntmps140 W λk l=> ?_);refine tC [2,3] W ?_;by_cases c:b=0
 ·have d:(b==0)=true:=by simp[c]
  refine tO [2,13] W<|aN d W W W W<|tL [1,2] W<|TC.ret ⟨_,rfl,[_],rfl,by rcases h with rfl|rfl<;>simp[iL,c]⟩
 have d:(b==0)=false:=by simp[c]
 refine tO [2,13] W<|aN d W W W W<|tL [0] W ?_;by_cases e:a= -2147483648
 ·have i:(a== -2147483648)=true:=by simp[e]
  by_cases f:b= -1
  ·have j:(b== -1)=true:=by simp[f]
   refine tO [2,16] W<|aN i W W W W<|tR [19] W ?_
   first|refine aE W W ?_|(refine aB W ?_;(refine aN j W W W W ?_))
   refine tL [1] W ?_;rcases h with rfl|rfl
   ·have g:((6:Int)==6)=true:=rfl;refine tC [2,1,2] W<|TC.ret ⟨_,rfl,[_],rfl,by simp[iL,e,f]⟩
   ·have g:((7:Int)==6)=false:=rfl;refine tC [2,0,2] W<|TC.ret ⟨_,rfl,[_],rfl,by simp[iL,e,f]⟩
  ·have j:(b== -1)=false:=by simp[f]
   refine tO [2,16] W<|aN i W W W W<|tR [19] W ?_
   first|refine aE W W ?_|(refine aB W ?_;(refine aN j W W W W ?_))
   refine tL [0] W ?_;rcases h with rfl|rfl
   ·have g:((6:Int)==6)=true:=rfl;refine tO [2,1,2,29] W<|Hs W W W d<|tL [] W<|TC.ret ⟨_,rfl,[_],rfl,by simp[iL,c,f,i32]⟩
   ·have g:((7:Int)==6)=false:=rfl;refine tO [2,0,2,32] W<|oE W W W d<|tL [] W<|TC.ret ⟨_,rfl,[_],rfl,by simp[iL,c,f,i32]⟩
 ·have i:(a== -2147483648)=false:=by simp[e]
  refine tO [2,16] W<|aN i W W W W<|tL [0] W ?_;rcases h with rfl|rfl
  ·have g:((6:Int)==6)=true:=rfl;refine tO [2,1,2,29] W<|Hs W W W d<|tL [] W<|TC.ret ⟨_,rfl,[_],rfl,by simp[iL,c,e,i32]⟩
  ·have g:((7:Int)==6)=false:=rfl;refine tO [2,0,2,32] W<|oE W W W d<|tL [] W<|TC.ret ⟨_,rfl,[_],rfl,by simp[iL,c,e,i32]⟩
theorem Gs(op a b:Int)(o:op≠3/\op≠4/\op≠5/\op≠6/\op≠7/\op≠8/\op≠9/\op≠10/\op≠12):PT Tryz.prog 141 [.int .u8 op,.int .i32 a,.int .i32 b] (·= [.int .i32 (iL op a b)]):=by
 obtain⟨p,q,r,s,t,u,v,w,x⟩:=o;refine MP (CT.ob Tryz.func141 W Tryz.ntmps141 W λy z=> ?_);refine tC [2,2,3,3,3,3,3,3] W ?_;by_cases e:op=16
 ·have k:(op==16)=true:=by simp[e]
  refine tO [2,13] W<|aN k W W W W<|tL [1] W<|TC.exit ?_;by_cases d:a>b
  ·have c:=aqI d;refine tO [2,24] W<|aN c W W W W<|tL [1,2] W<|TC.ret ⟨_,rfl,[_],rfl,by rw[e,show iL 16 a b=kq (decide (b<=a))from rfl,aqI (by omega)];rfl⟩
  ·have c:=aqR d;refine tO [2,24] W<|aN c W W W W<|tR [0,2,28] W<|aJ (gZ _) W W<|tL [] W<|TC.ret ⟨_,rfl,[_],rfl,by rw[e,show iL 16 a b=kq (decide (b<=a))from rfl,show decide (b<=a)=(a==b)from by grind]⟩
 have k:(op==16)=false:=by simp[e]
 refine tO [2,13] W<|aN k W W W W<|tL [0] W ?_;by_cases g:op=11
 ·have l:(op==11)=true:=by simp[g]
  refine tO [2,15] W<|aN l W W W W<|tL [1] W<|TC.exit<|tO [2,28] W<|aJ (gZ _) W W<|tL [] W<|TC.ret ⟨_,rfl,[_],rfl,by rw[g];rfl⟩
 have l:(op==11)=false:=by simp[g]
 refine tO [2,15] W<|aN l W W W W<|tL [0] W ?_;by_cases f:op=14
 ·have m:(op==14)=true:=by simp[f]
  refine tO [2,17] W<|aN m W W W W<|tL [1] W<|TC.exit ?_;by_cases d:a=b
  ·have c:(a==b)=true:=by simp[d]
   refine tO [2,31] W<|aN c W W W W<|tL [1,2] W<|TC.ret ⟨_,rfl,[_],rfl,by rw[f,show iL 14 a b=kq (decide (a<=b))from rfl,aqI (by omega)];rfl⟩
  ·have c:(a==b)=false:=by simp[d]
   refine tO [2,31] W<|aN c W W W W<|tR [0,2,35] W<|aJ (gZ _) W W<|tL [] W<|TC.ret ⟨_,rfl,[_],rfl,by rw[f,show iL 14 a b=kq (decide (a<=b))from rfl,show decide (a<=b)=decide (a<b)from by grind]⟩
 have m:(op==14)=false:=by simp[f]
 refine tO [2,17] W<|aN m W W W W<|tL [0] W ?_;by_cases h:op=13
 ·have j:(op==13)=true:=by simp[h]
  refine tO [2,19] W<|aN j W W W W<|tL [1] W<|TC.exit<|tO [2,35] W<|aJ (gZ _) W W<|tL [] W<|TC.ret ⟨_,rfl,[_],rfl,by rw[h];rfl⟩
 have j:(op==13)=false:=by simp[h]
 refine tO [2,19] W<|aN j W W W W<|tL [0] W ?_;by_cases i:op=15
 ·have n:(op==15)=true:=by simp[i]
  refine tO [2,21] W<|aN n W W W W<|tL [1] W<|TC.exit<|tO [2,39] W<|aJ (gZ _) W W<|tL [] W<|TC.ret ⟨_,rfl,[_],rfl,by rw[i];rfl⟩
 have n:(op==15)=false:=by simp[i]
 refine tO [2,21] W<|aN n W W W W<|tL [0] W<|TC.exit<|tC [2] W<|TC.ret ⟨_,rfl,[_],rfl,by simp[iL,p,q,r,s,t,u,v,w,x,e,g,f,h,i]⟩
theorem Jt(op a b:Int):PT Tryz.prog 122 [.int .u8 op,.int .i32 a,.int .i32 b] (·= [.int .i32 (iL op a b)]):=by
 refine MP (CT.ob Tryz.func122 W Tryz.ntmps122 W λw x=> ?_);refine tC [2,2,3] W ?_;by_cases g:op=3
 ·have n:(op==3)=true:=by simp[g]
  refine tO [2,13] W<|aN n W W W W<|tR [1,2,16] W<|fZ W W W W<|tL [] W<|TC.ret ⟨_,rfl,[_],rfl,by rw[g];rfl⟩
 have n:(op==3)=false:=by simp[g]
 refine tO [2,13] W<|aN n W W W W<|tL [0] W ?_;by_cases h:op=4
 ·have o:(op==4)=true:=by simp[h]
  refine tO [2,18] W<|aN o W W W W<|tR [1,2,21] W<|fZ W W W W<|tL [] W<|TC.ret ⟨_,rfl,[_],rfl,by rw[h];rfl⟩
 have o:(op==4)=false:=by simp[h]
 refine tO [2,18] W<|aN o W W W W<|tL [0] W ?_;by_cases i:op=5
 ·have p:(op==5)=true:=by simp[i]
  refine tO [2,23] W<|aN p W W W W<|tR [1,2,26] W<|fZ W W W W<|tL [] W<|TC.ret ⟨_,rfl,[_],rfl,by rw[i];rfl⟩
 have p:(op==5)=false:=by simp[i]
 refine tO [2,23] W<|aN p W W W W<|tL [0] W ?_;by_cases j:op=6
 ·have q:(op==6)=true:=by simp[j]
  refine tO [2,28] W<|aN q W W W W<|tR [1,1,2,33] W<|aJ (zY op a b (.inl j)) W W<|tL [] W<|TC.ret ⟨_,rfl,[_],rfl,rfl⟩
 have q:(op==6)=false:=by simp[j]
 refine tO [2,28] W<|aN q W W W W<|tL [0] W ?_;by_cases k:op=7
 ·have r:(op==7)=true:=by simp[k]
  refine tO [2,29] W<|aN r W W W W<|tR [1,2,33] W<|aJ (zY op a b (.inr k)) W W<|tL [] W<|TC.ret ⟨_,rfl,[_],rfl,rfl⟩
 have r:(op==7)=false:=by simp[k]
 refine tO [2,29] W<|aN r W W W W<|tL [0] W ?_;by_cases e:op=8
 ·have s:(op==8)=true:=by simp[e]
  refine tO [2,35] W<|aN s W W W W<|tL [1] W ?_;by_cases d:a=0
  ·have c:(a !=0)=false:=by simp[d]
   refine tO [2,37] W<|aN c W W W W<|tR [42] W<|aJ (gZ _) W W<|tL [] W<|TC.ret ⟨_,rfl,[_],rfl,by rw[e];simp[iL,c,d]⟩
  ·have c:(a !=0)=true:=by simp[d]
   refine tO [2,37] W<|aN c W W W W<|tR [42] W<|aJ (gZ _) W W<|tL [] W<|TC.ret ⟨_,rfl,[_],rfl,by rw[e];simp[iL,c,d]⟩
 have s:(op==8)=false:=by simp[e]
 refine tO [2,35] W<|aN s W W W W<|tL [0] W ?_;by_cases f:op=9
 ·have t:(op==9)=true:=by simp[f]
  refine tO [2,44] W<|aN t W W W W<|tL [1] W ?_;by_cases d:a=0
  ·have c:(a !=0)=false:=by simp[d]
   refine tO [2,46] W<|aN c W W W W<|tR [51] W<|aJ (gZ _) W W<|tL [] W<|TC.ret ⟨_,rfl,[_],rfl,by rw[f];simp[iL,c,d]⟩
  ·have c:(a !=0)=true:=by simp[d]
   refine tO [2,46] W<|aN c W W W W<|tR [51] W<|aJ (gZ _) W W<|tL [] W<|TC.ret ⟨_,rfl,[_],rfl,by rw[f];simp[iL,c,d]⟩
 have t:(op==9)=false:=by simp[f]
 refine tO [2,44] W<|aN t W W W W<|tL [0] W ?_;by_cases l:op=12
 ·have u:(op==12)=true:=by simp[l]
  refine tO [2,53] W<|aN u W W W W<|tR [1,1,2,58] W<|aJ (gZ _) W W<|tL [] W<|TC.ret ⟨_,rfl,[_],rfl,by rw[l];rfl⟩
 have u:(op==12)=false:=by simp[l]
 refine tO [2,53] W<|aN u W W W W<|tL [0] W ?_;by_cases m:op=10
 ·have v:(op==10)=true:=by simp[m]
  refine tO [2,54] W<|aN v W W W W<|tR [1,2,58] W<|aJ (gZ _) W W<|tL [] W<|TC.ret ⟨_,rfl,[_],rfl,by rw[m];rfl⟩
 have v:(op==10)=false:=by simp[m]
 refine tO [2,54] W<|aN v W W W W<|tR [0,2,62] W<|aJ (Gs op a b ⟨g,h,i,j,k,e,f,m,l⟩) W W<|tL [] W<|TC.ret ⟨_,rfl,[_],rfl,rfl⟩
theorem HV(tk c n:Int)(j:Nm)(k: -2147483648<=n/\n<=2147483647):PT Tryz.prog 31 [.agg [.int .u8 tk,.str j],.int .i64 c,.int .i32 n] (·= [.bool (kZ tk c n)]):=by
 refine MP (CT.ob Tryz.func31 W Tryz.ntmps31 W λl m=> ?_);refine tC [2,2,3] W ?_;by_cases f:tk=2
 ·have g:(tk==2)=true:=by simp[f]
  refine tO [2,14] W<|aN g W W W W<|tL [1,2] W<|TC.ret ⟨_,rfl,[_],rfl,by simp[kZ,f]⟩
 have g:(tk==2)=false:=by simp[f]
 refine tO [2,14] W<|aN g W W W W<|tL [0] W ?_;by_cases d:tk=1
 ·have h:(tk==1)=true:=by simp[d]
  refine tO [2,16] W<|aN h W W W W<|tL [1] W ?_;by_cases a:n=0
  ·have b:(n==0)=true:=by simp[a]
   refine tO [2,18] W<|aN b W W W W<|tL [] W<|TC.ret ⟨_,rfl,[_],rfl,by simp[kZ,d,a]⟩
  ·have b:(n==0)=false:=by simp[a]
   refine tO [2,18] W<|aN b W W W W<|tL [] W<|TC.ret ⟨_,rfl,[_],rfl,by simp[kZ,d,a]⟩
 have h:(tk==1)=false:=by simp[d]
 refine tO [2,16] W<|aN h W W W W<|tL [0] W ?_;by_cases e:tk=3
 ·have i:(tk==3)=true:=by simp[e]
  refine tO [2,24] W<|aN i W W W W<|tL [1] W ?_;by_cases a:n>=0
  ·have b:decide (n>=0)=true:=by simp[a]
   refine tO [2,26] W<|aN b W W W W<|tR [29] W ?_
   first|refine aE W W ?_|(refine aB W ?_;(refine xu W W ?_;rw[Fg k]))
   refine tL [] W<|TC.ret ⟨_,rfl,[_],rfl,by simp[kZ,e,a]⟩
  ·have b:=aqR a;refine tO [2,26] W<|aN b W W W W<|tL [] W<|TC.ret ⟨_,rfl,[_],rfl,by simp[kZ,e,a]⟩
 have i:(tk==3)=false:=by simp[e]
 refine tO [2,24] W<|aN i W W W W<|tL [0,2] W<|TC.ret ⟨_,rfl,[_],rfl,by simp[kZ,d,f,e]⟩
theorem vD{en:List En}(k:qd en)(tk:Int)(a:Nm):PT Tryz.prog 32 [.sl (en.map En.cells),.agg [.int .u8 tk,.str a]] (·= [.sl (dq (eM en tk a))]):=by
 refine MP (CT.ob Tryz.func32 W Tryz.ntmps32 W λo p=> ?_);refine tC [2,2,3] W ?_;by_cases b:tk=1
 ·have g:(tk==1)=true:=by simp[b]
  refine tO [2,13] W<|aN g W W W W<|tL [1,2] W<|TC.ret ⟨_,rfl,[_],rfl,by rw[eM,aqy b];rfl⟩
 have g:(tk==1)=false:=by simp[b]
 refine tO [2,13] W<|aN g W W W W<|tL [0] W ?_;by_cases c:tk=3
 ·have h:(tk==3)=true:=by simp[c]
  refine tO [2,16] W<|aN h W W W W<|tL [1] W ?_;rcases zX en (λe=>decide (e.name=a))with⟨i,j⟩|⟨f,m,i,j⟩
  ·have d:=uJ en a k.n;rw[i]at d;refine tO [2,20] W<|aJ d W W<|tL [2,0,2] W<|TC.ret ⟨_,rfl,[_],rfl,by rw[eM,aqo b,aqy c,j];rfl⟩
  ·have d:=uJ en a k.n;rw[i]at d;have l:=Cu m;have n:eM en tk a=en[f].dD:=by rw[eM,aqo b,aqy c,j]
   rw[n];unfold En.cells at l;refine tO [2,20] W<|aJ d W W<|tR [2,22] W<|aN (aqI (aqe f)) W W W W<|tR [1,2,25] W<|aK W W W (aqe f) l W<|tL [] W<|TC.ret ⟨_,rfl,[_],rfl,rfl⟩
 have h:(tk==3)=false:=by simp[c]
 refine tO [2,16] W<|aN h W W W W<|tL [0,2] W<|TC.ret ⟨_,rfl,[_],rfl,by rw[eM,aqo b,aqo c];rfl⟩
theorem zp(d:En)(x:Nm)(a:d.dD.length<=1000000):PT Tryz.prog 135 [.agg d.cells,.aZ [.str x] 0] (·= [.bool (lJ d.dD x)]):=by
 unfold En.cells;refine MP (CT.ob Tryz.func135 W Tryz.ntmps135 W λb c=> ?_);refine tO [2,2,11] W<|aJ (nV _ _ a) W W<|tL [] W<|TC.ret ⟨_,rfl,[_],rfl,rfl⟩
theorem Bn{en:List En}(a:qd en)(x:Nm):PT Tryz.prog 116 [.sl (en.map En.cells),.str x] (·= [.int .i64 (qR (en.findIdx? λe=>lJ e.dD x))]):=by
 refine MP (CT.ob Tryz.func116 W Tryz.ntmps116 W λc f=> ?_);refine tO [2,2,11] W<|aJ (lS en 135 [.aZ [.str x] 0] (λd=>lJ d.dD x) a.n (λd b=>zp d x (a.c d b))) W W<|tL [] W<|TC.ret ⟨_,rfl,[_],rfl,rfl⟩
def isConst(en:List En)(e:Xp):Bool:=if e.kd=1\/e.kd=2 then true else if e.kd=3 then(en.find? λt=>lJ t.dD e.nm).isSome else false
theorem vE{en:List En}(m:qd en)(e:Xp):PT Tryz.prog 86 [.sl (en.map En.cells),.agg e.cells] (·= [.int .i32 (oO en e),.bool (isConst en e)]):=by
 rw[e.aA];unfold oO isConst;generalize e.kd=a;generalize e.num=y;generalize e.nm=c;refine MP (CT.ob Tryz.func86 W Tryz.ntmps86 W λw x=> ?_);refine tC [2,2,3] W ?_;by_cases n:a=1
 ·have h:(a==1)=true:=by simp[n]
  refine tO [2,14] W<|aN h W W W W<|tL [1,1,2] W<|TC.ret ⟨_,rfl,[_,_],rfl,by grind⟩
 have h:(a==1)=false:=by simp[n]
 refine tO [2,14] W<|aN h W W W W<|tL [0] W ?_;by_cases o:a=2
 ·have i:(a==2)=true:=by simp[o]
  refine tO [2,15] W<|aN i W W W W<|tL [1,2] W<|TC.ret ⟨_,rfl,[_,_],rfl,by grind⟩
 have i:(a==2)=false:=by simp[o]
 have p: ¬(a=1\/a=2):=by omega
 rw[aqo p,aqo p];refine tO [2,15] W<|aN i W W W W<|tL [0] W ?_;by_cases d:a=3
 ·have j:(a==3)=true:=by simp[d]
  refine tO [2,19] W<|aN j W W W W<|tL [1] W ?_;rw[aqy d,aqy d];have f:=Bn m c;rcases zX en (λe=>lJ e.dD c)with⟨k,g⟩|⟨b,q,k,g⟩
  ·rw[k]at f;refine tO [2,23] W<|aJ f W W<|tL [2,0,2] W<|TC.ret ⟨_,rfl,[_,_],rfl,by rw[p9,g];rfl⟩
  ·rw[k]at f;have l:=Cu q;have u:p9 en c=kB en[b].dD c:=by rw[p9,g]
   have t:=m.c _ (aqz q);have r:=zW en[b].dD c t;have z:=HR en[b].dD c;have s:IntKind.i32.wrap (kB en[b].dD c)=kB en[b].dD c:=Bl (by omega);rw[u,g];unfold En.cells at l;generalize en[b]=v at l r s;refine tO [2,23] W<|aJ f W W<|tR [2,25] W<|aN (aqI (aqe b)) W W W W<|tL [1] W<|TC.draw bT<|fR 2 W<|bK W W W (aqe b) l W<|fR 4 W<|aS r W W<|rU W W ?_;rw[s];refine fR 2 W<|TF.nil ⟨by kernel_rfl,?_⟩;exact TC.ret ⟨_,rfl,[_,_],rfl,rfl⟩
 have j:(a==3)=false:=by simp[d]
 refine tO [2,19] W<|aN j W W W W<|tL [0] W ?_;rw[aqo d,aqo d];refine tC [2] W<|TC.ret ⟨_,rfl,[_,_],rfl,rfl⟩
theorem Cv(z:Int):PT Tryz.prog 136 [.int .i32 z] (·= [.agg (HM z).cells]):=by
 rw[Xp.aA];refine MP (CT.ob Tryz.func136 W Tryz.ntmps136 W λa b=> ?_);refine tC [2,2] W<|TC.ret ⟨_,rfl,[_],rfl,rfl⟩
abbrev xX(s:Nm):Xp:= .mk 3 0 0 s [] [] (0,0)
theorem Gu(s:Nm):PT Tryz.prog 144 [.str s] (·= [.agg (xX s).cells]):=by
 rw[Xp.aA];refine MP (CT.ob Tryz.func144 W Tryz.ntmps144 W λa b=> ?_);refine tC [2,2] W<|TC.ret ⟨_,rfl,[_],rfl,rfl⟩
end Go.Proofs.Sz
namespace Go.Sm
open Go.Mt
def rr(rs:List (List D))(m:M)(H:Hp):Prop:=(rs= []/\m= .d (.sl [])/\H= [])\/(rs≠ []/\ ∃aG,m= .bB 0 aG rs.length/\H= [.row true 1 aG (aX rs)])
theorem rr.acc{rs:List (List D)}{m:M}{H:Hp}(h:rr rs m H):Acc 1 0 rs m H:=by
 rcases h with⟨a,b,_⟩|⟨a,c,b,d⟩
 ·exact .inl ⟨a,b⟩
 ·exact .inr ⟨a,c,b,by rw[d];rfl⟩
theorem rr.app{rs:List (List D)}{m:M}{H:Hp}(h:rr rs m H)(r:List D):rr (rs++ [r]) (ie m H [r]) (fW 1 m H [r]):=by
 rcases h with⟨rfl,rfl,rfl⟩|⟨b,a,rfl,rfl⟩
 ·exact .inr ⟨by simp,0,by simp[ie,vo],by simp[fW,kW]⟩
 ·exact .inr ⟨by simp,a+1,by simp[ie],by simp[fW,aX]⟩
theorem tT(l:List Nm): ∀r∈dq l,r.length=1:=by grind
theorem vG(l:List Nm)(x:Nm):(kC l x).length<=l.length+1:=by unfold kC;split<;>simp
theorem ru(r l:List Nm):(r.foldl kC l).length<=l.length+r.length:=by
 induction r generalizing l with
 |nil=>simp
 |cons a r b=>simp only[ars,aqw];have:=b (kC l a);have:=vG l a;omega
mutual
def oS:ay->Nat
 | .mk _ lhs _ _ _ _ ah _=>lhs.length+lM ah
def lM:List aY->Nat
 | []=>0
 |a::r=>tU a+lM r
def tU:aY->Nat
 | .mk _ b _ _ _=>iC b
def iC:aW->Nat
 | .mk _ au=>ny au
def ny:List ay->Nat
 | []=>0
 |q::r=>oS q+ny r
end
mutual
theorem mq: ∀q:ay,(b_ q).length<=oS q
 | .mk _ b _ _ _ _ a _=>by rw[b_,oS];exact wm b a
theorem wm: ∀(l:List Nm) (r:List aY),(jA l r).length<=l.length+lM r
 |l,[]=>by rw[jA,lM];omega
 |l,a::r=>by rw[jA,lM];have b:=wm ((qO a).foldl kC l) r;have c:=ru (qO a) l;have d:=D0 a;omega
theorem D0: ∀a:aY,(qO a).length<=tU a
 | .mk _ b _ _ _=>by rw[qO,tU];exact xY b
theorem xY: ∀b:aW,(jL b).length<=iC b
 | .mk c a=>by rw[jL,iC];have:=wo c [] a;simpa using this
theorem wo: ∀(a:List Va) (l:List Nm) (r:List ay),(kO a l r).length<=l.length+ny r
 |a,l,[]=>by rw[kO,ny];omega
 |a,l,c::r=>by
  rw[kO,ny];have d:=wo a (((b_ c).filter λb=>(fS a b).isNone).foldl kC l) r;have e:=ru ((b_ c).filter λb=>(fS a b).isNone) l;have f:=arM (λb=>(fS a b).isNone) (b_ c);have g:=mq c;omega
end
end Go.Sm
namespace Go.Mt
end Go.Mt
namespace Go.Proofs.Sz
open Go.Mt Go.Sm Go.Proofs
theorem Fh(l:List Nm)(x:Nm)(d:l.length<=1000000){m:M}{H:Hp}(h:rr (dq l) m H): ∃r K,rr (dq (kC l x)) r K/\CT Tryz.prog 90 [m,.d (.str x)] H λr' f=>r'=r/\f=K:=by
 have c:=h.acc.view (tT l);have a:=nV l x d;cases b:lJ l x with
 |true=>
  rw[b]at a;refine⟨m,H,by rw[kC,aqy b];exact h,?_⟩;refine CT.ob Tryz.func90 W Tryz.ntmps90 W λg i=>tO [2,2,11] W<|TL.b9 5 W c<|aJ a W W<|tL [1,2] W<|TC.ret ⟨_,rfl,rfl,rfl⟩
 |false=>
  rw[b]at a;have e:dq (kC l x)=dq l++ [[.str x]]:=by rw[kC,aqo (by rw[b];simp)];simp[dq]
  refine⟨_,_,by rw[e];exact h.app [.str x],?_⟩;refine CT.ob Tryz.func90 W Tryz.ntmps90 W λg i=>tO [2,2,11] W<|TL.b9 5 W c<|aJ a W W<|tR [0,2,16] W<|mg (rows:=[[.str x]]) h.acc W W W W W (by grind) (by grind) (by grind)<|tL [] W<|TC.ret ⟨_,rfl,rfl,rfl⟩
theorem Gv(l:List Nm)(f:l.length<=1000000): ∃r K,rr (dq l) r K/\CT Tryz.prog 88 [.d (.sl (dq l))] [] λr' a=>r'=r/\a=K:=by
 cases l with
 |nil=>
  refine⟨.d (.sl []),[],.inl ⟨rfl,rfl,rfl⟩,?_⟩;refine CT.ob Tryz.func88 W Tryz.ntmps88 W λc d=>tO [2,2,8] W<|Jj W W (λb=> ?_)
  refine tL [] W ?_;cases b with
  |true=>
   refine tC [1,2] W<|TC.ret ⟨_,rfl,rfl,rfl⟩
  |false=>
   refine tO [0,2,11] W<|pg W W W<|tL [] W<|TC.ret ⟨_,rfl,rfl,rfl⟩
 |cons e l=>
  refine⟨_,_,.inr ⟨by simp,0,rfl,rfl⟩,?_⟩;refine CT.ob Tryz.func88 W Tryz.ntmps88 W λc d=>tO [2,2,8] W<|HL W (by kernel_rfl) W<|tR [0,2,11] W<|iB true W W W W (by rfl) (by simp) (by grind) (by grind)<|tL [] W<|TC.ret ⟨_,rfl,by simp[uo],rfl⟩
theorem Gw(a:List Va)(x:Nm):decide (qR (fS a x)<0)=(fS a x).isNone:=by
 cases b:fS a x with
 |none=>simp[qR]
 |some c=>simp only[qR,Option.isNone_some];exact aqR (by omega)
theorem Cw(q:ay)(F:q.ah.length<=1000)(z:oS q<=1000000)(A: ∀r∈q.ah,PT Tryz.prog 89 [.agg r.cp.cells] (·= [.sl (dq (jL r.cp))])):PT Tryz.prog 59 [.agg q.cells] (·= [.sl (dq (b_ q))]):=by
 obtain⟨G,v,E,S,P,g,a,H⟩:=q;simp only[ay.ah]at F A;rw[oS]at z;rw[b_,ay.aA];simp only[ay.kd,ay.lhs,ay.f,ay.args,ay.has,ay.ex,ay.ah,ay.ps];rw[g.aA];obtain⟨I,J,K,L⟩:=Gv v (by omega);obtain⟨B,ac⟩: ∃B,B=qN G v E (S.map Xp.cells) P (bO g.kd g.op g.num g.nm g.names (g.kids.map Xp.cells) g.ps) (a.map aY.cells) H:=⟨_,rfl⟩;refine MP (CT.ob Tryz.func59 W Tryz.ntmps59 W λT U=> ?_);refine tO [2,2,14] W<|ap L W W<|tR [2,17] W<|bH W W W ?_;rw[aqE];refine tL [] W<|Ou [nN 14 0,nN 13 a.length,nD 12 (.sl (a.map aY.cells)),(3,.m I)] J W W<|tC [3] W<|TC.lp (λk l=> ∃(b:Nat) (n:List (Nat×List M)) (m:M) (f:Hp) (h:List Nm),l=⟨[nN 14 b,nN 13 a.length,nD 12 (.sl (a.map aY.cells)),(3,.m m)],n,f⟩/\b<=a.length/\k=a.length-b/\rr (dq h) m f/\jA h (a.drop b)=jA v a/\h.length+lM (a.drop b)<=1000000) a.length _
  ⟨0,_,_,_,v,rfl,by omega,rfl,K,rfl,z⟩ W ?_
 rintro k l ⟨b,n,m,f,h,rfl,V,rfl,o,e,s⟩;refine tC [2] W<|TC.cond W (λx=> ?_) (λx=> ?_)
 ·have p:b<a.length:=by grind
  have y:(a.map aY.cells)[((b:Nat):Int).toNat]?=some a[b].cells:=by simp[p]
  have t:=A _ (aqz p);rw[arb p]at e s;rw[jA]at e;rw[lM]at s;have N:qO a[b]=jL a[b].cp:=by cases a[b];rw[qO];rfl
  rw[N]at e;have Q:tU a[b]=iC a[b].cp:=by cases a[b];rw[tU];rfl
  rw[Q]at s;have C:=xY a[b].cp;generalize a[b]=r at y t e s C;rw[aW.aA]at t;rw[aY.aA]at y;generalize jL r.cp=c at e t C;refine tO [3,2,20] W<|aK W W W (aqe b) y W<|tR [2,24] W<|aJ t W W<|tR [25] W<|bH W W W ?_;rw[aqE];refine tL [] W<|Ou [nN 22 0,nN 21 c.length,nD 20 (.sl (dq c)),(3,.m m),nN 14 b,nN 13 a.length,nD 12 (.sl (a.map aY.cells))] f W W<|tC [3] W<|TC.lp (λk l=> ∃(d:Nat) (n:List (Nat×List M)) (m:M) (f:Hp) (i:List Nm),l=⟨[nN 22 d,nN 21 c.length,nD 20 (.sl (dq c)),(3,.m m),nN 14 b,nN 13 a.length,nD 12 (.sl (a.map aY.cells))],n,f⟩/\d<=c.length/\k=c.length-d/\rr (dq i) m f/\(c.drop d).foldl kC i=c.foldl kC h/\i.length<=h.length+d) c.length _
   ⟨0,_,_,_,h,rfl,by omega,rfl,o,rfl,by omega⟩ W ?_
  rintro k l ⟨d,n,m,f,i,rfl,X,rfl,o,j,Y⟩;refine tC [2] W<|TC.cond W (λx=> ?_) (λx=> ?_)
  ·have u:d<c.length:=by grind
   have D:=jZ u;rw[arb u,ars]at j;generalize c[d]=w at D j;obtain⟨Z,H2,R,O⟩:=Fh i w (by omega) o;have co:=vG i w;refine tO [3,2,28] W<|aK W W W (aqe d) D W<|tR [2,32] W<|ap O W W<|tR [2,33] W<|ax W W W (by omega)<|tL [] W<|again (k':=c.length-(d+1)) (by omega) ⟨d+1,_,_,_,kC i w,rfl,by omega,rfl,R,j,by omega⟩ W W
  ·refine TC.exit ?_;have u:d=c.length:=by grind
   subst u;rw[arO]at j;simp only[asG]at j;rw[<-j]at e;refine tO [2,34] W<|ax W W W (by omega)<|tL [] W<|again (k':=a.length-(b+1)) (by omega) ⟨b+1,_,_,_,_,rfl,by omega,rfl,o,e,by omega⟩ W W
 ·refine TC.exit ?_;have p:b=a.length:=by grind
  subst p;rw[arO,jA]at e;subst e;refine tC [2] W<|TC.b9 2 W (o.acc.view (tT _))<|TC.ret ⟨_,rfl,[_],rfl,rfl⟩
theorem HW(b:aW)(A:b.vars.length<=1000000)(G:b.au.length<=1000000)(H:iC b<=1000000)(B: ∀s∈b.au,PT Tryz.prog 59 [.agg s.cells] (·= [.sl (dq (b_ s))])):PT Tryz.prog 89 [.agg b.cells] (·= [.sl (dq (jL b))]):=by
 obtain⟨f,a⟩:=b;simp only[aW.vars,aW.au]at G B A;rw[iC]at H;rw[jL,aW.aA];simp only[aW.vars,aW.au];refine MP (CT.ob Tryz.func89 W Tryz.ntmps89 W λL N=> ?_);refine tO [2,2,2,14] W<|bH W W W ?_;rw[aqE];refine tL [] W<|Ou [nN 11 0,nN 10 a.length,nD 9 (.sl (a.map ay.cells)),nD 3 (.sl []),nD 1 (.aZ [.sl (aC f),.sl (a.map ay.cells)] 0)] [] W W<|tC [3] W<|TC.lp (λo p=> ∃(c:Nat) (q:List (Nat×List M)) (m:M) (i:Hp) (l:List Nm),p=⟨[nN 11 c,nN 10 a.length,nD 9 (.sl (a.map ay.cells)),(3,.m m),nD 1 (.aZ [.sl (aC f),.sl (a.map ay.cells)] 0)],q,i⟩/\c<=a.length/\o=a.length-c/\rr (dq l) m i/\kO f l (a.drop c)=kO f [] a/\l.length+ny (a.drop c)<=1000000) a.length _
  ⟨0,_,_,_,[],rfl,by omega,rfl,.inl ⟨rfl,rfl,rfl⟩,rfl,by grind⟩ W ?_
 rintro o p ⟨c,q,m,i,l,rfl,O,rfl,n,j,w⟩;refine tC [2] W<|TC.cond W (λx=> ?_) (λx=> ?_)
 ·have r:c<a.length:=by grind
  have y:(a.map ay.cells)[((c:Nat):Int).toNat]?=some a[c].cells:=by simp[r]
  have t:=B _ (aqz r);rw[arb r]at j w;rw[kO]at j;rw[ny]at w;have C:=mq a[c];have D:=a[c].len;generalize a[c]=s at y t j w C D;generalize b_ s=e at j t C;obtain⟨P,Q,R,S,T,U,V,X,Y,Z,b0,b1,b2,b3,b4,b5,I⟩:=qQ D;rw[I]at y t;refine tO [3,2,17] W<|aK W W W (aqe c) y W<|tR [2,20] W<|aJ t W W<|tR [21] W<|bH W W W ?_;rw[aqE];refine tL [] W<|Ou [nN 18 0,nN 17 e.length,nD 16 (.sl (dq e)),(3,.m m),nN 11 c,nN 10 a.length,nD 9 (.sl (a.map ay.cells)),nD 1 (.aZ [.sl (aC f),.sl (a.map ay.cells)] 0)] i W W<|tC [3] W<|TC.lp (λo p=> ∃(d:Nat) (q:List (Nat×List M)) (m:M) (i:Hp) (k:List Nm),p=⟨[nN 18 d,nN 17 e.length,nD 16 (.sl (dq e)),(3,.m m),nN 11 c,nN 10 a.length,nD 9 (.sl (a.map ay.cells)),nD 1 (.aZ [.sl (aC f),.sl (a.map ay.cells)] 0)],q,i⟩/\d<=e.length/\o=e.length-d/\rr (dq k) m i/\((e.drop d).filter λg=>(fS f g).isNone).foldl kC k=(e.filter λg=>(fS f g).isNone).foldl kC l/\k.length<=l.length+d) e.length _
   ⟨0,_,_,_,l,rfl,by omega,rfl,n,rfl,by omega⟩ W ?_
  rintro o p ⟨d,q,m,i,k,rfl,hj,rfl,n,h,Qu⟩;refine tC [2] W<|TC.cond W (λx=> ?_) (λx=> ?_)
  ·have u:d<e.length:=by grind
   have z:=jZ u;rw[arb u]at h;generalize e[d]=g at z h;have E:=HU f g A;have v:=Gw f g;cases F:(fS f g).isNone with
   |true=>
    rw[F]at v;rw[arY (by grind),ars]at h;obtain⟨m2,H2,K,J⟩:=Fh k g (by omega) n;have ac:=vG k g;refine tO [3,2,24] W<|aK W W W (aqe d) z W<|tR [2,29] W<|aJ E W W<|tR [30] W<|aN v W W W W<|tR [1,2,33] W<|ap J W W<|tR [2,34] W<|ax W W W (by omega)<|tL [] W<|again (k':=e.length-(d+1)) (by omega) ⟨d+1,_,_,_,kC k g,rfl,by omega,rfl,K,h,by omega⟩ W W
   |false=>
    rw[F]at v;rw[arZ (by grind)]at h;refine tO [3,2,24] W<|aK W W W (aqe d) z W<|tR [2,29] W<|aJ E W W<|tR [30] W<|aN v W W W W<|tR [0,2,34] W<|ax W W W (by omega)<|tL [] W<|again (k':=e.length-(d+1)) (by omega) ⟨d+1,_,_,_,k,rfl,by omega,rfl,n,h,by omega⟩ W W
  ·refine TC.exit ?_;have u:d=e.length:=by grind
   subst u;rw[arO]at h;simp only[List.filter_nil,asG]at h;rw[<-h]at j;refine tO [2,35] W<|ax W W W (by omega)<|tL [] W<|again (k':=a.length-(c+1)) (by omega) ⟨c+1,_,_,_,_,rfl,by omega,rfl,n,j,by omega⟩ W W
 ·refine TC.exit ?_;have r:c=a.length:=by grind
  subst r;rw[arO,kO]at j;subst j;refine tC [2] W<|TC.b9 2 W (n.acc.view (tT _))<|TC.ret ⟨_,rfl,[_],rfl,rfl⟩
theorem s9{q:ay}{a:aY}(h:a∈q.ah):iC a.cp<=oS q:=by
 obtain⟨f,k,d,m,l,g,c,i⟩:=q;simp only[ay.ah]at h;rw[oS]
 suffices iC a.cp<=lM c by omega
 induction c with
 |nil=>cases h
 |cons b e j=>
  rw[lM];rcases aqs.1 h with rfl|h
  ·have:tU a=iC a.cp:=by cases a;rw[tU];rfl
   omega
  ·grind
theorem uL{b:aW}{q:ay}(h:q∈b.au):oS q<=iC b:=by
 obtain⟨e,a⟩:=b;simp only[aW.au]at h;rw[iC]
 induction a with
 |nil=>cases h
 |cons b c d=>
  rw[ny];rcases aqs.1 h with rfl|h
  ·omega
  ·grind
theorem HX(b:aW)(f:tQ b):iC b<=1000000->PT Tryz.prog 89 [.agg b.cells] (·= [.sl (dq (jL b))]):=by
 induction f with
 | @mk m g h i n j o p q k=>
  intro l;refine HW _ h i l λa c=> ?_
  have r:=uL (b:= .mk m g) c;refine Cw a (j a c) (by omega) λe d=>k a c e d ?_
  have:=s9 d;omega
theorem uM(q:ay)(c:q.ah.length<=1000)(d: ∀a∈q.ah,tQ a.cp)(e:oS q<=1000000):PT Tryz.prog 59 [.agg q.cells] (·= [.sl (dq (b_ q))]):=
 Cw q c e λa b=>HX a.cp (d a b) (by have:=s9 b;omega)
end Go.Proofs.Sz
namespace Go.Sm
open Go.Mt
structure Mc where
 it:Nat
 iu:Nat
 im:Nat
 ip:Nat
 iY:Nat
 P:Pg
 d:Nd
 ad:Nat->Nat
 r1:M
 r2:M
 r3:M
 r4:M
abbrev D1(c:Mc):List M:=[.ref c.iu 0,c.r1,c.r2,c.r3,c.r4]
structure MM(c:Mc)(x:Kp)(H:Hp):Prop where
 inst:H[c.it]?=some (.box (D1 c))
 unit:H[c.iu]?=some (.box (oP c.P c.d c.im c.ip c.iY))
 mem:H[c.im]?=some (.row false 1 0 (bz (bW c.d) (io x.m)))
 cu:H[c.ip]?=some (.row false 1 0 (bz (bW c.d) (ju x.p)))
 aj:H[c.iY]?=some (.row false 1 0 (bz (bW c.d) (eG x.s c.ad)))
 d1:c.im≠c.ip
 d2:c.im≠c.iY
 d3:c.ip≠c.iY
 d4:c.it≠c.im/\c.it≠c.ip/\c.it≠c.iY
 d5:c.iu≠c.im/\c.iu≠c.ip/\c.iu≠c.iY
 small:bW c.d<=1000000000
structure MS(c:Mc)(H:Hp)(x:Kp)(K:Hp):Prop where
 mm:MM c x K
 len:H.length<=K.length
 gU: ∀j,j<H.length->j≠c.im->j≠c.ip->j≠c.iY->K[j]?=H[j]?
theorem MS.refl{c:Mc}{x:Kp}{H:Hp}(h:MM c x H):MS c H x H:=⟨h,aqd _,λ_ _ _ _ _=>rfl⟩
theorem MS.trans{c:Mc}{x y:Kp}{H K L:Hp}(h:MS c H x K)(k:MS c K y L):MS c H y L:=⟨k.mm,aq1 h.len k.len,λa e f b d=>(k.gU a (ard e h.len) f b d).trans (h.gU a e f b d)⟩
theorem lr{H:Hp}{i:Nat}{ob:Ob}(h:H[i]?=some ob):i<H.length:=by grind
theorem MM.mono{c:Mc}{x:Kp}{H K:Hp}(h:MM c x H)(a: ∀(b:Nat) (d:Ob),H[b]?=some d->K[b]?=some d):MM c x K:=
 ⟨a _ _ h.inst,a _ _ h.unit,a _ _ h.mem,a _ _ h.cu,a _ _ h.aj,h.d1,h.d2,h.d3,h.d4,h.d5,h.small⟩
theorem MS.grow{c:Mc}{x:Kp}{H K:Hp}(h:MM c x H)(f:H.length<=K.length)(b: ∀a:Nat,a<H.length->K[a]?=H[a]?):MS c H x K:=
 ⟨h.mono λa g d=>(b a (lr d)).trans d,f,λa e _ _ _=>b a e⟩
theorem ga{H:Hp}{i:Nat}{ob:Ob}(h:H[i]?=some ob)(x:Ob):(H.set i x)[i]?=some x:=by grind
theorem MM.Bo{c:Mc}{x:Kp}{H:Hp}(h:MM c x H)(f:Nat->Int):MS c H ⟨f,x.p,x.s⟩ (H.set c.im (.row false 1 0 (bz (bW c.d) (io f)))):=by
 have b: ∀a,a≠c.im->(H.set c.im (.row false 1 0 (bz (bW c.d) (io f))))[a]?=H[a]?:= λa d=>aqn (aq7 d)
 exact⟨⟨by rw[b _ h.d4.1];exact h.inst,by rw[b _ h.d5.1];exact h.unit,ga h.mem _,by rw[b _ (aq7 h.d1)];exact h.cu,by rw[b _ (aq7 h.d2)];exact h.aj,h.d1,h.d2,h.d3,h.d4,h.d5,h.small⟩,by simp,λa _ e _ _=>b a e⟩
theorem MM.Cx{c:Mc}{x:Kp}{H:Hp}(h:MM c x H)(f:Nat->Bool):MS c H ⟨x.m,f,x.s⟩ (H.set c.ip (.row false 1 0 (bz (bW c.d) (ju f)))):=by
 have b: ∀a,a≠c.ip->(H.set c.ip (.row false 1 0 (bz (bW c.d) (ju f))))[a]?=H[a]?:= λa d=>aqn (aq7 d)
 exact⟨⟨by rw[b _ h.d4.2.1];exact h.inst,by rw[b _ h.d5.2.1];exact h.unit,by rw[b _ h.d1];exact h.mem,ga h.cu _,by rw[b _ (aq7 h.d3)];exact h.aj,h.d1,h.d2,h.d3,h.d4,h.d5,h.small⟩,by simp,λa _ _ e _=>b a e⟩
theorem MM.Cy{c:Mc}{x:Kp}{H:Hp}(h:MM c x H)(f:Nat->Option US):MS c H ⟨x.m,x.p,f⟩ (H.set c.iY (.row false 1 0 (bz (bW c.d) (eG f c.ad)))):=by
 have b: ∀a,a≠c.iY->(H.set c.iY (.row false 1 0 (bz (bW c.d) (eG f c.ad))))[a]?=H[a]?:= λa d=>aqn (aq7 d)
 exact⟨⟨by rw[b _ h.d4.2.2];exact h.inst,by rw[b _ h.d5.2.2];exact h.unit,by rw[b _ h.d2];exact h.mem,by rw[b _ h.d3];exact h.cu,ga h.aj _,h.d1,h.d2,h.d3,h.d4,h.d5,h.small⟩,by simp,λa _ _ _ e=>b a e⟩
def bY{α:Type}(f:Nat->α)(k:Nat)(v:α)(j:Nat):α:=if j=k then v else f j
theorem k6{n:Nat}{f:Nat->Int}{k:Nat}(z:Int)(h:k<n):dI (bz n (io f)) (((k:Nat):Int).toNat*1) [.d (.int .i32 z)]=some (bz n (io (bY f k z))):=by
 rw[mH _ h];refine arI some (arI (bz n) (funext λa=> ?_));unfold rY io bY;split<;>rfl
theorem sd{n:Nat}{f:Nat->Bool}{k:Nat}(z:Bool)(h:k<n):dI (bz n (ju f)) (((k:Nat):Int).toNat*1) [.d (.bool z)]=some (bz n (ju (bY f k z))):=by
 rw[mH _ h];refine arI some (arI (bz n) (funext λa=> ?_));unfold rY ju bY;split<;>rfl
theorem sf{n:Nat}{f:Nat->Option US}{ad:Nat->Nat}{k:Nat}(h:k<n):dI (bz n (eG f ad)) (((k:Nat):Int).toNat*1) [.d .bQ]=some (bz n (eG (bY f k none) ad)):=by
 rw[mH _ h];refine arI some (arI (bz n) (funext λa=> ?_));unfold rY bY;by_cases e:a=k
 ·grind
 ·grind
theorem HY{x:Kp}{z:Int}{a fr f:Nat}(g:fr<=a)(h:a<f):x.fb [some z] a fr f=⟨bY x.m a z,x.p,x.s⟩:=by
 unfold Kp.fb
 congr 1
 ·funext b;unfold lj bY
  by_cases e:b=a
  ·subst e;rw[aqy ⟨aqd _,by simp,g,h⟩,aqy W];simp[cd]
  ·grind
 ·funext b;unfold px;rw[aqo];rintro⟨⟨i,d,_⟩,c⟩;simp at d;have:b-a=0:=by omega
  rw[this]at c;simp at c
 ·funext b;unfold py;rw[aqo];rintro⟨⟨i,d,_⟩,c⟩;simp at d;have:b-a=0:=by omega
  rw[this]at c;simp at c
theorem ol{x:Kp}{o:Option Int}{a fr d:Nat}(h: ¬(fr<=a/\a<d)):x.fb [o] a fr d=x:=by
 unfold Kp.fb;obtain⟨m,i,j⟩:=x
 congr 1
 ·funext c;unfold lj;rw[aqo];rintro⟨e,b,f,g⟩;simp at b;apply h;omega
 ·funext c;unfold px;rw[aqo];rintro⟨⟨e,b,f,g⟩,_⟩;simp at b;apply h;omega
 ·funext c;unfold py;rw[aqo];rintro⟨⟨e,b,f,g⟩,_⟩;simp at b;apply h;omega
theorem zZ{x:Kp}{a fr c:Nat}(d:fr<=a)(f:a<c):x.fb [none] a fr c=⟨bY x.m a 0,bY x.p a false,bY x.s a none⟩:=by
 unfold Kp.fb
 congr 1
 ·funext b;unfold lj bY
  by_cases e:b=a
  ·subst e;rw[aqy ⟨aqd _,by simp,d,f⟩,aqy W];simp[cd]
  ·grind
 ·funext b;unfold px bY
  by_cases e:b=a
  ·grind
  ·grind
 ·funext b;unfold py bY
  by_cases e:b=a
  ·grind
  ·grind
end Go.Sm
namespace Go.Proofs.Sz
open Go.Mt Go.Sm Go.Proofs
theorem qe(c:Mc)(j:qd c.P.aI)(x:Kp)(H:Hp)(h:MM c x H)(a fr b:Nat)(o:a<=2000000000)(p:b<=bW c.d)(e:Xp):DT Tryz.prog 57 [.ref c.it 0,dN a,.d (.agg e.cells),dN fr,dN b] H λr K=>MS c H (x.fb [some (oO c.P.aI e)] a fr b) K:=by
 have d:=vE j e;rw[e.aA]at d⊢;refine DT.ob Tryz.func57 W Tryz.ntmps57 W<|dC [2] W ?_;rcases aqh a fr with g|g
 ·have l:decide (((a:Nat):Int)>=((fr:Nat):Int))=false:=aqR (by omega);rw[ol (by omega)];refine dO [2,16] W<|Mu (aN l W W W W)<|dL [0] W<|⟨_,rfl,MS.refl h⟩
 rcases aqh a b with i|i
 rotate_left
 ·have m:decide (((a:Nat):Int)<((b:Nat):Int))=false:=aqR (by omega);rw[ol (by omega)];refine dO [2,16] W<|Mu (aN (aqI (by omega)) W W W W)<|dR [20] W ?_
  first|refine Mu (aE W W) ?_|(refine Mu (aB W) ?_;refine Mu (aN m W W W W) ?_)
  refine dL [0] W<|⟨_,rfl,MS.refl h⟩
 rw[HY g i];refine dO [2,16] W<|Mu (aN (aqI (by omega)) W W W W)<|dR [20] W ?_
 first|refine Mu (aE W W) ?_|(refine Mu (aB W) ?_;refine Mu (aN (aqI (by omega)) W W W W) ?_)
 refine dL [1] W ?_;apply Mz bT
 ·intro q s;refine fR 3 W<|av W W h.inst W<|fR 2 W<|av W W h.unit W<|fR 4 W<|av W W h.inst W<|fR 3 W<|av W W h.unit W<|fR 1 W<|jW ((CT.xx d).mono (by rintro _ _ ⟨⟨_,rfl,rfl⟩,rfl⟩;exact⟨rfl,rfl⟩)) W W<|fR 3 W<|cS W W W h.mem (by omega) (by omega)<|fj W W h.mem W W (k6 (n:=bW c.d) (f:=x.m) (k:=a) (oO c.P.aI e) (by omega))<|TF.nil ⟨by kernel_rfl,rfl⟩
 exact⟨_,rfl,h.Bo _⟩
end Go.Proofs.Sz
namespace Go.Mt
end Go.Mt
namespace Go.Sm
open Go.Mt
theorem xZ{en:List En}{a:List Xp}{i:Nat}(h:i<a.length):jz en (a.take (i+1))=jz en (a.take i)++gW en a[i]:=by
 rw[zS,zS,aqu h,aqO,arW];simp
theorem tV(en:List En)(a:List Xp):(jz en a).length=aP (a.map xP):=by rw[s8,s7]
end Go.Sm
namespace Go.Proofs.Sz
open Go.Mt Go.Sm Go.Proofs
theorem tr(c:Mc)(s:qd c.P.aI)(fr g:Nat)(t:g<=bW c.d)(e:Xp)(u:je e)(a:Nat)(p:a+xP e<=1000000000)(x:Kp)(H:Hp)(h:MM c x H):DT Tryz.prog 118 [.ref c.it 0,.d (.agg e.cells),dN a,dN fr,dN g] H λr K=>MS c H (x.fb (gW c.P.aI e) a fr g) K:=by
 have N:=DZ e;have E: ∀i∈e.kids,∀(a:Nat),a+xP i<=1000000000-> ∀x H,MM c x H->DT Tryz.prog 118 [.ref c.it 0,.d (.agg i.cells),dN a,dN fr,dN g] H λr K=>MS c H (x.fb (gW c.P.aI i) a fr g) K:= λi l a p x H h=>
  have:=Xp.Bf l
  tr c s fr g t i (u.rZ l) a p x H h
 have J: ∀i∈e.kids,PT Tryz.prog 85 [.agg i.cells] (·= [iN (xP i)]):= λi l=>jo i (u.rZ l) (by have:=jn (aqU (f:=xP) l);omega)
 have z:=Cs e.kd;have C:= λl=>u.fA l
 have O:=u.kids;rw[N]at p;rw[e.aA,Jq];have v:=zR c.P.aI e.kd e.kids;generalize e.kids=b at E J p O C v⊢;generalize dE e.kd=m at z p v⊢;generalize e.kd=q at z C v⊢;generalize e.op=P;generalize e.num=L;generalize e.nm=y;generalize e.names=ac;generalize e.ps=Q;refine DT.ob Tryz.func118 W Tryz.ntmps118 W<|dC [2,2] W<|Ny (λF=> ∃K,MS c H (x.fb (wk c.P.aI q b) a fr g) K/\F=⟨[nN 2 (a+m),nD 6 (.aZ (bO q P L y ac (b.map Xp.cells) Q) 0),nN 4 g,nN 3 fr,nR 0 c.it],[],K⟩) ?_ ?_
 ·refine dC [3] W ?_;rcases z with⟨rfl,rfl⟩|⟨rfl,rfl⟩|⟨rfl,rfl⟩|⟨R,S,T,rfl⟩
  ·obtain⟨w,U,rfl⟩:=C W;obtain⟨r,K,j,k⟩:=qe c s x H h a fr g (by omega) t w;have o:((w::U).map Xp.cells)[0]?=some w.cells:=rfl;rw[w.aA]at o k;refine dO [2,1,2,24] W<|Mu (aK W W W (by decide) o W)<|dR [28] W<|Mu (ap k W W)<|dR [2,30] W<|Mu (ax W W W (by omega))<|dL [] W<|⟨_,⟨K,j,rfl⟩,cF W W⟩
  ·obtain⟨r,K,j,k⟩:=qe c s x H h a fr g (by omega) t (HM 0);rw[Xp.aA]at k;refine dO [2,0,2,1,2,35] W<|Mu (aJ (by have:=Cv 0;rw[Xp.aA]at this;exact this) W W)<|dR [38] W<|Mu (ap k W W)<|dR [2,40] W<|Mu (ax W W W (by omega))<|dL [] W<|⟨_,⟨K,j,rfl⟩,cF W W⟩
  ·obtain⟨r,K,j,k⟩:=qe c s x H h a fr g (by omega) t (HM 1);rw[Xp.aA]at k;refine dO [2,0,2,0,2,1,2,45] W<|Mu (aJ (by have:=Cv 1;rw[Xp.aA]at this;exact this) W W)<|dR [48] W<|Mu (ap k W W)<|dR [2,50] W<|Mu (ax W W W (by omega))<|dL [] W<|⟨_,⟨K,j,rfl⟩,cF W W⟩
  ·have V:=aqV.2 R;refine dO [2,19] W<|Mu (aN V W W W W)<|dR [0,2,32] W<|Mu (aN (aqV.2 S) W W W W)<|dR [0,2,42] W<|Mu (aN (aqV.2 T) W W W W)<|dL [0] W ?_;have X:wk c.P.aI q b= []:=by grind
   rw[X,Kp.uH];exact⟨_,⟨H,MS.refl h,rfl⟩,cF W W⟩
 rintro F ⟨K,j,rfl⟩;refine dO [2,53] W<|Mu (bH W W W) ?_;rw[aqE];refine dL [] W<|MG [nN 50 0,nN 49 b.length,nD 48 (.sl (b.map Xp.cells)),nN 2 (a+m+aP ((b.take 0).map xP)),nN 4 g,nN 3 fr,nR 0 c.it] K W W<|dC [3] W<|DC.lp (λi y=> ∃(d:Nat) (G:List (Nat×List M)) (K:Hp),y=⟨[nN 50 d,nN 49 b.length,nD 48 (.sl (b.map Xp.cells)),nN 2 (a+m+aP ((b.take d).map xP)),nN 4 g,nN 3 fr,nR 0 c.it],G,K⟩/\MS c H (x.fb (wk c.P.aI q b++jz c.P.aI (b.take d)) a fr g) K/\d<=b.length/\i=b.length-d) b.length _
  ⟨0,_,K,rfl,by rw[show jz c.P.aI (b.take 0)= []from rfl,aqC];exact j,by omega,rfl⟩ W ?_
 rintro i s1 ⟨d,G,K,rfl,j,hi,rfl⟩;refine dC [2] W<|DC.cond W (λY=> ?_) (λY=> ?_)
 ·have n:d<b.length:=by grind
  have o:(b.map Xp.cells)[((d:Nat):Int).toNat]?=some b[d].cells:=by simp[n]
  obtain⟨Z,co⟩:=fD xP n;obtain⟨r2,K2,P9,A⟩:=E _ (aqz n) (a+m+aP ((b.take d).map xP)) (by omega) _ K j.mm;have B:=J _ (aqz n);have I:=j.trans P9;rw[show a+m+aP ((b.take d).map xP)=a+(wk c.P.aI q b++jz c.P.aI (b.take d)).length by rw[aqg,v,tV];omega,<-Kp.qa,aqD,<-(xZ (en:=c.P.aI) n)]at I;generalize b[d]=D at o A B Z;rw[D.aA]at o A B;have N8:((a+m+aP ((b.take d).map xP):Nat):Int)+((xP D:Nat):Int)=((a+m+aP ((b.take (d+1)).map xP):Nat):Int):=by omega
  refine dO [3,2,56] W<|Mu (aK W W W (aqe d) o W)<|dR [2,63] W<|Mu (ap A W W)<|dR [2,66] W<|Mu (aJ B W W)<|dR [67] W<|Mu (ax W W W (by omega)) ?_;rw[N8];refine dR [2,68] W<|Mu (ax W W W (by omega))<|dL [] W<|bE (k':=b.length-(d+1)) (by omega) ⟨d+1,_,K2,rfl,I,by omega,rfl⟩ W W
 ·refine DC.exit ?_;have n:d=b.length:=by grind
  subst n;rw[aqQ]at j;exact⟨_,rfl,j⟩
termination_by SizeOf.sizeOf e
end Go.Proofs.Sz
namespace Go.Mt
section
variable{P:Program}{n B:Nat}{post:Exit->St->Prop}{sl:List (Nat×V)}{bx:List (Nat×List M)}{H:Hp}
theorem DC.Cz{c:Code}(j:Nat){ec aG:Nat}{cs:List M}(a:H[j]?=some (.row false ec aG cs))(k:DC P n B c ⟨sl,bx,H.set j (.row true ec aG cs)⟩ post):DC P n B c ⟨sl,bx,H⟩ post:=
 Oj _ (λ_ _ _ d e b=>b.kV a) k
end
theorem Gx{H:Hp}{i aG k n:Nat}{rs:List (List D)}(b:H[i]?=some (.row true n aG (aX rs)))(c:k=rs.length)(d:rs≠ [])(e: ∀a∈rs,a.length=n):iI H (.bB i aG k)=some (.sl rs):=
 Acc.view (n:=n) (i:=i) (.inr ⟨d,aG,by rw[c],b⟩) e
end Go.Mt
namespace Go.Sm
open Go.Mt
theorem D2{en:List En}{a:List aY}{i:Nat}(h:i<a.length):lR en (a.take (i+1))=lR en (a.take i)++ku en a[i].cp:=by
 rw[zU,zU,aqu h,aqO,arW];simp
theorem D3(en:List En)(a:List aY):(lR en a).length=aP (a.map fo):=by rw[vy,zQ]
end Go.Sm
namespace Go.Proofs.Sz
open Go.Mt Go.Sm Go.Proofs
theorem CA(c:Mc)(Oe:qd c.P.aI)(fr j:Nat)(RK:j<=bW c.d)(q:ay)(OQ:q.ah.length<=1000)(Wa:q.args.length<=1000000)(Wc:je q.ex)(d8: ∀e∈q.args,je e)(hP: ∀a∈q.ah,PT Tryz.prog 40 [.agg a.cp.cells] (·= [iN (bP a.cp)]))
  (hA: ∀i∈q.ah,∀(a:Nat),a+bP i.cp<=1000000000-> ∀x H,MM c x H->DT Tryz.prog 58 [.ref c.it 0,.d (.agg i.cp.cells),dN a,dN fr,dN j] H λr K=>MS c H (x.fb (ku c.P.aI i.cp) a fr j) K)
  (a:Nat) (B:a+qP q<=1000000000) (x:Kp) (H:Hp) (h:MM c x H):DT Tryz.prog 87 [.ref c.it 0,.d (.agg q.cells),dN a,dN fr,dN j] H λr K=>MS c H (x.fb (tS c.P.aI q) a fr j) K:=by
 have M4:=jt q;have Y:=Ct q.kd;have V: ∀e∈q.ex::q.args,je e/\PT Tryz.prog 85 [.agg e.cells] (·= [iN (xP e)]):=by
  intro e G;rcases aqs.1 G with rfl|G
  ·exact⟨Wc,jo _ Wc (by omega)⟩
  ·exact⟨d8 e G,jo e (d8 e G) (by have:=jn (aqU (f:=xP) G);omega)⟩
 rw[q.aA,Jr];rw[M4]at B;generalize ij q.kd=o at Y B⊢;generalize q.kd=T at Y⊢;generalize q.args=m at Wa V B⊢;generalize q.ah=i at OQ hA hP B⊢;generalize q.ex=b at V B⊢;generalize q.lhs=E;generalize q.f=C;generalize q.has=F;generalize q.ps=D;have Z:(b::m).map Xp.cells=bO b.kd b.op b.num b.nm b.names (b.kids.map Xp.cells) b.ps::m.map Xp.cells:=by rw[aqN,b.aA]
 have f7:gW c.P.aI b++jz c.P.aI m=jz c.P.aI (b::m):=by rw[jz]
 rw[f7];have d9:aP ((b::m).map xP)=xP b+aP (m.map xP):=by simp[aP]
 have f8:(b::m).length<=1000001:=by simp;omega
 rw[b.aA];generalize WZ:b::m=g at V Z d9 f8⊢;refine DT.ob Tryz.func87 W Tryz.ntmps87 W<|dC [2] W<|DC.E_ (λs=> ∃K,MS c H (x.fb (List.replicate o none) a fr j) K/\s=⟨[nN 2 (a+o),nD 6 (.aZ (qN T E C (m.map Xp.cells) F (bO b.kd b.op b.num b.nm b.names (b.kids.map Xp.cells) b.ps) (i.map aY.cells) D) 0),nN 4 j,nN 3 fr,nR 0 c.it],[],K⟩) ?_ ?_
 ·rcases Y with⟨rfl,rfl⟩|⟨rfl,rfl⟩|⟨h1,h2,rfl⟩
  ·refine dC [2,1] W<|DC.E_ (λs=> ∃K,MS c H (x.fb (List.replicate 1 none) a fr j) K/\s=⟨[nN 2 a,nD 6 (.aZ (qN 2 E C (m.map Xp.cells) F (bO b.kd b.op b.num b.nm b.names (b.kids.map Xp.cells) b.ps) (i.map aY.cells) D) 0),nN 4 j,nN 3 fr,nR 0 c.it],[],K⟩) ?_ ?_
   ·rcases aqh a fr with I|I
    ·have e1:decide (((a:Nat):Int)>=((fr:Nat):Int))=false:=aqR (by omega);refine dO [2,28] W<|Mu (aN e1 W W W W)<|dL [0] W ?_;rw[show List.replicate 1 (none:Option Int)= [none]from rfl,ol (by omega)];exact⟨_,⟨H,MS.refl h,rfl⟩,cF W W⟩
    rcases aqh a j with J|J
    rotate_left
    ·have e2:decide (((a:Nat):Int)<((j:Nat):Int))=false:=aqR (by omega);refine dO [2,28] W<|Mu (aN (aqI (by omega)) W W W W)<|dR [32] W ?_
     first|refine Mu (aE W W) ?_|(refine Mu (aB W) ?_;refine Mu (aN e2 W W W W) ?_)
     refine dL [0] W ?_;rw[show List.replicate 1 (none:Option Int)= [none]from rfl,ol (by omega)];exact⟨_,⟨H,MS.refl h,rfl⟩,cF W W⟩
    refine dO [2,28] W<|Mu (aN (aqI (by omega)) W W W W)<|dR [32] W ?_
    first|refine Mu (aE W W) ?_|(refine Mu (aB W) ?_;refine Mu (aN (aqI (by omega)) W W W W) ?_)
    refine dL [1] W ?_;have L:=h.mem;have ac:=k6 (n:=bW c.d) (f:=x.m) (k:=a) 0 (by omega);have v:=h.Bo (bY x.m a 0);have N:=v.mm.cu;have Z7:=sd (n:=bW c.d) (f:=x.p) (k:=a) false (by omega);have w:=v.mm.Cx (bY x.p a false);have O:=w.mm.aj;have co:=sf (n:=bW c.d) (f:=x.s) (ad:=c.ad) (k:=a) (by omega);have d6:=w.mm.Cy (bY x.s a none);rw[show List.replicate 1 (none:Option Int)= [none]from rfl,zZ I J];apply Mz bT
    ·intro s0 Oo;refine fR 3 W<|av W W h.inst W<|fR 2 W<|av W W h.unit W<|fR 4 W<|av W W h.inst W<|fR 2 W<|av W W h.unit W<|fR 4 W<|av W W h.inst W<|fR 2 W<|av W W h.unit W<|fR 1 W<|cS W W W L (by omega) (by omega)<|fj W W L W W ac<|cS W W W N (by omega) (by omega)<|fj W W N W W Z7<|cS W W W O (by omega) (by omega)<|fj W W O W W co<|TF.nil ⟨by kernel_rfl,rfl⟩
    exact⟨_,⟨_,(v.trans w).trans d6,rfl⟩,cF W W⟩
   rintro s ⟨K,l,rfl⟩;refine dO [2,62] W<|Mu (ax W W W (by omega))<|dL [] W<|⟨_,⟨K,l,rfl⟩,cF W W⟩
  ·refine dC [2,1] W<|DC.E_ (λs=> ∃K,MS c H (x.fb (List.replicate 1 none) a fr j) K/\s=⟨[nN 2 a,nD 6 (.aZ (qN 4 E C (m.map Xp.cells) F (bO b.kd b.op b.num b.nm b.names (b.kids.map Xp.cells) b.ps) (i.map aY.cells) D) 0),nN 4 j,nN 3 fr,nR 0 c.it],[],K⟩) ?_ ?_
   ·rcases aqh a fr with I|I
    ·have e1:decide (((a:Nat):Int)>=((fr:Nat):Int))=false:=aqR (by omega);refine dO [2,28] W<|Mu (aN e1 W W W W)<|dL [0] W ?_;rw[show List.replicate 1 (none:Option Int)= [none]from rfl,ol (by omega)];exact⟨_,⟨H,MS.refl h,rfl⟩,cF W W⟩
    rcases aqh a j with J|J
    rotate_left
    ·have e2:decide (((a:Nat):Int)<((j:Nat):Int))=false:=aqR (by omega);refine dO [2,28] W<|Mu (aN (aqI (by omega)) W W W W)<|dR [32] W ?_
     first|refine Mu (aE W W) ?_|(refine Mu (aB W) ?_;refine Mu (aN e2 W W W W) ?_)
     refine dL [0] W ?_;rw[show List.replicate 1 (none:Option Int)= [none]from rfl,ol (by omega)];exact⟨_,⟨H,MS.refl h,rfl⟩,cF W W⟩
    refine dO [2,28] W<|Mu (aN (aqI (by omega)) W W W W)<|dR [32] W ?_
    first|refine Mu (aE W W) ?_|(refine Mu (aB W) ?_;refine Mu (aN (aqI (by omega)) W W W W) ?_)
    refine dL [1] W ?_;have L:=h.mem;have ac:=k6 (n:=bW c.d) (f:=x.m) (k:=a) 0 (by omega);have v:=h.Bo (bY x.m a 0);have N:=v.mm.cu;have Z7:=sd (n:=bW c.d) (f:=x.p) (k:=a) false (by omega);have w:=v.mm.Cx (bY x.p a false);have O:=w.mm.aj;have co:=sf (n:=bW c.d) (f:=x.s) (ad:=c.ad) (k:=a) (by omega);have d6:=w.mm.Cy (bY x.s a none);rw[show List.replicate 1 (none:Option Int)= [none]from rfl,zZ I J];apply Mz bT
    ·intro s0 Oo;refine fR 3 W<|av W W h.inst W<|fR 2 W<|av W W h.unit W<|fR 4 W<|av W W h.inst W<|fR 2 W<|av W W h.unit W<|fR 4 W<|av W W h.inst W<|fR 2 W<|av W W h.unit W<|fR 1 W<|cS W W W L (by omega) (by omega)<|fj W W L W W ac<|cS W W W N (by omega) (by omega)<|fj W W N W W Z7<|cS W W W O (by omega) (by omega)<|fj W W O W W co<|TF.nil ⟨by kernel_rfl,rfl⟩
    exact⟨_,⟨_,(v.trans w).trans d6,rfl⟩,cF W W⟩
   rintro s ⟨K,l,rfl⟩;refine dO [2,62] W<|Mu (ax W W W (by omega))<|dL [] W<|⟨_,⟨K,l,rfl⟩,cF W W⟩
  ·have b1:=aqV.2 h1;refine dO [2,20] W<|Mu (aN b1 W W W W)<|dR [24] W ?_
   first|refine Mu (aE W W) ?_|(refine Mu (aB W) ?_;refine Mu (aN (aqV.2 h2) W W W W) ?_)
   refine dL [0] W ?_;rw[show List.replicate 0 (none:Option Int)= []from rfl,Kp.uH];exact⟨_,⟨H,MS.refl h,rfl⟩,cF W W⟩
 rintro s ⟨K,l,rfl⟩;have N9: ∀r∈m.map Xp.cells,r.length=8:=by
  intro r P;obtain⟨e,_,rfl⟩:=aqM.1 P;exact e.len
 refine dO [2,65] W<|Mu (ig (n:=8) (cs:=aX [bO b.kd b.op b.num b.nm b.names (b.kids.map Xp.cells) b.ps]) W W W W W W)<|dR [68] W<|Mu (fC (acc:=false) (cs:=aX [bO b.kd b.op b.num b.nm b.names (b.kids.map Xp.cells) b.ps]) W W W (by rw[aqm (aqd _),asr];rfl) (by rfl) (by exact N9) (by rw[aqE];omega) (by rw[aqE];omega)) ?_;refine dR [69] W<|Mu (EU W W)<|dL [] W ?_;have OE:(K++ [Ob.row false 8 0 (aX [bO b.kd b.op b.num b.nm b.names (b.kids.map Xp.cells) b.ps])]).set K.length (Ob.row false 8 1 (aX [bO b.kd b.op b.num b.nm b.names (b.kids.map Xp.cells) b.ps]++aX (m.map Xp.cells)))=K++ [Ob.row false 8 1 (aX (g.map Xp.cells))]:=by
  rw[Z,arq _ _ (aqd _)];simp[aX]
 have WN:1+(m.map Xp.cells).length=g.length:=by rw[<-WZ];simp;omega
 refine MG [nN 66 0,nN 65 g.length,nM 64 (.bB K.length 1 g.length),nN 2 (a+o+aP ((g.take 0).map xP)),nD 6 (.aZ (qN T E C (m.map Xp.cells) F (bO b.kd b.op b.num b.nm b.names (b.kids.map Xp.cells) b.ps) (i.map aY.cells) D) 0),nN 4 j,nN 3 fr,nR 0 c.it] (K++ [Ob.row false 8 1 (aX (g.map Xp.cells))]) (kc W (kc (by rw[<-WN];rfl) (kc (by rw[<-WN];rfl) W))) OE<|DC.Cz K.length (ec:=8) (aG:=1) (cs:=aX (g.map Xp.cells)) (by simp) ?_;have f9:(K++ [Ob.row false 8 1 (aX (g.map Xp.cells))]).set K.length (Ob.row true 8 1 (aX (g.map Xp.cells)))=K++ [Ob.row true 8 1 (aX (g.map Xp.cells))]:=by
  rw[arq _ _ (aqd _)];simp
 rw[f9];refine DC.b9 64 (x:= .sl (g.map Xp.cells)) W (Gx (n:=8) (rs:=g.map Xp.cells) (by simp) (by simp) (by rw[<-WZ];simp) (by rw[Z];intro r P;rcases aqs.1 P with rfl|P;rfl;exact N9 r P)) ?_;have l:=l.trans (MS.grow l.mm (K:=K++ [Ob.row true 8 1 (aX (g.map Xp.cells))]) (by simp) (λi8 hj=>by rw[aqf hj]));generalize K++ [Ob.row true 8 1 (aX (g.map Xp.cells))]=K at l;refine dC [] W<|Ny (λs=> ∃K u,MS c H (x.fb (List.replicate o none++jz c.P.aI g) a fr j) K/\s=⟨[nN 2 (a+o+aP (g.map xP)),nD 6 (.aZ (qN T E C (m.map Xp.cells) F (bO b.kd b.op b.num b.nm b.names (b.kids.map Xp.cells) b.ps) (i.map aY.cells) D) 0),nN 4 j,nN 3 fr,nR 0 c.it],u,K⟩) ?_ ?_
 ·refine dC [3] W ?_;obtain⟨QC,gc⟩: ∃QC,QC=qN T E C (m.map Xp.cells) F (bO b.kd b.op b.num b.nm b.names (b.kids.map Xp.cells) b.ps) (i.map aY.cells) D:=⟨_,rfl⟩;rw[<-gc];refine DC.lp (λk X=> ∃(d:Nat) (u:List (Nat×List M)) (K:Hp),X=⟨[nN 66 d,nN 65 g.length,nD 64 (.sl (g.map Xp.cells)),nN 2 (a+o+aP ((g.take d).map xP)),nD 6 (.aZ QC 0),nN 4 j,nN 3 fr,nR 0 c.it],u,K⟩/\MS c H (x.fb (List.replicate o none++jz c.P.aI (g.take d)) a fr j) K/\d<=g.length/\k=g.length-d) g.length _
   ⟨0,_,K,rfl,by rw[show jz c.P.aI (g.take 0)= []from rfl,aqC];exact l,by omega,rfl⟩ W ?_
  rintro k s1 ⟨d,u,K,rfl,l,hi,rfl⟩;refine dC [2] W<|DC.cond W (λy=> ?_) (λy=> ?_)
  ·have p:d<g.length:=by have:=aqv y;omega
   have z:(g.map Xp.cells)[((d:Nat):Int).toNat]?=some g[d].cells:=by simp[p]
   obtain⟨U,ge⟩:=fD xP p;obtain⟨QQ,A⟩:=V _ (aqz p);have Q:=xZ (en:=c.P.aI) p;generalize g[d]=q at z QQ A U Q;obtain⟨r2,K2,P9,R⟩:=tr c Oe fr j RK q QQ (a+o+aP ((g.take d).map xP)) (by omega) _ K l.mm;have S:=l.trans P9;rw[show a+o+aP ((g.take d).map xP)=a+(List.replicate o (none:Option Int)++jz c.P.aI (g.take d)).length by rw[aqg,arL,tV];omega,<-Kp.qa,aqD,<-Q]at S;rw[q.aA]at z R A;have N8:((a+o+aP ((g.take d).map xP):Nat):Int)+((xP q:Nat):Int)=((a+o+aP ((g.take (d+1)).map xP):Nat):Int):=by omega
   refine dO [3,2,72] W<|Mu (aK W W W (aqe d) z W)<|dR [2,79] W<|Mu (ap R W W)<|dR [2,82] W<|Mu (aJ A W W)<|dR [83] W<|Mu (ax W W W (by omega)) ?_;rw[N8];refine dR [2,84] W<|Mu (ax W W W (by omega))<|dL [] W<|bE (k':=g.length-(d+1)) (by omega) ⟨d+1,_,K2,rfl,S,by omega,rfl⟩ W W
  ·refine DC.exit ?_;have p:d=g.length:=by have:=aqA y;omega
   subst p;rw[aqQ]at l⊢;exact⟨_,⟨K,u,l,rfl⟩,cF W W⟩
 rintro s ⟨K,u,l,rfl⟩;obtain⟨t,Vq⟩: ∃t,t=a+o+aP (g.map xP):=⟨_,rfl⟩;rw[<-Vq];rw[<-d9]at B;have i6:a+(List.replicate o (none:Option Int)++jz c.P.aI g).length=t:=by rw[aqg,arL,tV,Vq];omega
 generalize List.replicate o (none:Option Int)++jz c.P.aI g=d7 at l i6⊢;have i7:(i.map aY.cells).length=i.length:=by simp
 refine dO [2,87] W<|Mu (bH W W W) ?_;rw[i7];refine dL [] W<|MG [nN 84 0,nN 83 i.length,nD 82 (.sl (i.map aY.cells)),nN 2 (t+aP ((i.take 0).map fo)),nN 4 j,nN 3 fr,nR 0 c.it] K W W<|dC [3] W<|DC.lp (λk X=> ∃(d:Nat) (u:List (Nat×List M)) (K:Hp),X=⟨[nN 84 d,nN 83 i.length,nD 82 (.sl (i.map aY.cells)),nN 2 (t+aP ((i.take d).map fo)),nN 4 j,nN 3 fr,nR 0 c.it],u,K⟩/\MS c H (x.fb (d7++lR c.P.aI (i.take d)) a fr j) K/\d<=i.length/\k=i.length-d) i.length _
  ⟨0,_,K,rfl,by rw[show lR c.P.aI (i.take 0)= []from rfl,aqC];exact l,by omega,rfl⟩ W ?_
 rintro k s1 ⟨d,u,K,rfl,l,hi,rfl⟩;refine dC [2] W<|DC.cond W (λy=> ?_) (λy=> ?_)
 ·have p:d<i.length:=by have:=aqv y;omega
  have z:(i.map aY.cells)[((d:Nat):Int).toNat]?=some i[d].cells:=by simp[p]
  obtain⟨U,ge⟩:=fD fo p;have A:=hP _ (aqz p);have f4:=hA _ (aqz p);have Q:=D2 (en:=c.P.aI) p;generalize i[d]=q at z A U f4 Q;rw[mS]at U;obtain⟨r2,K2,P9,R⟩:=f4 (t+aP ((i.take d).map fo)) (by omega) _ K l.mm;have S:=l.trans P9;rw[show t+aP ((i.take d).map fo)=a+(d7++lR c.P.aI (i.take d)).length by rw[aqg,D3];omega,<-Kp.qa,aqD,<-Q]at S;rw[aW.aA]at A R;rw[aY.aA]at z;have N8:((t+aP ((i.take d).map fo):Nat):Int)+((bP q.cp:Nat):Int)=((t+aP ((i.take (d+1)).map fo):Nat):Int):=by omega
  refine dO [3,2,90] W<|Mu (aK W W W (aqe d) z W)<|dR [2,98] W<|Mu (ap R W W)<|dR [2,102] W<|Mu (aJ A W W)<|dR [103] W<|Mu (ax W W W (by omega)) ?_;rw[N8];refine dR [2,104] W<|Mu (ax W W W (by omega))<|dL [] W<|bE (k':=i.length-(d+1)) (by omega) ⟨d+1,_,K2,rfl,S,by omega,rfl⟩ W W
 ·refine DC.exit ?_;have p:d=i.length:=by have:=aqA y;omega
  subst p;rw[aqQ]at l;exact⟨_,rfl,l⟩
end Go.Proofs.Sz
